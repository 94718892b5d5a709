/- Texts of this claim, one behind the other. -/
import Derived.Test.YtakpnepblgfknaaGreatDoorK10
set_option maxRecDepth 100000
set_option maxHeartbeats 4000000
set_option linter.unusedVariables false
set_option linter.unusedSimpArgs false
set_option linter.defProp false
namespace Go.Proofs.YtakpnepblgfknaaGreatDoor
namespace Rn
open Go Y2 Go.RowKit
open YZ Zn X4 YS Valid Mem
def Ia (b:Bool) (vc:Value) (cs:List CV):As:=OO (if b=true then [Sl 79 4 WD vc cs,Qf cs] else [])
section
variable {g:ZB} {w:World} {l:List As} {m:Zg} {pr cp mp:Nat} {vw vc vt vg vp Sr vj:Value} {host f e:Int} {cs up:List CV} {Zw Zl s2:zm} {ps:List W1} {c u:CV} {x:ZW} {i b o:Nat} {ws:List Yl} {j:Yl}
variable {A0 A1 A2 A3 A4 A5:As} {c2:CV} {vv va:Value} {xs:zm}
theorem Dp (H:Sat g w (Qf cs::Sl 2 1 ZH va xs::A0::A1::A2::A3::A4::A5::Sl 79 4 WD vc cs::l)):Sat g w (A0::A1::A2::A3::A4::A5::Ia true vc cs::Sl 2 1 ZH va xs::l):=by
 have H:Sat g w (([Sl 79 4 WD vc cs,Qf cs]:List As)++(Sl 2 1 ZH va xs::A0::A1::A2::A3::A4::A5::l)):=H.Z7 [8] fun H=>H
 have H:Sat g w (Ia true vc cs::Sl 2 1 ZH va xs::A0::A1::A2::A3::A4::A5::l):=H.box
 exact H.Z7 [7,7,7,7,7,7] fun H=>H
theorem agX (H:Sat g w (A0::A1::A2::A3::A4::A5::Sl 79 4 WD vc (up++[c])::Qf up::Sl 2 1 ZH c.vl c.loc::Sl 2 1 ZH c.vs c.stk::Sl 2 1 ZH va xs::l)):Sat g w (A0::A1::A2::A3::A4::A5::Ia true vc (up++[c])::Sl 2 1 ZH va xs::l):=by
 have H:=H.Z7 [10,8,10,10] fun H=>H
 exact Dp (NK H)
theorem Ob (H:Sat g w (A0::A1::A2::A3::A4::A5::Sl 79 4 WD vc (up++[c])::Qf up::Sl 2 1 ZH c.vl c.loc::Sl 2 1 ZH c.vs c.stk::l)):Sat g w (A0::A1::A2::A3::A4::A5::Ia true vc (up++[c])::Sl 2 1 ZH (.slice none 0 0) []::l):=by
 have H:=H.U4 (en:=ZH) (s:=1) 2 (fun _=>rfl)
 have H:=H.Z7 [8,10,10] fun H=>H
 exact Dp (NK H)
theorem aoe (H:Sat g w (A0::A1::A2::A3::A4::A5::Sl 79 4 WD vc (up++[c]++[c2])::Qf up::Sl 2 1 ZH c.vl c.loc::Sl 2 1 ZH c.vs c.stk::Sl 2 1 ZH c2.vl c2.loc::Sl 2 1 ZH c2.vs c2.stk::l)):Sat g w (A0::A1::A2::A3::A4::A5::Ia true vc (up++[c]++[c2])::Sl 2 1 ZH (.slice none 0 0) []::l):=by
 have H:=H.U4 (en:=ZH) (s:=1) 2 (fun _=>rfl)
 have H:=H.Z7 [8,10,10] fun H=>H
 have H:=(NK H).Z7 [10,10] fun H=>H
 exact Dp (NK H)
theorem agY {B0 B1 B2 B3:As} (H:Sat g w (A0::A1::A2::A3::A4::A5::B0::B1::B2::B3::l)):Sat g w (A0::A1::A2::A3::A4::A5::l):=(((H.del 6).del 6).del 6).del 6
theorem NJ (H:Sat g w (A0::A1::A2::A3::A4::A5::l)):Sat g w (A0::A1::A2::A3::A4::A5::Ia false vc cs::Sl 2 1 ZH (.slice none 0 0) []::l):=by
 have H:=H.U4 (en:=ZH) (s:=1) 2 (fun _=>rfl)
 have H:Sat g w (Ia false vc cs::Sl 2 1 ZH (.slice none 0 0) []::A0::A1::A2::A3::A4::A5::l):=H.box (l1:=[])
 exact H.Z7 [7,7,7,7,7,7] fun H=>H
def aof (q:MS × Ev) (o:Vl) (I:WN) (cs':List CV) (host':Int):Prop:=q.1.ins=I/\match q.2 with
 | .on=>o=⟨0,[],0,0,0⟩/\cs'.map CV.d=q.1.calls/\host'=q.1.host
 | .XW e=>o=⟨2,[],e,0,0⟩/\host'=0
 | .host f v=>o=⟨4,v,0,f,0⟩/\cs'.map CV.d=q.1.calls/\host'=q.1.host
 | _=>False
theorem UQ {c':CV} {d:YU} (h:c'.d=d):(up++[c']).map CV.d=up.map CV.d++[d]:=by rw [llb,<-h];rfl
theorem agZ {l:List Yl} {n:Nat} (h:n<l.length):l[n]?=some (TE l n):=by
 unfold TE
 rw [lja,laa h];rfl
theorem VE (c:Ck) (k:Int):(Y8 c k).1.stack.length<=c.stack.length:=by
 unfold Y8 Yw
 repeat' split
 all_goals first|exact lna _|(simp only [List.length_take];omega)|(simp only;split <;> (simp only [List.length_take] at *;omega))|skip
 all_goals (simp only;repeat' split) <;> first|exact lna _|(simp only [List.length_take];omega)
theorem VM (c:Ck) (e:Int):(Yw c e).stack=c.stack:=by unfold Yw;split <;> rfl
theorem Sv (c:Ck) (k:Int):(Xl c k).stack.length<=c.stack.length+1:=by
 unfold Xl;split
 .simp
 .omega
theorem QM (c:Ck):∀l:zm,(Xo c l).stack.length<=c.stack.length
 | []=>lna _
 | k::r=>lEa (VE _ k) (QM c r)
theorem Ok (c:Ck) {l:zm} (h:l.length<=1):(WQ c l).stack.length<=c.stack.length+1:=by
 match l,h with
 | [],_=>exact lob _
 | [k],_=>exact Sv c k
theorem ag0 (c:Ck):(Uy c).stack.length<=c.stack.length:=by unfold Uy;simp only [List.length_take];omega
theorem Th (c:Ck) (n:Int):(YJ c n).1.stack=c.stack:=by unfold YJ;split <;> first|exact VM _ _|rfl
theorem aaO (c:Ck):(YL c).stack.length<=c.stack.length:=by
 unfold YL;split
 .rw [VM];exact VE _ _
 .exact VE _ _
theorem Pc (k:Int):∀(l:zm) (s:Ck × Bool),(Xr k l s).1.stack=s.1.stack
 | [],_=>rfl
 | n::r,s=>by rw [Xr,Pc k r];exact Th _ _
theorem afp (c:Ck):(Ve c).stack.length<=c.stack.length:=by
 have h:=aaO c
 unfold Ve;simp only;split <;> exact h
theorem ag2 (c:Ck):(S6 c).stack.length<=c.stack.length+1:=by
 have h:=aaO c
 have h2:(if (Ww c).op=4/\(Ww c).kind≠64 then Yw (YL c) 10 else YL c).stack.length<=c.stack.length:=by
  split
  .rw [VM];exact h
  .exact h
 have key:∀(c2:Ck) (k:Int),c2.stack.length<=c.stack.length->(if c2.bad=0 then Xl { c2 with Zm:=c2.Zm.take (c2.Zm.length-1) } k else c2).stack.length<=c.stack.length+1:=fun c2 k h2=>by
  split
  .exact lEa (Sv _ k) (lIb h2)
  .omega
 exact key _ _ h2
theorem afq {E:Yb} {L:zm} (hs:∀t∈E.types,t.out.length<=1) (c:Ck) (x:ZW):(Valid.YV E L c x).stack.length<=c.stack.length+1:=by
 have pp:∀(c:Ck) (k1 k2:Int),(Y8 (Y8 c k1).1 k2).1.stack.length<=c.stack.length:=fun c k1 k2=>lEa (VE _ _) (VE _ _)
 have dd:∀{c':Ck},c'.stack.length<=c.stack.length->(Uy c').stack.length<=c.stack.length+1:=fun h=>lEa (ag0 _) (lEa h (lob _))
 unfold Valid.YV
 split
 .omega
 split
 .unfold ZA
  repeat' split
  .exact dd (lna _)
  .exact lob _
  .exact lEa (VE _ _) (lob _)
  .exact lEa (afp _) (lob _)
  .exact ag2 _
  .refine dd ?_
   unfold Ud
   split
   .exact lEa (VE _ _) (by rw [Th];exact lna _)
   .rw [Th];exact lna _
  .unfold VO
   simp only
   split
   .exact lEa (Sv _ _) (lIb (lEa (pp _ _ _) (by rw [Th];exact lna _)))
   .rw [Th];exact lob _
  .exact dd (VE _ _)
  .refine dd ?_
   unfold XN
   simp only
   split
   .rw [Pc];simp only;rw [Th];exact lna _
   .refine lEa (pp _ _ _) ?_
    split
    .rw [Pc];simp only;rw [Th];exact lna _
    .rw [VM,Pc];simp only;rw [Th];exact lna _
  .exact lob _
 split
 .unfold Wj
  split
  .split
   .rw [VM];exact lob _
   .rename_i t ht
    refine lEa (Ok _ (hs t ?_)) (lIb (QM _ _))
    unfold Xp at ht
    obtain ⟨k,_,hk⟩:=lVa.1 ht
    exact lda hk
  .split
   .rw [VM];exact lob _
   .simp only
    refine lEa (Ok _ ?_) (lIb (lEa (QM _ _) (VE _ _)))
    exact Vc (P:=fun t:Xv=>t.out.length<=1) hs (lKa _)
 split
 .exact lEa (VE _ _) (lob _)
 split
 .unfold Xe
  simp only
  exact lEa (Sv _ _) (lIb (lEa (VE _ _) (pp _ _ _)))
 split
 .unfold X0
  split
  .split
   .rw [VM];exact lob _
   .simp only
    have h2:(if x.op≠32 then (Y8 c (L.getD x.a.toNat 0)).1 else c).stack.length<=c.stack.length:=by
     split
     .exact VE _ _
     .exact lna _
    split
    .exact lEa (Sv _ _) (lIb h2)
    .exact lEa h2 (lob _)
  .split
   .rw [VM];exact lob _
   .simp only
    split
    .exact Sv _ _
    .refine lEa (VE _ _) ?_
     split
     .exact lob _
     .rw [VM];exact lob _
 .unfold WO
  split
  .rw [VM];exact lob _
  split
  .rw [VM];exact lob _
  .refine lEa (Ok _ ?_) (lIb (QM _ _))
   unfold Xk
   repeat' split
   all_goals simp
theorem afr {E:Yb} {L Es Ls:zm} {bd:List ZW} {t:Xv} (S:Va E L bd t Es Ls) (hs:∀t∈E.types,t.out.length<=1):∀k,k<=bd.length->(Zy E L bd (ZY t) k).stack.length<=k
 | 0,_=>lna _
 | k+1,hk=>by
  have hx:bd[k]?=some bd[k]:=laa zO
  rw [QO hx (S.at_ (k:=k) zO).bad]
  exact lEa (afq hs _ _) (lIb (afr S hs k zO))
theorem ac5 {E:Yb} {L Es Ls vals:zm} {bd:List ZW} {k:Nat} {t:Xv} (S:Va E L bd t Es Ls) (hs:∀t∈E.types,t.out.length<=1) (h:RJ E L bd t k vals):vals.length<=201:=by
 have h1:=afr S hs k (lZa h.lt)
 have h2:=(Zc S.hc).1
 have h3:=h.lt
 obtain ⟨o,p,s,u,P,_,hv⟩:=h.ex
 rw [P.stk] at h1
 rcases hv with ⟨_,hv⟩|⟨_,_,_,hv⟩
 .rw [hv.len];omega
 .rw [hv.len]
  have:=ahE p.kind
  simp only [List.length_append] at *;omega
theorem afs {most:Int} {x:ZW} {I:WN} {loc stk:zm}:(WG most x I loc stk).ins.Zw=I.Zw:=by
 unfold WG
 by_cases h1:x.op=26
 .rw [if_pos h1]
 rw [if_neg h1]
 by_cases h1:x.op=27
 .rw [if_pos h1]
 rw [if_neg h1]
 by_cases h1:x.op=32
 .rw [if_pos h1]
 rw [if_neg h1]
 by_cases h1:x.op=33
 .rw [if_pos h1]
 rw [if_neg h1]
 by_cases h1:x.op=34
 .rw [if_pos h1]
 rw [if_neg h1]
 by_cases h1:x.op=35
 .rw [if_pos h1]
 rw [if_neg h1]
 by_cases h1:x.op=36
 .rw [if_pos h1]
 rw [if_neg h1]
 by_cases h1:x.op=65\/x.op=66
 .rw [if_pos h1]
 rw [if_neg h1]
 by_cases h1:x.op=63
 .rw [if_pos h1]
 rw [if_neg h1]
 by_cases h1:x.op=64
 .rw [if_pos h1];split <;> rfl
 rw [if_neg h1]
 by_cases h1:0<wid x.op
 .rw [if_pos h1];split <;> split <;> rfl
 rw [if_neg h1]
 split <;> rfl
theorem acs {I:WN} {up:List YU} {c:YU} {x:ZW} {md:YP} {f e:Int} {s2:zm} (hq:Zb md I.Zw x c.stk=(f,s2,e)):TD md I up c x =
  (if e≠0 then (⟨I,[],0⟩,.XW e) else if YW md<=f/\up.length+1=40 then (⟨I,[],0⟩,.XW 26)
  else if f<YW md then (⟨I,up++[{ c with stk:=s2.take (s2.length-(YN md f).Za.length) }],f+1⟩,.host f (s2.drop (s2.length-(YN md f).Za.length)))
  else (⟨I,up++[{ c with stk:=s2.take (s2.length-(YN md f).Za.length) }]++[⟨f-YW md,0,s2.drop (s2.length-(YN md f).Za.length)++List.replicate (Ze md (f-YW md)).loc.length 0,[]⟩],0⟩,.on)):=by
 unfold TD
 simp only [hq]
theorem alL (H:Sat g w (Pt pr [zI cp,vw,vc,zJ 0] 148::Pt cp (zL m [zI mp,vt,vg]) 158::Pt mp [vp,zJ m.most] 221::Sl 223 256 Xi vp ps::Sl 3 1 ZH vt Zw::Sl 2 1 ZH vg Zl::Sl 79 4 WD vc cs::Qf up::Sl 2 1 ZH c.vl c.loc::Sl 2 1 ZH c.vs c.stk::l)) (hcs:cs=up++[c]) (E:El vc 4 (cs.length-1) b o) (hm:Xu g m) (P:UN m.d) (hT:Fold.ID g) (hI:Vt m.d ⟨flat ps,Zw,Zl⟩) (hW:WW m.d (up.map CV.d) (YW m.d+c.fn)) (BJ:W8 m.d c.d) (hle:cs.length<=40) (hx:x=Yp m.d c.d) (h11:x.op≠11) (h5:x.op≠5) (hop:x.op<=255)
  (hj:Z6 g NR CF 3 vj (Ul m.d c.d)):zn 114 #[zI pr,.pointer (some ⟨b,o,none⟩),.agg #[.int .u8 x.op,zJ x.a,zJ x.b,Sr],vj] w (fun r w'=>∃L4 host' Ti ps' W5 cs' o vv,r=.agg #[zJ o.e,vv,zJ o.XW,zJ o.host,zJ 0]/\aof (RX m.d ⟨flat ps,Zw,Zl⟩ (up.map CV.d) c.d) o ⟨flat ps',Zw,W5⟩ cs' host'/\ps'.length<=8/\Sat g w' (Pt pr [zI cp,vw,L4,zJ host'] 148::Pt cp (zL m [zI mp,vt,vg]) 158::Pt mp [Ti,zJ m.most] 221::Sl 223 256 Xi Ti ps'::Sl 3 1 ZH vt Zw::Sl 2 1 ZH vg W5::Ia (decide (o.e≠2)) L4 cs'::Sl 2 1 ZH vv o.vals::l)):=by
 have Eh:cs.length-1=up.length:=by rw [hcs];simp
 rw [Eh] at E
 obtain ⟨k,hk,hlt,Ii⟩:=BJ.at_
 obtain ⟨Es,Ls,Q⟩:=(BJ.fr.f P).snd
 have hty:=BJ.ty
 rw [hk,lia0] at hty
 have hto:=GC hk Q Ii
 have hF:=BJ.fr
 have Ms:=(Zc Q.hc).1
 have aog:∀t∈(ZE m.d).types,t.out.length<=1:=fun t ht=>(P.sig t ht).2
 have hlen:c.stk.length<=10000:=by have:c.stk.length<=201:=ac5 Q aog hty;omega
 have ao6:c.at_=k:=hk
 have TU:0<=c.at_/\c.at_<=1000:=by omega
 rw [<-hx] at Ii hto
 have Ao:up.length<=39:=by have:=hcs ▸ hle;simp only [List.length_append,List.length_singleton] at this;omega
 have T3:∀v∈c.stk,XC v:=by
  obtain ⟨_,hv,_⟩:=hty.live Ii h11
  exact hv.i64
 have aoP:=((hF.f P).a64 x (lda Ii)).1
 have PB:=((Zc Q.hc).2.1 k x hlt Ii).1
 have fin:∀{q:MS × Ev},RX m.d ⟨flat ps,Zw,Zl⟩ (up.map CV.d) c.d=q->True:=fun _=>trivial
 have OE:ps.length<=8:=by have:=hI.hi;have:=hI.most;simp only at *;rw [TA] at *;omega
 have q0:RX m.d ⟨flat ps,Zw,Zl⟩ (up.map CV.d) c.d=(if x.op=0 then (⟨⟨flat ps,Zw,Zl⟩,[],0⟩,.XW 20)
  else if x.op=1\/x.op=2\/x.op=3 then (⟨⟨flat ps,Zw,Zl⟩,up.map CV.d++[XT c.d],0⟩,.on)
  else if x.op=4 then (⟨⟨flat ps,Zw,Zl⟩,up.map CV.d++[if top c.stk 0=0 then VN (TJ (XT c.d)) (TE (Ul m.d c.d) 0) else TJ (XT c.d)],0⟩,.on)
  else if x.op=12\/x.op=15 then (⟨⟨flat ps,Zw,Zl⟩,up.map CV.d++[VN (XT c.d) (TE (Ul m.d c.d) 0)],0⟩,.on)
  else if x.op=13 then (⟨⟨flat ps,Zw,Zl⟩,up.map CV.d++[if top c.stk 0=0 then TJ (XT c.d) else VN (TJ (XT c.d)) (TE (Ul m.d c.d) 0)],0⟩,.on)
  else if x.op=14 then (⟨⟨flat ps,Zw,Zl⟩,up.map CV.d++[VN (TJ (XT c.d)) (TE (Ul m.d c.d) (min (top c.stk 0 % 4294967296) ((Ul m.d c.d).length-1)).toNat)],0⟩,.on)
  else if x.op=16\/x.op=17 then TD m.d ⟨flat ps,Zw,Zl⟩ (up.map CV.d) (XT c.d) x
  else if (WG m.most x ⟨flat ps,Zw,Zl⟩ c.loc c.stk).e≠0 then (⟨(WG m.most x ⟨flat ps,Zw,Zl⟩ c.loc c.stk).ins,[],0⟩,.XW (WG m.most x ⟨flat ps,Zw,Zl⟩ c.loc c.stk).e) else (⟨(WG m.most x ⟨flat ps,Zw,Zl⟩ c.loc c.stk).ins,up.map CV.d++[{ XT c.d with loc:=(WG m.most x ⟨flat ps,Zw,Zl⟩ c.loc c.stk).loc,stk:=(WG m.most x ⟨flat ps,Zw,Zl⟩ c.loc c.stk).stk }],0⟩,.on)):=by
  unfold RX
  rw [<-hx];rfl
 rw [q0]
 clear q0 fin
 by_cases a0:x.op=0
 .rw [if_pos a0]
  refine Fc.imp (alJ H hcs E TU hlen a0) ?_
  rintro r w' ⟨rfl,H⟩
  exact ⟨vc,0,vp,ps,Zl,[],⟨2,[],20,0,0⟩,_,rfl,⟨rfl,rfl,rfl⟩,OE,NJ H⟩
 rw [if_neg a0]
 by_cases a1:x.op=1\/x.op=2\/x.op=3
 .rw [if_pos a1]
  refine Fc.imp (alK H hcs E TU hlen a1) ?_
  rintro r w' ⟨rfl,H⟩
  exact ⟨vc,0,vp,ps,Zl,_,⟨0,[],0,0,0⟩,_,rfl,⟨rfl,rfl,UQ rfl,rfl⟩,OE,Ob H⟩
 rw [if_neg a1]
 by_cases a4:x.op=4
 .rw [if_pos a4]
  obtain ⟨j,v0,v,g1,g2,g3,g4⟩:=GK Q Ii a4 hty
  rw [hto] at g1
  have g2:c.stk=v0++[v]:=g2
  have NX:1<=c.stk.length:=by rw [g2];simp
  have QJ:low c.stk 1=v0:=by rw [g2,TB]
  have hj0:(Ul m.d c.d)[0]?=some j:=by rw [g1];rfl
  have hw0:TE (Ul m.d c.d) 0=j:=by rw [g1];rfl
  by_cases hz:top c.stk 0=0
  .rw [if_pos hz,hw0]
   refine Fc.imp (ahK H hcs E TU hlen hj g3.h0 g3.k0 (by rw [g1];simp) NX (.inl ⟨a4,hz⟩) hj0 (by rw [QJ];exact g3.fit)) ?_
   rintro r w' ⟨vs',rfl,H⟩
   exact ⟨vc,0,vp,ps,Zl,_,⟨0,[],0,0,0⟩,_,rfl,⟨rfl,rfl,UQ rfl,rfl⟩,OE,Ob H⟩
  .rw [if_neg hz]
   refine Fc.imp (ahL H hcs E TU hlen NX (.inl ⟨a4,hz⟩)) ?_
   rintro r w' ⟨vs',rfl,H⟩
   exact ⟨vc,0,vp,ps,Zl,_,⟨0,[],0,0,0⟩,_,rfl,⟨rfl,rfl,UQ rfl,rfl⟩,OE,Ob H⟩
 rw [if_neg a4]
 by_cases a12:x.op=12\/x.op=15
 .rw [if_pos a12]
  have:∃j,Hx (ZE m.d) (XP m.d (Ze m.d c.d.fn)) Es Ls (Ze m.d c.d.fn).body (UO m.d (Ze m.d c.d.fn)) k x=[j]/\GN (ZE m.d) (XP m.d (Ze m.d c.d.fn)) (Ze m.d c.d.fn).body (UO m.d (Ze m.d c.d.fn)) j c.stk:=by
   rcases a12 with h|h
   .exact GL Q Ii h hty
   .exact IG Q Ii h hty
  obtain ⟨j,g1,g3⟩:=this
  rw [hto] at g1
  have hj0:(Ul m.d c.d)[0]?=some j:=by rw [g1];rfl
  have hw0:TE (Ul m.d c.d) 0=j:=by rw [g1];rfl
  rw [hw0]
  refine Fc.imp (ai9 H hcs E TU hlen hj g3.h0 g3.k0 (by rw [g1];simp) a12 hj0 g3.fit) ?_
  rintro r w' ⟨vs',rfl,H⟩
  exact ⟨vc,0,vp,ps,Zl,_,⟨0,[],0,0,0⟩,_,rfl,⟨rfl,rfl,UQ rfl,rfl⟩,OE,Ob H⟩
 rw [if_neg a12]
 by_cases Ki:x.op=13
 .rw [if_pos Ki]
  obtain ⟨j,v0,v,g1,g2,g3,g4⟩:=KE Q Ii Ki hty
  rw [hto] at g1
  have g2:c.stk=v0++[v]:=g2
  have NX:1<=c.stk.length:=by rw [g2];simp
  have QJ:low c.stk 1=v0:=by rw [g2,TB]
  have hj0:(Ul m.d c.d)[0]?=some j:=by rw [g1];rfl
  have hw0:TE (Ul m.d c.d) 0=j:=by rw [g1];rfl
  by_cases hz:top c.stk 0=0
  .rw [if_pos hz]
   refine Fc.imp (ahL H hcs E TU hlen NX (.inr ⟨Ki,hz⟩)) ?_
   rintro r w' ⟨vs',rfl,H⟩
   exact ⟨vc,0,vp,ps,Zl,_,⟨0,[],0,0,0⟩,_,rfl,⟨rfl,rfl,UQ rfl,rfl⟩,OE,Ob H⟩
  .rw [if_neg hz,hw0]
   refine Fc.imp (ahK H hcs E TU hlen hj g3.h0 g3.k0 (by rw [g1];simp) NX (.inr ⟨Ki,hz⟩) hj0 (by rw [QJ];exact g3.fit)) ?_
   rintro r w' ⟨vs',rfl,H⟩
   exact ⟨vc,0,vp,ps,Zl,_,⟨0,[],0,0,0⟩,_,rfl,⟨rfl,rfl,UQ rfl,rfl⟩,OE,Ob H⟩
 rw [if_neg Ki]
 by_cases JP:x.op=14
 .rw [if_pos JP]
  obtain ⟨v0,v,g2,g1,g3⟩:=IF Q Ii JP hty
  rw [hto] at g1 g3
  have g2:c.stk=v0++[v]:=g2
  have NX:1<=c.stk.length:=by rw [g2];simp
  have QJ:low c.stk 1=v0:=by rw [g2,TB]
  have aoQ:x.to.length<=16:=by
   refine Decidable.by_contra fun hn=>?_
   unfold WB at PB
   have hb:YA x.op≠0:=by rw [JP];decide
   rw [if_neg hb,if_pos zO] at PB;cases PB
  have hi:(min (top c.stk 0 % 4294967296) ((Ul m.d c.d).length-1)).toNat<(Ul m.d c.d).length:=by omega
  have hwm:=agZ hi
  have g3:=g3 _ (lda hwm)
  refine Fc.imp (aja H hcs E TU hlen hj g3.h0 g3.k0 zO NX (by rw [g2,Wi];exact T3 v (by rw [g2];simp)) JP zO hwm (by rw [QJ];exact g3.fit)) ?_
  rintro r w' ⟨vs',rfl,H⟩
  exact ⟨vc,0,vp,ps,Zl,_,⟨0,[],0,0,0⟩,_,rfl,⟨rfl,rfl,UQ rfl,rfl⟩,OE,Ob H⟩
 rw [if_neg JP]
 by_cases Gz:x.op=16\/x.op=17
 .rw [if_pos Gz]
  have ao7:(up.map CV.d).length=up.length:=lfa _
  obtain ⟨_,t1,t2⟩:=KC P hI (up:=up.map CV.d) zO hW BJ (by rw [<-hx];exact Gz)
  rw [<-hx] at t1 t2
  have aoh:m.d.types.length=m.types.length:=lfa ..
  have Rh:∀n∈Zw,-1<=n/\n<(m.Zz.length:Int)+m.funcs.length:=fun n hn=>by
   have:=hI.Zw n hn
   rw [show m.d.funcs.length=m.funcs.length from lfa ..] at this;exact this
  have Nc:Zw.length<=1000:=by have:=hI.tl;have:=P.Zw;simp only at *;omega
  have Jp:x.op=17->1<=c.stk.length/\0<=x.a/\x.a<m.types.length:=fun h=>by
   obtain ⟨⟨v0,v,hv⟩,b1,b2⟩:=t1 h
   have hv:c.stk=v0++[v]:=hv
   refine ⟨by rw [hv];simp,b1,by omega⟩
  obtain ⟨f,s2,e,hq⟩:∃f s2 e,Zb m.d Zw x c.stk=(f,s2,e):=⟨_,_,_,rfl⟩
  have PT:s2.length<=10000:=by
   have:s2=(Zb m.d Zw x c.stk).2.1:=by rw [hq]
   rw [this]
   unfold Zb
   repeat' split
   all_goals simp only [Pv];omega
  have t2:(Zb m.d Zw x c.stk).2.2=0->0<=(Zb m.d Zw x c.stk).1/\(Zb m.d Zw x c.stk).1<YW m.d+m.d.funcs.length/\(YN m.d (Zb m.d Zw x c.stk).1).Za.length<=(Zb m.d Zw x c.stk).2.1.length:=t2
  rw [acs (c:=XT c.d) (I:=⟨flat ps,Zw,Zl⟩) hq]
  rw [hq] at t2
  simp only at t2
  by_cases he:e≠0
  .rw [if_pos he]
   refine Fc.imp (ajb H hcs E TU hlen hm P Gz Rh Jp T3 Nc hle hq he) ?_
   rintro r w' ⟨rfl,H⟩
   exact ⟨vc,0,vp,ps,Zl,[],⟨2,[],e,0,0⟩,_,rfl,⟨rfl,rfl,rfl⟩,OE,NJ H⟩
  .rw [if_neg he]
   obtain rfl:e=0:=Decidable.of_not_not he
   obtain ⟨b1,b2,b3⟩:=t2 rfl
   have hfl:m.d.funcs.length=m.funcs.length:=lfa ..
   have hf:0<=f/\f<(m.Zz.length:Int)+m.funcs.length:=⟨b1,by unfold YW at b2;have:m.d.Zz.length=m.Zz.length:=rfl;omega⟩
   have hni:YW m.d=m.Zz.length:=rfl
   have Sf:cs.length=up.length+1:=by rw [hcs];simp
   by_cases c1:YW m.d<=f/\(up.map CV.d).length+1=40
   .rw [if_pos c1]
    refine Fc.imp (ajc H hcs E TU hlen hm P Gz Rh Jp T3 Nc hle hq hf b3 PT zO zO) ?_
    rintro r w' ⟨rfl,H⟩
    exact ⟨vc,0,vp,ps,Zl,[],⟨2,[],26,0,0⟩,_,rfl,⟨rfl,rfl,rfl⟩,OE,NJ H⟩
   rw [if_neg c1]
   by_cases c2:f<YW m.d
   .rw [if_pos c2]
    refine Fc.imp (ajd H hcs E TU hlen hm P Gz Rh Jp T3 Nc hle hq hf b3 PT zO) ?_
    rintro r w' ⟨vs',vv,rfl,H⟩
    exact ⟨vc,f+1,vp,ps,Zl,_,⟨4,s2.drop (s2.length-(YN m.d f).Za.length),0,f,0⟩,vv,rfl,⟨rfl,rfl,UQ rfl,rfl⟩,OE,agX H⟩
   rw [if_neg c2]
   obtain ⟨kk,F,k1,k2,k3⟩:=agW (m:=m) (n:=f) zO hf.2
   have hFo:=P.fn F.d (lWa.2 ⟨F,lda k2,rfl⟩)
   obtain ⟨t,_,ht1,I7⟩:=acZ P b1 b2
   have h4:(YN m.d f).Za.length<=4:=by rw [ht1];exact (P.sig t I7).1
   have hlf:F.loc.length=(Ze m.d (f-YW m.d)).loc.length:=by rw [k3];rfl
   refine Fc.imp (aje H hcs E TU hlen hm P Gz Rh Jp T3 Nc hle hq hf b3 PT kk F k1 k2 hFo.loc h4 zO) ?_
   rintro r w' ⟨L4,vs',PU,rfl,H⟩
   refine ⟨L4,0,vp,ps,Zl,_,⟨0,[],0,0,0⟩,_,rfl,⟨rfl,rfl,?_,rfl⟩,OE,aoe H⟩
   rw [llb,llb]
   have e1:(kk:Int)=f-YW m.d:=by omega
   show up.map CV.d++[_]++[_]=_
   congr 2
   show (⟨(kk:Int),0,_,[]⟩:YU)=_
   rw [e1,hlf]
 rw [if_neg Gz]
 have Du:18<=x.op:=by
  have h0:YA x.op≠0:=fun hz=>by
   unfold WB at PB
   rw [if_pos hz] at PB;cases PB
  refine Decidable.by_contra fun hn=>h0 ?_
  have hw:¬0<wid x.op:=fun h=>by have:=RW h;omega
  have hnm:¬(XV x.op).2.2=true:=fun h=>by have:=MP h;omega
  unfold YA
  rw [if_neg zO,if_neg zO,if_neg zO,if_neg zO,if_neg hw,if_neg zO,if_neg zO,if_neg zO,if_neg zO,if_neg hnm]
 obtain ⟨d1,d2⟩:=GH Q rfl Ii Du hty hF.loc hI (((hF.f P).a64 x (lda Ii)).2)
 have hmo:ps.length<=m.most/\m.most<=8:=by
  have h1:=hI.hi;have h2:=hI.most
  simp only at h1
  rw [TA] at h1
  exact ⟨h1,h2⟩
 refine Fc.imp (ajf H hcs E TU hlen d1 hT Du hop hmo) ?_
 rintro r w' ⟨e,vs',Ti,ps',W5,loc',Y0,rfl,hO,hps,H⟩
 have alM:(WG m.most x ⟨flat ps,Zw,Zl⟩ c.loc c.stk).ins=⟨flat ps',Zw,W5⟩:=by
  have h1:=hO.e2;have h2:=hO.e3
  have h3:(WG m.most x ⟨flat ps,Zw,Zl⟩ c.loc c.stk).ins.Zw=Zw:=afs
  cases hd:(WG m.most x ⟨flat ps,Zw,Zl⟩ c.loc c.stk).ins with
  | mk a b cc =>
   rw [hd] at h1 h2 h3
   simp only at h1 h2 h3
   rw [h1,h2,h3]
 by_cases he:e≠0
 .have Af:(WG m.most x ⟨flat ps,Zw,Zl⟩ c.loc c.stk).e≠0:=by rw [<-hO.e1];exact he
  rw [if_pos Af,if_pos he]
  refine ⟨vc,0,Ti,ps',W5,[],⟨2,[],e,0,0⟩,_,rfl,⟨alM,?_,rfl⟩,hps,NJ (agY H)⟩
  show (⟨2,[],e,0,0⟩:Vl)=_
  rw [hO.e1]
 .have Dn:e=0:=Decidable.of_not_not he
  have Af:¬(WG m.most x ⟨flat ps,Zw,Zl⟩ c.loc c.stk).e≠0:=by rw [<-hO.e1];exact he
  rw [if_neg Af,if_neg he]
  refine ⟨vc,0,Ti,ps',W5,_,⟨0,[],0,0,0⟩,_,rfl,⟨alM,rfl,?_,rfl⟩,hps,Ob H⟩
  rw [<-hO.e4,<-hO.e5 Dn]
  exact UQ rfl
end
end Rn
namespace Rn
open Go Y2 Go.RowKit
open YZ Zn X4 YS Valid Mem
structure LI where
 v:Value
 outs:List LZ
def Iz (x:LI):zk:=[x.v]
structure Pb (g:ZB) (x:LI):Prop where
 outs:Z6 g Fh (Ou g) 1 x.v x.outs
structure Gw (m:Zg) (ws:List LI):Prop where
 len:ws.length=m.funcs.length
 at_:∀(i:Nat) (f:Yt) (y:LI),m.funcs[i]?=some f->ws[i]?=some y->y.outs.length=f.body.length/\∀(j:Nat) (s:LZ),y.outs[j]?=some s->s.js=LQ m.d f.d j
section
variable {m:YP} {S S' S0:MS} {n n0:Nat} {up:List YU} {d d' u u':YU} {I:WN} {q:MS × Ev}
theorem step_end (h:(Yp m d).op=11) (h2:¬d.at_+1=(Ze m d.fn).body.length):WH m I up d=(⟨I,up++[XT d],0⟩,.free):=by grind [WH]
theorem TW (h:(Yp m d).op=5):WH m I up d=(⟨I,up++[VN d (TE (Ul m d) 0)],0⟩,.free):=by grind [WH]
theorem aeo {l:List YU} {k:Nat} (h:l.length<=k):(l.map fun c=>300-c.at_.toNat).sum<=300 * k:=by
 induction l generalizing k with
 | nil=>simp
 | cons a l ih =>
  simp only [List.length_cons] at h
  have:=ih (k:=k-1) zO
  simp only [List.map_cons,List.sum_cons];omega
end
section
variable {g:ZB} {w:World} {l:List As} {m:Zg} {pr cp mp:Nat} {vw vc vt vg vp Sr vj:Value} {host f e:Int} {cs up:List CV} {Zw Zl s2:zm} {ps:List W1} {c u:CV} {x:ZW} {i b o:Nat} {ws:List Yl} {j:Yl}
variable {S S0:MS} {n n0:Nat} {p1:Nat} {Ad:List LI}
end
end Rn
namespace Rn
open Go Y2 Go.RowKit
open YZ Zn X4 YS Valid
section
variable {m:YP} {S S' T:MS} {n:Nat} {o:Vl} {up:List YU} {c u:YU} {I:WN}
structure Left (m:YP) (n:Nat) (S':MS) (o:Vl):Prop where
 ty:Ty m S'
 left:0<=o.left/\o.left<=n
 e:o.e=1\/o.e=2\/o.e=3\/o.e=4
 done:o.e=1->S'.calls=[]/\S'.host=0/\o.XW=0/\o.host=0
 XW:o.e=2->S'.calls=[]/\S'.host=0/\20<=o.XW/\o.XW<=26/\o.vals=[]/\o.host=0/\o.left+1<=n
 fuel:o.e=3->S'.calls≠[]/\S'.host=0/\o.XW=0/\o.vals=[]/\o.host=0/\o.left=0
 host:o.e=4->S'.calls≠[]/\S'.host=o.host+1/\0<=o.host/\o.host<YW m/\o.XW=0/\o.left+1<=n
 vals:o.vals.length<=4
theorem Left.more {n':Nat} (h:Left m n S' o) (hn:n<=n'):Left m n' S' o :=
 ⟨h.ty,⟨h.left.1,by have:=h.left.2;omega⟩,h.e,h.done,fun e=>let ⟨a,b,c,d,e,f,g⟩:=h.XW e;⟨a,b,c,d,e,f,by omega⟩,h.fuel,fun e=>let ⟨a,b,c,d,e,f⟩:=h.host e;⟨a,b,c,d,e,by omega⟩,h.vals⟩
theorem O3.after (P:UN m) (r:O3 m S n S' o):Ty m S->S.host=0->S.calls≠[]->Left m n S' o:=by
 induction r with
 | free s _ ih=>intro T h0 _;have A:=UR P T h0 s;exact ih A.1 A.2.1 A.2.2
 | over s =>
  intro T h0 _
  obtain ⟨a,b,c,d,e⟩:=UR P T h0 s
  exact ⟨a,⟨by simp only;omega,by simp only;omega⟩,.inl rfl,fun _=>⟨c,b,rfl,rfl⟩,fun h=>by simp at h,fun h=>by simp at h,fun h=>by simp at h,by simp only;omega⟩
 | stop s hn =>
  intro T h0 hc
  exact ⟨T,⟨by simp only;omega,by simp only;omega⟩,.inr (.inr (.inl rfl)),fun h=>by simp at h,fun h=>by simp at h,fun _=>⟨hc,h0,rfl,rfl,rfl,rfl⟩,fun h=>by simp at h,by simp⟩
 | goes s _ ih=>intro T h0 _;have A:=UR P T h0 s;exact (ih A.1 A.2.1 A.2.2).more zO
 | XW s =>
  intro T h0 _
  obtain ⟨a,b,c,d,e⟩:=UR P T h0 s
  exact ⟨a,⟨by simp only;omega,by simp only;omega⟩,.inr (.inl rfl),fun h=>by simp at h,fun _=>⟨c,b,d,e,rfl,rfl,by simp only;omega⟩,fun h=>by simp at h,fun h=>by simp at h,by simp⟩
 | host s =>
  intro T h0 _
  obtain ⟨a,b,c,d,e,f,g⟩:=UR P T h0 s
  exact ⟨a,⟨by simp only;omega,by simp only;omega⟩,.inr (.inr (.inr rfl)),fun h=>by simp at h,fun h=>by simp at h,fun h=>by simp at h,fun _=>⟨b,c,d,e,rfl,by simp only;omega⟩,g⟩
theorem aft {k n:Int} (hn:XC n):Vk k (WZ.Sz k n):=by
 by_cases hk:k=127
 .have h:=XB .i32 n
  have e1:(IntKind.i32).min=-2147483648:=by decide
  have e2:(IntKind.i32).max=2147483647:=by decide
  rw [e1,e2] at h
  unfold WZ.Sz
  rw [if_pos hk,Si zO,hk]
  exact .low h
 .unfold WZ.Sz
  rw [if_neg hk]
  exact ⟨hn,fun h=>absurd h hk⟩
theorem ag3 (ks:zm) {n:Int} (hn:XC n):KV ks (Pu ks n):=by
 refine ⟨lfa _,fun i k v h1 h2=>?_⟩
 unfold Pu at h2
 rw [lya,h1] at h2
 obtain rfl:=Option.some.inj h2
 exact aft hn
theorem adz (P:UN m) (T:Ty m S) (h:0<S.host) {n:Int} (hn:XC n):Ty m (Uu m S n)/\(Uu m S n).host=0/\(Uu m S n).calls≠[]/\∃up c,S.calls=up++[c]/\JG m c (S.host-1)/\(Uu m S n).calls=up++[{ c with stk:=c.stk++Pu (YN m (S.host-1)).out n }]:=by
 rcases T.cs with ⟨h1,_⟩|⟨h1,_⟩|⟨_,h2,h3⟩
 .omega
 .omega
 .obtain ⟨up,c,hc⟩:∃up c,S.calls=up++[c]:=by
   rcases lqb S.calls with h|⟨up,c,h⟩
   .grind
   .grind
  have hle:=T.le
  rw [hc] at h3 hle
  obtain ⟨w1,w2⟩:=WW.snoc.1 h3
  have e:(Uu m S n).calls=up++[{ c with stk:=c.stk++Pu (YN m (S.host-1)).out n }]:=by grind [Uu,addTop]
  have hb:=ac1 P w2 (ag3 (YN m (S.host-1)).out hn)
  rw [lca,lpa] at hle
  refine ⟨⟨T.ins,?_,⟨Int.le_refl _,?_⟩,.inr (.inl ⟨rfl,up,_,e,w1,hb⟩)⟩,rfl,?_,up,c,hc,w2,e⟩
  .grind
  .show (0:Int)<=_;unfold YW;omega
  .rw [e];simp
noncomputable def fitAll (ks vs:zm):zm:=(ks.zip vs).map fun x=>WZ.Sz x.1 x.2
theorem adA {ks vs:zm} (hl:vs.length=ks.length) (hv:∀v∈vs,XC v):KV ks (fitAll ks vs):=by
 refine ⟨by unfold fitAll;rw [lfa,List.length_zip];omega,fun i k v h1 h2=>?_⟩
 unfold fitAll at h2
 rw [lya] at h2
 obtain ⟨x,h3,h4⟩:=Option.map_eq_some_iff.1 h2
 obtain ⟨h5,h6⟩:=List.getElem?_zip_eq_some.1 h3
 rw [h1] at h5
 obtain rfl:=h4
 obtain h7:=Option.some.inj h5
 rw [h7]
 exact aft (hv _ (lda h6))
noncomputable def ZY (m:YP) (S:MS) (f:Int) (args:zm):MS:=⟨S.ins,[⟨f-YW m,0,fitAll (UO m (Ze m (f-YW m))).Za args++List.replicate (Ze m (f-YW m)).loc.length 0,[]⟩],0⟩
theorem afu (P:UN m) (hI:Vt m S.ins) {f:Int} (h0:YW m<=f) (h1:f-YW m<m.funcs.length) {args:zm} (hl:args.length=(UO m (Ze m (f-YW m))).Za.length) (hv:∀v∈args,XC v):Ty m (ZY m S f args) :=
 ⟨hI,by unfold ZY;simp,⟨Int.le_refl _,by show (0:Int)<=_;unfold YW;omega⟩,.inr (.inl ⟨rfl,[],_,rfl,WW.nil,afh P zO h1 (adA hl hv)⟩)⟩
end
end Rn
namespace Rn
open Go Y2 Go.RowKit
open YZ Zn X4 YS Valid Mem
structure alN where
 cp:Nat
 mp:Nat
 vc:Value
 vt:Value
 vg:Value
 vp:Value
 cs:List CV
 ps:List W1
 Zw:zm
 Zl:zm
def Mac (m:Zg) (vw:Value) (pr:Nat) (S:MS):As:=fun h=>∃x:alN,(x.cs.map CV.d=S.calls/\S.ins=⟨flat x.ps,x.Zw,x.Zl⟩/\x.ps.length<=8)/\OO (Pt pr [.pointer (some ⟨x.cp,0,none⟩),vw,x.vc,.int .i64 S.host] 148::Pt x.cp (zL m [.pointer (some ⟨x.mp,0,none⟩),x.vt,x.vg]) 158::Pt x.mp [x.vp,.int .i64 m.most] 221::Sl 223 256 Xi x.vp x.ps::Sl 3 1 ZH x.vt x.Zw::Sl 2 1 ZH x.vg x.Zl::[Ia true x.vc x.cs]) h
section
variable {g:ZB} {w:World} {l:List As} {m:Zg} {pr cp mp:Nat} {vw vc vt vg vp Sr vj:Value} {host f e:Int} {cs up:List CV} {Zw Zl s2:zm} {ps:List W1} {c u:CV} {x:ZW} {i b o:Nat} {ws:List Yl} {j:Yl}
variable {S S':MS} {n:Nat} {Ad:List LI}
theorem alO (H:Sat g w (Pt pr [.pointer (some ⟨cp,0,none⟩),vw,vc,.int .i64 host] 148::Pt cp (zL m [.pointer (some ⟨mp,0,none⟩),vt,vg]) 158::Pt mp [vp,.int .i64 m.most] 221::Sl 223 256 Xi vp ps::Sl 3 1 ZH vt Zw::Sl 2 1 ZH vg Zl::Ia true vc cs::l)) (h1:cs.map CV.d=S.calls) (h2:S.ins=⟨flat ps,Zw,Zl⟩) (h3:ps.length<=8) (h4:host=S.host):Sat g w (Mac m vw pr S::l):=by
 subst h4
 exact Sat.ako (f:=fun x:alN=>Pt pr [.pointer (some ⟨x.cp,0,none⟩),vw,x.vc,.int .i64 S.host] 148::Pt x.cp (zL m [.pointer (some ⟨x.mp,0,none⟩),x.vt,x.vg]) 158::Pt x.mp [x.vp,.int .i64 m.most] 221::Sl 223 256 Xi x.vp x.ps::Sl 3 1 ZH x.vt x.Zw::Sl 2 1 ZH x.vg x.Zl::[Ia true x.vc x.cs]) ⟨cp,mp,vc,vt,vg,vp,cs,ps,Zw,Zl⟩ ⟨h1,h2,h3⟩ H
theorem alP {A0 A1 A2 A3 A4 A5:As} (H:Sat g w (A0::A1::A2::A3::A4::A5::Sl 79 4 WD vc cs::Qf cs::l)):Sat g w (A0::A1::A2::A3::A4::A5::Ia true vc cs::l):=by
 have H:Sat g w (([Sl 79 4 WD vc cs,Qf cs]:List As)++(A0::A1::A2::A3::A4::A5::l)):=H.Z7 [7,7] fun H=>H
 have H:Sat g w (Ia true vc cs::A0::A1::A2::A3::A4::A5::l):=H.box
 exact H.Z7 [6,6,6,6,6,6] fun H=>H
theorem ajg {A0 A1 A2 A3 A4 A5:As} (H:Sat g w (A0::A1::A2::A3::A4::A5::l)):Sat g w (A0::A1::A2::A3::A4::A5::Ia true (.slice none 0 0) []::l):=by
 have H:=H.U4 (en:=WD) (s:=4) 79 (fun _=>rfl)
 have H:Sat g w (Qf []::Sl 79 4 WD (.slice none 0 0) []::A0::A1::A2::A3::A4::A5::l):=Sat.box (l1:=[]) H
 exact alP (H.Z7 [0,1,7,7,7,7,7,7] fun H=>H)
end
end Rn
namespace Rn
open Go Y2 Go.RowKit
open YZ Zn X4 YS Valid Mem
section
variable {g:ZB} {w:World} {l:List As} {m:Zg} {pr cp mp:Nat} {vw vc vt vg vp Sr vj:Value} {host f e:Int} {cs up:List CV} {Zw Zl s2:zm} {ps:List W1} {c u:CV} {x:ZW} {i b o:Nat} {ws:List Yl} {j:Yl}
variable {S S':MS} {n:Nat} {Ad:List LI} {va:Value} {args:zm}
def Rf (m:YP) (S:MS) (f:Int) (args:zm) (e:Int) (S':MS):Prop :=
 (e=8/\(f<YW m\/YW m+m.funcs.length<=f)/\S'=S)\/(¬(f<YW m\/YW m+m.funcs.length<=f)/\((e=1/\args.length≠(UO m (Ze m (f-YW m))).Za.length/\S'=S)\/(e=0/\args.length=(UO m (Ze m (f-YW m))).Za.length/\S'=ZY m S f args)))
theorem Rf.Ss {m:YP} {S S1 S2:MS} {f:Int} {args:zm} {e1 e2:Int} (h1:Rf m S f args e1 S1) (h2:Rf m S f args e2 S2):e1=e2/\S1=S2:=by
 rcases h1 with ⟨a1,a2,a3⟩|⟨a0,⟨a1,a2,a3⟩|⟨a1,a2,a3⟩⟩ <;> rcases h2 with ⟨b1,b2,b3⟩|⟨b0,⟨b1,b2,b3⟩|⟨b1,b2,b3⟩⟩
 .grind
 .omega
 .omega
 .omega
 .grind
 .omega
 .omega
 .omega
 .grind
end
end Rn
namespace Rn
open Go Y2 Go.RowKit
open YZ Zn X4 YS Valid Mem
section
variable {g:ZB} {w:World} {l:List As} {m:Zg} {pr cp mp:Nat} {vw vc vt vg vp Sr vj:Value} {host f e:Int} {cs up:List CV} {Zw Zl s2:zm} {ps:List W1} {c u:CV} {x:ZW} {i b o:Nat} {ws:List Yl} {j:Yl}
variable {S S':MS} {n k:Nat} {Ad:List LI} {va:Value} {args:zm} {a:List CV}
end
end Rn
namespace Rn
open Go Y2 Go.RowKit
open YZ Zn X4 YS Valid
theorem Ru {α β:Type} {f:α->β} {ys:List α} {i:Nat} {y y2:α} (h:ys[i]?=some y) (hd:f y2=f y):(ys.set i y2).map f=ys.map f:=by
 rw [List.map_set,hd]
 refine lFa fun j=>?_
 rw [lMa]
 by_cases e:i=j
 .grind
 .grind
theorem Kz {α:Type} {ys:List α} {i:Nat} {y2:α} {ok:α->Prop} (h:∀y∈ys,ok y) (h2:ok y2):∀y∈ys.set i y2,ok y:=by grind
theorem Ky {α β:Type} {f:α->β} {xs ys:List α} {i:Nat} {y:α} (hd:ys.map f=xs.map f) (hy:ys[i]?=some y):∃x,xs[i]?=some x/\x∈xs/\f y=f x:=by
 have h9:=congrArg (fun z=>z[i]?) hd
 simp only [List.getElem?_map,hy,Option.map_some] at h9
 obtain ⟨x,h1,h2⟩:=Option.map_eq_some_iff.1 h9.symm
 exact ⟨x,h1,lda h1,h2.symm⟩
theorem abO {g g':ZB} {x:XK} (h:Wx g x) (E:Ext g g'):Wx g' x:=⟨h.Za.ext E,h.out.ext E⟩
theorem abP {g g':ZB} {x:Yt} (h:Uo g x) (E:Ext g g'):Uo g' x:=⟨h.ty,h.loc.ext E,Z6.Wt (ok:=okV) (fun _ _ _ h E=>h.ext E) h.body E⟩
section
variable {g:ZB} {w:World} {l:List As} {m:Zg}
theorem NI {α:Type} {e:TypeId} {s:Nat} {en:α->zk} {u:Value} {xs:List α} (H:Sat g w (Sl e s en u xs::l)):∃a c,u=.slice a xs.length c/\Sat g w (Sl e s en (.slice a xs.length c) xs::l):=by
 obtain ⟨a,c,rfl⟩:=H.form 0 rfl
 exact ⟨a,c,rfl,H⟩
theorem alQ (H:Sat g w l) (v:Value) (xs:List XK) (hx:Z6 g Oy (Wx g) 2 v xs) (hl:xs.length<=1000):zn 134 #[v] w (fun u w'=>Sat g w' (Sl 104 2 Oy u xs::l)):=by
 have JO:∀y∈xs,((Oy y).all (·.oneCell'))=true:=fun y h=>by have o:=Z6.all hx y h;simp only [Oy,List.all_cons,List.all_nil,Z6.one o.Za,Z6.one o.out];rfl
 refine Fc.of Tryz.func134 rfl k_e ?_
 rcases Z6.RR hx with ⟨Mg,Mf⟩|⟨b1,c1,V1⟩
 .subst Mg
  subst Mf
  refine Xh rfl<|cT rfl<|Z5.mk ?_
  replace H:=H.U4 (en:=Oy) (s:=2) (104) (fun _=>rfl)
  exact H
 subst V1
 exact Xh rfl<|cF rfl<|ZZ H rfl rfl rfl rfl<|fun p1 w1 H=>H.Wu (n:=0) (en:=Oy) (s:=2) 0 rfl [] rfl rfl (fun _=>rfl) rfl<|fun H=>U3 48 H 0 rfl (H.rd hx) zN rfl rfl rfl (by grind) (by grind)<|fun v1 w2 H=>Z5.mk<|H
theorem alR (H:Sat g w l) (v:Value) (xs:List (zl × Int)) (hx:Z6 g TM Rt 2 v xs) (hl:xs.length<=1000):zn 135 #[v] w (fun u w'=>Sat g w' (Sl 125 2 TM u xs::l)):=by
 refine Fc.of Tryz.func135 rfl k_e ?_
 rcases Z6.RR hx with ⟨Mg,Mf⟩|⟨b1,c1,V1⟩
 .subst Mg
  subst Mf
  refine Xh rfl<|cT rfl<|Z5.mk ?_
  replace H:=H.U4 (en:=TM) (s:=2) (125) (fun _=>rfl)
  exact H
 subst V1
 exact Xh rfl<|cF rfl<|ZZ H rfl rfl rfl rfl<|fun p1 w1 H=>H.Wu (n:=0) (en:=TM) (s:=2) 0 rfl [] rfl rfl (fun _=>rfl) rfl<|fun H=>U3 24 H 0 rfl (H.rd hx) (fun y _=>rfl) rfl rfl rfl (by grind) (by grind)<|fun v1 w2 H=>Z5.mk<|H
theorem alS (H:Sat g w l) (v:Value) (xs:List (zl × Int)) (hx:Z6 g TM Rt 2 v xs) (hl:xs.length<=1000):zn 137 #[v] w (fun u w'=>Sat g w' (Sl 129 2 TM u xs::l)):=by
 refine Fc.of Tryz.func137 rfl k_e ?_
 rcases Z6.RR hx with ⟨Mg,Mf⟩|⟨b1,c1,V1⟩
 .subst Mg
  subst Mf
  refine Xh rfl<|cT rfl<|Z5.mk ?_
  replace H:=H.U4 (en:=TM) (s:=2) (129) (fun _=>rfl)
  exact H
 subst V1
 exact Xh rfl<|cF rfl<|ZZ H rfl rfl rfl rfl<|fun p1 w1 H=>H.Wu (n:=0) (en:=TM) (s:=2) 0 rfl [] rfl rfl (fun _=>rfl) rfl<|fun H=>U3 24 H 0 rfl (H.rd hx) (fun y _=>rfl) rfl rfl rfl (by grind) (by grind)<|fun v1 w2 H=>Z5.mk<|H
theorem alT (H:Sat g w l) (v:Value) (xs:List (Int × Bool × Int)) (hx:Z6 g N8 K4 3 v xs) (hl:xs.length<=1000):zn 136 #[v] w (fun u w'=>Sat g w' (Sl 99 3 N8 u xs::l)):=by
 refine Fc.of Tryz.func136 rfl k_e ?_
 rcases Z6.RR hx with ⟨Mg,Mf⟩|⟨b1,c1,V1⟩
 .subst Mg
  subst Mf
  refine Xh rfl<|cT rfl<|Z5.mk ?_
  replace H:=H.U4 (en:=N8) (s:=3) (99) (fun _=>rfl)
  exact H
 subst V1
 exact Xh rfl<|cF rfl<|ZZ H rfl rfl rfl rfl<|fun p1 w1 H=>H.Wu (n:=0) (en:=N8) (s:=3) 0 rfl [] rfl rfl (fun _=>rfl) rfl<|fun H=>U3 16 H 0 rfl (H.rd hx) (fun y _=>rfl) rfl rfl rfl (by grind) (by grind)<|fun v1 w2 H=>Z5.mk<|H
theorem Dl (H:Sat g w l) (v:Value) (xs:zm) (hx:Z6 g Yx U8 1 v xs) (hl:xs.length<=1000):zn 119 #[v] w (fun u w'=>∃a c,u=.slice a xs.length c/\Sat g w' (Sl 97 1 Yx (.slice a xs.length c) xs::l)):=by
 refine Fc.of Tryz.func119 rfl k_e ?_
 rcases Z6.RR hx with ⟨Mg,Mf⟩|⟨b1,c1,V1⟩
 .subst Mg
  subst Mf
  refine Xh rfl<|cT rfl<|Z5.mk ?_
  refine ⟨none,0,?_⟩
  refine ⟨rfl,?_⟩
  replace H:=H.U4 (en:=Yx) (s:=1) (97) (fun _=>rfl)
  exact H
 subst V1
 exact Xh rfl<|cF rfl<|ZZ H rfl rfl rfl rfl<|fun p1 w1 H=>H.Wu (n:=0) (en:=Yx) (s:=1) 0 rfl [] rfl rfl (fun _=>rfl) rfl<|fun H=>U3 1 H 0 rfl (H.rd hx) (fun y _=>rfl) rfl rfl rfl (by grind) (by grind)<|fun v1 w2 H=>Z5.mk<|NI H
theorem aoi (H:Sat g w l) (v:Value) (xs:zm) (hx:Z6 g ZH WV 1 v xs) (hl:xs.length<=1000):zn 101 #[v] w (fun u w'=>∃a c,u=.slice a xs.length c/\Sat g w' (Sl 3 1 ZH (.slice a xs.length c) xs::l)):=by
 refine Fc.of Tryz.func101 rfl k_e ?_
 rcases Z6.RR hx with ⟨Mg,Mf⟩|⟨b1,c1,V1⟩
 .subst Mg
  subst Mf
  refine Xh rfl<|cT rfl<|Z5.mk ?_
  refine ⟨none,0,?_⟩
  refine ⟨rfl,?_⟩
  replace H:=H.U4 (en:=ZH) (s:=1) (3) (fun _=>rfl)
  exact H
 subst V1
 exact Xh rfl<|cF rfl<|ZZ H rfl rfl rfl rfl<|fun p1 w1 H=>H.Wu (n:=0) (en:=ZH) (s:=1) 0 rfl [] rfl rfl (fun _=>rfl) rfl<|fun H=>U3 8 H 0 rfl (H.rd hx) (fun y _=>rfl) rfl rfl rfl (by grind) (by grind)<|fun v1 w2 H=>Z5.mk<|NI H
theorem alU (H:Sat g w l) (v:Value) (xs:List Yt) (hx:Z6 g Ox (Uo g) 3 v xs) (hl:xs.length<=1000):zn 138 #[v] w (fun u w'=>Sat g w' (Sl 107 3 Ox u xs::l)):=by
 have JO:∀y∈xs,((Ox y).all (·.oneCell'))=true:=fun y h=>by have o:=Z6.all hx y h;simp only [Ox,List.all_cons,List.all_nil,Z6.one o.loc,Z6.one o.body];rfl
 refine Fc.of Tryz.func138 rfl k_e ?_
 rcases Z6.RR hx with ⟨Mg,Mf⟩|⟨b1,c1,V1⟩
 .subst Mg
  subst Mf
  refine Xh rfl<|cT rfl<|Z5.mk ?_
  replace H:=H.U4 (en:=Ox) (s:=3) (107) (fun _=>rfl)
  exact H
 subst V1
 exact Xh rfl<|cF rfl<|ZZ H rfl rfl rfl rfl<|fun p1 w1 H=>H.Wu (n:=0) (en:=Ox) (s:=3) 0 rfl [] rfl rfl (fun _=>rfl) rfl<|fun H=>U3 56 H 0 rfl (H.rd hx) zN rfl rfl rfl (by grind) (by grind)<|fun v1 w2 H=>Z5.mk<|H
theorem aoj (H:Sat g w l) (v:Value) (xs:List Y6) (hx:Z6 g OI (okV g) 4 v xs) (hl:xs.length<=1000):zn 139 #[v] w (fun u w'=>∃a c,u=.slice a xs.length c/\Sat g w' (Sl 196 4 OI (.slice a xs.length c) xs::l)):=by
 have JO:∀y∈xs,((OI y).all (·.oneCell'))=true:=fun y h=>by have o:=Z6.all hx y h;simp only [OI,List.all_cons,List.all_nil,Z6.one o.to];rfl
 refine Fc.of Tryz.func139 rfl k_e ?_
 rcases Z6.RR hx with ⟨Mg,Mf⟩|⟨b1,c1,V1⟩
 .subst Mg
  subst Mf
  refine Xh rfl<|cT rfl<|Z5.mk ?_
  refine ⟨none,0,?_⟩
  refine ⟨rfl,?_⟩
  replace H:=H.U4 (en:=OI) (s:=4) (196) (fun _=>rfl)
  exact H
 subst V1
 exact Xh rfl<|cF rfl<|ZZ H rfl rfl rfl rfl<|fun p1 w1 H=>H.Wu (n:=0) (en:=OI) (s:=4) 0 rfl [] rfl rfl (fun _=>rfl) rfl<|fun H=>U3 48 H 0 rfl (H.rd hx) zN rfl rfl rfl (by grind) (by grind)<|fun v1 w2 H=>Z5.mk<|NI H
theorem alV (H:Sat g w l) (v:Value) (xs:zm) (hx:Z6 g ZH WV 1 v xs) (hl:xs.length<=1000):zn 50 #[v] w (fun u w'=>∃a c,u=.slice a xs.length c/\Sat g w' (Sl 2 1 ZH (.slice a xs.length c) xs::l)):=by
 refine Fc.of Tryz.func50 rfl k_e ?_
 rcases Z6.RR hx with ⟨Mg,Mf⟩|⟨b1,c1,V1⟩
 .subst Mg
  subst Mf
  refine Xh rfl<|cT rfl<|Z5.mk ?_
  refine ⟨none,0,?_⟩
  refine ⟨rfl,?_⟩
  replace H:=H.U4 (en:=ZH) (s:=1) (2) (fun _=>rfl)
  exact H
 subst V1
 exact Xh rfl<|cF rfl<|ZZ H rfl rfl rfl rfl<|fun p1 w1 H=>H.Wu (n:=0) (en:=ZH) (s:=1) 0 rfl [] rfl rfl (fun _=>rfl) rfl<|fun H=>U3 8 H 0 rfl (H.rd hx) (fun y _=>rfl) rfl rfl rfl (by grind) (by grind)<|fun v1 w2 H=>Z5.mk<|NI H
def Yd (m:YP):YP:=⟨m.types,m.Zz,m.funcs,m.table,m.pages,m.most,m.globals,m.VV,m.start,[],[]⟩
theorem afv (H:Sat g w l) (hm:Xu g m) (h1:m.types.length<=100) (h2:m.Zz.length<=100) (h3:m.funcs.length<=100) (h4:m.globals.length<=100) (h5:m.VV.length<=100) (hT:∀t∈m.types,t.d.Za.length<=100/\t.d.out.length<=100) (hF:∀f∈m.funcs,f.d.loc.length<=100/\f.d.body.length<=200) (hB:∀f∈m.funcs,∀x∈f.d.body,x.to.length<=1000) :
  zn 100 #[.agg (zL m []).toArray] w (fun r w'=>∃(g':ZB) (m':Zg),r=.agg (zL m' []).toArray/\Ext g g'/\Xu g' m'/\m'.d=Yd m.d/\Sat g' w' l):=by
 have ZQ:=hm.types
 have Zv:=hm.Zz
 have ZP:=hm.funcs
 have Zh:=hm.globals
 have XD:=hm.VV
 refine Fc.of Tryz.func100 rfl k_e<|ZN H<|fun p1 w1 H=>ZX H rfl<|fun p2 w2 H=>Z9 rfl<|zG H 1 0 zD ?_
 refine Z8.mk (Fc.imp (Rn.alQ H _ _ ZQ zO) ?_)
 rintro v' w1 H
 refine Z9 rfl<|Yc H 2 rfl rfl rfl (H.one 0 rfl)<|fun w3 H=>Z9 rfl<|zG H 2 0 zD<|Yz H 0 rfl rfl ?_
 refine YO.rule (α:=ZB × Nat × List XK) (g,0,m.types) (fun x_=>[(15,zJ x_.2.1)]) (fun x_ w_=>(Ext g x_.1)/\(x_.2.1<=m.types.length)/\(x_.2.2.map XK.d=m.types.map XK.d)/\(∀y∈x_.2.2,Wx x_.1 y)/\Sat x_.1 w_ ((Sl 104 2 Oy v' x_.2.2::Pt p2 [.slice none 0 0,.slice none 0 0,.slice none 0 0,zJ 0,zJ 0,zJ 0,.slice none 0 0,.slice none 0 0,zJ 0,.slice none 0 0,.slice none 0 0] 30::Pt p1 [v',m.vm,m.vf,zJ m.table,zJ m.pages,zJ m.most,m.vg,m.vx,zJ m.start,m.ve,m.vd] 30::l))) (fun x_=>m.types.length-x_.2.1) ?_ ?_ ?_
 .exact k_a
 .try simp only
  constructor
  .exact Ext.refl _
  refine ⟨zO,?_⟩
  constructor
  .simp
  constructor
  .exact Z6.all ZQ
  exact H
 rintro ⟨gg,i,ts⟩ f_ w_ ⟨E,hi,hd,ho,H⟩
 try simp only at E hi hd ho H ⊢
 have Nc:ts.length=m.types.length:=by have:=congrArg List.length hd;simpa using this
 rcases lBa i m.types.length with hlt|hge
 .obtain ⟨t,ht⟩:∃t,ts[i]?=some t:=⟨_,laa zO⟩
  have hto:=ho t (lda ht)
  obtain ⟨t0,ht0,ES,GB⟩:=Ky hd ht
  obtain ⟨ht1,I7⟩:=hT t0 ES
  rw [<-GB] at ht1 I7
  have ht1:t.Za.length<=100:=ht1
  have I7:t.out.length<=100:=I7
  have Kx:=hto.Za
  have Kw:=hto.out
  refine cT (Y9 zO)<|bk ?_
  obtain ⟨b1,o1,E1⟩:=H.YQ 0 rfl (i) zO
  refine ZF E1 rfl rfl rfl<|ZK (H.el 0 rfl E1 ht) 0 rfl rfl rfl<|ZX H rfl<|fun p3 w1 H=>ZJ H 0 rfl rfl rfl (by simp only [List.all_cons,List.all_nil,H.one 1 rfl,Z6.one Kw,Z6.one Kx,Z6.one XD,Z6.one Zh,Z6.one ZP,Z6.one Zv,Z6.one ZQ];rfl)<|fun w4 H=>ZI H [] [zHp0,zHh1,zHp2,zHp3,zHh4,zHp6,zHh7,zHf5,zHf8,zHp9,zHp10,zHfr11] mixed k_e k_e<|fun w1 H=>zE rfl rfl<|zF 3 0 zD rfl<|zE rfl rfl<|zF 0 0 zD rfl<|zE rfl rfl<|zF 0 1 zD rfl ?_
  refine Z8.mk (Fc.imp (Rn.Dl H _ _ Kx zO) ?_)
  rintro _ w4 ⟨a1,⟨c1,⟨rfl,H⟩⟩⟩
  refine Zs.mk (H.drop 0 (fun H=>H)) ?_
  refine Z8.mk (Fc.imp (Rn.Dl H _ _ Kw zO) ?_)
  rintro _ w5 ⟨a2,⟨c2,⟨rfl,H⟩⟩⟩
  refine Zs.mk (H.drop 1 (fun H=>H.drop 0 (fun H=>H)))<|tk (fun _ Z=>Zq rfl rfl rfl zK)<|tk (fun _ Z=>ZF E1 rfl rfl rfl zK)<|ahg H 3 rfl E1 ht 0 (⟨.slice a1 t.Za.length c1,t.Za,.slice a2 t.out.length c2,t.out⟩:XK) rfl rfl rfl rfl<|fun w9 H=>ZU zO<|H.Vn 0 U8 rfl (Z6.all Kw)<|fun g8 E8 Dk H=>H.Vn 0 U8 rfl (Z6.all (Kx.ext E8))<|fun g9 E9 ER H=>?_
  have Dk:=Dk.ext E9
  have HH:=E8.trans E9
  have E:=E.trans HH
  have hd2:=(Ru (y2:=(⟨.slice a1 t.Za.length c1,t.Za,.slice a2 t.out.length c2,t.out⟩:XK)) ht rfl).trans hd
  have Oc:=Kz (i:=i) (ok:=Wx g9) (fun y hy=>⟨(ho y hy).Za.ext HH,(ho y hy).out.ext HH⟩) (y2:=(⟨.slice a1 t.Za.length c1,t.Za,.slice a2 t.out.length c2,t.out⟩:XK)) ⟨ER,Dk⟩
  refine WM.mk ((g9,i+1,ts.set i { vi:=Value.slice a1 t.Za.length c1,Za:=t.Za,vo:=Value.slice a2 t.out.length c2,out:=t.out })) (Zr rfl zM (ZV)) ?_ ?_
  .refine ⟨zN,?_⟩
   refine ⟨zN,?_⟩
   refine ⟨zN,?_⟩
   refine ⟨zN,?_⟩
   exact H.Z7 [3,3,3]<|fun H=>H.drop 3<|fun H=>H
  (simp only [List.length_append,List.length_set,List.length_cons,List.length_nil];omega)
 .have Zv:=Zv.ext E
  have Zh:=Zh.ext E
  have XD:=XD.ext E
  have ZP:Z6 gg Ox (Uo gg) 3 m.vf m.funcs:=Z6.Wt (ok:=Uo) (fun _ _ _ h E=>⟨h.ty,h.loc.ext E,Z6.Wt (ok:=okV) (fun _ _ _ h E=>h.ext E) h.body E⟩) ZP E
  refine cF (Zj zO)<|ZI H [] [zHp0,zHh1,zHp3,zHh4,zHf2,zHp6,zHfr5,zHfr7,zHp8,zHfr9] mixed k_e k_e<|fun w1 H=>zE rfl rfl<|zF 2 1 zD rfl<|zE rfl rfl<|zF 2 6 zD rfl ?_
  refine Z8.mk (Fc.imp (Rn.alR H _ _ Zv zO) ?_)
  rintro V5 w4 H
  refine Zs.mk (H.drop 0 (fun H=>H))<|zE rfl rfl ?_
  refine Z8.mk (Fc.imp (Rn.alT H _ _ Zh zO) ?_)
  rintro I1 w5 H
  refine Yc H 4 rfl rfl rfl (H.one 1 rfl)<|fun w6 H=>zE rfl rfl<|Yc H 4 rfl rfl rfl (H.one 0 rfl)<|fun w5 H=>Z9 rfl<|zG H 4 7 zD ?_
  refine Z8.mk (Fc.imp (Rn.alS H _ _ XD zO) ?_)
  rintro L4 w6 H
  refine Z9 rfl<|Yc H 5 rfl rfl rfl (H.one 0 rfl)<|fun w7 H=>Z9 rfl<|Yc H 5 rfl rfl rfl rfl<|fun w6 H=>Z9 rfl<|Yc H 5 rfl rfl rfl rfl<|fun w7 H=>Z9 rfl<|zG H 5 2 zD ?_
  refine Z8.mk (Fc.imp (Rn.alU H _ _ ZP zO) ?_)
  rintro CO w6 H
  refine Z9 rfl<|Yc H 6 rfl rfl rfl (H.one 0 rfl)<|fun w8 H=>Z9 rfl<|zG H 6 2 zD<|Yz H 0 rfl rfl ?_
  refine YO.rule (α:=ZB × Nat × List Yt) (gg,0,m.funcs) (fun x_=>[(53,zJ x_.2.1)]) (fun x_ w_=>(Ext gg x_.1)/\(x_.2.1<=m.funcs.length)/\(x_.2.2.map Yt.d=m.funcs.map Yt.d)/\(∀y∈x_.2.2,Uo x_.1 y)/\Sat x_.1 w_ ((Sl 107 3 Ox CO x_.2.2::Sl 129 2 TM L4 m.VV::Sl 99 3 N8 I1 m.globals::Sl 125 2 TM V5 m.Zz::Sl 104 2 Oy v' ts::Pt p2 [.slice none 0 0,.slice none 0 0,.slice none 0 0,zJ 0,zJ 0,zJ 0,.slice none 0 0,.slice none 0 0,zJ 0,.slice none 0 0,.slice none 0 0] 30::Pt p1 [v',V5,CO,zJ m.table,zJ m.pages,zJ m.most,I1,L4,zJ m.start,.slice none 0 0,.slice none 0 0] 30::l))) (fun x_=>m.funcs.length-x_.2.1) ?_ ?_ ?_
  .exact k_a
  .try simp only
   constructor
   .exact Ext.refl _
   refine ⟨zO,?_⟩
   constructor
   .simp
   constructor
   .exact Z6.all ZP
   exact H
  rintro ⟨g3,n,fs⟩ f_ w_ ⟨E3,hn,DD,A9,H⟩
  try simp only at E3 hn DD A9 H ⊢
  have hfl:fs.length=m.funcs.length:=by have:=congrArg List.length DD;simpa using this
  rcases lBa n m.funcs.length with hlt|alD
  .obtain ⟨t,ht⟩:∃t,fs[n]?=some t:=⟨_,laa zO⟩
   have hto:=A9 t (lda ht)
   obtain ⟨t0,ht0,ES,GB⟩:=Ky DD ht
   obtain ⟨ht1,I7⟩:=hF t0 ES
   have Et:=hB t0 ES
   rw [<-GB] at ht1 I7 Et
   have ht1:t.loc.length<=100:=ht1
   have I7:t.body.length<=200:=by have h:(t.body.map Y6.d).length<=200:=I7;rwa [lfa] at h
   have Et:∀x∈t.body,x.to.length<=1000:=fun x hx=>Et x.d (List.mem_map_of_mem hx)
   have Kv:=hto.loc
   have MM:=hto.body
   refine cT (Y9 zO)<|bk ?_
   obtain ⟨b1,o1,E1⟩:=H.YQ 0 rfl (n) zO
   refine ZF E1 rfl rfl rfl<|ZK (H.el 0 rfl E1 ht) 0 rfl rfl rfl<|ZX H rfl<|fun p3 w6 H=>ZJ H 0 rfl rfl rfl (by simp only [List.all_cons,List.all_nil,H.one 1 rfl,H.one 2 rfl,H.one 3 rfl,H.one 4 rfl,H.one 5 rfl,Z6.one MM,Z6.one Kv,Z6.one ZP,Z6.one XD,Z6.one Zh,Z6.one Zv,Z6.one ZQ];rfl)<|fun w9 H=>ZI H [] [zHp0,zHh1,zHp3,zHh4,zHf2,zHp6,zHfr5,zHfr7,zHp8,zHfr9] mixed k_e k_e<|fun w6 H=>zE rfl rfl<|zF 0 1 zD rfl<|zE rfl rfl<|zF 0 2 zD rfl ?_
   refine Z8.mk (Fc.imp (Rn.Dl H _ _ Kv zO) ?_)
   rintro _ w9 ⟨a1,⟨c1,⟨rfl,H⟩⟩⟩
   refine Zs.mk (H.drop 0 (fun H=>H))<|zE rfl rfl ?_
   refine Z8.mk (Fc.imp (Rn.aoj H _ _ MM zO) ?_)
   rintro _ Bo ⟨a2,⟨c2,⟨rfl,H⟩⟩⟩
   refine Yc H 2 rfl rfl rfl rfl<|fun Bn H=>zE rfl rfl<|Yc H 2 rfl rfl rfl rfl<|fun Bo H=>Z9 rfl<|zG H 2 2 zD<|UE rfl ?_
   refine YO.rule (α:=ZB × Nat × List Y6) (g3,0,t.body) (fun x_=>[(69,zJ x_.2.1)]) (fun x_ w_=>(Ext g3 x_.1)/\(x_.2.1<=t.body.length)/\(x_.2.2.map Y6.d=t.body.map Y6.d)/\(∀y∈x_.2.2,okV x_.1 y)/\Sat x_.1 w_ ((Sl 196 4 OI (.slice a2 t.body.length c2) x_.2.2::Sl 97 1 Yx (.slice a1 t.loc.length c1) t.loc::Pt p3 [zJ t.ty,.slice a1 t.loc.length c1,.slice a2 t.body.length c2] 107::Sl 107 3 Ox CO fs::Sl 129 2 TM L4 m.VV::Sl 99 3 N8 I1 m.globals::Sl 125 2 TM V5 m.Zz::Sl 104 2 Oy v' ts::Pt p2 [.slice none 0 0,.slice none 0 0,.slice none 0 0,zJ 0,zJ 0,zJ 0,.slice none 0 0,.slice none 0 0,zJ 0,.slice none 0 0,.slice none 0 0] 30::Pt p1 [v',V5,CO,zJ m.table,zJ m.pages,zJ m.most,I1,L4,zJ m.start,.slice none 0 0,.slice none 0 0] 30::l))) (fun x_=>t.body.length-x_.2.1) ?_ ?_ ?_
   .exact k_a
   .try simp only
    constructor
    .exact Ext.refl _
    refine ⟨zO,?_⟩
    constructor
    .simp
    constructor
    .exact Z6.all MM
    exact H
   rintro ⟨g4,k,bs⟩ f_ w_ ⟨E4,hk,CJ,A8,H⟩
   try simp only at E4 hk CJ A8 H ⊢
   have Ms:bs.length=t.body.length:=by have:=congrArg List.length CJ;simpa using this
   rcases lBa k t.body.length with alE|aod
   .obtain ⟨x,hx⟩:∃x,bs[k]?=some x:=⟨_,laa zO⟩
    have KM:=A8 x (lda hx)
    obtain ⟨x0,hx0,aok,SS⟩:=Ky CJ hx
    have hx1:x.to.length<=1000:=by rw [show x.to=x0.to from congrArg ZW.to SS];exact Et x0 aok
    have afw:=KM.to
    refine cT (Y9 zO)<|bk<|ZI H [] [zHp0,zHh1,zHp2,zHp3,zHh4,zHp5,zHp6,zHp7,zHh8,zHf9,zHp10,zHp11,zHfr12] mixed k_e k_e<|fun Bn H=>zE rfl rfl<|zF 2 2 zD rfl<|zE rfl rfl<|zF 2 2 zD rfl ?_
    obtain ⟨b2,o2,E2⟩:=H.YQ 0 rfl (k) zO
    refine tk (fun _ Z=>ZF E2 rfl rfl rfl zK)<|zE rfl rfl<|tk (fun _ Z=>zz (Z.el 0 rfl E2 hx) 3 zy zK) ?_
    refine Z8.mk (Fc.imp (Rn.alV H _ _ afw zN) ?_)
    rintro _ AL ⟨a3,⟨c3,⟨rfl,H⟩⟩⟩
    refine Zs.mk (H.drop 0 (fun H=>H))<|tk (fun _ Z=>ZF E2 rfl rfl rfl zK)<|zE rfl rfl<|Yg H 1 rfl E2 hx 3 (⟨x.op,x.a,x.b,(Value.slice a3 x.to.length c3),x.to⟩) rfl rfl rfl rfl<|fun w13 H=>ZU zO<|H.Vn 0 WV rfl (Z6.all afw)<|fun g9 HH ER H=>?_
    have E5:=E4.trans HH
    have hd5:=(Ru (y2:=(⟨x.op,x.a,x.b,.slice a3 x.to.length c3,x.to⟩:Y6)) hx rfl).trans CJ
    have UI:=Kz (i:=k) (ok:=okV g9) (fun y hy=>(A8 y hy).ext HH) (y2:=(⟨x.op,x.a,x.b,.slice a3 x.to.length c3,x.to⟩:Y6)) ⟨KM.op,KM.a,KM.b,ER⟩
    refine WM.mk ((g9,k+1,bs.set k { op:=x.op,a:=x.a,b:=x.b,tv:=Value.slice a3 x.to.length c3,«to»:=x.to })) (Zr rfl zM (ZV)) ?_ ?_
    .grind
    (simp only [List.length_append,List.length_set,List.length_cons,List.length_nil];omega)
   .refine cF (Zj zO)<|Z9 rfl<|zG H 9 2 zD<|ZK (H.at 2 rfl) 0 rfl rfl rfl<|ZF E1 rfl rfl rfl<|ahg H 3 rfl E1 ht 0 (⟨t.ty,.slice a1 t.loc.length c1,t.loc,.slice a2 t.body.length c2,bs⟩:Yt) rfl rfl rfl rfl<|fun w99 H=>ZU zO<|H.Vn 0 (okV g4) rfl A8<|fun g8 E8 Dk H=>H.Vn 0 U8 rfl (Z6.all ((Kv.ext E4).ext E8))<|fun g9 E9 ER H=>?_
    have Dk:=Z6.F8 (Dk.ext E9) (fun y hy h=>(h.ext E8).ext E9)
    have E5:=E4.trans (E8.trans E9)
    have E6:=E3.trans E5
    have hd5:=(Ru (y2:=(⟨t.ty,.slice a1 t.loc.length c1,t.loc,.slice a2 t.body.length c2,bs⟩:Yt)) ht (by grind [Yt.d])).trans DD
    have UI:=Kz (i:=n) (ok:=Uo g9) (fun y hy=>abP (A9 y hy) E5) (y2:=(⟨t.ty,.slice a1 t.loc.length c1,t.loc,.slice a2 t.body.length c2,bs⟩:Yt)) ⟨hto.ty,ER,Dk⟩
    refine WM.mk ((g9,n+1,fs.set n { ty:=t.ty,vl:=Value.slice a1 t.loc.length c1,loc:=t.loc,vb:=Value.slice a2 t.body.length c2,body:=bs })) (Zr rfl zM (ZV)) ?_ ?_
    .refine ⟨zN,?_⟩
     refine ⟨zN,?_⟩
     refine ⟨zN,?_⟩
     refine ⟨zN,?_⟩
     exact H.Z7 [7,7,7,7,7,7,7]<|fun H=>H.drop 7<|fun H=>H
    (simp only [List.length_append,List.length_set,List.length_cons,List.length_nil];omega)
  .refine cF (Zj zO)<|ZK (H.at 6 rfl) 0 rfl rfl rfl<|ZJ H 5 rfl rfl rfl (by simp only [List.all_cons,List.all_nil,H.one 0 rfl,H.one 1 rfl,H.one 2 rfl,H.one 3 rfl,H.one 4 rfl,Z6.one ZP,Z6.one XD,Z6.one Zh,Z6.one Zv,Z6.one ZQ];rfl)<|fun w6 H=>XF (H.at 5 rfl) 0 rfl rfl rfl<|H.Vn 0 (Uo g3) rfl A9<|fun ga Ea fa H=>H.Vn 0 Rt rfl (Z6.all XD)<|fun gb Eb fb H=>H.Vn 0 K4 rfl (Z6.all Zh)<|fun gc Ec fc H=>H.Vn 0 Rt rfl (Z6.all Zv)<|fun gd' Ed fd H=>?_
   have x3:=(Ea.trans Eb).trans (Ec.trans Ed)
   have EG:=E3.trans x3
   refine H.Vn 0 (Wx gd') rfl (fun y hy=>abO (ho y hy) EG)<|fun ge Ee fe H=>?_
   exact Z5.mk ⟨ge,⟨v',ts,V5,m.Zz,CO,fs,m.table,m.pages,m.most,I1,m.globals,L4,m.VV,m.start,.slice none 0 0,[],.slice none 0 0,[]⟩,rfl,(E.trans EG).trans Ee,
    ⟨Z6.F8 fe (fun y hy h=>abO h Ee),fd.ext Ee,Z6.F8 (fa.ext (((Eb.trans Ec).trans Ed).trans Ee)) (fun y hy h=>abP h (x3.trans Ee)),hm.table,hm.pages,hm.most,fc.ext (Ed.trans Ee),fb.ext ((Ec.trans Ed).trans Ee),hm.start,Z6.OJ _ _ _ _,Z6.OJ _ _ _ _⟩,by
     unfold Zg.d Yd
     simp only [hd,DD];rfl,H.del 0 |>.del 0⟩
end
end Rn
namespace Valid
open Go Y2 Go.RowKit
open YZ Zn X4 YS
theorem Ou.ext' {g g':ZB} {xs:List LZ} (h:∀x∈xs,Ou g x) (E:Ext g g'):∀x∈xs,Ou g' x:=fun x hx=>(h x hx).ext E
theorem ajh {ok:LZ->Prop} {ys:List LZ} {i:Nat} {y:LZ} (h:∀x∈ys,ok x) (h2:ok y):∀x∈ys.set i y,ok x:=by grind
theorem aji {g:ZB} {n:Nat}:∀x∈List.replicate n Bf,Ou g x:=fun x hx=>by
 rw [(List.mem_replicate.1 hx).2];exact ⟨Z6.OJ _ _ _ _⟩
section
variable {bd:List ZW} {k:Nat} {x:Y6} {sh:Nat->Bool × zm} {K0:Int} {Es:zm} {bl:List Yl} {st:zm} {j:Yl}
theorem QL (hc:Yu bd=0) (hx:bd[k]?=some x.d) (hb:bl=Vy Es bd sh K0 k) (hst:(sh k).2=st) (ho:x.op=2\/x.op=3) (hj:j=⟨if x.op=3 then (k:Int) else gd Es k,if x.op=3 then 0 else Yf x.a,(st.length:Int)⟩):bl++[j]=Vy Es bd sh K0 (k+1):=by
 refine abF hc hx (show x.op=2\/x.op=3\/x.op=4 by omega) hb ?_
 rw [hj,hst,if_neg (show ¬x.d.op=4 by show ¬x.op=4;omega),Int.sub_zero];rfl
theorem aaP (hc:Yu bd=0) (hx:bd[k]?=some x.d) (hb:bl=Vy Es bd sh K0 k) (hst:(sh k).2=st) (ho:x.op=4) (hj:j=⟨if x.op=3 then (k:Int) else gd Es k,if x.op=3 then 0 else Yf x.a,(st.length:Int)-1⟩):bl++[j]=Vy Es bd sh K0 (k+1):=by
 refine abF hc hx (show x.op=2\/x.op=3\/x.op=4 by omega) hb ?_
 rw [hj,hst,if_pos (show x.d.op=4 from ho)];rfl
end
section
variable {g:ZB} {w:World} {l:List As} {m:Zg}
theorem alW (H:Sat g w l) (hT:M9 g) (hm:Xu g m) (h0:Wv m.d=0) (k:Nat) (f:Yt) (hf:m.funcs[k]?=some f):zn 164 #[.agg (zL m []).toArray,zJ k] w (fun r w'=>∃g' v outs e,r=.tuple #[v,zJ e]/\e=0/\Ext g g'/\Z6 g' Fh (Ou g') 1 v outs/\CE m f outs/\Sat g' w' l):=by
 have ZQ:=hm.types
 have hty:=(Uc (W0 h0).1).2.1.fu f (lda hf)
 have ao8:0<=f.ty:=by omega
 have ZP:=hm.funcs
 have hlf:=VU.len ZP
 have JY:=(lba.1 hf).1
 have KX:=lda hf
 have hfo:=Z6.all ZP f KX
 have Wo:=hfo.body
 obtain ⟨⟨s,hs,FQ⟩,_,_,Jk,hc,_⟩:=CG h0 KX
 have Ep:=Z6.all ZQ s (lda hs)
 have Pa:=Ep.out
 have DM:s.out.length<=1:=by rw [FQ] at Jk;exact Jk
 have Ms:=(Zc hc).1
 rw [lfa] at Ms
 have hbp:0<f.body.length:=by
  have:=NY hc
  rw [<-lGb,lfa] at this;exact this
 refine Fc.of Tryz.func164 rfl k_e ?_
 refine ZN H ?_
 clear H
 intro p1 w1 H
 refine ZK (H.at 0 rfl) 0 rfl rfl rfl ?_
 refine Z8.mk (Fc.imp (Valid.agD H zN zN zN (k) _ hf) ?_)
 clear H
 rintro _ w2 ⟨HN,⟨v1,⟨J2,⟨e1,⟨rfl,⟨h1,⟨HE,⟨h2,⟨h3,H⟩⟩⟩⟩⟩⟩⟩⟩⟩
 replace Pa:=Z6.ext Pa HE
 replace Ep:=Ep.ext HE
 replace Wo:=Z6.Wt (ok:=YZ.okV) (fun _ _ _ h E=>YZ.okV.ext h E) Wo HE
 replace hfo:=hfo.ext HE
 replace ZP:=Z6.Wt (ok:=YS.Uo) (fun _ _ _ h E=>YS.Uo.ext h E) ZP HE
 replace ZQ:=Z6.Wt (ok:=YS.Wx) (fun _ _ _ h E=>YS.Wx.ext h E) ZQ HE
 replace hm:=hm.ext HE
 have E:=HE
 clear HE
 have Cw:CH m f J2:=by assumption
 refine cF (Xa zN) ?_
 refine Z9 rfl ?_
 refine zG H 0 2 zD ?_
 obtain ⟨b1,o1,E1,F1,ZC⟩:=Z6.YQ ZP hf
 have Xf:=ZC.ty
 have Zi:=ZC.loc
 have Zo:=ZC.body
 refine ZF E1 rfl rfl rfl ?_
 refine Z9 rfl ?_
 refine zz (H.X9 F1) 2 zy ?_
 refine Z8.mk (Fc.imp (Zn.match_ H f.vb f.body Zo) ?_)
 clear H
 rintro _ w9 ⟨ue,ul,Es,Ls,e9,rfl,he9,hM9,H⟩
 obtain ⟨op9,la9,hM⟩:∃op last,MK (f.body.map Y6.d) f.body.length ⟨op,last,true⟩ Es Ls:=by grind
 have Dn:e9=0:=he9.trans hc
 subst Dn
 clear hM9 he9
 have S:=aiG h0 KX hM rfl
 have DP:=hM.eL
 have Cc:=hM.lL
 rw [lfa] at DP Cc
 refine H.Vn 0 Ub rfl (fun _ _=>trivial) ?_
 intro g2 E2 FP
 clear H
 intro H
 refine H.Vn 0 Ub rfl (fun _ _=>trivial) ?_
 intro g3 E3 Ac
 clear H
 intro H
 have FP:=FP.ext E3
 have HE:=E2.trans E3
 clear E2 E3
 obtain ⟨a0,c0,hvb⟩:=Z6.form Zo
 rw [hvb]
 replace H:=H.U4 (en:=NR) (s:=3) 215 (fun _=>rfl)
 replace Zo:=Z6.Wt (ok:=YZ.okV) (fun _ _ _ h E=>YZ.okV.ext h E) Zo HE
 replace Zi:=Z6.ext Zi HE
 replace ZC:=ZC.ext HE
 replace F1:=Uq.ext F1 HE
 replace E:=E.trans HE
 replace hm:=hm.ext HE
 replace ZQ:=Z6.Wt (ok:=YS.Wx) (fun _ _ _ h E=>YS.Wx.ext h E) ZQ HE
 replace ZP:=Z6.Wt (ok:=YS.Uo) (fun _ _ _ h E=>YS.Uo.ext h E) ZP HE
 replace hfo:=hfo.ext HE
 replace Wo:=Z6.Wt (ok:=YZ.okV) (fun _ _ _ h E=>YZ.okV.ext h E) Wo HE
 replace Ep:=Ep.ext HE
 replace Pa:=Z6.ext Pa HE
 replace h2:=Z6.Wt (ok:=Valid.SX) (fun _ _ _ h E=>Valid.SX.ext h E) h2 HE
 clear HE
 obtain ⟨a1,c1,rfl⟩:=Z6.form FP
 obtain ⟨a2,c2,rfl⟩:=Z6.form Ac
 obtain ⟨a3,c3,rfl⟩:=Z6.form h2
 refine Zq rfl rfl rfl ?_
 refine ZN H ?_
 clear H
 intro p2 w3 H
 clear w9
 refine ZI H [] [zHp0,zHp1,zHp2,zHp3,zHh4,zHp5,zHp6,zHp7,zHp8,zHh9,zHp10,zHh11,zHp12,zHp13,zHp14,zHh15,zHp16,zHp17,zHh18,zHp19,zHp20,zHf21,zHfr22,zHp23,zHp24,zHfr25] mixed k_e k_e ?_
 clear H
 intro w4 H
 clear w3
 refine zE rfl rfl ?_
 refine zF 0 4 zD rfl ?_
 refine tk (fun _ Z=>UE rfl zK) ?_
 refine ZU zO ?_
 refine zE rfl rfl ?_
 refine zF 2 0 zD rfl ?_
 refine zE rfl rfl ?_
 refine zF 2 2 zD rfl ?_
 refine tk (fun _ Z=>ZF E1 rfl rfl rfl zK) ?_
 refine zE rfl rfl ?_
 refine tk (fun _ Z=>zz (Z.X9 F1) 0 zy zK) ?_
 obtain ⟨b2,o2,E2,F2,XA⟩:=Z6.YQ ZQ hs
 have YK:=XA.Za
 have YX:=XA.out
 refine tk (fun _ Z=>ZF E2 zO rfl rfl zK) ?_
 refine zE rfl rfl ?_
 refine tk (fun _ Z=>zz (Z.X9 F2) 1 zy zK) ?_
 refine tk (fun _ Z=>ZD YX rfl zK) ?_
 refine tk (fun _ Z=>Zq rfl rfl rfl zK) ?_
 refine ZZ H rfl rfl rfl rfl ?_
 clear H
 intro p3 w3 H
 clear w4
 refine Zs.mk (H.drop 0 (fun H=>H)) ?_
 refine WS (ys:=[⟨_,_,_⟩]) 24 H 2 rfl (H.at 0 rfl) rfl (fun y _=>rfl) rfl rfl rfl zM zM ?_
 intro v1
 clear H
 intro w4 H
 clear w3
 refine zE rfl rfl ?_
 refine Yc H 1 rfl rfl rfl (H.one 2 rfl) ?_
 clear H
 intro w3 H
 clear w4
 refine UE rfl ?_
 refine R9 (en:=Fh) (s:=1) H (Bf) ((f.body.length)) ((f.body.length)) 24 rfl rfl rfl (fun _=>rfl) zO zO zO zO zO ?_
 intro v2
 clear H
 intro w4 H
 clear w3
 refine UE rfl ?_
 clear Wo hfo ZQ ZP Ep Pa
 obtain ⟨bd,hbd⟩:∃bd,bd=f.body.map Y6.d:=⟨_,rfl⟩
 obtain ⟨sh,hsh⟩:∃sh,sh=YB (ZE m.d) ((Xz m f).Za++f.loc) (f.body.map Y6.d) (Xz m f).d:=⟨_,rfl⟩
 have aol:sh=YB (ZE m.d) ((Xz m f).Za++f.loc) bd (Xz m f).d:=by grind
 obtain ⟨K0,hK0⟩:∃K0:Int,K0=((Xz m f).d.out.length:Int):=⟨_,rfl⟩
 have hcb:Yu bd=0:=by grind
 have hxl:=Cw.len
 refine YO.rule (α:=ZB × Nat × Value × List Yl × List LZ) (g3,0,v1,[⟨f.body.length-1,s.out.length,0⟩],List.replicate f.body.length Bf) (fun x_=>[(74,zJ x_.2.1)]) (fun x_ w_=>(Ext g3 x_.1)/\(x_.2.1<=f.body.length)/\(x_.2.2.2.1=Vy Es bd sh K0 x_.2.1)/\(GW Es Ls bd sh K0 x_.2.1 x_.2.2.2.2)/\(∀x∈x_.2.2.2.2,Ou x_.1 x)/\Sat x_.1 w_ ((Pt p2 [.slice a0 f.body.length c0,.slice a1 Es.length c1,.slice a2 Ls.length c2,.slice a3 J2.length c3,x_.2.2.1] 298::Sl 215 3 NR x_.2.2.1 x_.2.2.2.1::Sl 211 1 Fh v2 x_.2.2.2.2::l))) (fun x_=>f.body.length-x_.2.1) ?_ ?_ ?_
 .exact k_a
 .try simp only
  constructor
  .exact Ext.refl _
  refine ⟨zO,?_⟩
  constructor
  ·(rw [abE,hbd,hK0,FQ,lfa];rfl)
  constructor
  .exact GW.zero (by grind)
  constructor
  .exact aji
  refine H.Z7 [0,3,3] ?_
  clear H
  intro H
  refine H.drop 4 ?_
  clear H
  intro H
  refine H.drop 3 ?_
  clear H
  intro H
  exact H
 clear H
 rintro ⟨g4,i,vk,bl,outs⟩ f_ w_ ⟨E4,hi,hb,hI,ho,H⟩
 try simp only at E4 hi hb hI ho H ⊢
 have DM:=hI.len
 rw [hbd,lfa] at DM
 have K7:Z6 g4 OI (okV g4) 4 (.slice a0 f.body.length c0) f.body:=hvb ▸ Z6.Wt (ok:=okV) (fun _ _ _ h E=>h.ext E) Zo E4
 have O9:=FP.ext E4
 have JA:=Ac.ext E4
 have ML:Z6 g4 MX (SX g4) 2 (.slice a3 J2.length c3) J2:=Z6.Wt (ok:=SX) (fun _ _ _ h E=>h.ext E) h2 E4
 clear Zo FP Ac h2
 rcases lBa i f.body.length with hlt|hge
 .obtain ⟨x,hx⟩:∃x,f.body[i]?=some x:=⟨_,laa hlt⟩
  obtain ⟨sp,hsp⟩:∃sp,J2[i]?=some sp:=⟨_,laa zO⟩
  obtain ⟨oy,Bb⟩:∃oy,outs[i]?=some oy:=⟨_,laa zO⟩
  have SS:bd[i]?=some x.d:=by grind
  have hpos:=NP (Es:=Es) (sh:=sh) (K0:=K0) hcb (k:=i) (by grind)
  rw [<-hb] at hpos
  obtain ⟨hp1,hp2⟩:=hpos
  have hW:Az bl x.d:=by
   rw [hb,hbd]
   exact aeZ S (by rw [<-hbd];exact SS)
  have TU:(sp.dead,sp.st)=sh i:=by rw [hsh];exact Cw.at_ hsp
  have EP:(sh i).1=sp.dead:=by grind
  have Iy:(sh i).2=sp.st:=by grind
  have PB:WB x.d=0:=((Zc hcb).2.1 i x.d (by grind) SS).1
  have hto:=aeY PB
  have hxa:x.op=2\/x.op=3\/x.op=4->0<=x.a/\x.a<=255:=fun ho=>KL PB ho
  have ao9:x.op=4->gd Ls i<=1000:=fun h4=>aiF S (by rw [<-hbd];exact SS) h4
  cases hd:sp.dead
  .rw [hd] at EP
   refine cT (Y9 zO) ?_
   refine bk ?_
   obtain ⟨b3,o3,E3,F3,WI⟩:=Z6.YQ K7 hx
   have PA:=WI.op
   have M5:=WI.a
   have M4:=WI.b
   have X5:=WI.to
   refine ZF E3 rfl rfl rfl ?_
   refine ZK (H.X9 F3) 0 rfl rfl rfl ?_
   refine ZX H rfl ?_
   clear H
   intro p4 w3 H
   clear w_
   refine ZJ H 0 rfl rfl rfl k_l ?_
   clear H
   intro w5 H
   clear w3
   obtain ⟨b4,o4,E5,F4,Rm⟩:=Z6.YQ ML hsp
   have VZ:=Rm.st
   have Pw:=Rm.len
   refine ZF E5 rfl rfl rfl ?_
   refine Z9 rfl ?_
   refine zz (H.X9 F4) 0 zy ?_
   refine cT (G9 (zN)) ?_
   refine H.Z7 [2,2] ?_
   clear H
   intro H
   refine Z8.mk (Fc.imp (Valid.akZ H K7 O9 JA ML (i) _ hx zN zO zO zN _ hsp zO zN zN zO zN _ Iy) ?_)
   clear H
   rintro v' w3 ⟨Di,⟨h2,H⟩⟩
   refine H.Vn 0 CF rfl (fun _ _=>trivial) ?_
   intro g9 HE ER
   clear H
   intro H
   have E9:=E4.trans HE
   have ho9:=Ou.ext' ho HE
   replace VZ:=Z6.ext VZ HE
   replace Rm:=Rm.ext HE
   replace F4:=Uq.ext F4 HE
   replace X5:=Z6.ext X5 HE
   replace WI:=WI.ext HE
   replace F3:=Uq.ext F3 HE
   replace ML:=Z6.Wt (ok:=Valid.SX) (fun _ _ _ h E=>Valid.SX.ext h E) ML HE
   replace JA:=Z6.ext JA HE
   replace O9:=Z6.ext O9 HE
   replace K7:=Z6.Wt (ok:=YZ.okV) (fun _ _ _ h E=>YZ.okV.ext h E) K7 HE
   replace ho:=fun y hy=>(ho y hy).ext HE
   replace E4:=E4.trans HE
   clear HE
   obtain ⟨b5,o5,E6⟩:=H.YQ 3 rfl (i) zO
   refine ZF E6 rfl rfl rfl ?_
   refine Z9 rfl ?_
   have hv9:=Z6.one ER
   refine Yg H 3 rfl E6 Bb 0 ⟨v',Di⟩ rfl zO rfl rfl ?_
   clear H
   intro w9 H
   have Ab:=hI.put SS EP (v:=v') hb h2
   have hO9:=ajh (i:=i) ho9 (y:=⟨v',Di⟩) ⟨ER⟩
   by_cases h11:x.op=11
   .refine ZF E5 rfl rfl rfl ?_
    refine Z9 rfl ?_
    refine zz (H.X9 F4) 1 zy ?_
    refine ZD VZ rfl ?_
    refine Z9 rfl ?_
    refine zG H 2 0 zD ?_
    refine bk ?_
    refine cF (Z4 zO) ?_
    refine cF (Z4 zO) ?_
    refine cF (Z4 zO) ?_
    refine cT (ZM zN) ?_
    refine ZI H [] [zHp0,zHp1,zHp2,zHp3,zHh4,zHp5,zHp6,zHp7,zHh8,zHp9,zHp10,zHp11,zHp12,zHp13,zHfr14] mixed k_e k_e ?_
    clear H
    intro w6 H
    clear w9
    refine zE rfl rfl ?_
    refine zF 0 4 zD rfl ?_
    refine zE rfl rfl ?_
    refine zF 0 4 zD rfl ?_
    obtain ⟨a4,c4,V1⟩:=H.form 1 rfl
    refine tk (fun _ Z=>W3 V1 rfl zK) ?_
    refine ZU zO ?_
    obtain ⟨v3,V2⟩:=H.vw 1 rfl (0) (((bl.length)-1)) zO zO
    refine tk (fun _ Z=>Wl V2 rfl rfl (.inl zK) (.inr ⟨_,by first|rfl|(congr 2;omega)⟩) zK) ?_
    refine zE rfl rfl ?_
    refine Yc H 0 rfl rfl rfl (by simp only [Bool.and_true,H.one 1 rfl,H.one 3 rfl,Vw.one V2,Z6.one K7,Z6.one O9,Z6.one JA,Z6.one ML,Z6.one X5,Z6.one VZ,Z6.one ER,Z6.one YX,Z6.one YK,Z6.one FP,Z6.one Zi]) ?_
    clear H
    intro w7 H
    clear w6
    refine ZU zO ?_
    replace H:=H.Le 1 rfl V2
    refine WM.mk ((g9,i+1,v3,List.take (bl.length-1) bl,outs.set i { vs:=v',js:=Di })) (Zr rfl zM (ZV)) ?_ ?_
    .refine ⟨zN,?_⟩
     refine ⟨zN,?_⟩
     constructor
     .exact acQ hcb SS zN hb
     refine ⟨zN,?_⟩
     refine ⟨zN,?_⟩
     refine H.Z7 [3,2,2] ?_
     clear H
     intro H
     refine H.drop 3 ?_
     clear H
     intro H
     exact H
    (simp only [List.length_append,List.length_set,List.length_cons,List.length_nil];omega)
   .refine ZF E5 rfl rfl rfl ?_
    refine Z9 rfl ?_
    refine zz (H.X9 F4) 1 zy ?_
    refine ZD VZ rfl ?_
    refine Z9 rfl ?_
    refine zG H 2 0 zD ?_
    refine bk ?_
    refine zq (fun c4=>?_) (fun c4=>?_)
    .refine cT (ZM zN) ?_
     refine Z8.mk (Fc.imp (Valid.Ot H K7 O9 (i) _ _ hx zO zO zO zN) ?_)
     clear H
     rintro V5 w6 ⟨MJ,⟨j1,⟨h4,H⟩⟩⟩
     refine ZU zO ?_
     refine WM.mk ((g9,i+1,MJ,bl++[j1],outs.set i { vs:=v',js:=Di })) (Zr rfl zM (ZV)) ?_ ?_
     .refine ⟨zN,?_⟩
      refine ⟨zN,?_⟩
      constructor
      .exact QL hcb SS hb Iy zO zN
      refine ⟨zN,?_⟩
      refine ⟨zN,?_⟩
      refine H.Z7 [3,2,2] ?_
      clear H
      intro H
      refine H.drop 3 ?_
      clear H
      intro H
      exact H
     (simp only [List.length_append,List.length_set,List.length_cons,List.length_nil];omega)
    refine zq (fun c5=>?_) (fun c5=>?_)
    .refine Z8.mk (Fc.imp (Valid.Ot H K7 O9 (i) _ _ hx zO zO zO zN) ?_)
     clear H
     rintro V5 w6 ⟨MJ,⟨j1,⟨h4,H⟩⟩⟩
     refine ZU zO ?_
     refine WM.mk ((g9,i+1,MJ,bl++[j1],outs.set i { vs:=v',js:=Di })) (Zr rfl zM (ZV)) ?_ ?_
     .refine ⟨zN,?_⟩
      refine ⟨zN,?_⟩
      constructor
      .exact QL hcb SS hb Iy zO zN
      refine ⟨zN,?_⟩
      refine ⟨zN,?_⟩
      refine H.Z7 [3,2,2] ?_
      clear H
      intro H
      refine H.drop 3 ?_
      clear H
      intro H
      exact H
     (simp only [List.length_append,List.length_set,List.length_cons,List.length_nil];omega)
    refine zq (fun c6=>?_) (fun c6=>?_)
    .refine ZU zO ?_
     refine Z8.mk (Fc.imp (Valid.Ot H K7 O9 (i) _ _ hx zO zO zO zN) ?_)
     clear H
     rintro V5 w6 ⟨MJ,⟨j1,⟨h4,H⟩⟩⟩
     refine ZU zO ?_
     refine WM.mk ((g9,i+1,MJ,bl++[j1],outs.set i { vs:=v',js:=Di })) (Zr rfl zM (ZV)) ?_ ?_
     .refine ⟨zN,?_⟩
      refine ⟨zN,?_⟩
      constructor
      .exact aaP hcb SS hb Iy zN zN
      refine ⟨zN,?_⟩
      refine ⟨zN,?_⟩
      refine H.Z7 [3,2,2] ?_
      clear H
      intro H
      refine H.drop 3 ?_
      clear H
      intro H
      exact H
     (simp only [List.length_append,List.length_set,List.length_cons,List.length_nil];omega)
    refine cF (Z4 zN) ?_
    refine ZU zO ?_
    refine WM.mk ((g9,i+1,vk,bl,outs.set i { vs:=v',js:=Di })) (Zr rfl zM (ZV)) ?_ ?_
    .refine ⟨zN,?_⟩
     refine ⟨zN,?_⟩
     constructor
     .exact abG hcb SS (by show ¬(x.op=2\/x.op=3\/x.op=4);omega) zN hb
     refine ⟨zN,?_⟩
     refine ⟨zN,?_⟩
     refine H.Z7 [3,2,2] ?_
     clear H
     intro H
     refine H.drop 3 ?_
     clear H
     intro H
     exact H
    (simp only [List.length_append,List.length_set,List.length_cons,List.length_nil];omega)
  .rw [hd] at EP
   have Ab:=hI.skip EP
   by_cases h11:x.op=11
   .refine cT (Y9 zO) ?_
    refine bk ?_
    obtain ⟨b3,o3,E3,F3,WI⟩:=Z6.YQ K7 hx
    have PA:=WI.op
    have M5:=WI.a
    have M4:=WI.b
    have X5:=WI.to
    refine ZF E3 rfl rfl rfl ?_
    refine ZK (H.X9 F3) 0 rfl rfl rfl ?_
    refine ZX H rfl ?_
    clear H
    intro p4 w3 H
    clear w_
    refine ZJ H 0 rfl rfl rfl k_l ?_
    clear H
    intro w5 H
    clear w3
    obtain ⟨b4,o4,E5,F4,Rm⟩:=Z6.YQ ML hsp
    have VZ:=Rm.st
    have Pw:=Rm.len
    refine ZF E5 rfl rfl rfl ?_
    refine Z9 rfl ?_
    refine zz (H.X9 F4) 0 zy ?_
    refine cF (Ip (zN)) ?_
    refine ZF E5 rfl rfl rfl ?_
    refine Z9 rfl ?_
    refine zz (H.X9 F4) 1 zy ?_
    refine ZD VZ rfl ?_
    refine Z9 rfl ?_
    refine zG H 0 0 zD ?_
    refine bk ?_
    refine cF (Z4 zO) ?_
    refine cF (Z4 zO) ?_
    refine cF (Z4 zO) ?_
    refine cT (ZM zN) ?_
    refine ZI H [] [zHp0,zHp1,zHp2,zHp3,zHh4,zHp5,zHp6,zHp7,zHh8,zHp9,zHp10,zHp11,zHp12,zHp13,zHfr14] mixed k_e k_e ?_
    clear H
    intro w3 H
    clear w5
    refine zE rfl rfl ?_
    refine zF 1 4 zD rfl ?_
    refine zE rfl rfl ?_
    refine zF 1 4 zD rfl ?_
    obtain ⟨a4,c4,V1⟩:=H.form 2 rfl
    refine tk (fun _ Z=>W3 V1 rfl zK) ?_
    refine ZU zO ?_
    obtain ⟨v3,V2⟩:=H.vw 2 rfl (0) (((bl.length)-1)) zO zO
    refine tk (fun _ Z=>Wl V2 rfl rfl (.inl zK) (.inr ⟨_,by first|rfl|(congr 2;omega)⟩) zK) ?_
    refine zE rfl rfl ?_
    refine Yc H 1 rfl rfl rfl (by simp only [Bool.and_true,H.one 2 rfl,H.one 3 rfl,Vw.one V2,Z6.one VZ,Z6.one X5,Z6.one ML,Z6.one JA,Z6.one O9,Z6.one K7,Z6.one YX,Z6.one YK,Z6.one FP,Z6.one Zi]) ?_
    clear H
    intro w5 H
    clear w3
    refine ZU zO ?_
    replace H:=H.Le 2 rfl V2
    refine WM.mk ((g4,i+1,v3,List.take (bl.length-1) bl,outs)) (Zr rfl zM (ZV)) ?_ ?_
    .refine ⟨zN,?_⟩
     refine ⟨zN,?_⟩
     constructor
     .exact acQ hcb SS zN hb
     refine ⟨zN,?_⟩
     refine ⟨zN,?_⟩
     refine H.Z7 [3,3,3] ?_
     clear H
     intro H
     refine H.drop 3 ?_
     clear H
     intro H
     exact H
    (simp only [List.length_append,List.length_set,List.length_cons,List.length_nil];omega)
   .refine cT (Y9 zO) ?_
    refine bk ?_
    obtain ⟨b3,o3,E3,F3,WI⟩:=Z6.YQ K7 hx
    have PA:=WI.op
    have M5:=WI.a
    have M4:=WI.b
    have X5:=WI.to
    refine ZF E3 rfl rfl rfl ?_
    refine ZK (H.X9 F3) 0 rfl rfl rfl ?_
    refine ZX H rfl ?_
    clear H
    intro p4 w3 H
    clear w_
    refine ZJ H 0 rfl rfl rfl k_l ?_
    clear H
    intro w5 H
    clear w3
    obtain ⟨b4,o4,E5,F4,Rm⟩:=Z6.YQ ML hsp
    have VZ:=Rm.st
    have Pw:=Rm.len
    refine ZF E5 rfl rfl rfl ?_
    refine Z9 rfl ?_
    refine zz (H.X9 F4) 0 zy ?_
    refine cF (Ip (zN)) ?_
    refine ZF E5 rfl rfl rfl ?_
    refine Z9 rfl ?_
    refine zz (H.X9 F4) 1 zy ?_
    refine ZD VZ rfl ?_
    refine Z9 rfl ?_
    refine zG H 0 0 zD ?_
    refine bk ?_
    refine zq (fun c4=>?_) (fun c4=>?_)
    .refine cT (ZM zN) ?_
     refine H.Z7 [2,2] ?_
     clear H
     intro H
     refine Z8.mk (Fc.imp (Valid.Ot H K7 O9 (i) _ _ hx zO zO zO zN) ?_)
     clear H
     rintro v' w3 ⟨MJ,⟨j1,⟨h2,H⟩⟩⟩
     refine ZU zO ?_
     refine WM.mk ((g4,i+1,MJ,bl++[j1],outs)) (Zr rfl zM (ZV)) ?_ ?_
     .refine ⟨zN,?_⟩
      refine ⟨zN,?_⟩
      constructor
      .exact QL hcb SS hb Iy zO zN
      refine ⟨zN,?_⟩
      refine ⟨zN,?_⟩
      refine H.Z7 [3,2,2] ?_
      clear H
      intro H
      refine H.drop 3 ?_
      clear H
      intro H
      exact H
     (simp only [List.length_append,List.length_set,List.length_cons,List.length_nil];omega)
    refine zq (fun c5=>?_) (fun c5=>?_)
    .refine H.Z7 [2,2] ?_
     clear H
     intro H
     refine Z8.mk (Fc.imp (Valid.Ot H K7 O9 (i) _ _ hx zO zO zO zN) ?_)
     clear H
     rintro v' w3 ⟨MJ,⟨j1,⟨h2,H⟩⟩⟩
     refine ZU zO ?_
     refine WM.mk ((g4,i+1,MJ,bl++[j1],outs)) (Zr rfl zM (ZV)) ?_ ?_
     .refine ⟨zN,?_⟩
      refine ⟨zN,?_⟩
      constructor
      .exact QL hcb SS hb Iy zO zN
      refine ⟨zN,?_⟩
      refine ⟨zN,?_⟩
      refine H.Z7 [3,2,2] ?_
      clear H
      intro H
      refine H.drop 3 ?_
      clear H
      intro H
      exact H
     (simp only [List.length_append,List.length_set,List.length_cons,List.length_nil];omega)
    refine zq (fun c6=>?_) (fun c6=>?_)
    .refine ZU zO ?_
     refine H.Z7 [2,2] ?_
     clear H
     intro H
     refine Z8.mk (Fc.imp (Valid.Ot H K7 O9 (i) _ _ hx zO zO zO zN) ?_)
     clear H
     rintro v' w3 ⟨MJ,⟨j1,⟨h2,H⟩⟩⟩
     refine ZU zO ?_
     refine WM.mk ((g4,i+1,MJ,bl++[j1],outs)) (Zr rfl zM (ZV)) ?_ ?_
     .refine ⟨zN,?_⟩
      refine ⟨zN,?_⟩
      constructor
      .exact aaP hcb SS hb Iy zN zN
      refine ⟨zN,?_⟩
      refine ⟨zN,?_⟩
      refine H.Z7 [3,2,2] ?_
      clear H
      intro H
      refine H.drop 3 ?_
      clear H
      intro H
      exact H
     (simp only [List.length_append,List.length_set,List.length_cons,List.length_nil];omega)
    refine cF (Z4 zN) ?_
    refine ZU zO ?_
    refine WM.mk ((g4,i+1,vk,bl,outs)) (Zr rfl zM (ZV)) ?_ ?_
    .refine ⟨zN,?_⟩
     refine ⟨zN,?_⟩
     constructor
     .exact abG hcb SS (by show ¬(x.op=2\/x.op=3\/x.op=4);omega) zN hb
     refine ⟨zN,?_⟩
     refine ⟨zN,?_⟩
     refine H.Z7 [3,3,3] ?_
     clear H
     intro H
     refine H.drop 3 ?_
     clear H
     intro H
     exact H
    (simp only [List.length_append,List.length_set,List.length_cons,List.length_nil];omega)
 .have Ab:CE m f outs:=aiH (m:=m) S (by rw [<-hbd,<-aol,<-hK0];exact hI) zO
  refine cF (Zj zO) ?_
  refine H.Vn 2 (Ou g4) rfl ho ?_
  intro g5 HE hf H2
  exact Z5.mk ⟨g5,_,outs,0,rfl,rfl,(E.trans E4).trans HE,Z6.F8 hf (fun y hy h=>h.ext HE),Ab,H2.tl.tl⟩
end
end Valid
namespace Rn
open Go Y2 Go.RowKit
open YZ Zn X4 YS Valid Mem
section
variable {g:ZB} {w:World} {l:List As} {m:Zg}
theorem of_ (H:Sat g w l) (ys:zl) (most:Int) (hy:ys.length<=9223372036854775807):zn 99 #[.string (bs ys),zJ most] w (fun r w' =>
  (JZ ys most/\∃p v ps,r=.tuple #[zI p,zJ 0]/\flat ps=ys/\ps.length<=8/\Sat g w' (Pt p [v,zJ most] 221::Sl 223 256 Xi v ps::l))\/(¬JZ ys most/\r=.tuple #[.pointer none,zJ 1]/\Sat g w' l)):=by
 refine Fc.of Tryz.func99 rfl k_e ?_
 refine br (fun c1=>?_) (fun c1=>?_)
 .replace c1:=YE (c1)
  refine cT rfl<|Z5.mk ?_
  exact .inr ⟨fun h=>by obtain ⟨h1,h2,h3,h4⟩:=h;omega,rfl,H⟩
 replace c1:=YD (c1)
 refine br (fun c2=>?_) (fun c2=>?_)
 .replace c2:=YE (c2)
  refine cT rfl<|Z5.mk ?_
  exact .inr ⟨fun h=>by obtain ⟨h1,h2,h3,h4⟩:=h;omega,rfl,H⟩
 replace c2:=YD (c2)
 refine XE rfl<|VX.mk (by decide)<|QF zO ?_
 refine br (fun c3=>?_) (fun c3=>?_)
 .replace c3:=YI (c3)
  refine cT rfl<|Z5.mk ?_
  exact .inr ⟨fun h=>by obtain ⟨h1,h2,h3,h4⟩:=h;omega,rfl,H⟩
 replace c3:=YH (c3)
 refine XE rfl<|VX.mk (by decide)<|Ry zO zO ?_
 refine zv (fun c4=>?_) (fun c4=>?_)
 .refine Z5.mk ?_
  exact .inr ⟨fun h=>by obtain ⟨h1,h2,h3,h4⟩:=h;omega,rfl,H⟩
 refine XE rfl<|VX.mk (by decide)<|Ry zO zO<|R9 (en:=Xi) (s:=256) H (zp) (((ys.length) / 256)) (((ys.length) / 256)) 256 rfl rfl rfl QX zO zO zO zO zO<|fun v1 w1 H=>?_
 obtain ⟨a1,c5,rfl⟩:=H.form 0 rfl
 refine Zq rfl rfl rfl<|ZN H<|fun p1 w2 H=>?_
 refine Z8.mk (Fc.imp (Mem.put H _ _ ?_ ?_ ?_) ?_)
 .grind
 .omega
 .omega
 rintro _ w1 ⟨e1,⟨Qp,⟨rfl,⟨(⟨h1,⟨h2,h3⟩⟩|⟨h4,⟨h5,h6⟩⟩),⟨h7,H⟩⟩⟩⟩⟩
 .refine Z5.mk ?_
  exact absurd ⟨by omega,by rw [lga];omega⟩ h3
 refine Z5.mk ?_
 exact .inl ⟨⟨by omega,by omega,by omega,by omega⟩,_,_,_,rfl,Eq.trans zN (aeA (by grind [X6,List.length_replicate])),by rw [h7,lga];omega,H⟩
theorem Pb.ext {g':ZB} {x:LI} (h:Pb g x) (E:Ext g g'):Pb g' x:=⟨Z6.Wt (ok:=Ou) (fun _ _ _ h E=>h.ext E) h.outs E⟩
structure Cv (m:Zg) (ws:List LI) (k:Nat):Prop where
 len:ws.length=k
 at_:∀(i:Nat) (f:Yt) (y:LI),m.funcs[i]?=some f->ws[i]?=some y->CE m f y.outs
theorem Cv.snoc {ws:List LI} {k:Nat} {f:Yt} {y:LI} (h:Cv m ws k) (hf:m.funcs[k]?=some f) (hy:CE m f y.outs):Cv m (ws++[y]) (k+1):=by
 refine ⟨by rw [lca,h.len];rfl,fun i f' y' h1 h2=>?_⟩
 rw [lIa] at h2
 split at h2
 .exact h.at_ i f' y' h1 h2
 .rename_i hi
  have:i-ws.length=0:=by grind
  rw [this] at h2
  obtain rfl:=Option.some.inj h2
  have e:i=k:=by have:=h.len;omega
  rw [e,hf] at h1
  obtain rfl:=Option.some.inj h1
  exact hy
theorem ajj (H:Sat g w l) (hT:X4.M9 g) (hm:Xu g m) (h0:Wv m.d=0) (hl:m.funcs.length<=100):zn 116 #[.agg (zL m []).toArray] w (fun r w'=>∃g' v ws e,r=.tuple #[v,zJ e]/\e=0/\Ext g g'/\Z6 g' Iz (Pb g') 1 v ws/\Cv m ws m.funcs.length/\Sat g' w' l):=by
 have ZP:=hm.funcs
 refine Fc.of Tryz.func116 rfl k_e<|ZN H<|fun p1 w1 H=>ZK (H.at 0 rfl) 0 rfl rfl rfl ?_
 refine Z8.mk (Fc.imp (Valid.RZ H zO zO) ?_)
 rintro _ w2 ⟨e1,⟨rfl,⟨h1,H⟩⟩⟩
 refine cF (Xa zO)<|Z9 rfl<|zG H 0 2 zD<|ZD ZP rfl ?_
 replace H:=H.U4 (en:=Iz) (s:=1) 212 (fun _=>rfl)
 refine YO.rule (α:=ZB × Nat × Value × List LI) (g,0,.slice none 0 0,[]) (fun x_=>[(17,zJ x_.2.1),(5,x_.2.2.1)]) (fun x_ w_=>(Ext g x_.1)/\(x_.2.1<=m.funcs.length)/\(Cv m x_.2.2.2 x_.2.1)/\(∀y∈x_.2.2.2,Pb x_.1 y)/\Sat x_.1 w_ ((Sl 212 1 Iz x_.2.2.1 x_.2.2.2::Pt p1 (zL m []) 30::l))) (fun x_=>m.funcs.length-x_.2.1) ?_ ?_ ?_
 .exact k_a
 .try simp only
  constructor
  .exact Ext.refl _
  refine ⟨zO,?_⟩
  constructor
  .exact ⟨rfl,fun _ _ _ _ h=>by simp at h⟩
  constructor
  .simp
  exact H
 rintro ⟨gg,k,vo,ws⟩ f_ w_ ⟨E,hk,hW,ho,H⟩
 try simp only at E hk hW ho H ⊢
 have Cz:=hW.len
 rcases lBa k m.funcs.length with hlt|hge
 .obtain ⟨f,hf⟩:∃f,m.funcs[k]?=some f:=⟨_,laa hlt⟩
  refine cT (Y9 zO)<|bk<|ZK (H.at 1 rfl) 0 rfl rfl rfl ?_
  refine Z8.mk (Fc.imp (alW H (IQ hT E) (Xu.ext hm E) h0 k f hf) ?_)
  rintro _ w' ⟨g2,v,outs,e,rfl,he,E2,HV,hR,H⟩
  obtain ⟨av,cv,rfl⟩:=Z6.form HV
  refine ZZ H rfl rfl rfl rfl<|fun p2 w3 H=>?_
  refine WS (ys:=[(⟨.slice av outs.length cv,outs⟩:LI)]) 24 H 1 rfl (H.at 0 rfl) rfl (fun y hy=>by rw [lsa.1 hy];simp only [Rn.Iz,List.all_cons,List.all_nil,H.one 1 rfl,Z6.one HV,Z6.one ZP];rfl) rfl rfl rfl zO zO<|fun v1 w4 H=>ZU zO ?_
  replace H:=H.del 0
  obtain ⟨Aa,CT⟩:∃Aa:List LI,Aa=ws++[⟨.slice av outs.length cv,outs⟩]:=⟨_,rfl⟩
  have hW2:=hW.snoc hf (y:=⟨.slice av outs.length cv,outs⟩) hR
  replace H:Sat g2 w4 (Sl 212 1 Iz v1 (ws++[⟨.slice av outs.length cv,outs⟩])::Pt p1 (zL m []) 30::l):=H
  rw [<-CT] at H hW2
  refine WM.mk (g2,k+1,v1,Aa) (Zr rfl (by grind) (ZL rfl ZV)) ⟨E.trans E2,by simp only;omega,hW2,?_,H⟩ (by grind)
  subst CT
  intro y hy
  rcases lHa.1 hy with hy|hy
  .exact Pb.ext (ho y hy) E2
  .rw [lsa] at hy
   subst hy
   exact ⟨HV⟩
 .refine cF (Zj zO) ?_
  have Qx:k=m.funcs.length:=by omega
  subst Qx
  exact H.Vn 0 (Pb gg) rfl ho<|fun g9 E9 f9 H=>Z5.mk ⟨g9,_,ws,0,rfl,rfl,E.trans E9,Z6.F8 f9 (fun y hy h=>Pb.ext h E9),hW,H.del 0⟩
end
end Rn
namespace Rn
open Go Y2 Go.RowKit
open YZ Zn X4 YS Valid
section
variable {g:ZB} {m m':Zg} {f:Yt} {mem:zl} {ts gs:zm}
theorem ahM {s:XK} (hs:m.types[f.ty.toNat]?=some s) (FQ:Xz m f=s):UO m.d f.d=(Xz m f).d:=by
 rw [FQ]
 unfold UO
 show (m.types.map XK.d).getD f.ty.toNat sz=_
 rw [lja,lya,hs];rfl
theorem tyl:m.d.types.length=m.types.length:=lfa ..
theorem ajk (hm:Xu g m) (h0:Wv m.d=0):UN m.d:=by
 obtain ⟨hc,hI,hS⟩:=Uc (W0 h0).1
 have Q:=Uw hc
 refine ⟨fun f hf=>?_,fun x hx=>by rw [tyl];exact hI.im x hx,fun t ht=>?_,Q.most,?_,Q.Zz,Q.table.2⟩
 .obtain ⟨F,hF,rfl⟩:=lWa.1 hf
  obtain ⟨⟨s,hs,FQ⟩,K,kd,ol,hcb,hr⟩:=CG h0 hF
  have e:=ahM hs FQ
  refine ⟨by rw [tyl];exact hI.fu F hF,?_,fun x hx=>?_,?_⟩
  .unfold XP
   rw [e]
   exact snd_mk hcb hr K kd ol
  .obtain ⟨X,hX,rfl⟩:=lWa.1 hx
   have o:=Z6.all (Z6.all hm.funcs F hF).body X hX
   exact ⟨o.op.1,o.a⟩
  .have:=(VI.1 (Zk.1 (Zk.1 (Q.Rq F hF)).2).1).1
   omega
 .obtain ⟨T,hT,rfl⟩:=lWa.1 ht
  exact ⟨hS.Za T hT,hS.out T hT⟩
 .show (m.funcs.map Yt.d).length<=16
  rw [lfa];exact Q.funcs
theorem ac6 {M:YP} (P:UN M):UN (Yd M) :=
 ⟨fun f hf=>⟨(P.fn f hf).ty,(P.fn f hf).snd,(P.fn f hf).a64,(P.fn f hf).loc⟩,P.imp,P.sig,P.most,P.nf,P.ni,P.Zw⟩
theorem ajl {outs:List LZ} (h0:Wv m.d=0) (hf:f∈m.funcs) (R:CE m f outs):outs.length=f.body.length/\∀(j:Nat) (s:LZ),outs[j]?=some s->s.js=LQ m.d f.d j:=by
 refine ⟨R.len,fun j s hs=>?_⟩
 obtain ⟨Es,Ls,S,h⟩:=R.ex
 obtain ⟨⟨t,ht,zZ⟩,_⟩:=CG h0 hf
 have e:=ahM ht zZ
 have hj:j<(f.body.map Y6.d).length:=by
  have:=(lba.1 hs).1
  have:=R.len
  rw [lfa];omega
 have hx:(f.body.map Y6.d)[j]?=some (f.body.map Y6.d)[j]:=laa hj
 have h1:=h j s _ hs hx
 rw [h1]
 unfold LQ XP
 rw [e]
 show _=JN (Mw (f.body.map Y6.d)) (Kh (f.body.map Y6.d)) (f.body.map Y6.d) _ _ j ((f.body.map Y6.d).getD j Fj)
 rw [lja,hx]
 exact acT S hx
theorem ajm {ws:List LI} (h0:Wv m.d=0) (W:Cv m ws m.funcs.length) (hd:m'.d=Yd m.d):Gw m' ws:=by
 have hf:m'.funcs.map Yt.d=m.funcs.map Yt.d:=congrArg YP.funcs hd
 have hl:m'.funcs.length=m.funcs.length:=by grind [List.length_map]
 refine ⟨by rw [W.len,hl],fun i f' y h1 h2=>?_⟩
 obtain ⟨F,hF,hm,Cu⟩:=Ky hf h1
 obtain ⟨a,b⟩:=ajl h0 hm (W.at_ i F y hF h2)
 have hb:f'.body.map Y6.d=F.body.map Y6.d:=congrArg PJ.body Cu
 refine ⟨by have:=congrArg List.length hb;rw [lfa,lfa] at this;omega,fun j s hs=>?_⟩
 rw [b j s hs,hd,Cu];rfl
theorem ajn (hm:Xu g m) (h:WZ.Ff m mem ts gs 0):Vt (Yd m.d) ⟨mem,ts,gs⟩:=by
 obtain ⟨h1,h2,h3⟩:=WZ.MW h.eq.symm
 obtain ⟨q1,q2,q3⟩:=h.ok rfl
 obtain ⟨_,a2,a3,a4,a5,a6⟩:=WZ.acR h 0
 have Q:=Uw (Uc (W0 h1).1).1
 refine ⟨by simp only;omega,?_,?_,a6,a3,fun n hn=>?_,?_,fun i x v hx hv=>?_⟩
 .show m.pages<=_;simp only;omega
 .show _<=m.most;simp only;omega
 .have h7:=Ue.1 (WZ.abK h1 m.table.toNat) n (by grind)
  unfold WZ.tE at h7
  split at h7
  .omega
  .rename_i h8
   show -1<=n/\n<(m.Zz.length:Int)+(m.funcs.map Yt.d).length
   rw [lfa];omega
 .show gs.length=m.globals.length
  rw [q3,lfa]
 .have hx:m.globals[i]?=some x:=hx
  have hv:gs[i]?=some v:=hv
  rw [q3,lya,hx] at hv
  obtain rfl:=Option.some.inj hv
  have hmem:=lda hx
  have o:=Z6.all hm.globals x hmem
  have hg:=(Zk.1 (Q.M3 x hmem)).2
  refine ⟨⟨o.start,fun hk=>?_⟩,fun _=>rfl⟩
  unfold OA at hg
  split at hg
  .grind
  .omega
theorem Ku (h0:Wv m.d=0):m.types.length<=100/\m.Zz.length<=100/\m.funcs.length<=100/\m.globals.length<=100/\m.VV.length<=100/\(∀t∈m.types,t.d.Za.length<=100/\t.d.out.length<=100)/\(∀f∈m.funcs,f.d.loc.length<=100/\f.d.body.length<=200)/\∀f∈m.funcs,∀x∈f.d.body,x.to.length<=1000:=by
 obtain ⟨hc,hI,hS⟩:=Uc (W0 h0).1
 have Q:=Uw hc
 have q1:=Q.types
 have q2:=Q.Zz
 have q3:=Q.funcs
 have q4:=Q.globals
 have q5:=Q.VV
 refine ⟨by omega,by omega,by omega,by omega,by omega,fun t ht=>?_,fun f hf=>?_,fun f hf x hx=>?_⟩
 .have h1:=hS.Za t ht
  have h2:=hS.out t ht
  exact ⟨by show t.Za.length<=100;omega,by show t.out.length<=100;omega⟩
 .obtain ⟨_,K,kd,ol,hcb,hr⟩:=CG h0 hf
  have:=(VI.1 (Zk.1 (Zk.1 (Q.Rq f hf)).2).1).1
  exact ⟨by omega,(Zc hcb).1⟩
 .obtain ⟨_,K,kd,ol,hcb,hr⟩:=CG h0 hf
  obtain ⟨i,hi,rfl⟩:=lzb.1 hx
  have h9:=((Zc hcb).2.1 i _ hi (laa hi)).1
  obtain ⟨X,hX,e⟩:=lWa.1 hx
  rw [<-e]
  have:=aeY (x:=X) (by grind)
  show X.to.length<=1000
  omega
end
end Rn
namespace Rn
open Go Y2 Go.RowKit
open YZ Zn X4 YS Valid Mem
section
variable {g:ZB} {w:World} {l:List As} {m:Zg} {mem:zl} {ts gs:zm} {xt xg:Value}
theorem ac7 (H:Sat g w l) (hm:Xu g m) (h0:Wv m.d=0) (ho:JZ mem m.most) (ht:Z6 g ZH WV 1 xt ts) (hg:Z6 g ZH WV 1 xg gs) (h1:ts.length<=1000) (h2:gs.length<=1000):zn 46 #[.agg (zL m []).toArray,.agg #[.string (bs mem),xt,xg]] w (fun r w'=>∃(g':ZB) (k:Zg) (cp mp:Nat) (vt vg vp:Value) (ps:List W1),r=zI cp/\Ext g g'/\Xu g' k/\k.d=Yd m.d/\flat ps=mem/\ps.length<=8/\Sat g' w' (Pt cp (zL k [zI mp,vt,vg]) 158::Pt mp [vp,zJ m.most] 221::Sl 223 256 Xi vp ps::Sl 3 1 ZH vt ts::Sl 2 1 ZH vg gs::l)):=by
 refine Fc.of Tryz.func46 rfl k_e ?_
 obtain ⟨z1,z2,z3,z4,z5,z6,z7,z8⟩:=Ku h0
 have hml:mem.length<=100000:=by obtain ⟨_,o2,o3,o4⟩:=ho;omega
 refine ZN H<|fun p1 w1 H=>ZN H<|fun p2 w2 H=>Z9 rfl<|zG H 0 0 zD<|Z9 rfl<|zG H 1 5 zD ?_
 refine Z8.mk (Fc.imp (of_ H mem m.most zO) ?_)
 rintro _ w' (⟨_,mp,vp,ps,rfl,hfl,OE,H⟩|⟨hn,_⟩)
 rotate_left
 .exact absurd ho hn
 refine ZI H [] [zHh0,zHp2,zHp3,zHh4,zHp6,zHh7,zHf1,zHf5,zHfr8,zHp9,zHfr10,zHp11] mixed k_e k_e<|fun w1 H=>?_
 refine tk (fun _ Z=>ZK (Z.at 3 rfl) 0 rfl rfl rfl zK)<|zE rfl rfl<|zF 2 1 zD rfl<|zE rfl rfl<|zF 2 2 zD rfl ?_
 refine Z8.mk (Fc.imp (afv H hm z1 z2 z3 z4 z5 z6 z7 z8) ?_)
 rintro _ w' ⟨g2,k,rfl,E,hk,RQ,H⟩
 have ht:=ht.ext E
 have hg:=hg.ext E
 refine Zs.mk (H.forget E) ?_
 refine Z8.mk (Fc.imp (Rn.aoi H _ _ ht zO) ?_)
 rintro _ w3 ⟨a1,⟨c1,⟨rfl,H⟩⟩⟩
 refine Zs.mk ((H.del 0).forget E) ?_
 refine Z8.mk (Fc.imp (Rn.alV H _ _ hg zO) ?_)
 rintro _ w4 ⟨a2,⟨c2,⟨rfl,H⟩⟩⟩
 refine tk (fun _ Z=>Zq rfl rfl rfl zK)<|ZN H<|fun p3 w5 H=>Z5.mk ?_
 refine ⟨g2,k,p3,mp,Value.slice a1 ts.length c1,Value.slice a2 gs.length c2,vp,ps,?_⟩
 refine ⟨rfl,?_⟩
 refine ⟨zO,?_⟩
 refine ⟨zO,?_⟩
 refine ⟨zO,?_⟩
 refine ⟨zO,?_⟩
 refine ⟨zO,?_⟩
 exact H.Z7 [1,2,4,4,4]<|fun H=>zw H [6,5]<|fun H=>H
theorem W2 (H:Sat g w l) (hT:X4.M9 g) (hm:Xu g m) (h0:Wv m.d=0) (ho:JZ mem m.most) (ht:Z6 g ZH WV 1 xt ts) (hg:Z6 g ZH WV 1 xg gs) (h1:ts.length<=1000) (h2:gs.length<=1000):zn 78 #[.agg (zL m []).toArray,.agg #[.string (bs mem),xt,xg]] w (fun r w'=>∃(g':ZB) (k:Zg) (vw:Value) (ws:List LI) (pr:Nat),r=zI pr/\Ext g g'/\Xu g' k/\k.d=Yd m.d/\Z6 g' Iz (Pb g') 1 vw ws/\Gw k ws/\Sat g' w' (Mac k vw pr ⟨⟨mem,ts,gs⟩,[],0⟩::l)):=by
 refine Fc.of Tryz.func78 rfl k_e ?_
 obtain ⟨z1,z2,z3,z4,z5,z6,z7,z8⟩:=Ku h0
 refine ZN H<|fun p1 w1 H=>ZN H<|fun p2 w2 H=>ZK (H.at 1 rfl) 0 rfl rfl rfl ?_
 refine Z8.mk (Fc.imp (ajj H hT hm h0 z3) ?_)
 rintro _ w' ⟨g2,vw,ws,e,rfl,he,E,HV,hR,H⟩
 obtain ⟨aw,cw,rfl⟩:=Z6.form HV
 have hm2:=hm.ext E
 have ht:=ht.ext E
 have hg:=hg.ext E
 refine ZK (H.at 1 rfl) 0 rfl rfl rfl<|ZK (H.at 0 rfl) 0 rfl rfl rfl ?_
 refine Z8.mk (Fc.imp (ac7 H hm2 h0 ho ht hg h1 h2) ?_)
 rintro _ w' ⟨g3,k,cp,mp,vt,vg,vp,ps,rfl,E3,hk,RQ,hfl,OE,H⟩
 have hmo:k.most=m.most:=congrArg YP.most RQ
 rw [<-hmo] at H
 refine Zq rfl rfl rfl<|ZN H<|fun p3 w1 H=>?_
 exact Z5.mk ⟨g3,k,_,ws,p3,rfl,E.trans E3,hk,RQ,Z6.Wt (ok:=Pb) (fun _ _ _ h E=>Pb.ext h E) HV E3,ajm h0 hR RQ,alO (ajg ((H.del 6).del 6)) rfl (by rw [hfl]) OE rfl⟩
end
end Rn
namespace Rn
open Go Y2 Go.RowKit
open YZ Zn X4 YS Valid Mem
structure zY (g:ZB) (k:Zg) (vw:Value) (ws:List LI):Prop where
 md:Xu g k
 po:UN k.d
 fs:Z6 g Iz (Pb g) 1 vw ws
 ways:Gw k ws
theorem zY.ext {g g':ZB} {k:Zg} {vw:Value} {ws:List LI} (h:zY g k vw ws) (E:Ext g g'):zY g' k vw ws :=
 ⟨h.md.ext E,h.po,Z6.Wt (ok:=Pb) (fun _ _ _ h E=>Pb.ext h E) h.fs E,h.ways⟩
section
variable {g:ZB} {w:World} {l:List As} {m:Zg} {va:Value} {f:Int} {args:zm}
end
end Rn
namespace Rn
open Go Y2 Go.RowKit
open YZ Zn X4 YS Valid Mem
open YS (IL)
open YZ (NZ OH)
structure XH where
 f:Int
 v:Value
 vals:zm
def Jz (a:XH):zk:=[.int .i64 a.f,a.v]
structure Ub (g:ZB) (a:XH):Prop where
 f:XC a.f
 fs:Z6 g ZH WV 1 a.v a.vals
theorem Ub.ext {g g':ZB} {a:XH} (h:Ub g a) (E:Ext g g'):Ub g' a:=⟨h.f,h.fs.ext E⟩
theorem Ub.one {g:ZB} {a:XH} (h:Ub g a):(Jz a).all (·.oneCell')=true:=by simp only [Jz,List.all_cons,List.all_nil,Z6.one h.fs];rfl
def XH.d (a:XH):Wm:=⟨a.f,a.vals⟩
structure Dh (g:ZB) (c:CV):Prop where
 fn:XC c.fn
 at_:XC c.at_
 l:Z6 g ZH WV 1 c.vl c.loc
 s:Z6 g ZH WV 1 c.vs c.stk
theorem Dh.ext {g g':ZB} {c:CV} (h:Dh g c) (E:Ext g g'):Dh g' c:=⟨h.fn,h.at_,h.l.ext E,h.s.ext E⟩
theorem V7 {α β:Type} {f:α->β} {xs:List α} {i:Nat} {x:α} (h:xs[i]?=some x):(xs.map f)[i]?=some (f x):=by grind
section
variable {g:ZB} {w:World} {l:List As} {m:Zg} {pr:Nat} {vw:Value} {S:MS}
theorem aom {p:Nat} {v mo:Value} {ps:List W1} (H:Sat g w (Pt p [v,mo] 221::Sl 223 256 Xi v ps::l)) (hp:ps.length<=8) :
  zn 109 #[zI p] w (fun r w'=>r=.string (bs (flat ps))/\Sat g w' (Pt p [v,mo] 221::Sl 223 256 Xi v ps::l)):=by
 refine Fc.of Tryz.func109 rfl k_e ?_
 have hf:((flat ps).drop (0:Int).toNat).take (((ps.length:Int) * 256).toNat)=flat ps:=by
  rw [show (0:Int).toNat=0 from rfl,lXa,lta]
  rw [X6];omega
 refine Z9 rfl<|zG H 0 0 zD<|Yz H 1 rfl rfl<|ZU zO ?_
 refine Z8.mk (Fc.imp (Mem.bytes H _ _ zO zO zO) ?_)
 rintro _ w1 ⟨e1,⟨zs1,⟨rfl,⟨(⟨h1,⟨h2,h3⟩⟩|⟨h4,⟨⟨h5,⟨h6,h7⟩⟩,h8⟩⟩),H⟩⟩⟩⟩
 .refine Z5.mk ?_
  refine ⟨zO,?_⟩
  exact H
 refine Z5.mk ?_
 constructor
 .grind
 exact H
theorem ag4 {va:Value} {xs:zm} (H:Sat g w (Sl 3 1 ZH va xs::l)) (hl:xs.length<=100000):zn 101 #[va] w (fun u w'=>Sat g w' (Sl 3 1 ZH u xs::Sl 3 1 ZH va xs::l)):=by
 refine Fc.of Tryz.func101 rfl k_e ?_
 rcases H.RR 0 rfl with ⟨Mg,Mf⟩|⟨b1,o1,c1,V1⟩
 .subst Mg
  subst Mf
  refine Xh rfl<|cT rfl<|Z5.mk ?_
  replace H:=H.U4 (en:=ZH) (s:=1) (3) (fun _=>rfl)
  exact H
 subst V1
 exact Xh rfl<|cF rfl<|ZZ H rfl rfl rfl rfl<|fun p1 w1 H=>H.Wu (n:=0) (en:=ZH) (s:=1) 0 rfl [] rfl rfl (fun _=>rfl) rfl<|fun H=>U3 8 H 0 rfl (H.C0 (ok:=fun _=>True) 1 rfl (fun _ _=>trivial)) (fun y _=>rfl) rfl rfl rfl (by grind) (by grind)<|fun v1 w2 H=>Z5.mk<|H
theorem acu (H:Sat g w l) (ma mb:zl) (ta tb ga gb:Value) (xa xb ya yb:zm) (h1:Z6 g ZH WV 1 ta xa) (h2:Z6 g ZH WV 1 tb xb) (h3:Z6 g ZH WV 1 ga ya) (h4:Z6 g ZH WV 1 gb yb) :
  zn 15 #[.agg #[.string (bs ma),ta,ga],.agg #[.string (bs mb),tb,gb]] w (fun r w'=>∃b,r=.bool b/\(b=true↔ma=mb/\xa=xb/\ya=yb)/\Sat g w' l):=by
 refine Fc.of Tryz.func15 rfl k_e<|ZN H<|fun p1 w1 H=>ZN H<|fun p2 w2 H=>Z9 rfl<|zG H 1 0 zD<|Z9 rfl<|zG H 0 0 zD<|ad0 ?_
 refine br (fun c1=>?_) (fun c1=>?_)
 .replace c1:=aj4 (c1)
  refine Z9 rfl<|zG H 1 1 zD<|Z9 rfl<|zG H 0 1 zD ?_
  refine Z8.mk (Fc.imp (YS.eqN H _ _ _ _ h1 h2) ?_)
  rintro _ w1 ⟨b1,⟨rfl,⟨h5,H⟩⟩⟩
  refine br (fun c2=>?_) (fun c2=>?_)
  .replace c2:=h5.1 (c2)
   refine Z9 rfl<|zG H 1 2 zD<|Z9 rfl<|zG H 0 2 zD ?_
   refine Z8.mk (Fc.imp (YZ.FC _ _ _ _ _ (Rd.tt (H.rd h3)) (Rd.tt (H.rd h4))) ?_)
   rintro _ w3 ⟨b2,⟨rfl,⟨h6,H'⟩⟩⟩
   refine H.X8 H' ?_
   clear H H'
   intro H
   refine Z5.mk ?_
   refine ⟨b2,?_⟩
   constructor
   .grind
   constructor
   .grind
   exact zw H [1,0]<|fun H=>H
  replace c2:=Tq h5 (c2)
  refine Z5.mk ?_
  refine ⟨false,?_⟩
  constructor
  .grind
  constructor
  .grind
  exact zw H [1,0]<|fun H=>H
 replace c1:=aj6 (c1)
 refine Z5.mk ?_
 refine ⟨false,?_⟩
 constructor
 .grind
 constructor
 .grind
 exact zw H [1,0]<|fun H=>H
theorem afx (H:Sat g w l) (o q:Vl) (va vb:Value) (h1:Z6 g ZH WV 1 va o.vals) (h2:Z6 g ZH WV 1 vb q.vals) (hoq:o=q) :
  zn 20 #[.agg #[zJ o.e,va,zJ o.XW,zJ o.host,zJ o.left],.agg #[zJ q.e,vb,zJ q.XW,zJ q.host,zJ q.left]] w (fun r w'=>r=.bool true/\Sat g w' l):=by
 refine Fc.of Tryz.func20 rfl k_e ?_
 subst hoq
 refine ZN H<|fun p1 w1 H=>ZN H<|fun p2 w2 H=>Z9 rfl<|zG H 1 0 zD<|Z9 rfl<|zG H 0 0 zD<|Wp (ZM zO)<|Z9 rfl<|zG H 1 1 zD<|Z9 rfl<|zG H 0 1 zD ?_
 refine Z8.mk (Fc.imp (YZ.FC _ _ _ _ _ (Rd.tt (H.rd h1)) (Rd.tt (H.rd h2))) ?_)
 rintro _ w1 ⟨b1,⟨rfl,⟨h3,H'⟩⟩⟩
 refine H.X8 H' ?_
 clear H H'
 intro H
 refine br (fun c1=>?_) (fun c1=>?_)
 .replace c1:=h3.1 (c1)
  refine Z9 rfl<|zG H 1 2 zD<|Z9 rfl<|zG H 0 2 zD<|Wp (ZM zO)<|Z9 rfl<|zG H 1 3 zD<|Z9 rfl<|zG H 0 3 zD<|Wp (ZM zO)<|Z9 rfl<|zG H 1 4 zD<|Z9 rfl<|zG H 0 4 zD<|Z5.mk ?_
  constructor
  .exact congrArg Value.bool (ZM zO)
  exact zw H [1,0]<|fun H=>H
 replace c1:=Tq h3 (c1)
 exact Z5.mk<|absurd rfl zN
theorem afy (H:Sat g w l) (a b:Int) (va vb:Value) (xa xb:zm) (h1:Z6 g ZH WV 1 va xa) (h2:Z6 g ZH WV 1 vb xb) :
  zn 19 #[.agg #[zJ a,va],.agg #[zJ b,vb]] w (fun r w'=>∃q,r=.bool q/\(q=true↔(⟨a,xa⟩:Wm)=⟨b,xb⟩)/\Sat g w' l):=by
 refine Fc.of Tryz.func19 rfl k_e<|ZN H<|fun p1 w1 H=>ZN H<|fun p2 w2 H=>Z9 rfl<|zG H 1 0 zD<|Z9 rfl<|zG H 0 0 zD ?_
 refine br (fun c1=>?_) (fun c1=>?_)
 .replace c1:=ZS (c1)
  refine Z9 rfl<|zG H 1 1 zD<|Z9 rfl<|zG H 0 1 zD ?_
  refine Z8.mk (Fc.imp (YZ.FC _ _ _ _ _ (Rd.tt (H.rd h1)) (Rd.tt (H.rd h2))) ?_)
  rintro _ w1 ⟨b1,⟨rfl,⟨h3,H'⟩⟩⟩
  refine H.X8 H' ?_
  clear H H'
  intro H
  refine Z5.mk ?_
  refine ⟨b1,?_⟩
  refine ⟨rfl,?_⟩
  constructor
  .grind
  exact zw H [1,0]<|fun H=>H
 replace c1:=ZR (c1)
 refine Z5.mk ?_
 refine ⟨false,?_⟩
 constructor
 .simp
 constructor
 .grind
 exact zw H [1,0]<|fun H=>H
theorem adB (va vb:Value) (xs ys:List XH) (H:Sat g w l) (hx:Z6 g Jz (Ub g) 2 va xs) (hy:Z6 g Jz (Ub g) 2 vb ys):zn 18 #[va,vb,.func (.func 19) #[] #[]] w (fun r w'=>(∃b,r=.bool b/\(b=true↔xs.map XH.d=ys.map XH.d))/\Sat g w' l):=by
 refine Fc.of Tryz.func18 rfl k_e ?_
 have m1:(xs.map XH.d).length=xs.length:=lfa ..
 have m2:(ys.map XH.d).length=ys.length:=lfa ..
 have hlx:=hx.len
 refine ZD hx rfl<|ZD hy rfl ?_
 refine zo (fun c1=>?_) (fun c1=>?_)
 .exact Z5.mk<|⟨⟨false,rfl,⟨nofun,fun h=>absurd (congrArg List.length h) zO⟩⟩,H⟩
 refine ZD hx rfl ?_
 refine YO.rule (α:=Nat) (0) (fun x_=>[(15,zJ x_)]) (fun x_ w_=>(x_<=xs.length)/\(IL (xs.map XH.d) (ys.map XH.d) x_)/\Sat g w_ (l)) (fun x_=>xs.length-x_) ?_ ?_ ?_
 .exact k_a
 .try simp only
  refine ⟨zO,?_⟩
  constructor
  .exact IL.zero _ _
  exact H
 rintro i f_ w_ ⟨hi,he,H⟩
 try simp only at hi he H ⊢
 refine zv (fun c2=>?_) (fun c2=>?_)
 .refine bk<|ZI H [] [zHp0,zHp1,zHp2,zHp3,zHh4,zHp5,zHp6,zHp7,zHh8,zHfr9,zHp10] mixed k_e k_e<|fun w1 H=>?_
  obtain ⟨x1,hx1⟩:∃x,(xs)[(i)]?=some x:=⟨_,laa zO⟩
  obtain ⟨b1,o1,E1,F1,ZC⟩:=Z6.YQ hx hx1
  have aon:=ZC.f
  have VH:=ZC.fs
  refine tk (fun _ Z=>ZF E1 rfl rfl rfl zK)<|tk (fun _ Z=>ZK (Z.X9 F1) 0 rfl rfl rfl zK) ?_
  obtain ⟨x2,QY⟩:∃x,(ys)[(i)]?=some x:=⟨_,laa zO⟩
  obtain ⟨b2,o2,E2,F2,XA⟩:=Z6.YQ hy QY
  have aoo:=XA.f
  have ag5:=XA.fs
  refine tk (fun _ Z=>ZF E2 rfl rfl rfl zK)<|tk (fun _ Z=>ZK (Z.X9 F2) 0 rfl rfl rfl zK) ?_
  refine Z8.mk (Fc.imp (Rn.afy H _ _ _ _ _ _ VH ag5) ?_)
  rintro _ w2 ⟨q1,⟨rfl,⟨h1,H⟩⟩⟩
  refine cI (fun c3=>?_) (fun c3=>?_)
  .replace c3:=Tq h1 (SH (c3))
   exact Z5.mk<|⟨⟨false,rfl,nofun,fun h=>absurd (Option.some.inj ((V7 hx1).symm.trans ((congrArg (·[i]?) h).trans (V7 QY)))) zN⟩,H⟩
  replace c3:=h1.1 (SG (c3))
  refine ZU zO ?_
  refine WM.mk (i+1) (Zr rfl zO (ZV)) ?_ ?_
  .refine ⟨zO,?_⟩
   constructor
   .exact NZ he (by rw [V7 hx1,V7 QY];exact congrArg some zN)
   exact H
  omega
 exact Z5.mk<|⟨⟨true,rfl,fun _=>OH zO zO he,fun _=>rfl⟩,H⟩
theorem Kt {cp mp:Nat} {vt vg vp:Value} {ps:List W1} {Zw Zl:zm} (H:Sat g w (Pt cp (zL m [zI mp,vt,vg]) 158::Pt mp [vp,zJ m.most] 221::Sl 223 256 Xi vp ps::Sl 3 1 ZH vt Zw::Sl 2 1 ZH vg Zl::l)) (hp:ps.length<=8) (ht:Zw.length<=100000) (hg:Zl.length<=100000) :
  zn 51 #[zI cp] w (fun r w'=>∃tv gv,r=.agg #[.string (bs (flat ps)),tv,gv]/\Sat g w' (Sl 2 1 ZH gv Zl::Sl 3 1 ZH tv Zw::Pt cp (zL m [zI mp,vt,vg]) 158::Pt mp [vp,zJ m.most] 221::Sl 223 256 Xi vp ps::Sl 3 1 ZH vt Zw::Sl 2 1 ZH vg Zl::l)):=by
 refine Fc.of Tryz.func51 rfl k_e<|ZX H rfl<|fun p1 w1 H=>ZI H [] [zHp0,zHp1,zHp2,zHh3,zHp5,zHp6,zHp7,zHh8,zHp10,zHp11,zHp12,zHh13,zHf4,zHf9,zHfr14,zHp15,zHfr16] mixed k_e k_e<|fun w2 H=>zE rfl rfl<|zF 1 11 zD rfl<|zE rfl rfl<|zF 1 12 zD rfl<|zE rfl rfl<|zF 1 13 zD rfl<|H.Z7 [3,3]<|fun H=>?_
 refine Z8.mk (Fc.imp (Rn.aom H zO) ?_)
 rintro _ w1 ⟨rfl,H⟩
 refine H.Z7 [5,5,3,3,5,5]<|fun H=>Zs.mk (H)<|H.Z7 [4]<|fun H=>?_
 refine Z8.mk (Fc.imp (Rn.ag4 H zO) ?_)
 rintro v' w3 H
 obtain ⟨a8,c8,rfl⟩:=H.form 0 rfl
 refine H.Z7 [6,2,6,6,6,6]<|fun H=>Zs.mk (H.drop 6 (fun H=>H))<|H.Z7 [5]<|fun H=>?_
 refine Z8.mk (Fc.imp (Rn.ac4 H zO) ?_)
 rintro v' w4 H
 obtain ⟨a9,c9,rfl⟩:=H.form 0 rfl
 refine tk (fun _ Z=>Zq rfl rfl rfl zK)<|ZJ H 2 rfl rfl rfl rfl<|fun w5 H=>XF (H.at 2 rfl) 0 rfl rfl rfl<|Z5.mk ?_
 refine ⟨Value.slice a8 Zw.length c8,Value.slice a9 Zl.length c9,?_⟩
 refine ⟨rfl,?_⟩
 exact H.Z7 [1,6,6,6,6,7,6]<|fun H=>H.drop 7<|fun H=>H
end
end Rn
namespace Wk
open Go Y2 Go.RowKit
open YZ Zn X4 YS Valid Rn
inductive Reach (m:YP):MS->zm->Nat->MS->zm->Nat->List Wm->Prop
 | refl {S:MS} {Y7:zm} {n:Nat}:Reach m S Y7 n S Y7 n []
 | free {S S' T:MS} {Y7 YT:zm} {n n':Nat} {l:List Wm}:RO m S S' .free->Reach m S' Y7 n T YT n' l->Reach m S Y7 n T YT n' l
 | on {S S' T:MS} {Y7 YT:zm} {n n':Nat} {l:List Wm}:RO m S S' .on->Reach m S' Y7 n T YT n' l->Reach m S Y7 (n+1) T YT n' l
 | host {S S' T:MS} {Y7 YT:zm} {n n':Nat} {l:List Wm} {f:Int} {vals:zm}:RO m S S' (.host f vals)->Reach m (Uu m S' (Y7.headD 0)) Y7.tail n T YT n' l ->
   Reach m S Y7 (n+1) T YT n' (⟨f,vals⟩::l)
theorem Reach.trans {m:YP} {S T U:MS} {a b c:zm} {n k j:Nat} {l l':List Wm} (h:Reach m S a n T b k l):Reach m T b k U c j l'->Reach m S a n U c j (l++l'):=by
 induction h with
 | refl=>exact fun h=>h
 | free s _ ih=>exact fun h=>.free s (ih h)
 | on s _ ih=>exact fun h=>.on s (ih h)
 | host s _ ih=>exact fun h=>.host s (ih h)
theorem Reach.fuel {m:YP} {S T:MS} {a b:zm} {n k:Nat} {l:List Wm} (h:Reach m S a n T b k l):k<=n:=by
 induction h with
 | refl=>exact lna _
 | free s _ ih=>exact ih
 | on s _ ih=>omega
 | host s _ ih=>omega
theorem Ws.free {m:YP} {S S' T:MS} {Y7:zm} {n:Nat} {o:Vl} {l:List Wm} (s:RO m S S' .free) (h:Ws m S' Y7 n T o l):Ws m S Y7 n T o l:=by
 cases h with
 | host r e k p=>exact .host (.free s r) e k p
 | fin r e=>exact .fin (.free s r) e
theorem Ws.on {m:YP} {S S' T:MS} {Y7:zm} {n:Nat} {o:Vl} {l:List Wm} (s:RO m S S' .on) (h:Ws m S' Y7 n T o l):Ws m S Y7 (n+1) T o l:=by
 cases h with
 | host r e k p=>exact .host (.goes s r) e k p
 | fin r e=>exact .fin (.goes s r) e
theorem Reach.Dg {m:YP} {S S1 T:MS} {Y7 Gv:zm} {n n1:Nat} {o:Vl} {l l1:List Wm} (h:Reach m S Y7 n S1 Gv n1 l):Ws m S1 Gv n1 T o l1->Ws m S Y7 n T o (l++l1):=by
 induction h with
 | refl=>exact fun h=>h
 | free s _ ih=>exact fun h=>Ws.free s (ih h)
 | on s _ ih=>exact fun h=>Ws.on s (ih h)
 | host s _ ih=>exact fun h=>.host (.host s) rfl rfl (ih h)
theorem adC {m:YP} {S S':MS} {Y7:zm} {n:Nat} {vals:zm} (s:RO m S S' (.over vals)):Ws m S Y7 n S' ⟨1,vals,0,0,n⟩ []:=.fin (.over s) zM
theorem adD {m:YP} {S S':MS} {Y7:zm} {n:Nat} {e:Int} (s:RO m S S' (.XW e)):Ws m S Y7 (n+1) S' ⟨2,[],e,0,n⟩ []:=.fin (.XW s) zM
theorem adE {m:YP} {S S':MS} {Y7:zm} {ev:Ev} (s:RO m S S' ev) (h:ev≠.free/\∀v,ev≠.over v):Ws m S Y7 0 S ⟨3,[],0,0,0⟩ []:=.fin (.stop s h) zM
theorem Ws.more {m:YP} {S T:MS} {Y7:zm} {n:Nat} {o:Vl} {l:List Wm} (h:Ws m S Y7 n T o l) (b:Nat):o.e≠3->Ws m S Y7 (n+b) T { o with left:=o.left+b } l:=by
 induction h with
 | @host S S1 T Y7 n k0 o o2 l r e k p ih =>
  intro ho
  have rr:=r.more zO b
  exact Ws.host (o:={ o with left:=o.left+b }) (k:=k0+b) rr e (by grind) (ih ho)
 | fin r e=>exact fun ho=>.fin (r.more ho b) e
theorem Ws.pre {m:YP} {S T:MS} {Y7:zm} {n:Nat} {o:Vl} {l:List Wm} (h:Ws m S Y7 n T o l) (b:Nat):∀{T2:MS} {o2:Vl} {l2:List Wm},Ws m S Y7 (n+b) T2 o2 l2->∃r,l2=l++r:=by
 induction h with
 | @host S S1 T Y7 n k0 o o2 l r e k p ih =>
  intro T2 o3 l2 h2
  have rr:=r.more zO b
  cases h2 with
  | @host _ _ _ _ _ k1 _ _ _ r2 e2 k2 p2 =>
   obtain ⟨rfl,rfl⟩:=rr.Ss r2
   have k3:o.left+(b:Int)=k1:=k2
   obtain rfl:k1=k0+b:=by omega
   obtain ⟨q,rfl⟩:=ih p2
   exact ⟨q,rfl⟩
  | fin r2 e2=>obtain ⟨rfl,rfl⟩:=rr.Ss r2;exact absurd e e2
 | fin r e=>exact fun _=>⟨_,rfl⟩
theorem Ws.Y7 {m:YP} {S T:MS} {Y7:zm} {n:Nat} {o:Vl} {l:List Wm} (h:Ws m S Y7 n T o l):∀{YT:zm},(∀i,i<l.length->YT.getD i 0=Y7.getD i 0)->Ws m S YT n T o l:=by
 induction h with
 | host r e k p ih =>
  intro YT ha
  refine .host r e k ?_
  have h0:=ha 0 zM
  have e0:∀l:zm,l.getD 0 0=l.headD 0:=fun l=>by cases l <;> rfl
  have e1:∀(l:zm) (i:Nat),l.tail.getD i 0=l.getD (i+1) 0:=fun l i=>by cases l <;> simp
  rw [e0,e0] at h0
  rw [h0]
  refine ih fun i hi=>?_
  rw [e1,e1]
  exact ha (i+1) (by grind)
 | fin r e=>exact fun _=>.fin r e
end Wk
namespace Wk
open Go Y2 Go.RowKit
open YZ Zn X4 YS Valid Rn
inductive MH (bd:List ZW):Nat->Nat->Prop
 | stop {k:Nat} {x:ZW}:bd[k]?=some x->(x.op=11\/x.op=5)->MH bd k k
 | one {k j:Nat} {x:ZW}:bd[k]?=some x->(x.op≠2/\x.op≠3/\x.op≠4/\x.op≠5/\x.op≠11)->Zu bd (k+1)=Zu bd k->MH bd (k+1) j->MH bd k j
 | Vy {k e j:Nat} {x y:ZW}:bd[k]?=some x->(x.op=2\/x.op=3\/x.op=4)->MH bd (k+1) e->bd[e]?=some y->y.op=11->Zu bd e=Zu bd (k+1)->Zu bd (e+1)=Zu bd k->MH bd (e+1) j->MH bd k j
 | alt {k s e j:Nat} {x y z:ZW}:bd[k]?=some x->x.op=4->MH bd (k+1) s->bd[s]?=some y->y.op=5->Zu bd s=Zu bd (k+1)->MH bd (s+1) e->bd[e]?=some z->z.op=11->(Zu bd (s+1)).op=(Zu bd (k+1)).op ->
   Zu bd e=Zu bd (s+1)->Zu bd (e+1)=Zu bd k->MH bd (e+1) j->MH bd k j
theorem MH.le {bd:List ZW} {k j:Nat} (h:MH bd k j):k<=j:=by
 induction h with
 | stop=>exact lna _
 | one _ _ _ _ ih=>omega
 | Vy _ _ _ _ _ _ _ _ ih1 ih2=>omega
 | alt _ _ _ _ _ _ _ _ _ _ _ _ _ ih1 ih2 ih3=>omega
theorem afz {l:zm} {a b:Int}:(l++[a]).getD ((l++[b]).length-1) 0=a:=by simp
theorem M1 {l:zm} {a:Int}:(l++[a]).take ((l++[a]).length-1)=l:=by simp
theorem ajo {bd:List ZW} (hc:Yu bd=0):∀(f k:Nat),bd.length<=k+f->k<bd.length->∃j x,MH bd k j/\bd[j]?=some x/\(x.op=11\/x.op=5)/\Zu bd j=Zu bd k:=by
 intro f
 induction f with
 | zero=>intro k h1 h2;omega
 | succ f ih =>
  intro k h1 h2
  have hx:bd[k]?=some bd[k]:=laa h2
  generalize bd[k]=x at hx
  have hs:=KI hc h2
  have hnk:=XQ bd k
  have hpos:=hnk.pos (by rw [hs])
  have hlen:=hnk.len
  generalize (Zu bd k).op=op at *
  generalize (Zu bd k).last=la at *
  obtain ⟨is,hn⟩:=US hc hx
  rw [hs] at hn
  have alX:∀{e:Nat} {y:ZW} {a b:Int},bd[e]?=some y->y.op=11->Zu bd e=⟨op++[a],la++[b],false⟩->Zu bd (e+1)=⟨op,la,false⟩:=fun {e y a b} hy ho he=>by
   obtain ⟨is,hn⟩:=US hc hy
   rw [he] at hn
   rcases Yr hn with ⟨h,_⟩|⟨h,_⟩|⟨_,h,_⟩|⟨h,_⟩
   .omega
   .omega
   .rw [h]
    have e1:(la++[b]).take ((op++[a]).length-1)=la:=by grind
    have e2:decide ((op++[a]).length-1=0)=false:=by grind
    simp only [M1,e1,e2]
   .omega
  have out:∀{e:Nat},Zu bd (e+1)=⟨op,la,false⟩->e<bd.length->k<e->∃j x,MH bd (e+1) j/\bd[j]?=some x/\(x.op=11\/x.op=5)/\Zu bd j=⟨op,la,false⟩:=fun {e} he hl hk=>by
   have:e+1<bd.length:=by
    refine Decidable.by_contra fun hn=>?_
    have e2:e+1=bd.length:=by omega
    have RP:=(Zc hc).2.2
    rw [<-e2,he] at RP;cases RP
   obtain ⟨j,x,a,b,c,d⟩:=ih (e+1) zO this
   exact ⟨j,x,a,b,c,d.trans he⟩
  rcases Yr hn with ⟨ho,e⟩|⟨ho,_⟩|⟨ho,_⟩|⟨ho,e⟩
  .have Qx:k+1<bd.length:=by
    refine Decidable.by_contra fun hn=>?_
    have e2:k+1=bd.length:=by omega
    have RP:=(Zc hc).2.2
    rw [<-e2,e] at RP;cases RP
   obtain ⟨s,y,sg,hy,zX,hst⟩:=ih (k+1) zO Qx
   have Ej:=(lba.1 hy).1
   have hks:=sg.le
   have es:Zu bd s=⟨op++[(k:Int)],la++[x.op],false⟩:=hst.trans e
   rcases zX with Df|Av
   .have e1:=alX hy Df es
    obtain ⟨j,z,Jy,hz,BI,hzs⟩:=out e1 Ej zO
    exact ⟨j,z,.Vy hx ho sg hy Df hst (e1.trans hs.symm) Jy,hz,BI,hzs.trans hs.symm⟩
   .obtain ⟨is2,hn2⟩:=US hc hy
    rw [es] at hn2
    rcases Yr hn2 with ⟨h,_⟩|⟨_,h4,e2,_⟩|⟨h,_⟩|⟨h,_⟩
    .omega
    .have el:(op++[(k:Int)]).length=(la++[x.op]).length:=by grind
     rw [el] at h4 e2
     have HP:x.op=4:=(afz (l:=la) (a:=x.op) (b:=x.op)).symm.trans h4
     have e3:(la++[x.op]).set ((la++[x.op]).length-1) 5=la++[5]:=by simp
     rw [e3] at e2
     have hs1:s+1<bd.length:=by
      refine Decidable.by_contra fun hn=>?_
      have e4:s+1=bd.length:=by omega
      have RP:=(Zc hc).2.2
      rw [<-e4,e2] at RP;cases RP
     obtain ⟨d,z,Jy,hz,BI,hzs⟩:=ih (s+1) zO hs1
     have ed:=hzs.trans e2
     have hdl:=(lba.1 hz).1
     have hsd:=Jy.le
     rcases BI with h11|h5
     .have e5:=alX hz h11 ed
      obtain ⟨j,q,BH,hq,hqo,De⟩:=out e5 hdl zO
      exact ⟨j,q,.alt hx HP sg hy Av hst Jy hz h11 (by rw [e2,e]) hzs (e5.trans hs.symm) BH,hq,hqo,De.trans hs.symm⟩
     .obtain ⟨is3,CC⟩:=US hc hz
      rw [ed] at CC
      rcases Yr CC with ⟨h,_⟩|⟨_,h4',_⟩|⟨h,_⟩|⟨h,_⟩
      .omega
      .grind
      .omega
      .omega
    .omega
    .omega
  .exact ⟨k,x,.stop hx (.inr ho),hx,.inr ho,rfl⟩
  .exact ⟨k,x,.stop hx (.inl ho),hx,.inl ho,rfl⟩
  .have Qx:k+1<bd.length:=by
    refine Decidable.by_contra fun hn=>?_
    have e2:k+1=bd.length:=by omega
    have RP:=(Zc hc).2.2
    rw [<-e2,e] at RP;cases RP
   obtain ⟨j,y,sg,hy,zX,hst⟩:=ih (k+1) zO Qx
   exact ⟨j,y,.one hx ho (e.trans hs.symm) sg,hy,zX,hst.trans (e.trans hs.symm)⟩
end Wk
namespace Wk
open Go Y2 Go.RowKit
open YZ Zn X4 YS Valid Rn
def UM (m:YP) (fn:Int) (k:Nat):List Yl :=
 Vy (Mw (Ze m fn).body) (Ze m fn).body (YB (ZE m) (XP m (Ze m fn)) (Ze m fn).body (UO m (Ze m fn))) (UO m (Ze m fn)).out.length k
section
variable {m:YP} {I:WN} {up:List YU} {fn:Int} {k:Nat} {loc stk v0:zm} {v:Int} {x:ZW}
theorem MG (hT:W8 m ⟨fn,(k:Int),loc,stk⟩) (hx:(Ze m fn).body[k]?=some x) (h11:x.op≠11) :
  Ul m ⟨fn,(k:Int),loc,stk⟩=XY (Mw (Ze m fn).body) (Kh (Ze m fn).body) (UM m fn k) (GD m ⟨fn,(k:Int),loc,stk⟩) k x:=by
 have hl:=(RJ.live hT.ty (by grind) h11).1
 unfold Ul LQ
 simp only [Int.toNat_natCast] at hl ⊢
 rw [V0 hx,TC hl]
 rfl
theorem alY (hx:(Ze m fn).body[k]?=some x) (h:x.op=11) (hk:k+1≠(Ze m fn).body.length):RO m ⟨I,up++[⟨fn,(k:Int),loc,stk⟩],0⟩ ⟨I,up++[⟨fn,(k:Int)+1,loc,stk⟩],0⟩ .free:=by
 refine ⟨up,_,rfl,?_⟩
 unfold WH
 simp only [VC (c:=⟨fn,(k:Int),loc,stk⟩) rfl hx,h,if_true]
 rw [if_neg zO];rfl
theorem ajp (hx:(Ze m fn).body[k]?=some x) (h:x.op=11) (hk:k+1=(Ze m fn).body.length):RO m ⟨I,[⟨fn,(k:Int),loc,stk⟩],0⟩ ⟨I,[],0⟩ (.over stk):=by
 refine ⟨[],_,rfl,?_⟩
 unfold WH
 simp only [VC (c:=⟨fn,(k:Int),loc,stk⟩) rfl hx,h,if_true]
 rw [if_pos zO]
theorem ajq {u:YU} (hx:(Ze m fn).body[k]?=some x) (h:x.op=11) (hk:k+1=(Ze m fn).body.length) :
  RO m ⟨I,up++[u]++[⟨fn,(k:Int),loc,stk⟩],0⟩ ⟨I,up++[{ u with stk:=u.stk++stk }],0⟩ .free:=by
 refine ⟨up++[u],_,rfl,?_⟩
 unfold WH
 simp only [VC (c:=⟨fn,(k:Int),loc,stk⟩) rfl hx,h,if_true]
 rw [if_pos zO,if_neg zM,Rk]
theorem ajr (hT:W8 m ⟨fn,(k:Int),loc,stk⟩) (hx:(Ze m fn).body[k]?=some x) (h:x.op=5) :
  RO m ⟨I,up++[⟨fn,(k:Int),loc,stk⟩],0⟩ ⟨I,up++[VN ⟨fn,(k:Int),loc,stk⟩ (Ya (UM m fn k) 0)],0⟩ .free:=by
 refine ⟨up,_,rfl,?_⟩
 unfold WH
 rw [MG hT hx zO]
 simp only [VC (c:=⟨fn,(k:Int),loc,stk⟩) rfl hx,h]
 unfold XY TE
 simp [h]
theorem alZ (hx:(Ze m fn).body[k]?=some x) (h:x.op=0):RO m ⟨I,up++[⟨fn,(k:Int),loc,stk⟩],0⟩ ⟨I,[],0⟩ (.XW 20):=by
 refine ⟨up,_,rfl,?_⟩
 unfold WH RX
 simp [VC (c:=⟨fn,(k:Int),loc,stk⟩) rfl hx,h]
theorem Gu (hx:(Ze m fn).body[k]?=some x) (h:x.op=1\/x.op=2\/x.op=3):RO m ⟨I,up++[⟨fn,(k:Int),loc,stk⟩],0⟩ ⟨I,up++[⟨fn,(k:Int)+1,loc,stk⟩],0⟩ .on:=by
 refine ⟨up,_,rfl,?_⟩
 unfold WH RX
 simp only [VC (c:=⟨fn,(k:Int),loc,stk⟩) rfl hx]
 rw [if_neg zO,if_neg zO,if_neg zO,if_pos h];rfl
theorem al0 (hx:(Ze m fn).body[k]?=some x) (h:x.op=4) (hv:v≠0):RO m ⟨I,up++[⟨fn,(k:Int),loc,v0++[v]⟩],0⟩ ⟨I,up++[⟨fn,(k:Int)+1,loc,v0⟩],0⟩ .on:=by
 refine ⟨up,_,rfl,?_⟩
 unfold WH RX
 simp only [VC (c:=⟨fn,(k:Int),loc,v0++[v]⟩) rfl hx,h,Wi,hv,if_false]
 simp [Rn.TJ,XT,TB]
theorem al1 (hT:W8 m ⟨fn,(k:Int),loc,v0++[0]⟩) (hx:(Ze m fn).body[k]?=some x) (h:x.op=4) :
  RO m ⟨I,up++[⟨fn,(k:Int),loc,v0++[0]⟩],0⟩ ⟨I,up++[⟨fn,if 0<=gd (Kh (Ze m fn).body) k then gd (Kh (Ze m fn).body) k+1 else gd (Mw (Ze m fn).body) k,loc,v0⟩],0⟩ .on:=by
 refine ⟨up,_,rfl,?_⟩
 have hv:=(RJ.live hT.ty (by simp only [Int.toNat_natCast];exact hx) zO).2.1.len
 simp only [Int.toNat_natCast,List.length_append,List.length_singleton] at hv
 unfold WH RX
 rw [MG hT hx zO]
 simp only [VC (c:=⟨fn,(k:Int),loc,v0++[0]⟩) rfl hx,h,Wi,if_true]
 have e1:(((GD m ⟨fn,(k:Int),loc,v0++[0]⟩ k).2.length:Int)-1).toNat=v0.length:=by grind
 unfold XY TE VN
 simp [h,Rn.TJ,XT,TB,e1]
theorem aop (hT:W8 m ⟨fn,(k:Int),loc,stk⟩) (hx:(Ze m fn).body[k]?=some x) (h:x.op=12) :
  RO m ⟨I,up++[⟨fn,(k:Int),loc,stk⟩],0⟩ ⟨I,up++[VN ⟨fn,(k:Int)+1,loc,stk⟩ (Ya (UM m fn k) x.a)],0⟩ .on:=by
 refine ⟨up,_,rfl,?_⟩
 unfold WH RX
 rw [MG hT hx zO]
 simp only [VC (c:=⟨fn,(k:Int),loc,stk⟩) rfl hx,h]
 unfold XY TE
 simp [h,XT]
theorem al2 (hT:W8 m ⟨fn,(k:Int),loc,stk⟩) (hx:(Ze m fn).body[k]?=some x) (h:x.op=15) :
  RO m ⟨I,up++[⟨fn,(k:Int),loc,stk⟩],0⟩ ⟨I,up++[VN ⟨fn,(k:Int)+1,loc,stk⟩ ((UM m fn k).getD 0 jz)],0⟩ .on:=by
 refine ⟨up,_,rfl,?_⟩
 unfold WH RX
 rw [MG hT hx zO]
 simp only [VC (c:=⟨fn,(k:Int),loc,stk⟩) rfl hx,h]
 unfold XY TE
 simp [h,XT]
theorem ag6 (hx:(Ze m fn).body[k]?=some x) (h:x.op=13):RO m ⟨I,up++[⟨fn,(k:Int),loc,v0++[0]⟩],0⟩ ⟨I,up++[⟨fn,(k:Int)+1,loc,v0⟩],0⟩ .on:=by
 refine ⟨up,_,rfl,?_⟩
 unfold WH RX
 simp only [VC (c:=⟨fn,(k:Int),loc,v0++[0]⟩) rfl hx,h,Wi]
 simp [Rn.TJ,XT,TB]
theorem ag7 (hT:W8 m ⟨fn,(k:Int),loc,v0++[v]⟩) (hx:(Ze m fn).body[k]?=some x) (h:x.op=13) (hv:v≠0) :
  RO m ⟨I,up++[⟨fn,(k:Int),loc,v0++[v]⟩],0⟩ ⟨I,up++[VN ⟨fn,(k:Int)+1,loc,v0⟩ (Ya (UM m fn k) x.a)],0⟩ .on:=by
 refine ⟨up,_,rfl,?_⟩
 unfold WH RX
 rw [MG hT hx zO]
 simp only [VC (c:=⟨fn,(k:Int),loc,v0++[v]⟩) rfl hx,h,Wi,hv]
 unfold XY TE
 simp [h,Rn.TJ,XT,TB]
theorem al3 (hT:W8 m ⟨fn,(k:Int),loc,v0++[v]⟩) (hx:(Ze m fn).body[k]?=some x) (h:x.op=14) :
  RO m ⟨I,up++[⟨fn,(k:Int),loc,v0++[v]⟩],0⟩ ⟨I,up++[VN ⟨fn,(k:Int)+1,loc,v0⟩ (Ya (UM m fn k) (if v % 4294967296<x.to.length then x.to.getD (v % 4294967296).toNat 0 else x.a))],0⟩ .on:=by
 refine ⟨up,_,rfl,?_⟩
 unfold WH RX
 rw [MG hT hx zO]
 simp only [VC (c:=⟨fn,(k:Int),loc,v0++[v]⟩) rfl hx,h,Wi]
 have e:TE (XY (Mw (Ze m fn).body) (Kh (Ze m fn).body) (UM m fn k) (GD m ⟨fn,(k:Int),loc,v0++[v]⟩) k x) (min (v % 4294967296) ((XY (Mw (Ze m fn).body) (Kh (Ze m fn).body) (UM m fn k) (GD m ⟨fn,(k:Int),loc,v0++[v]⟩) k x).length-1)).toNat =
   Ya (UM m fn k) (if v % 4294967296<x.to.length then x.to.getD (v % 4294967296).toNat 0 else x.a):=by
  have h0:0<=v % 4294967296:=by omega
  unfold XY TE
  rw [if_neg zO,if_pos h]
  generalize v % 4294967296=q at *
  obtain ⟨q,rfl⟩:=lra h0
  simp only [List.length_append,List.length_map,List.length_singleton]
  by_cases hq:(q:Int)<x.to.length
  .grind
  .grind
 rw [e]
 simp [Rn.TJ,XT,TB]
end
end Wk
namespace Wk
open Go Y2 Go.RowKit
open YZ Zn X4 YS Valid Rn
section
variable {m:YP} {I:WN} {up:List YU} {fn:Int} {k e s:Nat} {loc stk v0:zm} {v:Int} {x y z:ZW}
abbrev Qe (m:YP) (fn:Int):List ZW:=(Ze m fn).body
theorem Oj (h:(Zu (Qe m fn) e).op=(Zu (Qe m fn) k).op):UM m fn e=UM m fn k:=by grind [UM,Vy]
def QH (m:YP) (fn:Int) (k:Nat):Yl :=
 jmp (Mw (Ze m fn).body) (Ze m fn).body (YB (ZE m) (XP m (Ze m fn)) (Ze m fn).body (UO m (Ze m fn))) (UO m (Ze m fn)).out.length k
theorem ajs (h:(Zu (Qe m fn) (k+1)).op=(Zu (Qe m fn) k).op++[(k:Int)]):UM m fn (k+1)=UM m fn k++[QH m fn k]:=by grind [UM,Vy,QH]
theorem ahN {l:List Yl} {a:Yl}:Ya (l++[a]) 0=a:=by grind [Ya]
theorem al4 {l:List Yl} {a:Yl} {t:Int} (h:0<t) (hl:l≠[]):Ya (l++[a]) t=Ya l (t-1):=by
 have:=lGb.2 hl
 unfold Ya
 rw [lca,lpa,lja,lOa zO,lja,show l.length+1-1-t.toNat=l.length-1-(t-1).toNat by omega]
theorem ag8 {l:List Yl} {t:Int} (h:(l.length:Int)<=t+1):Ya l t=l.getD 0 jz:=by grind [Ya]
theorem MY (hc:Yu (Qe m fn)=0) (hx:(Qe m fn)[k]?=some x) (ho:x.op=2\/x.op=3\/x.op=4) (hk:k<e) (hy:(Qe m fn)[e]?=some y) (h11:y.op=11) (ht:tp (Zu (Qe m fn) e)=k):gd (Mw (Qe m fn)) k=e:=by
 have hlt:=(lba.1 hx).1
 have hle:=(lba.1 hy).1
 rw [(NN hlt).1]
 unfold JJ
 rw [NO (e:=e) hle (by grind) fun e' he' h'=>by
  simp only [Bool.and_eq_true,decide_eq_true_eq] at h'
  have hz:(Qe m fn)[e']?=some (Qe m fn)[e']:=laa he'
  have h3:=h'.1.2
  rw [V0 hz] at h3
  exact abL hc hz hy h3 h11 h'.2 ht h'.1.1 hk]
theorem ajt (hc:Yu (Qe m fn)=0) (hx:(Qe m fn)[k]?=some x) (hk:k<s) (hy:(Qe m fn)[s]?=some y) (h5:y.op=5) (ht:tp (Zu (Qe m fn) s)=k):gd (Kh (Qe m fn)) k=s:=by
 have hlt:=(lba.1 hx).1
 have hle:=(lba.1 hy).1
 rw [(NN hlt).2]
 unfold JI
 rw [NO (e:=s) hle (by grind) fun e' he' h'=>by
  simp only [Bool.and_eq_true,decide_eq_true_eq] at h'
  have hz:(Qe m fn)[e']?=some (Qe m fn)[e']:=laa he'
  have h3:=h'.1.2
  rw [V0 hz] at h3
  exact abM hc hz hy h3 h5 h'.2 ht h'.1.1 hk]
theorem afA {E:Yb} {L Es Ls vals:zm} {bd:List ZW} {t:Xv} (S:Va E L bd t Es Ls) (hx:bd[k]?=some x) (ho:x.op=5) (hT:RJ E L bd t k vals) :
  vals.length=((Ya (Vy Es bd (YB E L bd t) t.out.length k) 0).height+(Ya (Vy Es bd (YB E L bd t) t.out.length k) 0).keep).toNat/\0<=(Ya (Vy Es bd (YB E L bd t) t.out.length k) 0).height/\0<=(Ya (Vy Es bd (YB E L bd t) t.out.length k) 0).keep:=by
 have hlt:=(lba.1 hx).1
 obtain ⟨h1,h2,A2⟩:=(S.at_ (k:=k) zO).step S.hc S.hr S.K hx
 obtain ⟨hl,_,o,p,s,u,P,hL,hv⟩:=hT.live hx zO
 rw [GM ho] at h1
 obtain ⟨m,d1,d2⟩:=Va.goto S hlt (SW P) hL.2
 have hlen:=(S.at_ (k:=k) zO).len
 have hop:p.op=4:=by
  obtain ⟨is,hn⟩:=US S.hc hx
  obtain ⟨m',z',r1,r2,r3⟩:=(S.lk (k:=k) zO).all _ p (SW P)
  rcases Yr hn with ⟨h,_⟩|⟨_,h4,_⟩|⟨h,_⟩|⟨h,_⟩
  .omega
  .have CY:(Zu bd k).op.length-1=o.length:=by rw [<-hlen,P.Zm];simp
   rw [CY,lja,r2] at h4
   rw [<-r3.op];exact h4
  .omega
  .omega
 have hc:(YL (Zy E L bd (ZY t) k)).bad=0:=by
  unfold Ve at h1
  simp only at h1
  split at h1 <;> exact h1
 have hu:=(MU P hc).2 hL
 have hal:Zf p=p.kind:=by grind [Zf]
 have hw0:Ya (Vy Es bd (YB E L bd t) t.out.length k) 0=jmp Es bd (YB E L bd t) t.out.length m:=by
  unfold Ya
  rw [Px,<-hlen,P.Zm,lca,show o.length+[p].length-1-(0:Int).toNat=o.length by simp]
  exact KF d1
 rw [hw0,d2.h,d2.kp,hv.len,lca,P.base,hal,<-hu]
 omega
end
end Wk
namespace Wk
open Go Y2 Go.RowKit
open YZ Zn X4 YS Valid Rn
section
variable {m:YP} {I I':WN} {up:List YU} {fn:Int} {k e s j:Nat} {loc stk v0:zm} {v:Int} {x y z:ZW} {S S' T:MS} {Y7 YT:zm} {n n':Nat} {l lq:List Wm}
structure JF (w:Yl) (stk:zm):Prop where
 h0:0<=w.height
 k0:0<=w.keep
 fit:w.height+w.keep<=stk.length
 le:stk.length<=1000
theorem Tw (hT:W8 m ⟨fn,(k:Int),loc,stk⟩):RJ (ZE m) (XP m (Ze m fn)) (Ze m fn).body (UO m (Ze m fn)) k stk:=by
 have:=hT.ty;simpa only [Int.toNat_natCast] using this
theorem UP (P:UN m) (hT:W8 m ⟨fn,(k:Int),loc,stk⟩):stk.length<=201:=by
 obtain ⟨Es,Ls,Q⟩:=(hT.fr.f P).snd
 exact ac5 Q (fun t ht=>(P.sig t ht).2) (Tw hT)
theorem NH {Es Ls:zm} (Q:Va (ZE m) (XP m (Ze m fn)) (Ze m fn).body (UO m (Ze m fn)) Es Ls) (hT:W8 m ⟨fn,(k:Int),loc,stk⟩) (hx:(Ze m fn).body[k]?=some x) (h11:x.op≠11) :
  Hx (ZE m) (XP m (Ze m fn)) Es Ls (Ze m fn).body (UO m (Ze m fn)) k x=XY (Mw (Ze m fn).body) (Kh (Ze m fn).body) (UM m fn k) (GD m ⟨fn,(k:Int),loc,stk⟩) k x:=by
 have h1:=MG hT hx h11
 have h2:=GC (c:=⟨fn,(k:Int),loc,stk⟩) rfl Q (by rw [VC rfl hx];exact hx)
 rw [VC rfl hx] at h2
 exact h2.trans h1
theorem aoq (P:UN m) (hT:W8 m ⟨fn,(k:Int),loc,stk⟩) (hx:(Ze m fn).body[k]?=some x) (ho:x.op=12):JF (Ya (UM m fn k) x.a) stk:=by
 obtain ⟨Es,Ls,Q⟩:=(hT.fr.f P).snd
 obtain ⟨w,g1,g2⟩:=GL Q hx ho (Tw hT)
 rw [NH Q hT hx zO] at g1
 unfold XY at g1
 rw [if_pos (.inl ho)] at g1
 rw [lwb.1 g1];exact ⟨g2.h0,g2.k0,g2.fit,by have:=UP P hT;omega⟩
theorem aju (P:UN m) (hT:W8 m ⟨fn,(k:Int),loc,stk⟩) (hx:(Ze m fn).body[k]?=some x) (ho:x.op=13):∃v0 v,stk=v0++[v]/\JF (Ya (UM m fn k) x.a) v0:=by
 obtain ⟨Es,Ls,Q⟩:=(hT.fr.f P).snd
 obtain ⟨w,v0,v,g1,e,g2,_⟩:=KE Q hx ho (Tw hT)
 rw [NH Q hT hx zO] at g1
 unfold XY at g1
 rw [if_pos (.inr ho)] at g1
 exact ⟨v0,v,e,by rw [lwb.1 g1];exact ⟨g2.h0,g2.k0,g2.fit,by have:=UP P hT;rw [e] at this;simp at this;omega⟩⟩
theorem al5 (P:UN m) (hT:W8 m ⟨fn,(k:Int),loc,stk⟩) (hx:(Ze m fn).body[k]?=some x) (ho:x.op=14):∃v0 v,stk=v0++[v]/\∀t,t=x.a\/t∈x.to->JF (Ya (UM m fn k) t) v0:=by
 obtain ⟨Es,Ls,Q⟩:=(hT.fr.f P).snd
 obtain ⟨v0,v,e,g1,g2⟩:=IF Q hx ho (Tw hT)
 rw [NH Q hT hx zO] at g2
 unfold XY at g2
 rw [if_neg zO,if_pos ho] at g2
 refine ⟨v0,v,e,fun t ht=>?_⟩
 have:=g2 (Ya (UM m fn k) t) (by
  rcases ht with rfl|ht
  .exact lpb _ (lsa.2 rfl)
  .exact lab0 _ (lWa.2 ⟨t,ht,rfl⟩))
 exact ⟨this.h0,this.k0,this.fit,by have:=UP P hT;rw [e] at this;simp at this;omega⟩
theorem al6 (P:UN m) (hT:W8 m ⟨fn,(k:Int),loc,stk⟩) (hx:(Ze m fn).body[k]?=some x) (ho:x.op=15):Ya (UM m fn k) 13=(UM m fn k).getD 0 jz/\JF (Ya (UM m fn k) 13) stk:=by
 obtain ⟨Es,Ls,Q⟩:=(hT.fr.f P).snd
 obtain ⟨w,g1,g2⟩:=IG Q hx ho (Tw hT)
 rw [NH Q hT hx zO] at g1
 unfold XY at g1
 rw [if_neg zO,if_neg zO,if_pos ho] at g1
 have hl:(UM m fn k).length<=13:=(NP Q.hc (Tw hT).lt).2
 have e:Ya (UM m fn k) 13=(UM m fn k).getD 0 jz:=ag8 zO
 exact ⟨e,by rw [e,lwb.1 g1];exact ⟨g2.h0,g2.k0,g2.fit,by have:=UP P hT;omega⟩⟩
theorem zW (P:UN m) (hT:W8 m ⟨fn,(k:Int),loc,stk⟩) (hx:(Ze m fn).body[k]?=some x):(x.op=12\/x.op=13\/x.op=14->0<=x.a/\x.a<=100)/\(x.op=14->∀t∈x.to,0<=t/\t<=100):=by
 obtain ⟨Es,Ls,Q⟩:=(hT.fr.f P).snd
 have hl:=(NP (Es:=Es) (sh:=YB (ZE m) (XP m (Ze m fn)) (Ze m fn).body (UO m (Ze m fn))) (K0:=(UO m (Ze m fn)).out.length) Q.hc (Tw hT).lt).2
 have h:=aeZ (sh:=YB (ZE m) (XP m (Ze m fn)) (Ze m fn).body (UO m (Ze m fn))) (K0:=(UO m (Ze m fn)).out.length) Q hx
 exact ⟨fun ho=>by have:=h.br ho;omega,fun ho t ht=>by have:=h.tt ho t ht;omega⟩
theorem ME (hT:W8 m ⟨fn,(k:Int),loc,stk⟩) (hx:(Ze m fn).body[k]?=some x) (h11:x.op≠11):(YB (ZE m) (XP m (Ze m fn)) (Ze m fn).body (UO m (Ze m fn)) k).2.length=stk.length :=
 ((Tw hT).live hx h11).2.1.len.symm
theorem aor (hT:W8 m ⟨fn,(k:Int),loc,stk⟩) (hx:(Ze m fn).body[k]?=some x) (ho:x.op=2) (he:gd (Mw (Ze m fn).body) k=e):QH m fn k=⟨e,Yf x.a,stk.length⟩:=by
 unfold QH jmp
 rw [if_neg (show ¬((k:Int)<0) by omega),lia0,V0 hx,if_neg zO,if_neg zO,he,ME hT hx zO,Int.sub_zero]
theorem aos (hT:W8 m ⟨fn,(k:Int),loc,stk⟩) (hx:(Ze m fn).body[k]?=some x) (ho:x.op=3):QH m fn k=⟨k,0,stk.length⟩:=by
 unfold QH jmp
 rw [if_neg (show ¬((k:Int)<0) by omega),lia0,V0 hx,if_pos ho,ME hT hx zO]
theorem aot (hT:W8 m ⟨fn,(k:Int),loc,stk⟩) (hx:(Ze m fn).body[k]?=some x) (ho:x.op=4) (he:gd (Mw (Ze m fn).body) k=e):QH m fn k=⟨e,Yf x.a,stk.length-1⟩:=by
 unfold QH jmp
 rw [if_neg (show ¬((k:Int)<0) by omega),lia0,V0 hx,if_neg zO,if_pos ho,he,ME hT hx zO]
theorem Ix (hc:Yu (Qe m fn)=0) (hx:(Qe m fn)[k]?=some x) (ho:x.op=2\/x.op=3\/x.op=4):(Zu (Qe m fn) (k+1)).op=(Zu (Qe m fn) k).op++[(k:Int)]:=by
 rw [NQ hc hx,if_pos ho]
theorem Gs {st:NS} {o:zm} {a:Int} (h:st.op=o++[a]):tp st=a:=by grind [tp]
theorem afB (hc:Yu (Qe m fn)=0) {a:Nat} (sg:MH (Qe m fn) a j):∀(h:Nat) (z:ZW),a<=h->h<j->(Qe m fn)[h]?=some z->z.op=5->(a:Int)<=tp (Zu (Qe m fn) h):=by
 induction sg with
 | stop=>intro h z h1 h2;omega
 | @one k j x hx ho hs sg ih =>
  intro h z h1 h2 hz h5
  by_cases hk:h=k
  .grind
  .have:=ih h z zO h2 hz h5;omega
 | @Vy k e j x y hx ho sg hy Df hs he Jy ih1 ih2 =>
  intro h z h1 h2 hz h5
  by_cases hk:h=k
  .grind
  by_cases hk:h=e
  .grind
  by_cases hk:h<e
  .have:=ih1 h z zO hk hz h5;omega
  .have:=sg.le
   have:=ih2 h z zO h2 hz h5;omega
 | @alt k s e j x y q hx ho sg hy Av hs Jy hq apa hop PT he BH ih1 ih2 ih3 =>
  intro h z h1 h2 hz h5
  have:=sg.le
  have:=Jy.le
  by_cases hk:h=k
  .grind
  by_cases hk:h=s
  .grind [Gs,Ix]
  by_cases hk:h=e
  .grind
  by_cases hk:h<s
  .have:=ih1 h z zO hk hz h5;omega
  by_cases hk:h<e
  .have:=ih2 h z zO hk hz h5;omega
  .have:=ih3 h z zO h2 hz h5;omega
theorem ajv {E:Yb} {L Es Ls:zm} {t:Xv} (Q:Va E L (Qe m fn) t Es Ls) (hx:(Qe m fn)[k]?=some x) (h4:x.op=4) (sg:MH (Qe m fn) (k+1) e) (he:gd (Mw (Qe m fn)) k=e):gd (Kh (Qe m fn)) k<0:=by
 obtain ⟨e',y',a1,a2,a3,a4,a5,a6⟩:=Q.closed hx (.inr (.inr h4))
 obtain ⟨b1,b2⟩:=Ie Q hx (.inr (.inr h4))
 rw [<-b2]
 rcases a6 with ⟨h,_⟩|⟨h,y2,c1,c2,c3,c4,c5,c6⟩
 .omega
 .have:=afB Q.hc sg h y2 zO zO c4 c5
  omega
theorem abQ (h:∀a∈Y7,XC a):XC (Y7.headD 0)/\∀a∈Y7.tail,XC a:=by
 cases Y7 with
 | nil=>exact ⟨by unfold XC;simp,fun a ha=>by simp at ha⟩
 | cons b r=>exact ⟨h b (lxb ..),fun a ha=>h a (lrb _ ha)⟩
theorem Reach.ty (P:UN m) (h:Reach m S Y7 n T YT n' l):Ty m S->S.host=0->(∀a∈Y7,XC a)->Ty m T/\T.host=0/\(∀a∈YT,XC a)/\(S.calls≠[]->T.calls≠[]):=by
 induction h with
 | refl=>exact fun h1 h2 h3=>⟨h1,h2,h3,id⟩
 | free s _ ih =>
  intro h1 h2 h3
  have A:=UR P h1 h2 s
  obtain ⟨a,b,c,d⟩:=ih A.1 A.2.1 h3
  exact ⟨a,b,c,fun _=>d A.2.2⟩
 | on s _ ih =>
  intro h1 h2 h3
  have A:=UR P h1 h2 s
  obtain ⟨a,b,c,d⟩:=ih A.1 A.2.1 h3
  exact ⟨a,b,c,fun _=>d A.2.2⟩
 | host s _ ih =>
  intro h1 h2 h3
  have A:=UR P h1 h2 s
  obtain ⟨q1,q2⟩:=abQ h3
  obtain ⟨b1,b2,b3,_⟩:=adz P A.1 (by have:=A.2.2.1;have:=A.2.2.2.1;omega) q1
  obtain ⟨a,b,c,d⟩:=ih b1 b2 q2
  exact ⟨a,b,c,fun _=>d b3⟩
theorem Vj {c:YU} (T:Ty m ⟨I,up++[c],0⟩):W8 m c/\WW m up (YW m+c.fn)/\up.length<=39:=by
 have hle:=T.le
 simp only [List.length_append,List.length_singleton] at hle
 rcases T.cs with ⟨_,h2⟩|⟨_,up',c',h2,h3⟩|⟨h2,_⟩
 .simp at h2
 .obtain ⟨rfl,h4⟩:=List.append_inj' h2 rfl
  obtain rfl:=lwb.1 h4
  exact ⟨h3.2,h3.1,by omega⟩
 .simp at h2
theorem ag9 {c:YU}:(TD m I up c x).2≠.free/\∀v,(TD m I up c x).2≠.over v:=by grind [TD]
theorem ahO (hx:(Ze m fn).body[k]?=some x) (h11:x.op≠11) (h5:x.op≠5):∃S' ev,RO m ⟨I,up++[⟨fn,(k:Int),loc,stk⟩],0⟩ S' ev/\ev≠.free/\∀v,ev≠.over v:=by
 refine ⟨(WH m I up ⟨fn,(k:Int),loc,stk⟩).1,(WH m I up ⟨fn,(k:Int),loc,stk⟩).2,⟨up,⟨fn,(k:Int),loc,stk⟩,rfl,rfl⟩,?_⟩
 unfold WH
 simp only [VC (c:=⟨fn,(k:Int),loc,stk⟩) rfl hx,h11,h5,if_false]
 unfold RX
 simp only [VC (c:=⟨fn,(k:Int),loc,stk⟩) rfl hx]
 repeat' split
 all_goals first|exact ag9|simp
theorem aou (hx:(Ze m fn).body[k]?=some x) (ho:18<=x.op) (he:(WG m.most x I loc stk).e=0) :
  RO m ⟨I,up++[⟨fn,(k:Int),loc,stk⟩],0⟩ ⟨(WG m.most x I loc stk).ins,up++[⟨fn,((k+1:Nat):Int),(WG m.most x I loc stk).loc,(WG m.most x I loc stk).stk⟩],0⟩ .on:=by
 refine ⟨up,_,rfl,?_⟩
 unfold WH RX
 simp only [VC (c:=⟨fn,(k:Int),loc,stk⟩) rfl hx]
 rw [if_neg zO,if_neg zO,if_neg zO,if_neg zO,if_neg zO,if_neg zO,if_neg zO,if_neg zO,if_neg zO,if_neg (by simp [he])]
 rfl
theorem al7 (hx:(Ze m fn).body[k]?=some x) (ho:18<=x.op) (he:(WG m.most x I loc stk).e≠0) :
  RO m ⟨I,up++[⟨fn,(k:Int),loc,stk⟩],0⟩ ⟨(WG m.most x I loc stk).ins,[],0⟩ (.XW (WG m.most x I loc stk).e):=by
 refine ⟨up,_,rfl,?_⟩
 unfold WH RX
 simp only [VC (c:=⟨fn,(k:Int),loc,stk⟩) rfl hx]
 rw [if_neg zO,if_neg zO,if_neg zO,if_neg zO,if_neg zO,if_neg zO,if_neg zO,if_neg zO,if_neg zO,if_pos he]
theorem ajw {f er:Int} {s2:zm} (hx:(Ze m fn).body[k]?=some x) (ho:x.op=16\/x.op=17) (hq:Zb m I.Zw x stk=(f,s2,er)):∃S' ev,RO m ⟨I,up++[⟨fn,(k:Int),loc,stk⟩],0⟩ S' ev/\(S',ev) =
  (if er≠0 then ((⟨I,[],0⟩:MS),Ev.XW er) else if YW m<=f/\up.length+1=40 then (⟨I,[],0⟩,.XW 26)
  else if f<YW m then (⟨I,up++[⟨fn,((k+1:Nat):Int),loc,s2.take (s2.length-(YN m f).Za.length)⟩],f+1⟩,.host f (s2.drop (s2.length-(YN m f).Za.length)))
  else (⟨I,up++[⟨fn,((k+1:Nat):Int),loc,s2.take (s2.length-(YN m f).Za.length)⟩]++[⟨f-YW m,0,s2.drop (s2.length-(YN m f).Za.length)++List.replicate (Ze m (f-YW m)).loc.length 0,[]⟩],0⟩,.on)):=by
 refine ⟨(WH m I up ⟨fn,(k:Int),loc,stk⟩).1,(WH m I up ⟨fn,(k:Int),loc,stk⟩).2,⟨up,⟨fn,(k:Int),loc,stk⟩,rfl,rfl⟩,?_⟩
 unfold WH RX
 simp only [VC (c:=⟨fn,(k:Int),loc,stk⟩) rfl hx]
 rw [if_neg zO,if_neg zO,if_neg zO,if_neg zO,if_neg zO,if_neg zO,if_neg zO,if_neg zO,if_pos ho]
 unfold TD XT
 simp only [hq]
 rfl
inductive Out (m:YP) (fn:Int) (bl:List Yl) (j:Nat) (up:List YU) (S:MS) (Y7:zm) (n:Nat):Int->WN->zm->Nat->List Wm->Int->zm->zm->Prop
 | on {I:WN} {YT:zm} {n':Nat} {l:List Wm} {loc stk:zm}:Reach m S Y7 n ⟨I,up++[⟨fn,(j:Int),loc,stk⟩],0⟩ YT n' l->Out m fn bl j up S Y7 n (-1) I YT n' l 0 loc stk
 | way {t:Int} {I:WN} {YT:zm} {n':Nat} {l:List Wm} {loc stk:zm}:0<=t->t<=1000->JF (Ya bl t) stk->Reach m S Y7 n ⟨I,up++[VN ⟨fn,0,loc,stk⟩ (Ya bl t)],0⟩ YT n' l->Out m fn bl j up S Y7 n t I YT n' l 0 loc stk
 | XW {S1 S2:MS} {e:Int} {YT:zm} {n':Nat} {l:List Wm} {loc stk:zm}:Reach m S Y7 n S1 YT (n'+1) l->RO m S1 S2 (.XW e)->Out m fn bl j up S Y7 n (-2) S2.ins YT n' l e loc stk
 | stop {S1 S2:MS} {ev:Ev} {YT:zm} {l:List Wm} {loc stk:zm}:Reach m S Y7 n S1 YT 0 l->RO m S1 S2 ev->(ev≠.free/\∀v,ev≠.over v)->Out m fn bl j up S Y7 n (-2) S1.ins YT 0 l 0 loc stk
variable {bl:List Yl} {tw tr:Int} {Gv:zm} {n1:Nat} {l1:List Wm}
theorem Out.pre (r:Reach m S Y7 n T Gv n1 l1) (h:Out m fn bl j up T Gv n1 tw I YT n' l tr loc stk):Out m fn bl j up S Y7 n tw I YT n' (l1++l) tr loc stk:=by
 cases h with
 | on h=>exact .on (r.trans h)
 | way a b c h=>exact .way a b c (r.trans h)
 | XW h s=>exact .XW (r.trans h) s
 | stop h s e=>exact .stop (r.trans h) s e
theorem Out.fuel (h:Out m fn bl j up S Y7 n tw I YT n' l tr loc stk):n'<=n:=by
 cases h with
 | on h=>exact h.fuel
 | way _ _ _ h=>exact h.fuel
 | XW h s=>have:=h.fuel;omega
 | stop h s e=>omega
theorem Out.to (h:Out m fn bl j up S Y7 n tw I YT n' l tr loc stk):-2<=tw/\tw<=1000/\(tw≠-2->tr=0):=by
 cases h with
 | on h=>omega
 | way a b _ h=>omega
 | XW h s=>omega
 | stop h s e=>omega
theorem Out.Dd (h:Out m fn bl j up S Y7 n (-1) I YT n' l tr loc stk):tr=0/\Reach m S Y7 n ⟨I,up++[⟨fn,(j:Int),loc,stk⟩],0⟩ YT n' l:=by
 cases h with
 | on h=>exact ⟨rfl,h⟩
 | way a b _ h=>omega
theorem Out.off {j':Nat} (h:Out m fn bl j up S Y7 n tw I YT n' l tr loc stk) (ht:tw≠-1):Out m fn bl j' up S Y7 n tw I YT n' l tr loc stk:=by
 cases h with
 | on h=>exact absurd rfl ht
 | way a b c h=>exact .way a b c h
 | XW h s=>exact .XW h s
 | stop h s e=>exact .stop h s e
theorem Out.no {fn':Int} {up':List YU} {Ct:List Yl} {j':Nat} {loc' Y0:zm} (h:Out m fn bl j up S Y7 n (-2) I YT n' l tr loc stk):Out m fn' Ct j' up' S Y7 n (-2) I YT n' l tr loc' Y0:=by
 cases h with
 | way a b _ h=>omega
 | XW h s=>exact .XW h s
 | stop h s e=>exact .stop h s e
theorem Out.wy (h:Out m fn bl j up S Y7 n tw I YT n' l tr loc stk) (ht:0<=tw):tr=0/\JF (Ya bl tw) stk/\Reach m S Y7 n ⟨I,up++[VN ⟨fn,0,loc,stk⟩ (Ya bl tw)],0⟩ YT n' l:=by
 cases h with
 | on h=>omega
 | way a b c h=>exact ⟨rfl,c,h⟩
 | XW h s=>omega
 | stop h s e=>omega
theorem Out.BG {Ct:List Yl} (h:Out m fn bl j up S Y7 n tw I YT n' l tr loc stk) (e:bl=Ct):Out m fn Ct j up S Y7 n tw I YT n' l tr loc stk:=e ▸ h
def HG (stk:zm) (h kp:Int):zm:=stk.take h.toNat++stk.drop (stk.length-kp.toNat)
theorem Out.ups {jw:Yl} {j':Nat} (hne:bl≠[]) (h:Out m fn (bl++[jw]) j up S Y7 n tw I YT n' l tr loc stk) (ht:0<tw):Out m fn bl j' up S Y7 n (tw-1) I YT n' l tr loc stk:=by
 obtain ⟨rfl,a,b⟩:=h.wy zO
 have:=h.to
 rw [al4 ht hne] at a b
 exact .way zO zO a b
theorem Out.here {jw:Yl} (h:Out m fn (bl++[jw]) j up S Y7 n 0 I YT n' l tr loc stk):tr=0/\JF jw stk/\Reach m S Y7 n ⟨I,up++[⟨fn,jw.at_,loc,HG stk jw.height jw.keep⟩],0⟩ YT n' l:=by
 obtain ⟨a,b,c⟩:=h.wy zO
 rw [ahN] at b c
 exact ⟨a,b,c⟩
theorem Reach.fr (h:Reach m S Y7 n T YT n' l) {T':MS} (s:RO m T T' .free):Reach m S Y7 n T' YT n' l:=by
 have:=h.trans (.free s .refl)
 rwa [loa] at this
structure MD (m:YP) (fn:Int) (k e:Nat) (y:ZW):Prop where
 hx:(Ze m fn).body[k]?=some y
 hz:∃z,(Ze m fn).body[e]?=some z/\z.op=11
 he:e+1<(Ze m fn).body.length
 hin:UM m fn (k+1)=UM m fn k++[QH m fn k]
 hne:UM m fn k≠[]
 hge:gd (Mw (Ze m fn).body) k=e
theorem Reach.en {y:ZW} (B:MD m fn k e y) (h:Reach m S Y7 n ⟨I,up++[⟨fn,(e:Int),loc,stk⟩],0⟩ YT n' l):Reach m S Y7 n ⟨I,up++[⟨fn,((e+1:Nat):Int),loc,stk⟩],0⟩ YT n' l:=by
 obtain ⟨z,h1,h2⟩:=B.hz
 exact h.fr (alY h1 h2 (by have:=B.he;omega))
theorem Out.Vy {y:ZW} {jw:Yl} {Gq:Int} {Y0:zm} (B:MD m fn k e y) (Sf:∀{I:WN} {loc stk:zm} {YT:zm} {n':Nat} {l:List Wm},Reach m S Y7 n ⟨I,up++[⟨fn,(j:Int),loc,stk⟩],0⟩ YT n' l->Reach m S Y7 n ⟨I,up++[⟨fn,((e+1:Nat):Int),loc,stk⟩],0⟩ YT n' l)
  (O:Out m fn (UM m fn k++[jw]) j up S Y7 n tw I YT n' l tr loc stk) (h0:tw=0->jw.at_=e) (hc:(tw=0/\Gq=-1/\Y0=HG stk jw.height jw.keep)\/(0<tw/\Gq=tw-1/\Y0=stk)\/(tw<0/\Gq=tw/\Y0=stk)):Out m fn (UM m fn k) (e+1) up S Y7 n Gq I YT n' l tr loc Y0:=by
 have ht:=O.to
 rcases hc with ⟨rfl,rfl,rfl⟩|⟨h,rfl,rfl⟩|⟨h,rfl,rfl⟩
 .obtain ⟨rfl,b,c⟩:=O.here
  rw [h0 rfl] at c
  exact .on (c.en B)
 .exact O.ups B.hne h
 .rcases (show Gq=-1\/Gq=-2 by omega) with rfl|rfl
  .obtain ⟨rfl,c⟩:=O.Dd
   exact .on (Sf c)
  .exact O.no
theorem al8 {y:ZW} (B:MD m fn k e y) (h3:y.op≠3):(QH m fn k).at_=e:=by
 unfold QH jmp
 rw [if_neg (show ¬((k:Int)<0) by omega),lia0,V0 B.hx,if_neg h3]
 exact B.hge
theorem aov (P:UN m) (hT:W8 m ⟨fn,(k:Int),loc,stk⟩) (hx:(Ze m fn).body[k]?=some x) (ho:x.op=4):∃v0 v,stk=v0++[v]:=by
 obtain ⟨Es,Ls,Q⟩:=(hT.fr.f P).snd
 obtain ⟨w,v0,v,_,e,_,_⟩:=GK Q hx ho (Tw hT)
 exact ⟨v0,v,e⟩
theorem Reach.els {y:ZW} (P:UN m) (T:Ty m S) (h0:S.host=0) (ha:∀a∈Y7,XC a) (B:MD m fn k e y) (h3:y.op≠3) (hx:(Ze m fn).body[s]?=some x) (h5:x.op=5) (hb:UM m fn s=UM m fn (k+1))
  (h:Reach m S Y7 n ⟨I,up++[⟨fn,(s:Int),loc,stk⟩],0⟩ YT n' l):Reach m S Y7 n ⟨I,up++[⟨fn,((e+1:Nat):Int),loc,stk⟩],0⟩ YT n' l:=by
 have T':=(h.ty P T h0 ha).1
 have hT:=(Vj T').1
 obtain ⟨Es,Ls,Q⟩:=(hT.fr.f P).snd
 obtain ⟨f1,f2,f3⟩:=afA Q hx h5 (Tw hT)
 rw [ae9 Q (lZa (Tw hT).lt)] at f1 f2 f3
 have hw:Ya (UM m fn s) 0=QH m fn k:=by rw [hb,B.hin,ahN]
 have e1:Ya (Vy (Mw (Ze m fn).body) (Ze m fn).body (YB (ZE m) (XP m (Ze m fn)) (Ze m fn).body (UO m (Ze m fn))) (UO m (Ze m fn)).out.length s) 0=QH m fn k:=hw
 rw [e1] at f1 f2 f3
 have hs:=ajr (I:=I) (up:=up) hT hx h5
 rw [hw] at hs
 have ej:VN ⟨fn,(s:Int),loc,stk⟩ (QH m fn k)=⟨fn,(e:Int),loc,stk⟩:=by grind [VN,al8,QH,List.take_append_drop]
 rw [ej] at hs
 exact (h.fr hs).en B
end
end Wk
namespace Wk
open Go Y2 Go.RowKit
open YZ Zn X4 YS Valid Mem Rn
structure WkX where
 cp:Nat
 mp:Nat
 vt:Value
 vg:Value
 vp:Value
 vq:Value
 ps:List W1
 Zw:zm
 Zl:zm
def Kg (m:Zg) (pw:Nat) (vb va:Value) (I:WN) (n:Nat) (dp tr:Int) (qs:List XH):As:=fun h=>∃x:WkX,(I=⟨flat x.ps,x.Zw,x.Zl⟩/\x.ps.length<=8)/\OO (Pt pw [.pointer (some ⟨x.cp,0,none⟩),vb,va,x.vq,.int .i64 n,.int .i64 dp,.int .i64 tr] 113::Pt x.cp (zL m [.pointer (some ⟨x.mp,0,none⟩),x.vt,x.vg]) 158::Pt x.mp [x.vp,.int .i64 m.most] 221::Sl 223 256 Xi x.vp x.ps::Sl 3 1 ZH x.vt x.Zw::Sl 2 1 ZH x.vg x.Zl::[Sl 47 2 Jz x.vq qs]) h
section
variable {g:ZB} {w:World} {l:List As} {m:Zg} {pw pc cp mp n:Nat} {vb va vt vg vp vq vl vs:Value} {I:WN} {ps:List W1} {Zw Zl loc stk:zm} {dp tr:Int} {qs:List XH}
theorem Ks (H:Sat g w (Kg m pw vb va I n dp tr qs::l)):∃cp mp vt vg vp vq ps Zw Zl,I=⟨flat ps,Zw,Zl⟩/\ps.length<=8/\Sat g w (Pt pw [.pointer (some ⟨cp,0,none⟩),vb,va,vq,.int .i64 n,.int .i64 dp,.int .i64 tr] 113::Pt cp (zL m [.pointer (some ⟨mp,0,none⟩),vt,vg]) 158::Pt mp [vp,.int .i64 m.most] 221::Sl 223 256 Xi vp ps::Sl 3 1 ZH vt Zw::Sl 2 1 ZH vg Zl::Sl 47 2 Jz vq qs::l):=by
 obtain ⟨x,⟨h1,h2⟩,H⟩:=H.aii
 exact ⟨x.cp,x.mp,x.vt,x.vg,x.vp,x.vq,x.ps,x.Zw,x.Zl,h1,h2,H⟩
theorem Jo (hI:I=⟨flat ps,Zw,Zl⟩) (h8:ps.length<=8) (H:Sat g w (Pt pw [.pointer (some ⟨cp,0,none⟩),vb,va,vq,.int .i64 n,.int .i64 dp,.int .i64 tr] 113::Pt cp (zL m [.pointer (some ⟨mp,0,none⟩),vt,vg]) 158::Pt mp [vp,.int .i64 m.most] 221::Sl 223 256 Xi vp ps::Sl 3 1 ZH vt Zw::Sl 2 1 ZH vg Zl::Sl 47 2 Jz vq qs::l)):Sat g w (Kg m pw vb va I n dp tr qs::l) :=
 Sat.ako (f:=fun x:WkX=>Pt pw [.pointer (some ⟨x.cp,0,none⟩),vb,va,x.vq,.int .i64 n,.int .i64 dp,.int .i64 tr] 113::Pt x.cp (zL m [.pointer (some ⟨x.mp,0,none⟩),x.vt,x.vg]) 158::Pt x.mp [x.vp,.int .i64 m.most] 221::Sl 223 256 Xi x.vp x.ps::Sl 3 1 ZH x.vt x.Zw::Sl 2 1 ZH x.vg x.Zl::[Sl 47 2 Jz x.vq qs]) ⟨cp,mp,vt,vg,vp,vq,ps,Zw,Zl⟩ ⟨hI,h8⟩ H
end
end Wk
namespace Wk
open Go Y2 Go.RowKit
open YZ Zn X4 YS Valid Mem Rn
section
variable {g:ZB} {w:World} {l:List As} {m:Zg} {pw pc n:Nat} {vb va vl vs:Value} {I:WN} {loc stk v0:zm} {dp tr v:Int} {qs:List XH}
theorem al9 (H:Sat g w (Kg m pw vb va I n dp tr qs::l)) (hn:n<=1000000) :
  zn 142 #[zI pw] w (fun r w'=>∃n' b,r=.bool b/\((n=0/\n'=0/\b=false)\/(n=n'+1/\b=true))/\Sat g w' (Kg m pw vb va I n' dp tr qs::l)):=by
 refine Fc.of Tryz.func142 rfl k_e ?_
 obtain ⟨cp,mp,vt,vg,vp,vq,ps,Zw,Zl,hI,h8,H⟩:=Ks H
 refine Z9 rfl<|zG H 0 4 zD ?_
 refine cI (fun hb=>?_) (fun hb=>?_)
 .have hb:=ZS hb
  refine Z5.mk ⟨0,false,rfl,.inl ⟨by omega,rfl,rfl⟩,?_⟩
  obtain rfl:n=0:=by omega
  exact Jo hI h8 H
 have hb:=ZR hb
 obtain ⟨n',rfl⟩:∃k,n=k+1:=⟨n-1,by omega⟩
 refine Z9 rfl<|zG H 0 4 zD<|ZU zO<|Z9 rfl<|Yc H 0 rfl rfl rfl rfl<|fun w1 H=>?_
 refine Z5.mk ⟨n',true,rfl,.inr ⟨rfl,rfl⟩,?_⟩
 rw [show ((n'+1:Nat):Int)-1=n' by omega] at H
 exact Jo hI h8 H
theorem Pd (H:Sat g w (Pt pc [zI pw,vl,vs] 204::Sl 2 1 ZH vs stk::l)) (h1:1<=stk.length) (hlen:stk.length<=100000) :
  zn 149 #[zI pc] w (fun r w'=>∃vs' t,r=zJ t/\t=top stk 0/\Sat g w' (Pt pc [zI pw,vl,vs'] 204::Sl 2 1 ZH vs' (low stk 1)::l)):=by
 refine Fc.of Tryz.func149 rfl k_e ?_
 obtain ⟨a,ha,IC,HJ⟩:=EX (s:=stk) zO
 rw [IC]
 refine ZI H [] [zHp0,zHp1,zHp2,zHh3,zHp4,zHp5,zHp6,zHh7,zHp8,zHp9,zHp10,zHh11,zHp12] mixed k_e k_e<|fun w1 H=>zE rfl rfl<|zF 0 2 zD rfl<|zE rfl rfl<|zF 0 2 zD rfl ?_
 obtain ⟨a1,c1,V1⟩:=H.form 1 rfl
 refine tk (fun _ Z=>W3 V1 rfl zK)<|ZU zO ?_
 obtain ⟨b1,o1,E1⟩:=H.YQ 1 rfl ((stk.length)-1) zO
 refine tk (fun _ Z=>ZF E1 zO rfl rfl zK)<|tk (fun _ Z=>zz (Z.el 1 rfl E1 ha) 0 zy zK)<|ZI H [] [zHp0,zHp1,zHp2,zHp3,zHh4,zHp5,zHp6,zHp7,zHh8,zHp9,zHp10,zHp11,zHp12,zHp13,zHfr14] mixed k_e k_e<|fun w2 H=>zE rfl rfl<|zF 0 2 zD rfl<|zE rfl rfl<|zF 0 2 zD rfl<|tk (fun _ Z=>W3 V1 rfl zK)<|ZU zO ?_
 obtain ⟨v1,V2⟩:=H.vw 1 rfl (0) (((stk.length)-1)) zO zO
 refine tk (fun _ Z=>Wl V2 rfl rfl (.inl zK) (.inr ⟨_,by first|rfl|(congr 2;omega)⟩) zK)<|zE rfl rfl<|Yc H 0 rfl rfl rfl (by simp only [Bool.and_true,H.one 1 rfl,Vw.one V2])<|fun w1 H=>Z5.mk ?_
 refine ⟨v1,a,?_⟩
 constructor
 .simp
 refine ⟨zO,?_⟩
 exact H.HQ 1 rfl V2
theorem ama (H:Sat g w (Pt pc [zI pw,vl,vs] 204::Sl 2 1 ZH vs stk::l)) (hl:stk.length<=100000) (h k:Int) (h0:0<=h) (k0:0<=k) (hk:h+k<=stk.length) :
  zn 147 #[zI pc,zJ h,zJ k] w (fun r w'=>∃vs',Sat g w' (Pt pc [zI pw,vl,vs'] 204::Sl 2 1 ZH vs' (HG stk h k)::l)):=by
 refine Fc.of Tryz.func147 rfl k_e ?_
 obtain ⟨kk,rfl⟩:=lra k0
 obtain ⟨hh,rfl⟩:=lra h0
 refine ZI H [] [zHp0,zHp1,zHp2,zHh3,zHp4,zHp5,zHp6,zHh7,zHp8,zHp9,zHp10,zHp11,zHp12] mixed k_e k_e<|fun w1 H=>zE rfl rfl<|zF 0 2 zD rfl<|zE rfl rfl<|zF 0 2 zD rfl ?_
 obtain ⟨a1,c1,V1⟩:=H.form 1 rfl
 refine tk (fun _ Z=>W3 V1 rfl zK)<|ZU zO ?_
 obtain ⟨v1,V2⟩:=H.vw 1 rfl (((stk.length)-(kk))) ((stk).length) zO zO
 refine tk (fun _ Z=>Wl V2 rfl rfl (.inr ⟨_,by first|rfl|(congr 2;omega)⟩) (.inl zK) zK)<|Z9 rfl<|zG H 0 2 zD ?_
 obtain ⟨v2,V3⟩:=H.vw 1 rfl 0 hh zO zO
 exact Wl V3 rfl rfl (.inl ⟨rfl,rfl⟩) (.inr ⟨_,rfl⟩)<|ahs 8 H 1 rfl V3 V2 (fun y _=>rfl) rfl rfl rfl zO zO<|fun v3 w2 H=>Z9 rfl<|Yc H 0 rfl rfl rfl (H.one 1 rfl)<|fun w1 H=>Z5.mk ⟨_,H⟩
theorem Kr (H:Sat g w (Kg m pw vb va I n dp tr qs::Pt pc [zI pw,vl,vs] 204::l)) (er:Int) :
  zn 151 #[zI pc,zJ er] w (fun r w'=>r=zJ (-2)/\Sat g w' (Kg m pw vb va I n dp er qs::Pt pc [zI pw,vl,vs] 204::l)):=by
 refine Fc.of Tryz.func151 rfl k_e ?_
 obtain ⟨cp,mp,vt,vg,vp,vq,ps,Zw,Zl,hI,h8,H⟩:=Ks H
 exact Z9 rfl<|zG H 7 0 zD<|Z9 rfl<|Yc H 0 rfl rfl rfl rfl<|fun w1 H=>Z5.mk ⟨rfl,Jo hI h8 H⟩
theorem EO (H:Sat g w (Pt pc [zI pw,vl,vs] 204::Sl 2 1 ZH vs stk::l)) (tw h k:Int) (ht:-2<=tw/\tw<=1000) (h0:tw=0->0<=h/\0<=k/\h+k<=stk.length/\stk.length<=100000) :
  zn 145 #[zI pc,zJ tw,zJ h,zJ k] w (fun r w'=>∃vs' Gq Y0,r=zJ Gq/\((tw=0/\Gq=-1/\Y0=HG stk h k)\/(0<tw/\Gq=tw-1/\Y0=stk)\/(tw<0/\Gq=tw/\Y0=stk))/\Sat g w' (Pt pc [zI pw,vl,vs'] 204::Sl 2 1 ZH vs' Y0::l)):=by
 refine Fc.of Tryz.func145 rfl k_e ?_
 refine cI (fun hb=>?_) (fun hb=>?_)
 .have hb:=ZS hb
  obtain rfl:tw=0:=hb
  obtain ⟨h0,k0,hk,hl⟩:=h0 rfl
  refine Z8.mk (Fc.imp (Wk.ama H zO _ _ zO zO zO) ?_)
  rintro v' w1 ⟨Zx,H⟩
  exact Z5.mk ⟨_,-1,_,rfl,.inl ⟨rfl,rfl,rfl⟩,H⟩
 have hb:=ZR hb
 refine cI (fun hc=>?_) (fun hc=>?_)
 .have hc:=YE hc
  exact ZU zO<|Z5.mk ⟨_,tw-1,_,rfl,.inr (.inl ⟨hc,rfl,rfl⟩),H⟩
 have hc:=YD hc
 exact Z5.mk ⟨_,tw,_,rfl,.inr (.inr ⟨by omega,rfl,rfl⟩),H⟩
theorem afC (H:Sat g w l) (a:Int) (ha:0<=a/\a<=255):zn 143 #[zJ a] w (fun r w'=>∃q,r=zJ q/\q=Yf a/\Sat g w' l):=by
 refine Fc.of Tryz.func143 rfl k_e<|T4 zO rfl rfl ?_
 refine zq (fun c1=>?_) (fun c1=>?_)
 .refine Z5.mk ?_
  refine ⟨0,?_⟩
  constructor
  .simp
  constructor
  .exact (if_pos zN).symm
  exact H
 refine Z5.mk ?_
 refine ⟨1,?_⟩
 constructor
 .simp
 constructor
 .exact (if_neg zN).symm
 exact H
end
end Wk
namespace Wk
open Go Y2 Go.RowKit
open YZ Zn X4 YS Valid Mem Rn
theorem aha {P:Program} {g:ZB} {w:World} {l:List As} {j p:Nat} {cs:zk} {e:TypeId} (H:Sat g w l) (hj:l[j]?=some (Pt p cs e)):∃g',Ext g g'/\Uq g' p 0 cs/\Sat g' w (l.eraseIdx j):=by
 obtain ⟨g',a,E,h1,h2,h3⟩:=H.acB hj
 exact ⟨g',E,⟨cs.toArray,e,(0,0),h2 _ _ h1,fun i x hx=>by simpa using hx⟩,h3⟩
theorem O8 {G:Prop} {g:ZB} {w:World} {l:List As} {p:Nat} {cs:zk} {e:TypeId} (H:Sat g w l) (j:Nat) (hj:l[j]?=some (Pt p cs e)) (k:∀g',Ext g g'->Uq g' p 0 cs->J9 l j fun l'=>Sat g' w l'->G):G:=by
 obtain ⟨g',E,h1,h2⟩:=aha (P:=Tryz.prog) H hj
 have k:=k g' E h1
 rw [Q6] at k;exact k h2
structure Kn (g:ZB) (va:Value) (Y7:zm) (qs:List XH) (n:Nat):Prop where
 fa:Z6 g ZH WV 1 va Y7
 i64:∀a∈Y7,XC a
 qo:∀a∈qs,Ub g a
 le:qs.length+n<=1000000
theorem Kn.ext {g g':ZB} {va:Value} {Y7:zm} {qs:List XH} {n:Nat} (h:Kn g va Y7 qs n) (E:Ext g g'):Kn g' va Y7 qs n:=⟨h.fa.ext E,h.i64,fun a ha=>(h.qo a ha).ext E,h.le⟩
theorem Kn.LH {g:ZB} {va:Value} {Y7:zm} {qs:List XH} {n n':Nat} (h:Kn g va Y7 qs n) (hn:n'<=n):Kn g va Y7 qs n':=⟨h.fa,h.i64,h.qo,by have:=h.le;omega⟩
inductive Ends (m:YP) (f:Int) (up:List YU) (S:MS) (Y7:zm) (n:Nat):Bool->WN->zm->Nat->List Wm->Int->zm->Prop
 | over {I:WN} {YT:zm} {n':Nat} {l:List Wm} {loc vals:zm} {k:Nat} {x:ZW}:k+1=(Ze m f).body.length->(Ze m f).body[k]?=some x->x.op=11->Reach m S Y7 n ⟨I,up++[⟨f,(k:Int),loc,vals⟩],0⟩ YT n' l->Ends m f up S Y7 n true I YT n' l 0 vals
 | no {I:WN} {YT:zm} {n':Nat} {l:List Wm} {tr:Int} {loc stk:zm}:Out m f [] 0 up S Y7 n (-2) I YT n' l tr loc stk->Ends m f up S Y7 n false I YT n' l tr []
def Dc (m:Zg) (g:ZB) (vb:Value) (n:Nat):Prop :=
 ∀(g1:ZB) (w:World) (l:List As) (pw:Nat) (va vx:Value) (I:WN) (Y7 args:zm) (up:List YU) (f:Int) (qs:List XH),Ext g g1->Sat g1 w (Kg m pw vb va I n up.length 0 qs::Sl 2 1 ZH vx args::l)->Kn g1 va Y7 qs n ->
  Ty m.d ⟨I,up++[⟨f,0,args++List.replicate (Ze m.d f).loc.length 0,[]⟩],0⟩ ->
  zn 49 #[.pointer (some ⟨pw,0,none⟩),.int .i64 f,vx] w (fun r w'=>∃(g2:ZB) (V5 vv:Value) (ov:Bool) (I':WN) (YT:zm) (n':Nat) (lq:List Wm) (tr:Int) (vals:zm) (RN:List XH),r=.tuple #[vv,.bool ov]/\Ext g1 g2 /\
   Ends m.d f up ⟨I,up++[⟨f,0,args++List.replicate (Ze m.d f).loc.length 0,[]⟩],0⟩ Y7 n ov I' YT n' lq tr vals/\RN.map XH.d=qs.map XH.d++lq/\Kn g2 V5 YT RN n'/\Sat g2 w' (Kg m pw vb V5 I' n' up.length tr RN::Sl 2 1 ZH vv vals::l))
theorem Dc.ext {m:Zg} {g g':ZB} {vb:Value} {n:Nat} (h:Dc m g vb n) (E:Ext g g'):Dc m g' vb n:=fun g1 w l pw va vx I Y7 args up f qs E1=>h g1 w l pw va vx I Y7 args up f qs (E.trans E1)
def LG (m:Zg) (g1:ZB) (vb:Value) (d:Nat) (fn:Int) (k j:Nat) (l:List As) (pw pc:Nat) (I:WN) (Y7:zm) (n:Nat) (up:List YU) (loc stk:zm) (qs:List XH) (r:Value) (w':World):Prop :=
 ∃(g2:ZB) (tw:Int) (V5:Value) (I':WN) (YT:zm) (n':Nat) (lq:List Wm) (tr:Int) (loc' Y0:zm) (PU vs':Value) (RN:List XH),r=.int .i64 tw/\Ext g1 g2 /\
  Out m.d fn (UM m.d fn k) j up ⟨I,up++[⟨fn,(k:Int),loc,stk⟩],0⟩ Y7 (n+d) tw I' YT n' lq tr loc' Y0/\RN.map XH.d=qs.map XH.d++lq/\Kn g2 V5 YT RN n'/\Sat g2 w' (Kg m pw vb V5 I' n' (up.length+1:Nat) tr RN::Pt pc [.pointer (some ⟨pw,0,none⟩),PU,vs'] 204::Sl 2 1 ZH PU loc'::Sl 2 1 ZH vs' Y0::l)
theorem Wh {m:Zg} {g1 g2:ZB} {vb:Value} {d:Nat} {fn:Int} {k j:Nat} {l:List As} {pw pc:Nat} {I:WN} {Y7:zm} {n:Nat} {up:List YU} {loc stk:zm} {qs:List XH} {w':World} {tw:Int} {V5:Value} {I':WN} {YT:zm} {n':Nat} {lq:List Wm} {tr:Int} {loc' Y0:zm} {PU vs':Value} {RN:List XH}
  (E:Ext g1 g2) (O:Out m.d fn (UM m.d fn k) j up ⟨I,up++[⟨fn,(k:Int),loc,stk⟩],0⟩ Y7 (n+d) tw I' YT n' lq tr loc' Y0) (hq:RN.map XH.d=qs.map XH.d++lq) (K:Kn g2 V5 YT RN n')
  (H:Sat g2 w' (Kg m pw vb V5 I' n' (up.length+1:Nat) tr RN::Pt pc [.pointer (some ⟨pw,0,none⟩),PU,vs'] 204::Sl 2 1 ZH PU loc'::Sl 2 1 ZH vs' Y0::l)):LG m g1 vb d fn k j l pw pc I Y7 n up loc stk qs (.int .i64 tw) w' :=
 ⟨g2,tw,V5,I',YT,n',lq,tr,loc',Y0,PU,vs',RN,rfl,E,O,hq,K,H⟩
def Su (m:Zg) (g:ZB) (v:Value) (d:Nat) (fn:Int) (k j:Nat):Prop:=∃(fid:FuncId) (cap:zk),v=.func (.func fid) #[] cap.toArray /\
 ∀(g1:ZB) (vb:Value) (N:Nat),Ext g g1->(∀i,i<N->Dc m g1 vb i)->∀(w:World) (l:List As) (pw pc:Nat) (va:Value) (I:WN) (Y7:zm) (n:Nat) (up:List YU) (loc stk:zm) (vl vs:Value) (qs:List XH),n+d<=N ->
  Sat g1 w (Kg m pw vb va I n (up.length+1:Nat) 0 qs::Pt pc [.pointer (some ⟨pw,0,none⟩),vl,vs] 204::Sl 2 1 ZH vl loc::Sl 2 1 ZH vs stk::l)->Kn g1 va Y7 qs (n+d)->Ty m.d ⟨I,up++[⟨fn,(k:Int),loc,stk⟩],0⟩ ->
  zn fid (.pointer (some ⟨pc,0,none⟩)::cap).toArray w (LG m g1 vb d fn k j l pw pc I Y7 n up loc stk qs)
theorem Su.ext {m:Zg} {g g':ZB} {v:Value} {d:Nat} {fn:Int} {k j:Nat} (h:Su m g v d fn k j) (E:Ext g g'):Su m g' v d fn k j:=by
 obtain ⟨fid,cap,h1,h2⟩:=h
 exact ⟨fid,cap,h1,fun g1 vb N E1=>h2 g1 vb N (E.trans E1)⟩
theorem Su.one {m:Zg} {g:ZB} {v:Value} {d:Nat} {fn:Int} {k j:Nat} (h:Su m g v d fn k j):v.oneCell'=true:=by obtain ⟨_,_,rfl,_⟩:=h;rfl
def Jm (v:Value):zk:=[v]
inductive Uk (m:Zg) (g:ZB) (fn:Int):zk->Nat->Nat->Prop
 | nil {k:Nat}:Uk m g fn [] k k
 | cons {v:Value} {r:zk} {k i j:Nat}:Su m g v 0 fn k i->UM m.d fn i=UM m.d fn k->Uk m g fn r i j->Uk m g fn (v::r) k j
theorem Uk.ext {m:Zg} {g g':ZB} {fn:Int} {l:zk} {k j:Nat} (h:Uk m g fn l k j) (E:Ext g g'):Uk m g' fn l k j:=by
 induction h with
 | nil=>exact .nil
 | cons a b _ ih=>exact .cons (a.ext E) b ih
theorem Uk.snoc {m:Zg} {g:ZB} {fn:Int} {l:zk} {k i j:Nat} {v:Value} (h:Uk m g fn l k i) (hv:Su m g v 0 fn i j) (hb:UM m.d fn j=UM m.d fn i):Uk m g fn (l++[v]) k j:=by
 induction h with
 | nil=>exact .cons hv hb .nil
 | cons a b _ ih=>exact .cons a b (ih hv hb)
theorem Uk.one {m:Zg} {g:ZB} {fn:Int} {l:zk} {k j:Nat} (h:Uk m g fn l k j):∀v∈l,v.oneCell'=true:=by
 induction h with
 | nil=>exact fun v hv=>by simp at hv
 | cons a b _ ih=>exact fun v hv=>(List.mem_cons.1 hv).elim (fun e=>e ▸ a.one) (ih v)
theorem LG.imp {m:Zg} {g1:ZB} {vb:Value} {d:Nat} {fn:Int} {k j:Nat} {l:List As} {pw pc:Nat} {I:WN} {Y7:zm} {n:Nat} {up:List YU} {loc stk:zm} {qs:List XH} {r:Value} {w':World} {g0:ZB} (h:LG m g1 vb d fn k j l pw pc I Y7 n up loc stk qs r w') (E:Ext g0 g1):LG m g0 vb d fn k j l pw pc I Y7 n up loc stk qs r w':=by
 obtain ⟨g2,tw,V5,I',YT,n',lq,tr,loc',Y0,PU,vs',RN,h1,h2,h3⟩:=h
 exact ⟨g2,tw,V5,I',YT,n',lq,tr,loc',Y0,PU,vs',RN,h1,E.trans h2,h3⟩
end Wk
end Go.Proofs.YtakpnepblgfknaaGreatDoor
