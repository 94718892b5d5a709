import Derived.Test.YtakpnepblgfknaaGreatDoorC10
set_option maxRecDepth 100000
set_option maxHeartbeats 4000000
set_option linter.unusedVariables false
set_option linter.unusedSimpArgs false
set_option linter.defProp false
namespace Go.Proofs.YtakpnepblgfknaaGreatDoor
theorem YX.yq9{α}{p:α→Bool}{a:α}{l:List α}:(a::l).all p=(p a&&l.all p):=rfl
theorem YX.yq8{α}{p:α→Bool}:[].all p=true:=rfl
def YX.yq6:=@Option.some.inj
def YX.yq5:=@congrArg
theorem YX.yq7 {P:Prop} (h:P:=by simp only [List.length_append,List.length_set,List.length_cons,List.length_nil];omega):P:=h
namespace Rn
open Go YX RowKit
open YQ Zh Yg YO Valid Mem
def Lt (b:Bool) (vc:Value) (cs:List CV):As:=Qq (if b=true then [Sl 79 4 YA vc cs,Wa cs] else [])
section
variable {g:Zw} {w:World} {l:List As} {m:Ze} {pr cp mp:Nat} {vw vc vt vg vp Si vj:Value} {host f e:Int} {cs up:List CV} {Zt Zl s2:yB} {ps:List WC} {c u:CV} {x:ZS} {i b o:Nat} {ws:List XA} {j:XA}
variable {A0 A1 A2 A3 A4 A5:As} {c2:CV} {vv va:Value} {xs:yB}
theorem Ej (H:Sat g w (Wa cs::Sl 2 1 ZF va xs::A0::A1::A2::A3::A4::A5::Sl 79 4 YA vc cs::l)):Sat g w (A0::A1::A2::A3::A4::A5::Lt true vc cs::Sl 2 1 ZF va xs::l):=by
 have H:Sat g w (([Sl 79 4 YA vc cs,Wa cs]:List As)++(Sl 2 1 ZF va xs::A0::A1::A2::A3::A4::A5::l)):=H.Z8 [8] fun H=>H
 have H:Sat g w (Lt true vc cs::Sl 2 1 ZF va xs::A0::A1::A2::A3::A4::A5::l):=H.box
 exact H.Z8 [7,7,7,7,7,7] fun H=>H
theorem ahN (H:Sat g w (A0::A1::A2::A3::A4::A5::Sl 79 4 YA vc (up++[c])::Wa up::Sl 2 1 ZF c.vl c.loc::Sl 2 1 ZF c.vs c.stk::Sl 2 1 ZF va xs::l)):Sat g w (A0::A1::A2::A3::A4::A5::Lt true vc (up++[c])::Sl 2 1 ZF va xs::l):=by
 have H:=H.Z8 [10,8,10,10] fun H=>H
 exact Ej (QA H)
theorem Qf (H:Sat g w (A0::A1::A2::A3::A4::A5::Sl 79 4 YA vc (up++[c])::Wa up::Sl 2 1 ZF c.vl c.loc::Sl 2 1 ZF c.vs c.stk::l)):Sat g w (A0::A1::A2::A3::A4::A5::Lt true vc (up++[c])::Sl 2 1 ZF (.slice none 0 0) []::l):=by
 have H:=H.U9 (en:=ZF) (s:=1) 2 (fun _=>rfl)
 have H:=H.Z8 [8,10,10] fun H=>H
 exact Ej (QA H)
theorem aoM (H:Sat g w (A0::A1::A2::A3::A4::A5::Sl 79 4 YA vc (up++[c]++[c2])::Wa up::Sl 2 1 ZF c.vl c.loc::Sl 2 1 ZF c.vs c.stk::Sl 2 1 ZF c2.vl c2.loc::Sl 2 1 ZF c2.vs c2.stk::l)):Sat g w (A0::A1::A2::A3::A4::A5::Lt true vc (up++[c]++[c2])::Sl 2 1 ZF (.slice none 0 0) []::l):=by
 have H:=H.U9 (en:=ZF) (s:=1) 2 (fun _=>rfl)
 have H:=H.Z8 [8,10,10] fun H=>H
 have H:=(QA H).Z8 [10,10] fun H=>H
 exact Ej (QA H)
theorem ads (H:Sat g w (A0::A1::A2::A3::A4::A5::Lt true vc (up++[c])::l)):Sat g w (A0::A1::A2::A3::A4::A5::Sl 79 4 YA vc (up++[c])::Wa up::Sl 2 1 ZF c.vl c.loc::Sl 2 1 ZF c.vs c.stk::l):=by
 have H:=H.Z8 [6] fun H=>H
 have H:Sat g w (Sl 79 4 YA vc (up++[c])::Wa (up++[c])::A0::A1::A2::A3::A4::A5::l):=H.unbox
 have H:=H.Z8 [1] fun H=>H
 have H:=H8 H
 exact H.Z8 [2,3,9,9,9,9,9,9] fun H=>H
theorem ahO {B0 B1 B2 B3:As} (H:Sat g w (A0::A1::A2::A3::A4::A5::B0::B1::B2::B3::l)):Sat g w (A0::A1::A2::A3::A4::A5::l):=(((H.del 6).del 6).del 6).del 6
theorem Ni (H:Sat g w (A0::A1::A2::A3::A4::A5::l)):Sat g w (A0::A1::A2::A3::A4::A5::Lt false vc cs::Sl 2 1 ZF (.slice none 0 0) []::l):=by
 have H:=H.U9 (en:=ZF) (s:=1) 2 (fun _=>rfl)
 have H:Sat g w (Lt false vc cs::Sl 2 1 ZF (.slice none 0 0) []::A0::A1::A2::A3::A4::A5::l):=H.box (l1:=[])
 exact H.Z8 [7,7,7,7,7,7] fun H=>H
def aoN (q:MS × Ev) (o:Vm) (I:RQ) (cs':List CV) (host':Int):Prop:=q.1.ins=I/\match q.2 with
 | .on=>o=⟨0,[],0,0,0⟩/\cs'.map CV.d=q.1.calls/\host'=q.1.host
 | .WR e=>o=⟨2,[],e,0,0⟩/\host'=0
 | .host f v=>o=⟨4,v,0,f,0⟩/\cs'.map CV.d=q.1.calls/\host'=q.1.host
 | _=>False
theorem Wr {c':CV} {d:Y0} (h:c'.d=d):(up++[c']).map CV.d=up.map CV.d++[d]:=by rw [lRa,<-h];rfl
theorem ahP {l:List XA} {n:Nat} (h:n<l.length):l[n]?=some (Q8 l n):=by
 unfold Q8
 rw [lka,laa h];rfl
theorem VF (c:Ck) (k:Int):(Y7 c k).1.stack.length<=c.stack.length:=by
 unfold Y7 Yt
 repeat' split
 all_goals first|exact lna _|(simp only [List.length_take];omega)|(simp only;split <;> (simp only [List.length_take] at *;omega))|skip
 all_goals (simp only;repeat' split) <;> first|exact lna _|(simp only [List.length_take];omega)
theorem VM (c:Ck) (e:Int):(Yt c e).stack=c.stack:=by unfold Yt;split <;> rfl
theorem Sn (c:Ck) (k:Int):(Xb c k).stack.length<=c.stack.length+1:=by
 unfold Xb;split
 .simp
 .omega
theorem Qz (c:Ck):∀l:yB,(Xd c l).stack.length<=c.stack.length
 | []=>lna _
 | k::r=>lGa (VF _ k) (Qz c r)
theorem NY (c:Ck) {l:yB} (h:l.length<=1):(WK c l).stack.length<=c.stack.length+1:=by
 match l,h with
 | [],_=>exact lBb _
 | [k],_=>exact Sn c k
theorem ahQ (c:Ck):(UC c).stack.length<=c.stack.length:=by unfold UC;simp only [List.length_take];omega
theorem SW (c:Ck) (n:Int):(YN c n).1.stack=c.stack:=by unfold YN;split <;> first|exact VM _ _|rfl
theorem aaS (c:Ck):(YH c).stack.length<=c.stack.length:=by
 unfold YH;split
 .rw [VM];exact VF _ _
 .exact VF _ _
theorem OL (k:Int):∀(l:yB) (s:Ck × Bool),(Xj k l s).1.stack=s.1.stack
 | [],_=>rfl
 | n::r,s=>by rw [Xj,OL k r];exact SW _ _
theorem af5 (c:Ck):(UU c).stack.length<=c.stack.length:=by
 have h:=aaS c
 unfold UU;simp only;split <;> exact h
theorem ahR (c:Ck):(SK c).stack.length<=c.stack.length+1:=by
 have h:=aaS c
 have h2:(if (Ws c).op=4/\(Ws c).kind≠64 then Yt (YH c) 10 else YH c).stack.length<=c.stack.length:=by
  split
  .rw [VM];exact h
  .exact h
 have key:∀(c2:Ck) (k:Int),c2.stack.length<=c.stack.length->(if c2.bad=0 then Xb { c2 with Zj:=c2.Zj.take (c2.Zj.length-1) } k else c2).stack.length<=c.stack.length+1:=fun c2 k h2=>by
  split
  .exact lGa (Sn _ k) (lRb h2)
  .omega
 exact key _ _ h2
theorem af6 {E:X4} {L:yB} (hs:∀t∈E.types,t.out.length<=1) (c:Ck) (x:ZS):(Valid.YT E L c x).stack.length<=c.stack.length+1:=by
 have pp:∀(c:Ck) (k1 k2:Int),(Y7 (Y7 c k1).1 k2).1.stack.length<=c.stack.length:=fun c k1 k2=>lGa (VF _ _) (VF _ _)
 have dd:∀{c':Ck},c'.stack.length<=c.stack.length->(UC c').stack.length<=c.stack.length+1:=fun h=>lGa (ahQ _) (lGa h (lBb _))
 unfold Valid.YT
 split
 .omega
 split
 .unfold Zx
  repeat' split
  .exact dd (lna _)
  .exact lBb _
  .exact lGa (VF _ _) (lBb _)
  .exact lGa (af5 _) (lBb _)
  .exact ahR _
  .refine dd ?_
   unfold Ud
   split
   .exact lGa (VF _ _) (by rw [SW];exact lna _)
   .rw [SW];exact lna _
  .unfold VN
   simp only
   split
   .exact lGa (Sn _ _) (lRb (lGa (pp _ _ _) (by rw [SW];exact lna _)))
   .rw [SW];exact lBb _
  .exact dd (VF _ _)
  .refine dd ?_
   unfold XF
   simp only
   split
   .rw [OL];simp only;rw [SW];exact lna _
   .refine lGa (pp _ _ _) ?_
    split
    .rw [OL];simp only;rw [SW];exact lna _
    .rw [VM,OL];simp only;rw [SW];exact lna _
  .exact lBb _
 split
 .unfold Wm
  split
  .split
   .rw [VM];exact lBb _
   .rename_i t ht
    refine lGa (NY _ (hs t ?_)) (lRb (Qz _ _))
    unfold Xe at ht
    obtain ⟨k,_,hk⟩:=lbb.1 ht
    exact lda hk
  .split
   .rw [VM];exact lBb _
   .simp only
    refine lGa (NY _ ?_) (lRb (lGa (Qz _ _) (VF _ _)))
    exact Vd (P:=fun t:Xv=>t.out.length<=1) hs (lEa _)
 split
 .exact lGa (VF _ _) (lBb _)
 split
 .unfold W6
  simp only
  exact lGa (Sn _ _) (lRb (lGa (VF _ _) (pp _ _ _)))
 split
 .unfold XX
  split
  .split
   .rw [VM];exact lBb _
   .simp only
    have h2:(if x.op≠32 then (Y7 c (L.getD x.a.toNat 0)).1 else c).stack.length<=c.stack.length:=by
     split
     .exact VF _ _
     .exact lna _
    split
    .exact lGa (Sn _ _) (lRb h2)
    .exact lGa h2 (lBb _)
  .split
   .rw [VM];exact lBb _
   .simp only
    split
    .exact Sn _ _
    .refine lGa (VF _ _) ?_
     split
     .exact lBb _
     .rw [VM];exact lBb _
 .unfold WJ
  split
  .rw [VM];exact lBb _
  split
  .rw [VM];exact lBb _
  .refine lGa (NY _ ?_) (lRb (Qz _ _))
   unfold Xa
   repeat' split
   all_goals simp
theorem H7 {E:X4} {L Es Ls:yB} {bd:List ZS} {t:Xv} (S:UO E L bd t Es Ls) (hs:∀t∈E.types,t.out.length<=1):∀k,k<=bd.length->(Zs E L bd (ZU t) k).stack.length<=k
 | 0,_=>lna _
 | k+1,hk=>by
  have hx:bd[k]?=some bd[k]:=laa yY
  rw [QE hx (S.at_ (k:=k) yY).bad]
  exact lGa (af6 hs _ _) (lRb (H7 S hs k yY))
theorem Nh {E:X4} {L Es Ls vals:yB} {bd:List ZS} {k:Nat} {t:Xv} (S:UO E L bd t Es Ls) (hs:∀t∈E.types,t.out.length<=1) (h:Rx E L bd t k vals):vals.length<=201:=by
 have h1:=H7 S hs k (lUa h.lt)
 have h2:=(Zb S.hc).1
 have h3:=h.lt
 obtain ⟨o,p,s,u,P,_,hv⟩:=h.ex
 rw [P.stk] at h1
 rcases hv with ⟨_,hv⟩|⟨_,_,_,hv⟩
 .rw [hv.len];omega
 .rw [hv.len]
  have:=FY p.kind
  simp only [List.length_append] at *;omega
theorem aks {most:Int} {x:ZS} {I:RQ} {loc stk:yB}:(VG most x I loc stk).ins.Zt=I.Zt:=by
 unfold VG
 by_cases h1:x.op=26
 .rw [if_pos h1]
 rw [if_neg h1]
 by_cases h1:x.op=27
 .rw [if_pos h1]
 rw [if_neg h1]
 by_cases h1:x.op=32
 .rw [if_pos h1]
 rw [if_neg h1]
 by_cases h1:x.op=33
 .rw [if_pos h1]
 rw [if_neg h1]
 by_cases h1:x.op=34
 .rw [if_pos h1]
 rw [if_neg h1]
 by_cases h1:x.op=35
 .rw [if_pos h1]
 rw [if_neg h1]
 by_cases h1:x.op=36
 .rw [if_pos h1]
 rw [if_neg h1]
 by_cases h1:x.op=65\/x.op=66
 .rw [if_pos h1]
 rw [if_neg h1]
 by_cases h1:x.op=63
 .rw [if_pos h1]
 rw [if_neg h1]
 by_cases h1:x.op=64
 .rw [if_pos h1];split <;> rfl
 rw [if_neg h1]
 by_cases h1:0<wid x.op
 .rw [if_pos h1];split <;> split <;> rfl
 rw [if_neg h1]
 split <;> rfl
theorem acD {I:RQ} {up:List Y0} {c:Y0} {x:ZS} {md:YR} {f e:Int} {s2:yB} (hq:YS md I.Zt x c.stk=(f,s2,e)):SY md I up c x =
  (if e≠0 then (⟨I,[],0⟩,.WR e) else if YZ md<=f/\up.length+1=40 then (⟨I,[],0⟩,.WR 26)
  else if f<YZ md then (⟨I,up++[{ c with stk:=s2.take (s2.length-(YG md f).Y9.length) }],f+1⟩,.host f (s2.drop (s2.length-(YG md f).Y9.length)))
  else (⟨I,up++[{ c with stk:=s2.take (s2.length-(YG md f).Y9.length) }]++[⟨f-YZ md,0,s2.drop (s2.length-(YG md f).Y9.length)++List.replicate (WW md (f-YZ md)).loc.length 0,[]⟩],0⟩,.on)):=by
 unfold SY
 simp only [hq]
theorem aoO (H:Sat g w (Pt pr [yS cp,vw,vc,yT 0] 148::Pt cp (yV m [yS mp,vt,vg]) 158::Pt mp [vp,yT m.most] 221::Sl 223 256 W8 vp ps::Sl 3 1 ZF vt Zt::Sl 2 1 ZF vg Zl::Sl 79 4 YA vc cs::Wa up::Sl 2 1 ZF c.vl c.loc::Sl 2 1 ZF c.vs c.stk::l)) (hcs:cs=up++[c]) (E:El vc 4 (cs.length-1) b o) (hm:XH g m) (P:Uy m.d) (hT:Fold.Hl g) (hI:Vv m.d ⟨flat ps,Zt,Zl⟩) (hW:Xz m.d (up.map CV.d) (YZ m.d+c.fn)) (Me:RH m.d c.d) (hle:cs.length<=40) (hx:x=YF m.d c.d) (h11:x.op≠11) (h5:x.op≠5) (hop:x.op<=255)
  (hj:Z0 g Nn Ce 3 vj (Uj m.d c.d)):yC 114 #[yS pr,.pointer (some ⟨b,o,none⟩),.agg #[.int .u8 x.op,yT x.a,yT x.b,Si],vj] w (fun r w'=>∃Qi host' Tp ps' WV cs' o vv,r=.agg #[yT o.e,vv,yT o.WR,yT o.host,yT 0]/\aoN (Lx m.d ⟨flat ps,Zt,Zl⟩ (up.map CV.d) c.d) o ⟨flat ps',Zt,WV⟩ cs' host'/\ps'.length<=8/\Sat g w' (Pt pr [yS cp,vw,Qi,yT host'] 148::Pt cp (yV m [yS mp,vt,vg]) 158::Pt mp [Tp,yT m.most] 221::Sl 223 256 W8 Tp ps'::Sl 3 1 ZF vt Zt::Sl 2 1 ZF vg WV::Lt (decide (o.e≠2)) Qi cs'::Sl 2 1 ZF vv o.vals::l)):=by
 have Ez:cs.length-1=up.length:=by rw [hcs];simp
 rw [Ez] at E
 obtain ⟨k,hk,hlt,Kq⟩:=Me.at_
 obtain ⟨Es,Ls,Q⟩:=(Me.fr.f P).snd
 have hty:=Me.ty
 rw [hk,lla] at hty
 have hto:=FT hk Q Kq
 have hF:=Me.fr
 have KW:=(Zb Q.hc).1
 have aoP:∀t∈(ZA m.d).types,t.out.length<=1:=fun t ht=>(P.sig t ht).2
 have hlen:c.stk.length<=10000:=by have:c.stk.length<=201:=Nh Q aoP hty;omega
 have apI:c.at_=k:=hk
 have TQ:0<=c.at_/\c.at_<=1000:=by omega
 rw [<-hx] at Kq hto
 have Bs:up.length<=39:=by have:=hcs ▸ hle;simp only [List.length_append,List.length_singleton] at this;omega
 have Ur:∀v∈c.stk,XS v:=by
  obtain ⟨_,hv,_⟩:=hty.live Kq h11
  exact hv.i64
 have apl:=((hF.f P).a64 x (lda Kq)).1
 have N8:=((Zb Q.hc).2.1 k x hlt Kq).1
 have fin:∀{q:MS × Ev},Lx m.d ⟨flat ps,Zt,Zl⟩ (up.map CV.d) c.d=q->True:=fun _=>trivial
 have Tb:ps.length<=8:=by have:=hI.hi;have:=hI.most;simp only at *;rw [Tq] at *;omega
 have q0:Lx m.d ⟨flat ps,Zt,Zl⟩ (up.map CV.d) c.d=(if x.op=0 then (⟨⟨flat ps,Zt,Zl⟩,[],0⟩,.WR 20)
  else if x.op=1\/x.op=2\/x.op=3 then (⟨⟨flat ps,Zt,Zl⟩,up.map CV.d++[Xr c.d],0⟩,.on)
  else if x.op=4 then (⟨⟨flat ps,Zt,Zl⟩,up.map CV.d++[if top c.stk 0=0 then So (RB (Xr c.d)) (Q8 (Uj m.d c.d) 0) else RB (Xr c.d)],0⟩,.on)
  else if x.op=12\/x.op=15 then (⟨⟨flat ps,Zt,Zl⟩,up.map CV.d++[So (Xr c.d) (Q8 (Uj m.d c.d) 0)],0⟩,.on)
  else if x.op=13 then (⟨⟨flat ps,Zt,Zl⟩,up.map CV.d++[if top c.stk 0=0 then RB (Xr c.d) else So (RB (Xr c.d)) (Q8 (Uj m.d c.d) 0)],0⟩,.on)
  else if x.op=14 then (⟨⟨flat ps,Zt,Zl⟩,up.map CV.d++[So (RB (Xr c.d)) (Q8 (Uj m.d c.d) (min (top c.stk 0 % 4294967296) ((Uj m.d c.d).length-1)).toNat)],0⟩,.on)
  else if x.op=16\/x.op=17 then SY m.d ⟨flat ps,Zt,Zl⟩ (up.map CV.d) (Xr c.d) x
  else if (VG m.most x ⟨flat ps,Zt,Zl⟩ c.loc c.stk).e≠0 then (⟨(VG m.most x ⟨flat ps,Zt,Zl⟩ c.loc c.stk).ins,[],0⟩,.WR (VG m.most x ⟨flat ps,Zt,Zl⟩ c.loc c.stk).e) else (⟨(VG m.most x ⟨flat ps,Zt,Zl⟩ c.loc c.stk).ins,up.map CV.d++[{ Xr c.d with loc:=(VG m.most x ⟨flat ps,Zt,Zl⟩ c.loc c.stk).loc,stk:=(VG m.most x ⟨flat ps,Zt,Zl⟩ c.loc c.stk).stk }],0⟩,.on)):=by
  unfold Lx
  rw [<-hx];rfl
 rw [q0]
 clear q0 fin
 by_cases a0:x.op=0
 .rw [if_pos a0]
  refine Fc.imp (amL H hcs E TQ hlen a0) ?_
  rintro r w' ⟨rfl,H⟩
  exact ⟨vc,0,vp,ps,Zl,[],⟨2,[],20,0,0⟩,_,rfl,⟨rfl,rfl,rfl⟩,Tb,Ni H⟩
 rw [if_neg a0]
 by_cases a1:x.op=1\/x.op=2\/x.op=3
 .rw [if_pos a1]
  refine Fc.imp (amM H hcs E TQ hlen a1) ?_
  rintro r w' ⟨rfl,H⟩
  exact ⟨vc,0,vp,ps,Zl,_,⟨0,[],0,0,0⟩,_,rfl,⟨rfl,rfl,Wr rfl,rfl⟩,Tb,Qf H⟩
 rw [if_neg a1]
 by_cases a4:x.op=4
 .rw [if_pos a4]
  obtain ⟨j,v0,v,g1,g2,g3,g4⟩:=aiK Q Kq a4 hty
  rw [hto] at g1
  have g2:c.stk=v0++[v]:=g2
  have QL:1<=c.stk.length:=by rw [g2];simp
  have Qt:low c.stk 1=v0:=by rw [g2,PR]
  have hj0:(Uj m.d c.d)[0]?=some j:=by rw [g1];rfl
  have hw0:Q8 (Uj m.d c.d) 0=j:=by rw [g1];rfl
  by_cases hz:top c.stk 0=0
  .rw [if_pos hz,hw0]
   refine Fc.imp (aiT H hcs E TQ hlen hj g3.h0 g3.k0 (by rw [g1];simp) QL (.inl ⟨a4,hz⟩) hj0 (by rw [Qt];exact g3.fit)) ?_
   rintro r w' ⟨vs',rfl,H⟩
   exact ⟨vc,0,vp,ps,Zl,_,⟨0,[],0,0,0⟩,_,rfl,⟨rfl,rfl,Wr rfl,rfl⟩,Tb,Qf H⟩
  .rw [if_neg hz]
   refine Fc.imp (aiU H hcs E TQ hlen QL (.inl ⟨a4,hz⟩)) ?_
   rintro r w' ⟨vs',rfl,H⟩
   exact ⟨vc,0,vp,ps,Zl,_,⟨0,[],0,0,0⟩,_,rfl,⟨rfl,rfl,Wr rfl,rfl⟩,Tb,Qf H⟩
 rw [if_neg a4]
 by_cases a12:x.op=12\/x.op=15
 .rw [if_pos a12]
  have:∃j,GQ (ZA m.d) (Xc m.d (WW m.d c.d.fn)) Es Ls (WW m.d c.d.fn).body (QC m.d (WW m.d c.d.fn)) k x=[j]/\FZ (ZA m.d) (Xc m.d (WW m.d c.d.fn)) (WW m.d c.d.fn).body (QC m.d (WW m.d c.d.fn)) j c.stk:=by
   rcases a12 with h|h
   .exact aiJ Q Kq h hty
   .exact afP Q Kq h hty
  obtain ⟨j,g1,g3⟩:=this
  rw [hto] at g1
  have hj0:(Uj m.d c.d)[0]?=some j:=by rw [g1];rfl
  have hw0:Q8 (Uj m.d c.d) 0=j:=by rw [g1];rfl
  rw [hw0]
  refine Fc.imp (akl H hcs E TQ hlen hj g3.h0 g3.k0 (by rw [g1];simp) a12 hj0 g3.fit) ?_
  rintro r w' ⟨vs',rfl,H⟩
  exact ⟨vc,0,vp,ps,Zl,_,⟨0,[],0,0,0⟩,_,rfl,⟨rfl,rfl,Wr rfl,rfl⟩,Tb,Qf H⟩
 rw [if_neg a12]
 by_cases JQ:x.op=13
 .rw [if_pos JQ]
  obtain ⟨j,v0,v,g1,g2,g3,g4⟩:=adh Q Kq JQ hty
  rw [hto] at g1
  have g2:c.stk=v0++[v]:=g2
  have QL:1<=c.stk.length:=by rw [g2];simp
  have Qt:low c.stk 1=v0:=by rw [g2,PR]
  have hj0:(Uj m.d c.d)[0]?=some j:=by rw [g1];rfl
  have hw0:Q8 (Uj m.d c.d) 0=j:=by rw [g1];rfl
  by_cases hz:top c.stk 0=0
  .rw [if_pos hz]
   refine Fc.imp (aiU H hcs E TQ hlen QL (.inr ⟨JQ,hz⟩)) ?_
   rintro r w' ⟨vs',rfl,H⟩
   exact ⟨vc,0,vp,ps,Zl,_,⟨0,[],0,0,0⟩,_,rfl,⟨rfl,rfl,Wr rfl,rfl⟩,Tb,Qf H⟩
  .rw [if_neg hz,hw0]
   refine Fc.imp (aiT H hcs E TQ hlen hj g3.h0 g3.k0 (by rw [g1];simp) QL (.inr ⟨JQ,hz⟩) hj0 (by rw [Qt];exact g3.fit)) ?_
   rintro r w' ⟨vs',rfl,H⟩
   exact ⟨vc,0,vp,ps,Zl,_,⟨0,[],0,0,0⟩,_,rfl,⟨rfl,rfl,Wr rfl,rfl⟩,Tb,Qf H⟩
 rw [if_neg JQ]
 by_cases Jl:x.op=14
 .rw [if_pos Jl]
  obtain ⟨v0,v,g2,g1,g3⟩:=afQ Q Kq Jl hty
  rw [hto] at g1 g3
  have g2:c.stk=v0++[v]:=g2
  have QL:1<=c.stk.length:=by rw [g2];simp
  have Qt:low c.stk 1=v0:=by rw [g2,PR]
  have apm:x.to.length<=16:=by
   refine Decidable.by_contra fun hn=>?_
   unfold Wt at N8
   have hb:Yw x.op≠0:=by rw [Jl];decide
   rw [if_neg hb,if_pos yY] at N8;cases N8
  have hi:(min (top c.stk 0 % 4294967296) ((Uj m.d c.d).length-1)).toNat<(Uj m.d c.d).length:=by omega
  have hwm:=ahP hi
  have g3:=g3 _ (lda hwm)
  refine Fc.imp (akm H hcs E TQ hlen hj g3.h0 g3.k0 yY QL (by rw [g2,Uk];exact Ur v (by rw [g2];simp)) Jl yY hwm (by rw [Qt];exact g3.fit)) ?_
  rintro r w' ⟨vs',rfl,H⟩
  exact ⟨vc,0,vp,ps,Zl,_,⟨0,[],0,0,0⟩,_,rfl,⟨rfl,rfl,Wr rfl,rfl⟩,Tb,Qf H⟩
 rw [if_neg Jl]
 by_cases FQ:x.op=16\/x.op=17
 .rw [if_pos FQ]
  have apJ:(up.map CV.d).length=up.length:=lea _
  obtain ⟨_,t1,t2⟩:=ado P hI (up:=up.map CV.d) yY hW Me (by rw [<-hx];exact FQ)
  rw [<-hx] at t1 t2
  have apK:m.d.types.length=m.types.length:=lea ..
  have Qs:∀n∈Zt,-1<=n/\n<(m.Zy.length:Int)+m.funcs.length:=fun n hn=>by
   have:=hI.Zt n hn
   rw [show m.d.funcs.length=m.funcs.length from lea ..] at this;exact this
  have Pg:Zt.length<=1000:=by have:=hI.tl;have:=P.Zt;simp only at *;omega
  have JS:x.op=17->1<=c.stk.length/\0<=x.a/\x.a<m.types.length:=fun h=>by
   obtain ⟨⟨v0,v,hv⟩,b1,b2⟩:=t1 h
   have hv:c.stk=v0++[v]:=hv
   refine ⟨by rw [hv];simp,b1,by omega⟩
  obtain ⟨f,s2,e,hq⟩:∃f s2 e,YS m.d Zt x c.stk=(f,s2,e):=⟨_,_,_,rfl⟩
  have G6:s2.length<=10000:=by
   have:s2=(YS m.d Zt x c.stk).2.1:=by rw [hq]
   rw [this]
   unfold YS
   repeat' split
   all_goals simp only [Nl];omega
  have t2:(YS m.d Zt x c.stk).2.2=0->0<=(YS m.d Zt x c.stk).1/\(YS m.d Zt x c.stk).1<YZ m.d+m.d.funcs.length/\(YG m.d (YS m.d Zt x c.stk).1).Y9.length<=(YS m.d Zt x c.stk).2.1.length:=t2
  rw [acD (c:=Xr c.d) (I:=⟨flat ps,Zt,Zl⟩) hq]
  rw [hq] at t2
  simp only at t2
  by_cases he:e≠0
  .rw [if_pos he]
   refine Fc.imp (akn H hcs E TQ hlen hm P FQ Qs JS Ur Pg hle hq he) ?_
   rintro r w' ⟨rfl,H⟩
   exact ⟨vc,0,vp,ps,Zl,[],⟨2,[],e,0,0⟩,_,rfl,⟨rfl,rfl,rfl⟩,Tb,Ni H⟩
  .rw [if_neg he]
   obtain rfl:e=0:=Decidable.of_not_not he
   obtain ⟨b1,b2,b3⟩:=t2 rfl
   have hfl:m.d.funcs.length=m.funcs.length:=lea ..
   have hf:0<=f/\f<(m.Zy.length:Int)+m.funcs.length:=⟨b1,by unfold YZ at b2;have:m.d.Zy.length=m.Zy.length:=rfl;omega⟩
   have hni:YZ m.d=m.Zy.length:=rfl
   have Va:cs.length=up.length+1:=by rw [hcs];simp
   by_cases c1:YZ m.d<=f/\(up.map CV.d).length+1=40
   .rw [if_pos c1]
    refine Fc.imp (ako H hcs E TQ hlen hm P FQ Qs JS Ur Pg hle hq hf b3 G6 yY yY) ?_
    rintro r w' ⟨rfl,H⟩
    exact ⟨vc,0,vp,ps,Zl,[],⟨2,[],26,0,0⟩,_,rfl,⟨rfl,rfl,rfl⟩,Tb,Ni H⟩
   rw [if_neg c1]
   by_cases c2:f<YZ m.d
   .rw [if_pos c2]
    refine Fc.imp (akp H hcs E TQ hlen hm P FQ Qs JS Ur Pg hle hq hf b3 G6 yY) ?_
    rintro r w' ⟨vs',vv,rfl,H⟩
    exact ⟨vc,f+1,vp,ps,Zl,_,⟨4,s2.drop (s2.length-(YG m.d f).Y9.length),0,f,0⟩,vv,rfl,⟨rfl,rfl,Wr rfl,rfl⟩,Tb,ahN H⟩
   rw [if_neg c2]
   obtain ⟨kk,F,k1,k2,k3⟩:=ahM (m:=m) (n:=f) yY hf.2
   have hFo:=P.fn F.d (lVa.2 ⟨F,lda k2,rfl⟩)
   obtain ⟨t,_,ht1,G4⟩:=adm P b1 b2
   have h4:(YG m.d f).Y9.length<=4:=by rw [ht1];exact (P.sig t G4).1
   have hlf:F.loc.length=(WW m.d (f-YZ m.d)).loc.length:=by rw [k3];rfl
   refine Fc.imp (akq H hcs E TQ hlen hm P FQ Qs JS Ur Pg hle hq hf b3 G6 kk F k1 k2 hFo.loc h4 yY) ?_
   rintro r w' ⟨Qi,vs',GU,rfl,H⟩
   refine ⟨Qi,0,vp,ps,Zl,_,⟨0,[],0,0,0⟩,_,rfl,⟨rfl,rfl,?_,rfl⟩,Tb,aoM H⟩
   rw [lRa,lRa]
   have e1:(kk:Int)=f-YZ m.d:=by omega
   show up.map CV.d++[_]++[_]=_
   congr 2
   show (⟨(kk:Int),0,_,[]⟩:Y0)=_
   rw [e1,hlf]
 rw [if_neg FQ]
 have Cn:18<=x.op:=by
  have h0:Yw x.op≠0:=fun hz=>by
   unfold Wt at N8
   rw [if_pos hz] at N8;cases N8
  refine Decidable.by_contra fun hn=>h0 ?_
  have hw:¬0<wid x.op:=fun h=>by have:=Q6 h;omega
  have hnm:¬(XM x.op).2.2=true:=fun h=>by have:=Kb h;omega
  unfold Yw
  rw [if_neg yY,if_neg yY,if_neg yY,if_neg yY,if_neg hw,if_neg yY,if_neg yY,if_neg yY,if_neg yY,if_neg hnm]
 obtain ⟨d1,d2⟩:=aiN Q rfl Kq Cn hty hF.loc hI (((hF.f P).a64 x (lda Kq)).2)
 have hmo:ps.length<=m.most/\m.most<=8:=by
  have h1:=hI.hi;have h2:=hI.most
  simp only at h1
  rw [Tq] at h1
  exact ⟨h1,h2⟩
 refine Fc.imp (akr H hcs E TQ hlen d1 hT Cn hop hmo) ?_
 rintro r w' ⟨e,vs',Tp,ps',WV,loc',W0,rfl,hO,hps,H⟩
 have Md:(VG m.most x ⟨flat ps,Zt,Zl⟩ c.loc c.stk).ins=⟨flat ps',Zt,WV⟩:=by
  have h1:=hO.e2;have h2:=hO.e3
  have h3:(VG m.most x ⟨flat ps,Zt,Zl⟩ c.loc c.stk).ins.Zt=Zt:=aks
  cases hd:(VG m.most x ⟨flat ps,Zt,Zl⟩ c.loc c.stk).ins with
  | mk a b cc =>
   rw [hd] at h1 h2 h3
   simp only at h1 h2 h3
   rw [h1,h2,h3]
 by_cases he:e≠0
 .have zi:(VG m.most x ⟨flat ps,Zt,Zl⟩ c.loc c.stk).e≠0:=by rw [<-hO.e1];exact he
  rw [if_pos zi,if_pos he]
  refine ⟨vc,0,Tp,ps',WV,[],⟨2,[],e,0,0⟩,_,rfl,⟨Md,?_,rfl⟩,hps,Ni (ahO H)⟩
  show (⟨2,[],e,0,0⟩:Vm)=_
  rw [hO.e1]
 .have zh:e=0:=Decidable.of_not_not he
  have zi:¬(VG m.most x ⟨flat ps,Zt,Zl⟩ c.loc c.stk).e≠0:=by rw [<-hO.e1];exact he
  rw [if_neg zi,if_neg he]
  refine ⟨vc,0,Tp,ps',WV,_,⟨0,[],0,0,0⟩,_,rfl,⟨Md,rfl,?_,rfl⟩,hps,Qf H⟩
  rw [<-hO.e4,<-hO.e5 zh]
  exact Wr rfl
end
end Rn
namespace Rn
open Go YX RowKit
open YQ Zh Yg YO Valid Mem
structure Ng where
 v:Value
 outs:List Lh
def Lr (x:Ng):yz:=[x.v]
structure QZ (g:Zw) (x:Ng):Prop where
 outs:Z0 g Ey (N5 g) 1 x.v x.outs
structure K6 (m:Ze) (ws:List Ng):Prop where
 len:ws.length=m.funcs.length
 at_:∀(i:Nat) (f:Yx) (y:Ng),m.funcs[i]?=some f->ws[i]?=some y->y.outs.length=f.body.length/\∀(j:Nat) (s:Lh),y.outs[j]?=some s->s.js=Jh m.d f.d j
def Jb (S:MS):Nat:=(S.calls.map fun c=>300-c.at_.toNat).sum
section
variable {m:YR} {S S' S0:MS} {n n0:Nat} {up:List Y0} {d d' u u':Y0} {I:RQ} {q:MS × Ev}
theorem Mc (hS:S.calls=up++[d]) (h:UK m S.ins up d=q):Ia m S q.1 q.2:=⟨up,d,hS,h.symm⟩
theorem ad1 (h:(YF m d).op=11) (h2:d.at_+1=(WW m d.fn).body.length):UK m I [] d=(⟨I,[],0⟩,.over d.stk):=by grind [UK]
theorem acE (h:(YF m d).op=11) (h2:d.at_+1=(WW m d.fn).body.length):UK m I (up++[u]) d=(⟨I,up++[{ u with stk:=u.stk++d.stk }],0⟩,.free):=by
 have:addTop (up++[u]) d.stk=up++[{ u with stk:=u.stk++d.stk }]:=by grind [addTop]
 unfold UK;simp only [h,h2,if_true,this];rw [if_neg yW]
theorem step_end (h:(YF m d).op=11) (h2:¬d.at_+1=(WW m d.fn).body.length):UK m I up d=(⟨I,up++[Xr d],0⟩,.free):=by grind [UK]
theorem UF (h:(YF m d).op=5):UK m I up d=(⟨I,up++[So d (Q8 (Uj m d) 0)],0⟩,.free):=by grind [UK]
theorem af7 (h:(YF m d).op≠11) (h2:(YF m d).op≠5):UK m I up d=Lx m I up d:=by grind [UK]
theorem Mb (P:Uy m) (T:Ty m S) (h0:S.host=0) (hR:∀T o,Tk m S n T o->Tk m S0 n0 T o) (hs:Ia m S S' .free):Ty m S'/\S'.host=0/\S'.calls≠[]/\∀T o,Tk m S' n T o->Tk m S0 n0 T o :=
 have A:=Vs P T h0 hs
 ⟨A.1,A.2.1,A.2.2,fun T o h=>hR T o (.free hs h)⟩
theorem akt (P:Uy m) (T:Ty m S) (h0:S.host=0) (hR:∀T o,Tk m S (n+1) T o->Tk m S0 n0 T o) (hs:Ia m S S' .on):Ty m S'/\S'.host=0/\S'.calls≠[]/\∀T o,Tk m S' n T o->Tk m S0 n0 T o :=
 have A:=Vs P T h0 hs
 ⟨A.1,A.2.1,A.2.2,fun T o h=>hR T o (.goes hs h)⟩
theorem Ma (P:Uy m) {n:Int} (W:T7 m d n):d.stk.length<=201:=by
 obtain ⟨Es,Ls,Q⟩:=(W.fr.f P).snd
 have T:=Rx.Mo (Q.at_ (k:=d.at_.toNat) (lUa W.lt)) Q.hc W.lt W.live (KV.F6 _)
 have h:=Nh Q (fun t ht=>(P.sig t ht).2) T
 rw [lga] at h
 obtain ⟨r,e,hv⟩:=W.stk
 have h2:=hv.len
 have h3:=yq5 List.length e
 rw [lca] at h3
 have h4:(IZ m d d.at_.toNat).2.length<=201:=h
 omega
theorem abX (h:S.calls=up++[d]) (h':S'.calls=up++[d']) (hl:d.at_.toNat<d'.at_.toNat) (h2:d.at_.toNat<300):Jb S'<Jb S:=by grind [Jb]
theorem af8 (h:S.calls=up++[u]++[d]) (h':S'.calls=up++[u']) (e:u'.at_=u.at_) (h2:d.at_.toNat<300):Jb S'<Jb S:=by grind [Jb]
theorem IJ {l:List Y0} {k:Nat} (h:l.length<=k):(l.map fun c=>300-c.at_.toNat).sum<=300 * k:=by
 induction l generalizing k with
 | nil=>simp
 | cons a l ih =>
  simp only [List.length_cons] at h
  have:=ih (k:=k-1) yY
  simp only [List.map_cons,List.sum_cons];omega
def Ja (e:Ev):Prop:=e≠.free/\∀v,e≠.over v
theorem Nf {e:Int}:Ja (.WR e):=⟨by simp,by simp⟩
theorem L9:Ja .on:=⟨by simp,by simp⟩
theorem ahS {f:Int} {v:yB}:Ja (.host f v):=⟨by simp,by simp⟩
theorem To {c:Prop} [Decidable c] {x y:MS × Ev} (h1:Ja x.2) (h2:Ja y.2):Ja (if c then x else y).2:=by grind
theorem af9 (m:YR) (I:RQ) (up:List Y0) (d:Y0) (x:ZS):Ja (SY m I up d x).2 :=
 To Nf (To Nf (To ahS L9))
theorem ahT (m:YR) (I:RQ) (up:List Y0) (d:Y0):Ja (Lx m I up d).2 :=
 To Nf (To L9 (To L9 (To L9 (To L9 (To L9 (To (af9 ..) (To Nf L9)))))))
theorem ahU (h:S.calls.length<=40):Jb S<=12000:=IJ h
end
section
variable {g:Zw} {w:World} {l:List As} {m:Ze} {pr cp mp:Nat} {vw vc vt vg vp Si vj:Value} {host f e:Int} {cs up:List CV} {Zt Zl s2:yB} {ps:List WC} {c u:CV} {x:ZS} {i b o:Nat} {ws:List XA} {j:XA}
variable {S S0:MS} {n n0:Nat} {p1:Nat} {GM:List Ng}
def aoQ (g:Zw) (m:Ze) (pr cp mp:Nat) (vw vt vg:Value) (Zt:yB) (p1:Nat) (l:List As) (S0:MS) (n0:Nat) (y:MS × Nat) (w:World):Prop :=
 ∃vc vp ps Zl cs,(∀T o,Tk m.d y.1 y.2 T o->Tk m.d S0 n0 T o)/\Ty m.d y.1/\y.1.host=0/\y.1.calls≠[]/\cs.map CV.d=y.1.calls/\y.1.ins=⟨flat ps,Zt,Zl⟩/\y.2<=n0/\Sat g w (Pt pr [.pointer (some ⟨cp,0,none⟩),vw,vc,.int .i64 0] 148::Pt cp (yV m [.pointer (some ⟨mp,0,none⟩),vt,vg]) 158::Pt mp [vp,.int .i64 m.most] 221::Sl 223 256 W8 vp ps::Sl 3 1 ZF vt Zt::Sl 2 1 ZF vg Zl::Lt true vc cs::Pt p1 [.int .i64 0,.slice none 0 0,.int .i64 0,.int .i64 0,.int .i64 0] 41::l)
theorem FK {A0 A1 A2 A3 A4 A5:As} (H:Sat g w (A0::A1::A2::A3::A4::A5::Sl 79 4 YA vc (up++[c])::Wa up::Sl 2 1 ZF c.vl c.loc::Sl 2 1 ZF c.vs c.stk::l)):Sat g w (A0::A1::A2::A3::A4::A5::Lt true vc (up++[c])::l):=(Qf H).del 7
theorem adt {d:Y0} {dr:List Y0} (h:cs.map CV.d=dr++[d]):∃up c,cs=up++[c]/\up.map CV.d=dr/\c.d=d:=by
 rcases ldb cs with rfl|⟨up,c,rfl⟩
 .simp at h
 .rw [lCb,lRa] at h
  obtain ⟨h1,h2⟩:=lHb h rfl
  exact ⟨up,c,lCb ..,h1,lwb.1 h2⟩
theorem aga {E:X4} {L Es Ls:yB} {bd:List ZS} {t:Xv} {k:Nat} {x:ZS} (S:UO E L bd t Es Ls) (hx:bd[k]?=some x) (ho:x.op=5) (hl:(Yi E L bd t k).1=false):∃w,GQ E L Es Ls bd t k x=[w]/\(k:Int)<w.at_/\w.at_<200:=by
 have hlt:=(lba.1 hx).1
 have hlen:=(S.at_ (k:=k) yY).len
 obtain ⟨is,hn⟩:=SX S.hc hx
 have hp:=(XL bd k).pos (W3 S.hc hlt)
 have h4:(Zk bd k).last.getD ((Zk bd k).op.length-1) 0=4:=by
  rcases XT hn with ⟨h,_⟩|⟨_,h4,_⟩|⟨h,_⟩|⟨h,_⟩
  .omega
  .omega
  .omega
  .omega
 have N1:(Zk bd k).op[(Zk bd k).op.length-1]?=some (tp (Zk bd k)):=by grind [tp]
 obtain ⟨o,p,s,u,P⟩:=(S.at_ (k:=k) yY).sx ((S.at_ (k:=k) yY).ne S.hc hlt)
 have LR:(Zk bd k).op.length=o.length+1:=by rw [<-hlen,P.Zj];simp
 refine ⟨Wb (TX Es bd (Yi E L bd t) t.out.length k) 0,?_,?_⟩
 .show JP _ _ _ _ _ _ _=_
  rw [Ts hl];unfold WM;rw [if_neg yY,if_neg yY,if_neg yY,if_pos ho]
 .have hw0:Wb (TX Es bd (Yi E L bd t) t.out.length k) 0=jmp Es bd (Yi E L bd t) t.out.length (tp (Zk bd k)):=by
   unfold Wb
   rw [OX,show (Zk bd k).op.length-1-(0:Int).toNat=(Zk bd k).op.length-1 by simp]
   exact Kc N1
  rw [hw0]
  rcases Kf S.hc (lUa hlt) (Mk S.hc hlt) with h|⟨i,h,hik,AE⟩
  ·
   exfalso
   rw [h] at N1
   have hj0:=Ro (Ml S.hc (lUa hlt)) N1 (PS S.hc hlt).1
   rw [hj0,lka,(PS S.hc hlt).2] at h4
   cases h4
  .have Aw:bd[i]?=some bd[i]:=laa yY
   unfold Zj at AE
   rw [TB Aw] at AE
   obtain ⟨e,y,c1,c2,c3,c4,c5,c6⟩:=S.closed Aw AE
   have hel:=(lba.1 c3).1
   have KW:=(Zb S.hc).1
   obtain ⟨m',z',r1,r2,r3⟩:=(S.lk (k:=k) yY).all _ p (RP P)
   have apL:p.op=4:=by
    rw [LR,lcb,lka,r2] at h4
    rw [<-r3.op];exact h4
   rw [LR,lcb] at N1
   rw [r1] at N1
   obtain rfl:=yq6 N1
   obtain ⟨_,x',k1,k2,_,k5,_⟩:=r3.at_ i h
   have IA:bd[i].op=4:=by grind
   rw [h]
   unfold jmp
   rw [if_neg yY,lla,T5 Aw,if_neg yY]
   simp only [c1]
   rcases c6 with ⟨n1,n2⟩|⟨hh,y2,n1,n2,n3,n4,n5,n6⟩
   .exfalso
    obtain ⟨op,last,M⟩:=S.zG
    have hg:gd Ls k=i:=by rw [M.h k hlt (by grind [TB])];exact h
    have e1:=(Hr S Aw (.inr (.inr IA))).2
    rw [n1,(Ke (show i<bd.length by omega)).2] at e1
    unfold Ji at e1
    cases hf:(List.range bd.length).find? (fun e=>decide (i<e) && decide ((bd.getD e Fg).op=5) && decide (tp (Zk bd e)=i)) with
    | none =>
     have:=List.find?_eq_none.1 hf k (List.mem_range.2 hlt)
     rw [T5 hx] at this
     exact this (by grind)
    | some q=>rw [hf] at e1;simp only at e1;omega
   .have:hh=k:=abT S.hc n4 hx n5 ho n6 h n2 hik
    omega
theorem H6 (h0:0<=f) (h1:f<m.d.funcs.length):∃F:Yx,m.funcs[f.toNat]?=some F/\WW m.d f=F.d:=by
 have hl:m.d.funcs.length=m.funcs.length:=lea ..
 have hi:f.toNat<m.funcs.length:=by omega
 refine ⟨m.funcs[f.toNat],laa hi,?_⟩
 unfold WW
 show (m.funcs.map Yx.d).getD _ _=_
 rw [lka,lCa,laa hi];rfl
theorem aoR (H:Sat g w (Pt pr [yS cp,vw,vc,yT 0] 148::Pt cp (yV m [yS mp,vt,vg]) 158::Pt mp [vp,yT m.most] 221::Sl 223 256 W8 vp ps::Sl 3 1 ZF vt Zt::Sl 2 1 ZF vg Zl::Lt true vc cs::l)) (hm:XH g m) (P:Uy m.d) (hT:Fold.Hl g) (hw:Z0 g Lr (QZ g) 1 vw GM) (hW:K6 m GM) (T:Ty m.d S0) (h0:S0.host=0) (hc:S0.calls≠[]) (amO:cs.map CV.d=S0.calls) (hI:S0.ins=⟨flat ps,Zt,Zl⟩) (hn:n0<=100000) :
  yC 73 #[yS pr,yT n0] w (fun r w'=>∃Qi host' Tp ps' WV cs' o vv S',r=.agg #[yT o.e,vv,yT o.WR,yT o.host,yT o.left]/\Tk m.d S0 n0 S' o/\S'.ins=⟨flat ps',Zt,WV⟩/\ps'.length<=8/\(o.e≠2->cs'.map CV.d=S'.calls)/\host'=S'.host/\Sat g w' (Pt pr [yS cp,vw,Qi,yT host'] 148::Pt cp (yV m [yS mp,vt,vg]) 158::Pt mp [Tp,yT m.most] 221::Sl 223 256 W8 Tp ps'::Sl 3 1 ZF vt Zt::Sl 2 1 ZF vg WV::Lt (decide (o.e≠2)) Qi cs'::Sl 2 1 ZF vv o.vals::l)):=by
 refine Fc.of Tryz.func73 rfl k_d ?_
 have ZT:=hm.funcs
 refine ZV H rfl<|fun p1 w1 H=>?_
 refine Zd.rule (α:=MS × Nat) (S0,n0) (fun y=>[(1,yT y.2)]) (aoQ g m pr cp mp vw vt vg Zt p1 l S0 n0) (fun y=>y.2 * 20000+Jb y.1) ?_ ?_ ?_
 .exact ZR rfl ZY
 .refine ⟨vc,vp,ps,Zl,cs,fun T o h=>h,T,h0,hc,amO,hI,lna _,?_⟩
  exact H.Z8 [0,7,7,7,7,7,7,7]<|fun H=>H
 clear H amO hI
 rintro ⟨S,n⟩ f_ w_ ⟨vc,vp,ps,Zl,cs,hR,Me,hh,hne,R4,Md,hle,H⟩
 simp only at hR Me hh hne R4 Md hle ⊢
 obtain ⟨dr,d,hS⟩:∃dr d,S.calls=dr++[d]:=by
  rcases ldb S.calls with h|⟨dr,d,h⟩
  .grind
  .grind
 obtain ⟨up,c,hcs,rfl,rfl⟩:=adt (R4.trans hS)
 rw [hcs] at H
 replace H:=ads H
 rw [<-hcs] at H
 have Av:=Me.ins
 rw [Md] at Av
 have HZ:Xz m.d (up.map CV.d) (YZ m.d+c.fn)/\RH m.d c.d:=by
  rcases Me.cs with ⟨_,h2⟩|⟨_,up',c',h2,h3⟩|⟨h2,_⟩
  .grind
  .obtain ⟨rfl,h4⟩:=lHb (hS.symm.trans h2) rfl
   obtain rfl:=lwb.1 h4
   exact h3
  .omega
 obtain ⟨zg,HZ⟩:=HZ
 have hF:=HZ.fr
 obtain ⟨Fv,FJ,B6⟩:=H6 (m:=m) (f:=c.fn) hF.f0 hF.f1
 obtain ⟨k,hk,hlt,Kq⟩:=HZ.at_
 obtain ⟨Es,Ls,Q⟩:=(hF.f P).snd
 have hk:c.at_=k:=hk
 have KW:(WW m.d c.d.fn).body.length=Fv.body.length:=by
  have:c.d.fn=c.fn:=rfl
  rw [this,B6];exact lea _
 have hbd:(WW m.d c.d.fn).body=Fv.body.map Y5.d:=by
  have:c.d.fn=c.fn:=rfl
  rw [this,B6];rfl
 have hxv:(Fv.body.map Y5.d)[k]?=some (YF m.d c.d):=by grind
 rw [lCa] at hxv
 obtain ⟨X,hX,hXd⟩:=lbc.1 hxv
 have hX:Fv.body[c.at_.toNat]?=some X:=by grind
 have hfl:m.d.funcs.length=m.funcs.length:=lea ..
 have AB:=hF.f0
 have I0:=hF.f1
 have hcf:c.d.fn=c.fn:=rfl
 rw [hcf] at AB I0
 have hnf:=P.nf
 have apn:=(Zb Q.hc).1
 have Mn:c.stk.length<=201:=Nh Q (fun t ht=>(P.sig t ht).2) (by have:=HZ.ty;rw [show c.d.at_.toNat=k by show c.at_.toNat=k;omega] at this;exact this)
 have Va:cs.length<=40:=by have:=Me.le;rw [<-R4,lea] at this;exact this
 have Ez:cs.length=up.length+1:=by grind
 have hx:cs[cs.length-1]?=some c:=by grind
 have Wy:∀z,cs.set (cs.length-1) z=up++[z]:=by grind
 have hop:X.op=(YF m.d c.d).op:=by rw [<-hXd];rfl
 have CL:X.op=11->(YF m.d c.d).op=11:=fun h=>by rw [<-hop];exact h
 have hend:c.at_+1=Fv.body.length->c.d.at_+1=(WW m.d c.d.fn).body.length:=fun h=>by rw [KW];exact h
 have Tb:ps.length<=8:=by have:=Av.hi;have:=Av.most;simp only at *;rw [Tq] at *;omega
 have hvl:=H.one 8 rfl
 have hvs:=H.one 9 rfl
 have hto:=FT hk Q Kq
 have hty:=HZ.ty
 rw [show c.d.at_.toNat=k by show c.at_.toNat=k;omega] at hty
 have G9:0<=c.at_/\c.at_<200:=by omega
 by_cases Bl:X.op=11
 .by_cases el:c.at_+1=Fv.body.length
  .have Bs:up=[]\/∃up' u,up=up'++[u]:=by
    rcases ldb up with h|⟨up',u,h⟩
    .grind
    .grind
   rcases Bs with rfl|⟨up',u,rfl⟩
   .have Qr:=Mc hS (ad1 (CL Bl) (hend el))
    refine bk<|ZN H [] [yRp0,yRp1,yRp2,yRh3,yRp4,yRp5,yRp6,yRh7,yRp8,yRp9,yRp10,yRp11] mixed k_d k_d<|fun w2 H=>yO rfl rfl<|yP 0 2 yN rfl<|yO rfl rfl<|yP 0 2 yN rfl ?_
    obtain ⟨a1,c1,V1⟩:=H.form 6 rfl
    refine tk (fun _ Z=>Xw V1 rfl yU)<|ZZ yY ?_
    obtain ⟨b1,o1,E1⟩:=H.Zc 6 rfl ((cs.length)-1) yY
    refine tk (fun _ Z=>ZK E1 yY rfl rfl yU)<|ZN H [] [yRp0,yRp1,yRp2,yRh3,yRp4,yRp5,yRp6,yRh7,yRp8,yRp9,yRp10,yRh11,yRp12,yRp13,yRh14,yRp15] mixed k_d k_d<|fun w3 H=>yO rfl rfl<|yP 0 0 yN rfl<|yO rfl rfl<|yO rfl rfl<|yP 1 2 yN rfl<|yO rfl rfl<|tk (fun _ Z=>yJ (Z.el 6 rfl E1 hx) 0 yI yU) ?_
    obtain ⟨b2,o2,E2,F1,ZL⟩:=Z0.Zc ZT FJ
    have X8:=ZL.ty
    have Zr:=ZL.loc
    have ZE:=ZL.body
    refine tk (fun _ Z=>ZK E2 yY rfl rfl yU)<|yO rfl rfl<|tk (fun _ Z=>yJ (Z.Yu F1) 2 yI yU)<|Z9 rfl<|yJ (H.el 6 rfl E1 hx) 1 yI ?_
    obtain ⟨b3,o3,E3,F2,YW⟩:=Z0.Zc ZE hX
    have SV:=YW.op
    have PO:=YW.a
    have PN:=YW.b
    have Xi:=YW.to
    refine ZK E3 yY rfl rfl<|ZD (H.Yu F2) 0 rfl rfl rfl<|ZV H rfl<|fun p2 w2 H=>ZI H 0 rfl rfl rfl k_g<|fun w3 H=>Z9 rfl<|yQ H 0 0 yN<|cT (ZH yX)<|Z9 rfl<|yJ (H.el 7 rfl E1 hx) 1 yI<|ZZ yY<|Z9 rfl<|Ys H 7 rfl E1 hx 1 (⟨c.fn,c.at_+1,c.vl,c.loc,c.vs,c.stk⟩) rfl rfl rfl rfl<|fun w2 H=>Z9 rfl ?_
    have hx1:(cs.set (cs.length-1) { fn:=c.fn,at_:=c.at_+1,vl:=c.vl,loc:=c.loc,vs:=c.vs,stk:=c.stk })[cs.length-1]?=some _:=WD hx
    refine yJ (H.el 7 rfl E1 hx1) 1 yI<|ZG ZE rfl<|cT (ZH yX) ?_
    simp only [Wy] at H
    refine H.Z8 [10,8,3]<|fun H=>?_
    refine Z7.mk (Fc.imp (afZ (c:=⟨c.fn,c.at_+1,c.vl,c.loc,c.vs,c.stk⟩) H rfl hvl hvs (by grind)) ?_)
    rintro _ w' ⟨Bk,lv,rfl,H⟩
    refine cT rfl ?_
    obtain ⟨a2,c2,rfl⟩:=H.form 2 rfl
    refine Zn rfl rfl rfl<|ZI H 11 rfl rfl rfl rfl<|fun w3 H=>?_
    refine XU (H.at 11 rfl) 0 rfl rfl rfl ?_
    refine Z6.mk ⟨Bk,0,vp,ps,Zl,[],⟨1,c.stk,0,0,n⟩,_,_,rfl,hR _ _ (.over Qr),Md,Tb,fun _=>rfl,rfl,?_⟩
    exact Ej ((((H.del 11).del 10).del 3).Z8 [1,7,7,7,7,7,6,7,8] fun H=>H)
   .have Qr:Ia m.d S ⟨S.ins,up'.map CV.d++[⟨u.fn,u.at_,u.loc,u.stk++c.stk⟩],0⟩ .free:=Mc (q:=(_,_)) hS (by rw [lRa];exact acE (u:=u.d) (CL Bl) (hend el))
    obtain ⟨n1,n2,n3,n4⟩:=Mb P Me hh hR Qr
    have apM:up'.length+1+1=cs.length:=by grind
    have hWu:u.stk.length<=10000:=by
     rw [lRa] at zg
     have:u.d.stk.length<=201:=Ma P (Xz.snoc.1 zg).2
     have e:u.d.stk=u.stk:=rfl
     rw [e] at this
     omega
    refine H.Z8 [7]<|fun H=>?_
    replace H:=H8 H
    refine bk<|ZN H [] [yRp0,yRp1,yRp2,yRh3,yRp4,yRp5,yRp6,yRh7,yRp8,yRp9,yRp10,yRp11] mixed k_d k_d<|fun w2 H=>yO rfl rfl<|yP 3 2 yN rfl<|yO rfl rfl<|yP 3 2 yN rfl ?_
    obtain ⟨a1,c1,V1⟩:=H.form 9 rfl
    refine tk (fun _ Z=>Xw V1 rfl yU)<|ZZ yY ?_
    obtain ⟨b1,o1,E1⟩:=H.Zc 9 rfl ((cs.length)-1) yY
    refine tk (fun _ Z=>ZK E1 yY rfl rfl yU)<|ZN H [] [yRp0,yRp1,yRp2,yRh3,yRp4,yRp5,yRp6,yRh7,yRp8,yRp9,yRp10,yRh11,yRp12,yRp13,yRh14,yRp15] mixed k_d k_d<|fun w3 H=>yO rfl rfl<|yP 3 0 yN rfl<|yO rfl rfl<|yO rfl rfl<|yP 4 2 yN rfl<|yO rfl rfl<|tk (fun _ Z=>yJ (Z.el 9 rfl E1 hx) 0 yI yU) ?_
    obtain ⟨b2,o2,E2,F1,ZL⟩:=Z0.Zc ZT FJ
    have X8:=ZL.ty
    have Zr:=ZL.loc
    have ZE:=ZL.body
    refine tk (fun _ Z=>ZK E2 yY rfl rfl yU)<|yO rfl rfl<|tk (fun _ Z=>yJ (Z.Yu F1) 2 yI yU)<|Z9 rfl<|yJ (H.el 9 rfl E1 hx) 1 yI ?_
    obtain ⟨b3,o3,E3,F2,YW⟩:=Z0.Zc ZE hX
    have SV:=YW.op
    have PO:=YW.a
    have PN:=YW.b
    have Xi:=YW.to
    refine ZK E3 yY rfl rfl<|ZD (H.Yu F2) 0 rfl rfl rfl<|ZV H rfl<|fun p2 w2 H=>ZI H 0 rfl rfl rfl (by simp only [yq9,yq8,H.one 1 rfl,H.one 2 rfl,H.one 7 rfl,H.one 8 rfl,H.one 9 rfl,H.one 10 rfl,H.one 11 rfl,H.one 12 rfl,Z0.one Xi,Z0.one ZE,Z0.one Zr,hvs,hvl,Z0.one ZT,Z0.one hw];rfl)<|fun w3 H=>Z9 rfl<|yQ H 0 0 yN<|cT (ZH yX)<|Z9 rfl<|yJ (H.el 10 rfl E1 hx) 1 yI<|ZZ yY<|Z9 rfl<|Ys H 10 rfl E1 hx 1 (⟨c.fn,c.at_+1,c.vl,c.loc,c.vs,c.stk⟩) rfl rfl rfl rfl<|fun w2 H=>Z9 rfl ?_
    have hx1:(cs.set (cs.length-1) { fn:=c.fn,at_:=c.at_+1,vl:=c.vl,loc:=c.loc,vs:=c.vs,stk:=c.stk })[cs.length-1]?=some _:=WD hx
    refine yJ (H.el 10 rfl E1 hx1) 1 yI<|ZG ZE rfl<|cT (ZH yX) ?_
    simp only [Wy] at H
    refine H.Z8 [2,12,11,6]<|fun H=>?_
    refine Z7.mk (Fc.imp (af0 (c:=⟨c.fn,c.at_+1,c.vl,c.loc,c.vs,c.stk⟩) H rfl hvl hvs (by grind) hWu (by simp;omega)) ?_)
    rintro _ w' ⟨Bk,DP,rfl,H⟩
    refine cF rfl ?_
    refine Xt.mk (⟨S.ins,up'.map CV.d++[⟨u.fn,u.at_,u.loc,u.stk++c.stk⟩],0⟩,n) (ZR rfl ZY) ⟨Bk,vp,ps,Zl,up'++[⟨u.fn,u.at_,u.vl,u.loc,DP,u.stk++c.stk⟩],n4,n1,n2,n3,Wr rfl,Md,hle,?_⟩ ?_
    .exact FK (((H.del 11).del 3).Z8 [2,3,4,4,9,9,9,9,9,9] fun H=>H)
    .have:=af8 (S:=S) (S':=⟨S.ins,up'.map CV.d++[⟨u.fn,u.at_,u.loc,u.stk++c.stk⟩],0⟩) (u:=u.d) (d:=c.d) (u':=⟨u.fn,u.at_,u.loc,u.stk++c.stk⟩) (by grind) rfl rfl yY
     simp only
     omega
  .have Qr:=Mc hS (step_end (I:=S.ins) (CL Bl) (fun h=>el yY))
   obtain ⟨n1,n2,n3,n4⟩:=Mb P Me hh hR Qr
   refine bk<|ZN H [] [yRp0,yRp1,yRp2,yRh3,yRp4,yRp5,yRp6,yRh7,yRp8,yRp9,yRp10,yRp11] mixed k_d k_d<|fun w2 H=>yO rfl rfl<|yP 0 2 yN rfl<|yO rfl rfl<|yP 0 2 yN rfl ?_
   obtain ⟨a1,c1,V1⟩:=H.form 6 rfl
   refine tk (fun _ Z=>Xw V1 rfl yU)<|ZZ yY ?_
   obtain ⟨b1,o1,E1⟩:=H.Zc 6 rfl ((cs.length)-1) yY
   refine tk (fun _ Z=>ZK E1 yY rfl rfl yU)<|ZN H [] [yRp0,yRp1,yRp2,yRh3,yRp4,yRp5,yRp6,yRh7,yRp8,yRp9,yRp10,yRh11,yRp12,yRp13,yRh14,yRp15] mixed k_d k_d<|fun w3 H=>yO rfl rfl<|yP 0 0 yN rfl<|yO rfl rfl<|yO rfl rfl<|yP 1 2 yN rfl<|yO rfl rfl<|tk (fun _ Z=>yJ (Z.el 6 rfl E1 hx) 0 yI yU) ?_
   obtain ⟨b2,o2,E2,F1,ZL⟩:=Z0.Zc ZT FJ
   have X8:=ZL.ty
   have Zr:=ZL.loc
   have ZE:=ZL.body
   refine tk (fun _ Z=>ZK E2 yY rfl rfl yU)<|yO rfl rfl<|tk (fun _ Z=>yJ (Z.Yu F1) 2 yI yU)<|Z9 rfl<|yJ (H.el 6 rfl E1 hx) 1 yI ?_
   obtain ⟨b3,o3,E3,F2,YW⟩:=Z0.Zc ZE hX
   have SV:=YW.op
   have PO:=YW.a
   have PN:=YW.b
   have Xi:=YW.to
   refine ZK E3 yY rfl rfl<|ZD (H.Yu F2) 0 rfl rfl rfl<|ZV H rfl<|fun p2 w2 H=>ZI H 0 rfl rfl rfl k_g<|fun w3 H=>Z9 rfl<|yQ H 0 0 yN<|cT (ZH yX)<|Z9 rfl<|yJ (H.el 7 rfl E1 hx) 1 yI<|ZZ yY<|Z9 rfl<|Ys H 7 rfl E1 hx 1 (⟨c.fn,c.at_+1,c.vl,c.loc,c.vs,c.stk⟩) rfl rfl rfl rfl<|fun w2 H=>Z9 rfl ?_
   have hx1:(cs.set (cs.length-1) { fn:=c.fn,at_:=c.at_+1,vl:=c.vl,loc:=c.loc,vs:=c.vs,stk:=c.stk })[cs.length-1]?=some _:=WD hx
   refine yJ (H.el 7 rfl E1 hx1) 1 yI<|ZG ZE rfl<|cF (Z4 yX) ?_
   simp only [Wy] at H
   refine Xt.mk (⟨S.ins,up.map CV.d++[Xr c.d],0⟩,n) (ZR rfl ZY) ⟨vc,vp,ps,Zl,up++[⟨c.fn,c.at_+1,c.vl,c.loc,c.vs,c.stk⟩],n4,n1,n2,n3,Wr rfl,Md,hle,?_⟩ ?_
   .exact FK (H.del 0)
   .have:=abX (S:=S) (S':=⟨S.ins,up.map CV.d++[Xr c.d],0⟩) hS rfl (by show c.at_.toNat<(c.at_+1).toNat;omega) yY
    simp only
    omega
 .have aoS:∃y s,GM[c.fn.toNat]?=some y/\y.outs[c.at_.toNat]?=some s/\s.js=Uj m.d c.d:=by
   have Ff:c.fn.toNat<GM.length:=by rw [hW.len];omega
   obtain ⟨h1,h2⟩:=hW.at_ _ _ _ FJ (laa Ff)
   have LR:c.at_.toNat<GM[c.fn.toNat].outs.length:=by omega
   refine ⟨_,_,laa Ff,laa LR,?_⟩
   rw [h2 _ _ (laa LR),<-B6];rfl
  obtain ⟨yw,sw,Au,zf,Ex⟩:=aoS
  have Ff:=hW.len
  have LR:=(hW.at_ _ _ _ FJ Au).1
  by_cases e5:X.op=5
  .have I1:(YF m.d c.d).op=5:=by omega
   obtain ⟨j,g1,g3⟩:=adi Q Kq I1 hty
   obtain ⟨j',g1',g4,g5⟩:=aga Q Kq I1 (hty.live Kq yY).1
   rw [g1] at g1'
   obtain rfl:=lwb.1 g1'
   rw [hto] at g1
   have hw0:Q8 (Uj m.d c.d) 0=j:=by rw [g1];rfl
   have Qr:=Mc hS (UF (I:=S.ins) I1)
   rw [hw0] at Qr
   rw [<-Ex] at g1
   have hj0:sw.js[0]?=some j:=by rw [g1];rfl
   have hjl:sw.js.length=1:=by rw [g1];rfl
   obtain ⟨n1,n2,n3,n4⟩:=Mb P Me hh hR Qr
   have g5:(k:Int)<j.at_:=g4
   refine bk<|ZN H [] [yRp0,yRp1,yRp2,yRh3,yRp4,yRp5,yRp6,yRh7,yRp8,yRp9,yRp10,yRp11] mixed k_d k_d<|fun w2 H=>yO rfl rfl<|yP 0 2 yN rfl<|yO rfl rfl<|yP 0 2 yN rfl ?_
   obtain ⟨a1,c1,V1⟩:=H.form 6 rfl
   refine tk (fun _ Z=>Xw V1 rfl yU)<|ZZ yY ?_
   obtain ⟨b1,o1,E1⟩:=H.Zc 6 rfl ((cs.length)-1) yY
   refine tk (fun _ Z=>ZK E1 yY rfl rfl yU)<|ZN H [] [yRp0,yRp1,yRp2,yRh3,yRp4,yRp5,yRp6,yRh7,yRp8,yRp9,yRp10,yRh11,yRp12,yRp13,yRh14,yRp15] mixed k_d k_d<|fun w3 H=>yO rfl rfl<|yP 0 0 yN rfl<|yO rfl rfl<|yO rfl rfl<|yP 1 2 yN rfl<|yO rfl rfl<|tk (fun _ Z=>yJ (Z.el 6 rfl E1 hx) 0 yI yU) ?_
   obtain ⟨b2,o2,E2,F1,ZL⟩:=Z0.Zc ZT FJ
   have X8:=ZL.ty
   have Zr:=ZL.loc
   have ZE:=ZL.body
   refine tk (fun _ Z=>ZK E2 yY rfl rfl yU)<|yO rfl rfl<|tk (fun _ Z=>yJ (Z.Yu F1) 2 yI yU)<|Z9 rfl<|yJ (H.el 6 rfl E1 hx) 1 yI ?_
   obtain ⟨b3,o3,E3,F2,YW⟩:=Z0.Zc ZE hX
   have SV:=YW.op
   have PO:=YW.a
   have PN:=YW.b
   have Xi:=YW.to
   refine ZK E3 yY rfl rfl<|ZD (H.Yu F2) 0 rfl rfl rfl<|ZV H rfl<|fun p2 w2 H=>ZI H 0 rfl rfl rfl k_g<|fun w3 H=>Z9 rfl<|yQ H 0 0 yN<|cF (Z4 yX)<|ZN H [] [yRp0,yRp1,yRp2,yRh3,yRp4,yRp5,yRp6,yRh7,yRp8,yRh9,yRp10,yRp11,yRp12,yRh13,yRp14,yRp15,yRh16,yRp17] mixed k_d k_d<|fun w2 H=>yO rfl rfl<|yP 1 1 yN rfl<|yO rfl rfl<|tk (fun _ Z=>yJ (Z.el 7 rfl E1 hx) 0 yI yU) ?_
   obtain ⟨b4,o4,E4,F3,Xp⟩:=Z0.Zc hw Au
   have V7:=Xp.outs
   refine tk (fun _ Z=>ZK E4 yY rfl rfl yU)<|tk (fun _ Z=>yJ (Z.Yu F3) 0 yI yU)<|yO rfl rfl<|tk (fun _ Z=>yJ (Z.el 7 rfl E1 hx) 1 yI yU) ?_
   obtain ⟨b5,o5,E5,F4,Vb⟩:=Z0.Zc V7 zf
   have TZ:=Vb.js
   refine tk (fun _ Z=>ZK E5 yY rfl rfl yU)<|yO rfl rfl<|tk (fun _ Z=>yJ (Z.Yu F4) 0 yI yU)<|Z9 rfl<|yQ H 0 0 yN<|cT (ZH yX) ?_
   obtain ⟨b6,o6,E6,F5,CJ⟩:=Z0.Zc TZ hj0
   refine ZK E6 rfl rfl rfl<|ZD (H.Yu F5) 0 rfl rfl rfl<|H.Z8 [10,8]<|fun H=>?_
   refine Z7.mk (Fc.imp (K7 E1 c hx H j g3.h0 g3.k0 g3.fit yY) ?_)
   rintro r w' ⟨DP,H⟩
   simp only [Wy] at H
   refine Xt.mk (⟨S.ins,up.map CV.d++[So c.d j],0⟩,n) (ZR rfl ZY) ⟨vc,vp,ps,Zl,up++[⟨c.fn,j.at_,c.vl,c.loc,DP,c.stk.take j.height.toNat++c.stk.drop (c.stk.length-j.keep.toNat)⟩],n4,n1,n2,n3,Wr rfl,Md,hle,?_⟩ ?_
   .exact FK ((H.del 2).Z8 [1,9,9,3,9,9,9,9,9,9] fun H=>H)
   .have:=abX (S:=S) (S':=⟨S.ins,up.map CV.d++[So c.d j],0⟩) hS rfl (by show c.at_.toNat<j.at_.toNat;omega) yY
    simp only
    omega
  .have aoT:(YF m.d c.d).op≠11:=by rw [<-hop];exact Bl
   have h5':(YF m.d c.d).op≠5:=by omega
   have Qr:=Mc hS (af7 (I:=S.ins) aoT h5')
   obtain ⟨q,hq⟩:∃q,Lx m.d S.ins (up.map CV.d) c.d=q:=⟨_,rfl⟩
   have ze:=ahT m.d S.ins (up.map CV.d) c.d
   rw [hq] at Qr ze
   by_cases en:(n:Int)=0
   .refine bk<|ZN H [] [yRp0,yRp1,yRp2,yRh3,yRp4,yRp5,yRp6,yRh7,yRp8,yRp9,yRp10,yRp11] mixed k_d k_d<|fun w2 H=>yO rfl rfl<|yP 0 2 yN rfl<|yO rfl rfl<|yP 0 2 yN rfl ?_
    obtain ⟨a1,c1,V1⟩:=H.form 6 rfl
    refine tk (fun _ Z=>Xw V1 rfl yU)<|ZZ yY ?_
    obtain ⟨b1,o1,E1⟩:=H.Zc 6 rfl ((cs.length)-1) yY
    refine tk (fun _ Z=>ZK E1 yY rfl rfl yU)<|ZN H [] [yRp0,yRp1,yRp2,yRh3,yRp4,yRp5,yRp6,yRh7,yRp8,yRp9,yRp10,yRh11,yRp12,yRp13,yRh14,yRp15] mixed k_d k_d<|fun w3 H=>yO rfl rfl<|yP 0 0 yN rfl<|yO rfl rfl<|yO rfl rfl<|yP 1 2 yN rfl<|yO rfl rfl<|tk (fun _ Z=>yJ (Z.el 6 rfl E1 hx) 0 yI yU) ?_
    obtain ⟨b2,o2,E2,F1,ZL⟩:=Z0.Zc ZT FJ
    have X8:=ZL.ty
    have Zr:=ZL.loc
    have ZE:=ZL.body
    refine tk (fun _ Z=>ZK E2 yY rfl rfl yU)<|yO rfl rfl<|tk (fun _ Z=>yJ (Z.Yu F1) 2 yI yU)<|Z9 rfl<|yJ (H.el 6 rfl E1 hx) 1 yI ?_
    obtain ⟨b3,o3,E3,F2,YW⟩:=Z0.Zc ZE hX
    have SV:=YW.op
    have PO:=YW.a
    have PN:=YW.b
    have Xi:=YW.to
    refine ZK E3 yY rfl rfl<|ZD (H.Yu F2) 0 rfl rfl rfl<|ZV H rfl<|fun p2 w2 H=>ZI H 0 rfl rfl rfl k_g<|fun w3 H=>Z9 rfl<|yQ H 0 0 yN<|cF (Z4 yX)<|ZN H [] [yRp0,yRp1,yRp2,yRh3,yRp4,yRp5,yRp6,yRh7,yRp8,yRh9,yRp10,yRp11,yRp12,yRh13,yRp14,yRp15,yRh16,yRp17] mixed k_d k_d<|fun w2 H=>yO rfl rfl<|yP 1 1 yN rfl<|yO rfl rfl<|tk (fun _ Z=>yJ (Z.el 7 rfl E1 hx) 0 yI yU) ?_
    obtain ⟨b4,o4,E4,F3,Xp⟩:=Z0.Zc hw Au
    have V7:=Xp.outs
    refine tk (fun _ Z=>ZK E4 yY rfl rfl yU)<|tk (fun _ Z=>yJ (Z.Yu F3) 0 yI yU)<|yO rfl rfl<|tk (fun _ Z=>yJ (Z.el 7 rfl E1 hx) 1 yI yU) ?_
    obtain ⟨b5,o5,E5,F4,Vb⟩:=Z0.Zc V7 zf
    have TZ:=Vb.js
    refine tk (fun _ Z=>ZK E5 yY rfl rfl yU)<|yO rfl rfl<|tk (fun _ Z=>yJ (Z.Yu F4) 0 yI yU)<|Z9 rfl<|yQ H 0 0 yN<|cF (Z4 yX)<|cT (ZH yX)<|Zn rfl rfl rfl<|ZI H 11 rfl rfl rfl rfl<|fun w3 H=>XU (H.at 11 rfl) 0 rfl rfl rfl ?_
    obtain rfl:n=0:=by omega
    subst hcs
    refine Z6.mk ⟨vc,0,vp,ps,Zl,_,⟨3,[],0,0,0⟩,_,S,rfl,hR _ _ (.stop Qr ze),Md,Tb,fun _=>R4,hh.symm,?_⟩
    exact Qf ((H.del 11).del 0)
   .obtain ⟨n',hn'⟩:∃n',n=n'+1:=⟨n-1,by omega⟩
    refine bk<|ZN H [] [yRp0,yRp1,yRp2,yRh3,yRp4,yRp5,yRp6,yRh7,yRp8,yRp9,yRp10,yRp11] mixed k_d k_d<|fun w2 H=>yO rfl rfl<|yP 0 2 yN rfl<|yO rfl rfl<|yP 0 2 yN rfl ?_
    obtain ⟨a1,c1,V1⟩:=H.form 6 rfl
    refine tk (fun _ Z=>Xw V1 rfl yU)<|ZZ yY ?_
    obtain ⟨b1,o1,E1⟩:=H.Zc 6 rfl ((cs.length)-1) yY
    refine tk (fun _ Z=>ZK E1 yY rfl rfl yU)<|ZN H [] [yRp0,yRp1,yRp2,yRh3,yRp4,yRp5,yRp6,yRh7,yRp8,yRp9,yRp10,yRh11,yRp12,yRp13,yRh14,yRp15] mixed k_d k_d<|fun w3 H=>yO rfl rfl<|yP 0 0 yN rfl<|yO rfl rfl<|yO rfl rfl<|yP 1 2 yN rfl<|yO rfl rfl<|tk (fun _ Z=>yJ (Z.el 6 rfl E1 hx) 0 yI yU) ?_
    obtain ⟨b2,o2,E2,F1,ZL⟩:=Z0.Zc ZT FJ
    have X8:=ZL.ty
    have Zr:=ZL.loc
    have ZE:=ZL.body
    refine tk (fun _ Z=>ZK E2 yY rfl rfl yU)<|yO rfl rfl<|tk (fun _ Z=>yJ (Z.Yu F1) 2 yI yU)<|Z9 rfl<|yJ (H.el 6 rfl E1 hx) 1 yI ?_
    obtain ⟨b3,o3,E3,F2,YW⟩:=Z0.Zc ZE hX
    have SV:=YW.op
    have PO:=YW.a
    have PN:=YW.b
    have Xi:=YW.to
    refine ZK E3 yY rfl rfl<|ZD (H.Yu F2) 0 rfl rfl rfl<|ZV H rfl<|fun p2 w2 H=>ZI H 0 rfl rfl rfl k_g<|fun w3 H=>Z9 rfl<|yQ H 0 0 yN<|cF (Z4 yX)<|ZN H [] [yRp0,yRp1,yRp2,yRh3,yRp4,yRp5,yRp6,yRh7,yRp8,yRh9,yRp10,yRp11,yRp12,yRh13,yRp14,yRp15,yRh16,yRp17] mixed k_d k_d<|fun w2 H=>yO rfl rfl<|yP 1 1 yN rfl<|yO rfl rfl<|tk (fun _ Z=>yJ (Z.el 7 rfl E1 hx) 0 yI yU) ?_
    obtain ⟨b4,o4,E4,F3,Xp⟩:=Z0.Zc hw Au
    have V7:=Xp.outs
    refine tk (fun _ Z=>ZK E4 yY rfl rfl yU)<|tk (fun _ Z=>yJ (Z.Yu F3) 0 yI yU)<|yO rfl rfl<|tk (fun _ Z=>yJ (Z.el 7 rfl E1 hx) 1 yI yU) ?_
    obtain ⟨b5,o5,E5,F4,Vb⟩:=Z0.Zc V7 zf
    have TZ:=Vb.js
    refine tk (fun _ Z=>ZK E5 yY rfl rfl yU)<|yO rfl rfl<|tk (fun _ Z=>yJ (Z.Yu F4) 0 yI yU)<|Z9 rfl<|yQ H 0 0 yN<|cF (Z4 yX)<|cF (Z4 yX)<|ZZ yY<|ZD (H.at 0 rfl) 0 rfl rfl rfl ?_
    replace H:=H.del 0
    refine Z7.mk (Fc.imp (aoO (x:=X.d) H hcs E1 hm P hT Av zg HZ Va hXd Bl e5 SV.2 (Ex ▸ TZ)) ?_)
    rintro _ w' ⟨Ar,Hj,zd,ps2,CI,Bj,o,vv,rfl,hO,amP,H⟩
    rw [<-Md,hq] at hO
    obtain ⟨hi,hO⟩:=hO
    obtain ⟨S',ev⟩:=q
    simp only at Qr ze hi hO
    cases ev with
    | free=>exact hO.elim
    | over v=>exact hO.elim
    | on =>
     obtain ⟨ho,HY,Bi⟩:=hO
     have hoe:o.e=0:=by rw [ho]
     subst hn'
     obtain ⟨n1,n2,n3,n4⟩:=akt P Me hh hR Qr
     refine ZV H rfl<|fun p3 w3 H=>?_
     refine ZI H 0 rfl rfl rfl k_h<|fun w4 H=>Z9 rfl<|yQ H 0 0 yN<|cF (Yo yX) ?_
     obtain rfl:Hj=0:=Bi.trans n2
     refine Xt.mk (S',n') (Zv rfl (by simp only;omega) ZY) ⟨Ar,zd,ps2,CI,Bj,n4,n1,n2,n3,HY,hi,by omega,?_⟩ ?_
     .subst ho
      exact (H.del 8).del 0
     .have:=ahU n1.le
      simp only
      omega
    | WR e =>
     obtain ⟨hO,Bi⟩:=hO
     have hoe:o.e=2:=by rw [hO]
     have hsh:Hj=S'.host:=Bi.trans (Vs P Me hh Qr).2.1.symm
     subst hn'
     refine ZV H rfl<|fun p3 w3 H=>?_
     refine ZI H 0 rfl rfl rfl k_h<|fun w4 H=>Z9 rfl<|yQ H 0 0 yN<|cT (Xk yY)<|Z9 rfl<|Yy H 0 rfl rfl rfl rfl<|fun w3 H=>ZD (H.at 0 rfl) 0 rfl rfl rfl<|ZI H 9 rfl rfl rfl k_h<|fun w4 H=>XU (H.at 9 rfl) 0 rfl rfl rfl ?_
     subst hO
     refine Z6.mk ⟨Ar,Hj,zd,ps2,CI,Bj,⟨2,[],e,0,n'⟩,vv,S',?_,hR _ _ (.WR Qr),hi,amP,fun h=>absurd rfl h,hsh,(H.del 9).del 0⟩
     simp only [show ((n'+1:Nat):Int)-1=n' by omega]
    | host f v =>
     obtain ⟨ho,HY,Bi⟩:=hO
     have hoe:o.e=4:=by rw [ho]
     subst hn'
     refine ZV H rfl<|fun p3 w3 H=>?_
     refine ZI H 0 rfl rfl rfl k_h<|fun w4 H=>Z9 rfl<|yQ H 0 0 yN<|cT (Xk yY)<|Z9 rfl<|Yy H 0 rfl rfl rfl rfl<|fun w3 H=>ZD (H.at 0 rfl) 0 rfl rfl rfl<|ZI H 9 rfl rfl rfl k_h<|fun w4 H=>XU (H.at 9 rfl) 0 rfl rfl rfl ?_
     subst ho
     refine Z6.mk ⟨Ar,Hj,zd,ps2,CI,Bj,⟨4,v,0,f,n'⟩,vv,S',?_,hR _ _ (.host Qr),hi,amP,fun h=>HY,Bi,(H.del 9).del 0⟩
     simp only [show ((n'+1:Nat):Int)-1=n' by omega]
end
end Rn
namespace Rn
open Go YX RowKit
open YQ Zh Yg YO Valid
section
variable {m:YR} {S S' T:MS} {n:Nat} {o:Vm} {up:List Y0} {c u:Y0} {I:RQ}
structure Left (m:YR) (n:Nat) (S':MS) (o:Vm):Prop where
 ty:Ty m S'
 left:0<=o.left/\o.left<=n
 e:o.e=1\/o.e=2\/o.e=3\/o.e=4
 done:o.e=1->S'.calls=[]/\S'.host=0/\o.WR=0/\o.host=0
 WR:o.e=2->S'.calls=[]/\S'.host=0/\20<=o.WR/\o.WR<=26/\o.vals=[]/\o.host=0/\o.left+1<=n
 fuel:o.e=3->S'.calls≠[]/\S'.host=0/\o.WR=0/\o.vals=[]/\o.host=0/\o.left=0
 host:o.e=4->S'.calls≠[]/\S'.host=o.host+1/\0<=o.host/\o.host<YZ m/\o.WR=0/\o.left+1<=n
 vals:o.vals.length<=4
theorem Left.more {n':Nat} (h:Left m n S' o) (hn:n<=n'):Left m n' S' o :=
 ⟨h.ty,⟨h.left.1,by have:=h.left.2;omega⟩,h.e,h.done,fun e=>let ⟨a,b,c,d,e,f,g⟩:=h.WR e;⟨a,b,c,d,e,f,by omega⟩,h.fuel,fun e=>let ⟨a,b,c,d,e,f⟩:=h.host e;⟨a,b,c,d,e,by omega⟩,h.vals⟩
theorem Tk.after (P:Uy m) (r:Tk m S n S' o):Ty m S->S.host=0->S.calls≠[]->Left m n S' o:=by
 induction r with
 | free s _ ih=>intro T h0 _;have A:=Vs P T h0 s;exact ih A.1 A.2.1 A.2.2
 | over s =>
  intro T h0 _
  obtain ⟨a,b,c,d,e⟩:=Vs P T h0 s
  exact ⟨a,⟨by simp only;omega,by simp only;omega⟩,.inl rfl,fun _=>⟨c,b,rfl,rfl⟩,fun h=>by simp at h,fun h=>by simp at h,fun h=>by simp at h,by simp only;omega⟩
 | stop s hn =>
  intro T h0 hc
  exact ⟨T,⟨by simp only;omega,by simp only;omega⟩,.inr (.inr (.inl rfl)),fun h=>by simp at h,fun h=>by simp at h,fun _=>⟨hc,h0,rfl,rfl,rfl,rfl⟩,fun h=>by simp at h,by simp⟩
 | goes s _ ih=>intro T h0 _;have A:=Vs P T h0 s;exact (ih A.1 A.2.1 A.2.2).more yY
 | WR s =>
  intro T h0 _
  obtain ⟨a,b,c,d,e⟩:=Vs P T h0 s
  exact ⟨a,⟨by simp only;omega,by simp only;omega⟩,.inr (.inl rfl),fun h=>by simp at h,fun _=>⟨c,b,d,e,rfl,rfl,by simp only;omega⟩,fun h=>by simp at h,fun h=>by simp at h,by simp⟩
 | host s =>
  intro T h0 _
  obtain ⟨a,b,c,d,e,f,g⟩:=Vs P T h0 s
  exact ⟨a,⟨by simp only;omega,by simp only;omega⟩,.inr (.inr (.inr rfl)),fun h=>by simp at h,fun h=>by simp at h,fun h=>by simp at h,fun _=>⟨b,c,d,e,rfl,by simp only;omega⟩,g⟩
theorem agb {k n:Int} (hn:XS n):Vk k (Xl.RA k n):=by
 by_cases hk:k=127
 .have h:=XD .i32 n
  have e1:(IntKind.i32).min=-2147483648:=by decide
  have e2:(IntKind.i32).max=2147483647:=by decide
  rw [e1,e2] at h
  unfold Xl.RA
  rw [if_pos hk,Uw yY,hk]
  exact .low h
 .unfold Xl.RA
  rw [if_neg hk]
  exact ⟨hn,fun h=>absurd h hk⟩
theorem ahV (ks:yB) {n:Int} (hn:XS n):KV ks (UJ ks n):=by
 refine ⟨lea _,fun i k v h1 h2=>?_⟩
 unfold UJ at h2
 rw [lCa,h1] at h2
 obtain rfl:=yq6 h2
 exact agb hn
theorem Qy (P:Uy m) (T:Ty m S) (h:0<S.host) {n:Int} (hn:XS n):Ty m (Vt m S n)/\(Vt m S n).host=0/\(Vt m S n).calls≠[]/\∃up c,S.calls=up++[c]/\T7 m c (S.host-1)/\(Vt m S n).calls=up++[{ c with stk:=c.stk++UJ (YG m (S.host-1)).out n }]:=by
 rcases T.cs with ⟨h1,_⟩|⟨h1,_⟩|⟨_,h2,h3⟩
 .omega
 .omega
 .obtain ⟨up,c,hc⟩:∃up c,S.calls=up++[c]:=by
   rcases ldb S.calls with h|⟨up,c,h⟩
   .grind
   .grind
  have hle:=T.le
  rw [hc] at h3 hle
  obtain ⟨w1,w2⟩:=Xz.snoc.1 h3
  have e:(Vt m S n).calls=up++[{ c with stk:=c.stk++UJ (YG m (S.host-1)).out n }]:=by grind [Vt,addTop]
  have hb:=adp P w2 (ahV (YG m (S.host-1)).out hn)
  rw [lca,lKa] at hle
  refine ⟨⟨T.ins,?_,⟨Int.le_refl _,?_⟩,.inr (.inl ⟨rfl,up,_,e,w1,hb⟩)⟩,rfl,?_,up,c,hc,w2,e⟩
  .grind
  .show (0:Int)<=_;unfold YZ;omega
  .rw [e];simp
noncomputable def fitAll (ks vs:yB):yB:=(ks.zip vs).map fun x=>Xl.RA x.1 x.2
theorem ad2 {ks vs:yB} (hl:vs.length=ks.length) (hv:∀v∈vs,XS v):KV ks (fitAll ks vs):=by
 refine ⟨by unfold fitAll;rw [lea,List.length_zip];omega,fun i k v h1 h2=>?_⟩
 unfold fitAll at h2
 rw [lCa] at h2
 obtain ⟨x,h3,h4⟩:=lbc.1 h2
 obtain ⟨h5,h6⟩:=List.getElem?_zip_eq_some.1 h3
 rw [h1] at h5
 obtain rfl:=h4
 obtain h7:=yq6 h5
 rw [h7]
 exact agb (hv _ (lda h6))
noncomputable def ZU (m:YR) (S:MS) (f:Int) (args:yB):MS:=⟨S.ins,[⟨f-YZ m,0,fitAll (QC m (WW m (f-YZ m))).Y9 args++List.replicate (WW m (f-YZ m)).loc.length 0,[]⟩],0⟩
theorem agc (P:Uy m) (hI:Vv m S.ins) {f:Int} (h0:YZ m<=f) (h1:f-YZ m<m.funcs.length) {args:yB} (hl:args.length=(QC m (WW m (f-YZ m))).Y9.length) (hv:∀v∈args,XS v):Ty m (ZU m S f args) :=
 ⟨hI,by unfold ZU;simp,⟨Int.le_refl _,by show (0:Int)<=_;unfold YZ;omega⟩,.inr (.inl ⟨rfl,[],_,rfl,Xz.nil,afU P yY h1 (ad2 hl hv)⟩)⟩
end
end Rn
namespace Rn
open Go YX RowKit
open YQ Zh Yg YO Valid Mem
structure amQ where
 cp:Nat
 mp:Nat
 vc:Value
 vt:Value
 vg:Value
 vp:Value
 cs:List CV
 ps:List WC
 Zt:yB
 Zl:yB
def LV (m:Ze) (vw:Value) (pr:Nat) (S:MS):As:=fun h=>∃x:amQ,(x.cs.map CV.d=S.calls/\S.ins=⟨flat x.ps,x.Zt,x.Zl⟩/\x.ps.length<=8)/\Qq (Pt pr [.pointer (some ⟨x.cp,0,none⟩),vw,x.vc,.int .i64 S.host] 148::Pt x.cp (yV m [.pointer (some ⟨x.mp,0,none⟩),x.vt,x.vg]) 158::Pt x.mp [x.vp,.int .i64 m.most] 221::Sl 223 256 W8 x.vp x.ps::Sl 3 1 ZF x.vt x.Zt::Sl 2 1 ZF x.vg x.Zl::[Lt true x.vc x.cs]) h
section
variable {g:Zw} {w:World} {l:List As} {m:Ze} {pr cp mp:Nat} {vw vc vt vg vp Si vj:Value} {host f e:Int} {cs up:List CV} {Zt Zl s2:yB} {ps:List WC} {c u:CV} {x:ZS} {i b o:Nat} {ws:List XA} {j:XA}
variable {S S':MS} {n:Nat} {GM:List Ng}
theorem NX (H:Sat g w (LV m vw pr S::l)):∃cp mp vc vt vg vp cs ps Zt Zl,cs.map CV.d=S.calls/\S.ins=⟨flat ps,Zt,Zl⟩/\ps.length<=8/\Sat g w (Pt pr [.pointer (some ⟨cp,0,none⟩),vw,vc,.int .i64 S.host] 148::Pt cp (yV m [.pointer (some ⟨mp,0,none⟩),vt,vg]) 158::Pt mp [vp,.int .i64 m.most] 221::Sl 223 256 W8 vp ps::Sl 3 1 ZF vt Zt::Sl 2 1 ZF vg Zl::Lt true vc cs::l):=by
 obtain ⟨x,⟨h1,h2,h3⟩,H⟩:=H.ajp
 exact ⟨x.cp,x.mp,x.vc,x.vt,x.vg,x.vp,x.cs,x.ps,x.Zt,x.Zl,h1,h2,h3,H⟩
theorem RF (H:Sat g w (Pt pr [.pointer (some ⟨cp,0,none⟩),vw,vc,.int .i64 host] 148::Pt cp (yV m [.pointer (some ⟨mp,0,none⟩),vt,vg]) 158::Pt mp [vp,.int .i64 m.most] 221::Sl 223 256 W8 vp ps::Sl 3 1 ZF vt Zt::Sl 2 1 ZF vg Zl::Lt true vc cs::l)) (h1:cs.map CV.d=S.calls) (h2:S.ins=⟨flat ps,Zt,Zl⟩) (h3:ps.length<=8) (h4:host=S.host):Sat g w (LV m vw pr S::l):=by
 subst h4
 exact Sat.anN (f:=fun x:amQ=>Pt pr [.pointer (some ⟨x.cp,0,none⟩),vw,x.vc,.int .i64 S.host] 148::Pt x.cp (yV m [.pointer (some ⟨x.mp,0,none⟩),x.vt,x.vg]) 158::Pt x.mp [x.vp,.int .i64 m.most] 221::Sl 223 256 W8 x.vp x.ps::Sl 3 1 ZF x.vt x.Zt::Sl 2 1 ZF x.vg x.Zl::[Lt true x.vc x.cs]) ⟨cp,mp,vc,vt,vg,vp,cs,ps,Zt,Zl⟩ ⟨h1,h2,h3⟩ H
theorem Hi {A0 A1 A2 A3 A4 A5:As} (H:Sat g w (A0::A1::A2::A3::A4::A5::Lt true vc cs::l)):Sat g w (A0::A1::A2::A3::A4::A5::Sl 79 4 YA vc cs::Wa cs::l):=by
 have H:=H.Z8 [6] fun H=>H
 have H:Sat g w (Sl 79 4 YA vc cs::Wa cs::A0::A1::A2::A3::A4::A5::l):=H.unbox
 exact H.Z8 [1,1,7,7,7,7,7,7] fun H=>H
theorem NO {A0 A1 A2 A3 A4 A5:As} (H:Sat g w (A0::A1::A2::A3::A4::A5::Sl 79 4 YA vc cs::Wa cs::l)):Sat g w (A0::A1::A2::A3::A4::A5::Lt true vc cs::l):=by
 have H:Sat g w (([Sl 79 4 YA vc cs,Wa cs]:List As)++(A0::A1::A2::A3::A4::A5::l)):=H.Z8 [7,7] fun H=>H
 have H:Sat g w (Lt true vc cs::A0::A1::A2::A3::A4::A5::l):=H.box
 exact H.Z8 [6,6,6,6,6,6] fun H=>H
theorem agd {A0 A1 A2 A3 A4 A5:As} (H:Sat g w (A0::A1::A2::A3::A4::A5::l)):Sat g w (A0::A1::A2::A3::A4::A5::Lt true (.slice none 0 0) []::l):=by
 have H:=H.U9 (en:=YA) (s:=4) 79 (fun _=>rfl)
 have H:Sat g w (Wa []::Sl 79 4 YA (.slice none 0 0) []::A0::A1::A2::A3::A4::A5::l):=Sat.box (l1:=[]) H
 exact NO (H.Z8 [0,1,7,7,7,7,7,7] fun H=>H)
theorem go_ (H:Sat g w (LV m vw pr S::l)) (hm:XH g m) (P:Uy m.d) (hT:Fold.Hl g) (hw:Z0 g Lr (QZ g) 1 vw GM) (hW:K6 m GM) (T:Ty m.d S) (h0:S.host=0) (hc:S.calls≠[]) (hn:n<=100000) :
  yC 27 #[yS pr,yT n] w (fun r w'=>∃S' o vv,r=.tuple #[.agg #[yT o.e,vv,yT o.WR,yT o.host,yT o.left],yT 0]/\Tk m.d S n S' o/\Left m.d n S' o/\Sat g w' (LV m vw pr S'::Sl 2 1 ZF vv o.vals::l)):=by
 refine Fc.of Tryz.func27 rfl k_d ?_
 obtain ⟨cp,mp,vc,vt,vg,vp,cs,ps,Zt,Zl,hcs,hI,Tb,H⟩:=NX H
 replace H:=Hi H
 have Va:cs.length<=40:=by have:=T.le;rw [<-hcs,lea] at this;exact this
 have hcn:0<cs.length:=by grind
 refine ZV H rfl<|fun p1 w1 H=>bk<|Yh (Zz yY)<|cF (Zz yY)<|Z9 rfl<|yQ H 1 2 yN<|YK H 7 rfl rfl<|cF (Z4 yY)<|Z9 rfl<|yQ H 1 3 yN<|cF (Zz yY) ?_
 rw [h0] at H
 replace H:=NO (H.Z8 [8,8,8,8,8,8,8,8] fun H=>H)
 refine Z7.mk (Fc.imp (aoR (S0:=S) H hm P hT hw hW T h0 hc hcs hI hn) ?_)
 rintro _ w' ⟨Bk,apo,vp1,ps1,alz,cs1,o,vv,S1,rfl,hR,hI1,amR,aoU,CS,H⟩
 have A:=hR.after P T h0 hc
 by_cases ho:o.e=2
 .refine ZV H rfl<|fun p2 w2 H=>?_
  exact ZI H 0 rfl rfl rfl k_p<|fun w3 H=>Z9 rfl<|yQ H 0 0 yN<|cT (ZH yX)<|Z9 rfl<|Yy H 1 rfl rfl rfl rfl<|fun w2 H=>ZD (H.at 0 rfl) 0 rfl rfl rfl<|ZI H 9 rfl rfl rfl k_p<|fun w3 H=>XU (H.at 9 rfl) 0 rfl rfl rfl<|Z6.mk ⟨S1,o,vv,rfl,hR,A,RF (agd (((H.del 9).del 7).del 0)) (A.WR ho).1.symm hI1 amR CS⟩
 .refine ZV H rfl<|fun p2 w2 H=>?_
  refine ZI H 0 rfl rfl rfl k_p<|fun w3 H=>Z9 rfl<|yQ H 0 0 yN<|cF (Z4 yX)<|ZD (H.at 0 rfl) 0 rfl rfl rfl<|ZI H 9 rfl rfl rfl k_p<|fun w2 H=>XU (H.at 9 rfl) 0 rfl rfl rfl ?_
  rw [decide_eq_true (show o.e≠2 from ho)] at H
  exact Z6.mk ⟨S1,o,vv,rfl,hR,A,RF ((H.del 9).del 0) (aoU ho) hI1 amR CS⟩
theorem adu (H:Sat g w (LV m vw pr S::l)) (hm:XH g m) (P:Uy m.d) (T:Ty m.d S) (h0:0<S.host) (n:Int) (hn:XS n) :
  yC 29 #[yS pr,yT n] w (fun r w'=>r=yT 0/\Sat g w' (LV m vw pr (Vt m.d S n)::l)):=by
 refine Fc.of Tryz.func29 rfl k_d ?_
 obtain ⟨A1,A2,A3,dr,d,A4,A5,A6⟩:=Qy P T h0 hn
 have hh:=T.h0
 have hnf:=P.nf
 have hni:=P.ni
 have hw9:=Ma P A5
 obtain ⟨cp,mp,vc,vt,vg,vp,cs,ps,Zt,Zl,hcs,hI,Tb,H⟩:=NX H
 obtain ⟨up,c,rfl,rfl,rfl⟩:=adt (hcs.trans A4)
 have Va:(up++[c]).length<=40:=by have:=T.le;rw [<-hcs,lea] at this;exact this
 replace H:=ads H
 have Ez:(up++[c]).length=up.length+1:=by simp
 have hx:(up++[c])[(up++[c]).length-1]?=some c:=by simp
 have Mn:c.stk.length<=201:=hw9
 have amS:YZ m.d=m.Zy.length:=rfl
 have aoV:m.d.Zy.length=m.Zy.length:=rfl
 have hlt:S.host-1<(m.Zy.length:Int)+m.funcs.length:=by omega
 have hge:0<=S.host-1:=by omega
 refine Z9 rfl<|yQ H 0 3 yN<|cF (Z4 yY)<|ZN H [] [yRp0,yRp1,yRp2,yRh3,yRp4,yRp5,yRp6,yRh7,yRp8,yRp9,yRp10,yRp11] mixed k_d k_d<|fun w1 H=>yO rfl rfl<|yP 0 2 yN rfl<|yO rfl rfl<|yP 0 2 yN rfl ?_
 obtain ⟨a1,c1,V1⟩:=H.form 6 rfl
 refine tk (fun _ Z=>Xw V1 rfl yU)<|ZZ yY ?_
 obtain ⟨b1,o1,E1⟩:=H.Zc 6 rfl (((up++[c]).length)-1) yY
 refine tk (fun _ Z=>ZK E1 yY rfl rfl yU)<|ZN H [] [yRp0,yRp1,yRp2,yRh3,yRp4,yRp5,yRp6,yRh7,yRp8,yRp12,yRfr9,yRp10,yRp11] mixed k_d k_d<|fun w2 H=>yO rfl rfl<|yP 0 0 yN rfl<|yO rfl rfl<|yP 0 3 yN rfl<|ZZ yY<|H.Z8 [1]<|fun H=>?_
 refine Z7.mk (Fc.imp (Rn.K8 H yY yY _ yY yY) ?_)
 rintro _ w1 ⟨t1,⟨rfl,⟨h1,⟨h2,⟨h3,⟨h4,⟨h5,H⟩⟩⟩⟩⟩⟩⟩
 have PM:=Wh.out (by assumption:Wh g _)
 refine tk (fun _ Z=>R7 rfl yU)<|tk (fun _ Z=>ZG PM rfl yU) ?_
 have hfl:∀k,(UJ (t1.out.take k) n).length<=1:=fun k=>by unfold UJ;rw [lea,lya];omega
 refine Zd.rule (α:=Nat × Value) (0,c.vs) (fun x_=>[(36,yT x_.1)]) (fun x_ w_=>(x_.1<=t1.out.length)/\Sat g w_ ((Pt cp (yV m [yS mp,vt,vg]) 158::Pt pr [yS cp,vw,vc,yT S.host] 148::Pt mp [vp,yT m.most] 221::Sl 223 256 W8 vp ps::Sl 3 1 ZF vt Zt::Sl 2 1 ZF vg Zl::Sl 79 4 YA vc (up++[⟨c.fn,c.at_,c.vl,c.loc,x_.2,c.stk++UJ (t1.out.take x_.1) n⟩])::Wa up::Sl 2 1 ZF c.vl c.loc::Sl 2 1 ZF x_.2 (c.stk++UJ (t1.out.take x_.1) n)::l))) (fun x_=>t1.out.length-x_.1) ?_ ?_ ?_
 .exact k_a
 .try simp only
  refine ⟨yY,?_⟩
  refine H.cg (YC rfl (YC rfl (YC rfl (YC rfl (YC rfl (YC rfl (YC (P9 ?_) (YC rfl (YC rfl (YC (P9 ?_) (rfl)))))))))))
  .simp [UJ]
  (unfold UJ;rw [List.take_zero,List.map_nil,lqa])
 rintro ⟨k,DP⟩ f_ w_ ⟨hk,H⟩
 try simp only at hk H ⊢
 have hx1:(up++[(⟨c.fn,c.at_,c.vl,c.loc,DP,c.stk++UJ (t1.out.take k) n⟩:CV)])[(up++[c]).length-1]?=some (⟨c.fn,c.at_,c.vl,c.loc,DP,c.stk++UJ (t1.out.take k) n⟩:CV):=by simp
 have Fh:=hfl k
 clear hx
 refine cI (fun c2=>?_) (fun c2=>?_)
 focus
  replace c2:=Y4 (c2)
  refine bk ?_
  obtain ⟨x1,Tg⟩:∃x,(t1.out)[(k)]?=some x:=⟨_,laa yY⟩
  obtain ⟨b2,o2,E2,F1,ZL⟩:=Z0.Zc PM Tg
  refine ZK E2 rfl rfl rfl<|yJ (H.Yu F1) 0 yI<|ZN H [] [yRp0,yRp1,yRp2,yRp3,yRh4,yRp5,yRp6,yRf7,yRf8,yRfr9,yRp10,yRp11,yRfr12] mixed k_d k_d<|fun w3 H=>yO rfl rfl<|tk (fun _ Z=>yJ (Z.el 6 rfl E1 hx1) 3 yI yU) ?_
  refine Z7.mk (Fc.imp (Xl.FO H _ _) ?_)
  rintro _ w4 ⟨r1,⟨rfl,⟨h6,H⟩⟩⟩
  refine Za.mk (H)<|ZW H rfl rfl rfl rfl<|fun p1 w5 H=>Za.mk (H.drop 0 (fun H=>H))<|Ww (ys:=[_]) 8 H 10 rfl (H.at 0 rfl) rfl (fun y _=>rfl) rfl rfl rfl (by grind) (by grind)<|fun v1 w4 H=>yO rfl rfl<|Ys H 7 rfl E1 hx1 3 (⟨c.fn,c.at_,c.vl,c.loc,(v1),c.stk++UJ (t1.out.take k) n++[r1]⟩) rfl (by simp only [Bool.and_true,H.one 4 rfl,H.one 5 rfl,H.one 6 rfl,H.one 7 rfl,H.one 9 rfl,H.one 10 rfl,Z0.one PM]) rfl rfl<|fun w5 H=>ZZ yY ?_
 rotate_left 1
 focus
  replace c2:=Y3 (c2)
  refine Z9 rfl<|Yy H 1 rfl rfl rfl rfl<|fun w3 H=>?_
 rotate_left 1
 .have e1:UJ (t1.out.take (k+1)) n=UJ (t1.out.take k) n++[r1]:=by grind [UJ,List.take_add_one]
  have Wl:∀z z2:CV,(up++[z]).set ((up++[c]).length-1) z2=up++[z2]:=fun z z2=>by rw [Ez,lcb];exact Yb rfl _
  rw [Wl,lia0,<-e1] at H
  exact Xt.mk (k+1,v1) (Zv rfl yY ZY) ⟨by simp only;omega,H.del 0⟩ yY
 .have TS:k=t1.out.length:=by omega
  subst TS
  rw [lSb] at H
  refine Z6.mk ⟨rfl,RF (FK (c:=⟨c.fn,c.at_,c.vl,c.loc,DP,c.stk++UJ t1.out n⟩) (H.Z8 [1] fun H=>H)) ?_ hI Tb A2.symm⟩
  rw [A6,<-h3]
  exact Wr rfl
end
end Rn
namespace Rn
open Go YX RowKit
open YQ Zh Yg YO Valid Mem
section
variable {g:Zw} {w:World} {l:List As} {m:Ze} {pr cp mp:Nat} {vw vc vt vg vp Si vj:Value} {host f e:Int} {cs up:List CV} {Zt Zl s2:yB} {ps:List WC} {c u:CV} {x:ZS} {i b o:Nat} {ws:List XA} {j:XA}
variable {S S':MS} {n:Nat} {GM:List Ng} {va:Value} {args:yB}
def QY (m:YR) (S:MS) (f:Int) (args:yB) (e:Int) (S':MS):Prop :=
 (e=8/\(f<YZ m\/YZ m+m.funcs.length<=f)/\S'=S)\/(¬(f<YZ m\/YZ m+m.funcs.length<=f)/\((e=1/\args.length≠(QC m (WW m (f-YZ m))).Y9.length/\S'=S)\/(e=0/\args.length=(QC m (WW m (f-YZ m))).Y9.length/\S'=ZU m S f args)))
theorem QY.RK {m:YR} {S S1 S2:MS} {f:Int} {args:yB} {e1 e2:Int} (h1:QY m S f args e1 S1) (h2:QY m S f args e2 S2):e1=e2/\S1=S2:=by
 rcases h1 with ⟨a1,a2,a3⟩|⟨a0,⟨a1,a2,a3⟩|⟨a1,a2,a3⟩⟩ <;> rcases h2 with ⟨b1,b2,b3⟩|⟨b0,⟨b1,b2,b3⟩|⟨b1,b2,b3⟩⟩
 .grind
 .omega
 .omega
 .omega
 .grind
 .omega
 .omega
 .omega
 .grind
theorem aku (H:Sat g w (LV m vw pr S::l)) (hm:XH g m) (P:Uy m.d) (hc:S.calls=[]) (hh:S.host=0) (hf:XS f) (ha:Z0 g ZF XE 1 va args) :
  yC 34 #[yS pr,yT f,va] w (fun r w'=>∃e S',r=yT e/\QY m.d S f args e S'/\Sat g w' (LV m vw pr S'::l)):=by
 refine Fc.of Tryz.func34 rfl k_d ?_
 have hnf:=P.nf
 have hni:=P.ni
 have ZT:=hm.funcs
 have Zq:=hm.Zy
 have amS:YZ m.d=m.Zy.length:=rfl
 have aoV:m.d.Zy.length=m.Zy.length:=rfl
 have aoW:m.d.funcs.length=m.funcs.length:=lea ..
 have I0:=hf.1
 have MR:=hf.2
 obtain ⟨cp,mp,vc,vt,vg,vp,cs,ps,Zt,Zl,hcs,hI,Tb,H⟩:=NX H
 obtain rfl:cs=[]:=by rw [hc] at hcs;simpa using hcs
 replace H:=Hi H
 have Va:([]:List CV).length=0:=rfl
 by_cases hr:f<YZ m.d\/YZ m.d+m.d.funcs.length<=f
 .rw [amS,aoW] at hr
  rcases hr with hr|hr
  .by_cases hz:f<0
   .exact Z9 rfl<|yQ H 0 2 yN<|YK H 6 rfl rfl<|cF (Zz yY)<|Z9 rfl<|yQ H 0 0 yN<|Z9 rfl<|Z9 rfl<|yQ H 1 1 yN<|ZG Zq rfl<|X7.keep<|VT (Zu yX)<|cT rfl<|Z6.mk ⟨8,S,rfl,.inl ⟨rfl,.inl yY,rfl⟩,RF (NO H) hcs hI Tb rfl⟩
   .exact Z9 rfl<|yQ H 0 2 yN<|YK H 6 rfl rfl<|cF (Zz yY)<|Z9 rfl<|yQ H 0 0 yN<|Z9 rfl<|Z9 rfl<|yQ H 1 1 yN<|ZG Zq rfl<|ZZ yY<|Yh (Zz yY)<|VT (Zu yY)<|cT rfl<|Z6.mk ⟨8,S,rfl,.inl ⟨rfl,.inl yY,rfl⟩,RF (NO H) hcs hI Tb rfl⟩
  .exact Z9 rfl<|yQ H 0 2 yN<|YK H 6 rfl rfl<|cF (Zz yY)<|Z9 rfl<|yQ H 0 0 yN<|Z9 rfl<|Z9 rfl<|yQ H 1 1 yN<|ZG Zq rfl<|ZZ yY<|Yh (Zz yY)<|Yh (Zz yY)<|Z9 rfl<|yQ H 0 0 yN<|Z9 rfl<|Z9 rfl<|yQ H 1 2 yN<|ZG ZT rfl<|cT (Yf yY)<|Z6.mk ⟨8,S,rfl,.inl ⟨rfl,.inr yY,rfl⟩,RF (NO H) hcs hI Tb rfl⟩
 .have hlt:f<(m.Zy.length:Int)+m.funcs.length:=by omega
  have hge:0<=f:=by omega
  have hty:YG m.d f=QC m.d (WW m.d (f-YZ m.d)):=by
   have:=(OS P (n:=f-YZ m.d) yY yY).2
   rwa [show YZ m.d+(f-YZ m.d)=f by omega] at this
  have Lz:(m.Zy.length:Int)<=f:=by omega
  refine Z9 rfl<|yQ H 0 2 yN<|YK H 6 rfl rfl<|cF (Zz yY)<|Z9 rfl<|yQ H 0 0 yN<|Z9 rfl<|Z9 rfl<|yQ H 1 1 yN<|ZG Zq rfl<|ZZ yY<|Yh (Zz yX)<|Yh (Zz yY)<|Z9 rfl<|yQ H 0 0 yN<|Z9 rfl<|Z9 rfl<|yQ H 1 2 yN<|ZG ZT rfl<|cF (YJ yY)<|Z9 rfl<|yQ H 0 0 yN<|H.Z8 [1]<|fun H=>?_
  refine Z7.mk (Fc.imp (Rn.K8 H yY yY _ yY yY) ?_)
  rintro _ w1 ⟨t1,⟨rfl,⟨h1,⟨h2,⟨h3,⟨h4,⟨h5,H⟩⟩⟩⟩⟩⟩⟩
  have PM:=Wh.Y9 (by assumption:Wh g _)
  refine R7 rfl<|ZG ha rfl<|ZG PM rfl ?_
  refine cI (fun c1=>?_) (fun c1=>?_)
  focus
   replace c1:=YM (c1)
  rotate_left 1
  focus
   replace c1:=YL (c1)
   refine ZG PM rfl ?_
  rotate_left 1
  .exact Z6.mk ⟨1,S,rfl,.inr ⟨hr,.inl ⟨rfl,fun h=>c1 (by rw [<-hty,<-h3] at h;have h:args.length=t1.Y9.length:=h;omega),rfl⟩⟩,RF (NO (H.Z8 [1] fun H=>H)) hcs hI Tb rfl⟩
  .have hal:args.length=t1.Y9.length:=by omega
   have hfa:(fitAll t1.Y9 args).length=t1.Y9.length:=by grind [fitAll]
   replace H:=H.U9 (en:=ZF) (s:=1) 2 (fun _=>rfl)
   refine Zd.rule (α:=Nat × Value) (0,.slice none 0 0) (fun x_=>[(62,yT x_.1),(9,x_.2)]) (fun x_ w_=>(x_.1<=t1.Y9.length)/\Sat g w_ ((Sl 2 1 ZF x_.2 ((fitAll t1.Y9 args).take x_.1)::Pt cp (yV m [yS mp,vt,vg]) 158::Pt pr [yS cp,vw,vc,yT S.host] 148::Pt mp [vp,yT m.most] 221::Sl 223 256 W8 vp ps::Sl 3 1 ZF vt Zt::Sl 2 1 ZF vg Zl::Sl 79 4 YA vc []::Wa []::l))) (fun x_=>t1.Y9.length-x_.1) ?_ ?_ ?_
   .exact k_a
   .grind
   rintro ⟨k,v9⟩ f_ w_ ⟨hk,H⟩
   try simp only at hk H ⊢
   have Fh:((fitAll t1.Y9 args).take k).length=k:=by grind
   refine cI (fun c2=>?_) (fun c2=>?_)
   focus
    replace c2:=Y4 (c2)
    refine bk ?_
    obtain ⟨x1,hx1⟩:∃x,(t1.Y9)[(k)]?=some x:=⟨_,laa yY⟩
    obtain ⟨b1,o1,E1,F1,ZL⟩:=Z0.Zc PM hx1
    refine ZK E1 rfl rfl rfl<|yJ (H.Yu F1) 0 yI ?_
    obtain ⟨x2,Tg⟩:∃x,(args)[(k)]?=some x:=⟨_,laa yY⟩
    obtain ⟨b2,o2,E2,F2,YW⟩:=Z0.Zc ha Tg
    refine ZK E2 rfl rfl rfl<|yJ (H.Yu F2) 0 yI ?_
   rotate_left 1
   focus
    replace c2:=Y3 (c2)
   rotate_left 1
   .have e0:(fitAll t1.Y9 args)[k]?=some (Xl.RA x1 x2):=by grind [fitAll]
    have e1:(fitAll t1.Y9 args).take (k+1)=(fitAll t1.Y9 args).take k++[Xl.RA x1 x2]:=by grind [List.take_add_one]
    refine Z7.mk (Fc.imp (Xl.FO H _ _) ?_)
    rintro _ w2 ⟨r1,⟨rfl,⟨h6,H⟩⟩⟩
    refine ZW H rfl rfl rfl rfl<|fun p1 w3 H=>Ww (ys:=[_]) 8 H 1 rfl (H.at 0 rfl) rfl (fun y _=>rfl) rfl rfl rfl yY yY<|fun v1 w2 H=>ZZ yY ?_
    subst h6
    rw [<-e1] at H
    exact Xt.mk (k+1,v1) (Zv rfl yY (ZR rfl ZY)) ⟨by simp only;omega,H.del 0⟩ yY
   .have TS:k=t1.Y9.length:=by omega
    rw [lsa yY] at H
    obtain ⟨n,hn⟩:=lwa (show 0<=f-m.Zy.length by omega)
    obtain ⟨Fv,FJ,B6⟩:=H6 (m:=m) (f:=f-YZ m.d) yY yY
    have hFm:=Vl (m:=m.d) (n:=f-YZ m.d) yY yY
    rw [show (f-YZ m.d).toNat=n by omega] at FJ
    have B7:=(P.fn _ hFm).loc
    rw [B6] at B7
    have B7:Fv.loc.length<=16:=B7
    rw [hn]
    refine H.Z8 [0,7,2,3]<|fun H=>?_
    refine Z7.mk (Fc.imp (afY H hm n Fv FJ B7 yY yW yY) ?_)
    rintro r w' ⟨Bk,DY,H⟩
    refine Z6.mk ⟨0,ZU m.d S f args,rfl,.inr ⟨hr,.inr ⟨rfl,by rw [<-hty,<-h3];exact hal,rfl⟩⟩,RF (FK (up:=[]) (c:=⟨n,0,DY,fitAll t1.Y9 args++List.replicate Fv.loc.length 0,.slice none 0 0,[]⟩) (H.Z8 [4,4,9,5,9,9,9,9,9,9] fun H=>H)) ?_ hI Tb hh⟩
    unfold ZU
    rw [<-hty,<-h3,B6,show f-YZ m.d=n from hn]
    rfl
end
end Rn
namespace Rn
open Go YX RowKit
open YQ Zh Yg YO Valid Mem
section
variable {g:Zw} {w:World} {l:List As} {m:Ze} {pr cp mp:Nat} {vw vc vt vg vp Si vj:Value} {host f e:Int} {cs up:List CV} {Zt Zl s2:yB} {ps:List WC} {c u:CV} {x:ZS} {i b o:Nat} {ws:List XA} {j:XA}
variable {S S':MS} {n k:Nat} {GM:List Ng} {va:Value} {args:yB} {a:List CV}
theorem ahW {A:As} {h:Hp} (hA:A h):Qq [A] h:=⟨h,fun _=>none,fun k=>.inl ⟨rfl,rfl⟩,hA,trivial⟩
theorem akv {l1:List As} {h:Hp} (hA:Qq [Qq l1] h):Qq l1 h:=by
 obtain ⟨c,d,s,hc,_⟩:=hA
 have:=Pp (l2:=[]) s hc trivial
 rwa [lqa] at this
theorem L8 (H:Sat g w (Wa (a++cs)::l)):Sat g w (Wa a::Wa cs::l):=by
 have H:Sat g w (Qq [Wa a,Wa cs]::l):=H.weak fun h hh=>by
  unfold Wa at hh
  rw [lIa] at hh
  obtain ⟨x,y,s,hx,hy⟩:=KB hh
  exact ⟨x,y,s,hx,ahW hy⟩
 exact H.unbox
theorem adv (H:Sat g w (Wa a::Wa cs::l)):Sat g w (Wa (a++cs)::l):=by
 have H:Sat g w (Qq [Wa a,Wa cs]::l):=H.box
 refine H.weak fun h hh=>?_
 obtain ⟨x,y,s,hx,hy⟩:=hh
 unfold Wa
 rw [lIa]
 exact Pp s hx (akv hy)
theorem age {α:Type} {xs:List α} {k:Nat} {x:α} (h:xs[k]?=some x):xs=xs.take k++([x]++xs.drop (k+1)):=by grind [List.singleton_append,List.getElem_cons_drop,List.take_append_drop]
theorem amT (H:Sat g w (Wa cs::l)) (hc:cs[k]?=some c):Sat g w (Sl 2 1 ZF c.vl c.loc::Sl 2 1 ZF c.vs c.stk::Wa (cs.take k)::Wa (cs.drop (k+1))::l):=by
 rw [age hc] at H
 have H:=(L8 H).Z8 [1] fun H=>H
 have H:Sat g w (Sl 2 1 ZF c.vl c.loc::Sl 2 1 ZF c.vs c.stk::Wa (cs.drop (k+1))::Wa (cs.take k)::l):=Sat.unbox (L8 H)
 exact H.Z8 [0,1,3] fun H=>H.Z8 [1,2] fun H=>H
theorem akw (H:Sat g w (Sl 2 1 ZF c.vl c.loc::Sl 2 1 ZF c.vs c.stk::Wa (cs.take k)::Wa (cs.drop (k+1))::l)) (hc:cs[k]?=some c):Sat g w (Wa cs::l):=by
 have H:Sat g w (Wa [c]::Wa (cs.take k)::Wa (cs.drop (k+1))::l):=Sat.box (l1:=fr c) H
 have H:=adv (a:=[c]) (cs:=cs.drop (k+1)) (H.Z8 [2,1] fun H=>H)
 have H:=adv (a:=cs.take k) (cs:=[c]++cs.drop (k+1)) (H.Z8 [1] fun H=>H)
 rwa [<-age hc] at H
theorem ahX (H:Sat g w (Wa cs::l)):∀c∈cs,c.vl.oneCell'=true/\c.vs.oneCell'=true:=by
 intro c hc
 obtain ⟨i,hi,rfl⟩:=lWa.1 hc
 have H:=amT H (laa hi)
 exact ⟨H.one 0 rfl,H.one 1 rfl⟩
theorem ahY (H:Sat g w (Sl 79 4 YA vc cs::l)) (hl:cs.length<=1000) (h1:∀c∈cs,c.vl.oneCell'=true/\c.vs.oneCell'=true):yC 115 #[vc] w (fun u w'=>Sat g w' (Sl 79 4 YA u cs::Sl 79 4 YA vc cs::l)):=by
 refine Fc.of Tryz.func115 rfl k_d ?_
 rcases H.Tf 0 rfl with ⟨ND,NC⟩|⟨b1,o1,c1,V1⟩
 .subst ND
  subst NC
  refine XC rfl<|cT rfl<|Z6.mk ?_
  replace H:=H.U9 (en:=YA) (s:=4) 79 (fun _=>rfl)
  exact H
 subst V1
 exact XC rfl<|cF rfl<|ZW H rfl rfl rfl rfl<|fun p1 w1 H=>H.Wv (n:=0) (en:=YA) (s:=4) 0 rfl [] rfl rfl (fun _=>rfl) rfl<|fun H=>Ut 64 H 0 rfl (H.Dx (ok:=fun _=>True) 1 rfl (fun _ _=>trivial)) (fun y h=>by simp only [YA,yq9,yq8,(h1 y h).1,(h1 y h).2];rfl) rfl rfl rfl (by grind) (by grind)<|fun v1 w2 H=>Z6.mk<|H
theorem agf (H:Sat g w (Sl 79 4 YA vc cs::Wa cs::l)) (hl:cs.length<=1000) (hz:∀c∈cs,c.loc.length<=1000/\c.stk.length<=1000):yC 74 #[vc] w (fun u w'=>∃cs',cs'.map CV.d=cs.map CV.d/\Sat g w' (Sl 79 4 YA u cs'::Wa cs'::Sl 79 4 YA vc cs::Wa cs::l)):=by
 refine Fc.of Tryz.func74 rfl k_d ?_
 have h1:=ahX (H.Z8 [1] fun H=>H)
 refine Z7.mk (Fc.imp (Rn.ahY H yY yY) ?_)
 rintro v' w1 H
 refine YK H 0 rfl rfl ?_
 refine Zd.rule (α:=Nat × List CV) (0,[]) (fun x_=>[(9,yT x_.1)]) (fun x_ w_=>(x_.1<=cs.length)/\(x_.2.map CV.d=(cs.take x_.1).map CV.d)/\Sat g w_ ((Sl 79 4 YA v' (x_.2++cs.drop x_.1)::Wa x_.2::Sl 79 4 YA vc cs::Wa cs::l))) (fun x_=>cs.length-x_.1) ?_ ?_ ?_
 .exact k_a
 .try simp only
  refine ⟨yY,?_⟩
  refine ⟨rfl,?_⟩
  exact (Sat.box (l1:=[]) H).Z8 [1] fun H=>H
 rintro ⟨k,ds⟩ f_ w_ ⟨hk,hd,H⟩
 try simp only at hk hd H ⊢
 have hdl:ds.length=k:=by grind [List.length_map,List.length_take]
 have hal:(ds++cs.drop k).length=cs.length:=by grind
 rcases loa k cs.length with hlt|hge
 .obtain ⟨c,hc⟩:∃c,cs[k]?=some c:=⟨_,laa hlt⟩
  have hx:(ds++cs.drop k)[k]?=some c:=by grind
  obtain ⟨Cq,hz2⟩:=hz c (lda hc)
  replace H:=amT (H.Z8 [3] fun H=>H) hc
  have hvl:=H.one 0 rfl
  have hvs:=H.one 1 rfl
  refine cT (Zu yY)<|bk ?_
  obtain ⟨b1,o1,E1⟩:=H.Zc 4 rfl (k) yY
  refine ZK E1 rfl rfl rfl<|ZD (H.el 4 rfl E1 hx) 0 rfl rfl rfl<|ZV H rfl<|fun p1 w2 H=>ZI H 0 rfl rfl rfl (by simp only [yq9,yq8,H.one 1 rfl,H.one 2 rfl,H.one 5 rfl,H.one 7 rfl,hvs,hvl];rfl)<|fun w3 H=>ZN H [] [yRp0,yRp1,yRp2,yRp3,yRp4,yRh5,yRp7,yRh8,yRf6,yRfr9,yRp10,yRp11,yRfr12,yRp13,yRp14,yRfr15] mixed k_d k_d<|fun w2 H=>yO rfl rfl<|yP 0 2 yN rfl<|yO rfl rfl<|yP 0 3 yN rfl<|H.Z8 [1]<|fun H=>?_
  refine Z7.mk (Fc.imp (Rn.OM H yY) ?_)
  rintro UP w3 H
  refine H.Z8 [8,8,8,8,8,8,7,8]<|fun H=>Za.mk (H.drop 8 (fun H=>H))<|H.Z8 [2]<|fun H=>?_
  refine Z7.mk (Fc.imp (Rn.OM H yY) ?_)
  rintro NK w4 H
  refine tk (fun _ Z=>ZK E1 rfl rfl rfl yU)<|yO rfl rfl<|Ys H 6 rfl E1 hx 2 (⟨c.fn,c.at_,(UP),c.loc,c.vs,c.stk⟩) rfl (by simp only [Bool.and_true,H.one 0 rfl,H.one 1 rfl,H.one 3 rfl,H.one 6 rfl,H.one 8 rfl,H.one 9 rfl,hvs,hvl]) rfl rfl<|fun w5 H=>tk (fun _ Z=>ZK E1 rfl rfl rfl yU)<|yO rfl rfl ?_
  have hx1:((ds++List.drop k cs).set k { fn:=c.fn,at_:=c.at_,vl:=UP,loc:=c.loc,vs:=c.vs,stk:=c.stk })[k]?=some _:=WD hx
  refine Ys H 6 rfl E1 hx1 3 (⟨c.fn,c.at_,UP,c.loc,(NK),c.stk⟩) rfl (by simp only [Bool.and_true,H.one 0 rfl,H.one 1 rfl,H.one 3 rfl,H.one 6 rfl,H.one 8 rfl,H.one 9 rfl,hvs,hvl]) rfl rfl<|fun w4 H=>ZZ yY ?_
  have e1:((ds++cs.drop k).set k ⟨c.fn,c.at_,UP,c.loc,c.vs,c.stk⟩).set k ⟨c.fn,c.at_,UP,c.loc,NK,c.stk⟩=(ds++[⟨c.fn,c.at_,UP,c.loc,NK,c.stk⟩])++cs.drop (k+1):=by
   rw [List.set_set,List.set_append_right _ _ yY,hdl,lVb,lma hlt,lfb,lia0];rfl
  rw [e1] at H
  have H2:=akw ((H.del 2).Z8 [4,4,3,4] fun H=>H) hc
  have H3:=(QA (c:=⟨c.fn,c.at_,UP,c.loc,NK,c.stk⟩) (H2.Z8 [3,2,5] fun H=>H)).Z8 [1,3,2,3] fun H=>H
  refine Xt.mk (k+1,ds++[⟨c.fn,c.at_,UP,c.loc,NK,c.stk⟩]) (Zv rfl yY ZY) ⟨by simp only;omega,?_,H3⟩ yY
  simp only
  rw [lRa,hd,lZa,hc,lRa];rfl
 .refine cF (Zz yY) ?_
  have TS:k=cs.length:=by omega
  subst TS
  rw [List.drop_length,lqa] at H
  rw [lSb] at hd
  exact Z6.mk ⟨ds,hd,H⟩
theorem adw (P:Uy m.d) (T:Ty m.d S):∀c∈S.calls,c.loc.length<=1000/\c.stk.length<=1000:=by
 have NF:∀{c:Y0},OU m.d c->c.loc.length<=1000:=fun {c} F=>by
  have h1:=F.loc.len
  have hm:=Vl F.f0 F.f1
  have h2:=(P.fn _ hm).loc
  have h3:=(P.sig _ (Mi P hm).1).1
  unfold Xc at h1
  rw [lca] at h1
  omega
 have hW:∀{up:List Y0} {n:Int},Xz m.d up n->∀c∈up,c.loc.length<=1000/\c.stk.length<=1000:=fun {up n} W c hc=>by
  obtain ⟨i,hi,rfl⟩:=lWa.1 hc
  have W1:=W i _ (laa hi)
  exact ⟨NF W1.fr,by have:=Ma P W1;omega⟩
 rcases T.cs with ⟨_,h⟩|⟨_,up,c,h,h1,h2⟩|⟨_,_,h⟩
 .grind
 .rw [h]
  intro d hd
  rcases lHa.1 hd with hd|hd
  .grind
  .rw [lra] at hd
   subst hd
   obtain ⟨Es,Ls,Q⟩:=(h2.fr.f P).snd
   have:=Nh Q (fun t ht=>(P.sig t ht).2) h2.ty
   exact ⟨NF h2.fr,by omega⟩
 .grind
theorem HX (H:Sat g w (LV m vw pr S::l)) (P:Uy m.d) (T:Ty m.d S) :
  yC 28 #[yS pr] w (fun r w'=>∃v cs,r=.agg #[v,yT S.host]/\cs.map CV.d=S.calls/\Sat g w' (LV m vw pr S::Sl 79 4 YA v cs::Wa cs::l)):=by
 refine Fc.of Tryz.func28 rfl k_d ?_
 obtain ⟨cp,mp,vc,vt,vg,vp,cs,ps,Zt,Zl,hcs,hI,Tb,H⟩:=NX H
 replace H:=Hi H
 have Va:cs.length<=1000:=by have:=T.le;rw [<-hcs,lea] at this;omega
 have hz:∀c∈cs,c.loc.length<=1000/\c.stk.length<=1000:=fun c hc=>adw P T c.d (by grind)
 refine ZV H rfl<|fun p1 w1 H=>ZN H [] [yRp0,yRp1,yRp2,yRh3,yRp5,yRp6,yRp7,yRh8,yRf4,yRp9,yRfr10] mixed k_d k_d<|fun w2 H=>yO rfl rfl<|yP 1 2 yN rfl<|yO rfl rfl<|yP 1 3 yN rfl<|H.Z8 [8,8]<|fun H=>?_
 refine Z7.mk (Fc.imp (Rn.agf H yY yY) ?_)
 rintro v' w1 ⟨CH,⟨h1,H⟩⟩
 obtain ⟨a9,c9,rfl⟩:=H.form 0 rfl
 exact H.Z8 [3,3,10,10,10,10,10,10,10]<|fun H=>Za.mk (H.drop 10 (fun H=>H.drop 9 (fun H=>H)))<|tk (fun _ Z=>Zn rfl rfl rfl yU)<|ZI H 0 rfl rfl rfl rfl<|fun w3 H=>XU (H.at 0 rfl) 0 rfl rfl rfl<|Z6.mk ⟨_,CH,rfl,h1.trans hcs,RF (NO (H.del 0)) hcs hI Tb rfl⟩
end
end Rn
namespace Rn
open Go YX RowKit
open YQ Zh Yg YO Valid
theorem Rl {α β:Type} {f:α->β} {ys:List α} {i:Nat} {y y2:α} (h:ys[i]?=some y) (hd:f y2=f y):(ys.set i y2).map f=ys.map f:=by
 rw [List.map_set,hd]
 refine lJa fun j=>?_
 rw [lPa]
 by_cases e:i=j
 .grind
 .grind
theorem J6 {α:Type} {ys:List α} {i:Nat} {y2:α} {ok:α->Prop} (h:∀y∈ys,ok y) (h2:ok y2):∀y∈ys.set i y2,ok y:=by grind
theorem J5 {α β:Type} {f:α->β} {xs ys:List α} {i:Nat} {y:α} (hd:ys.map f=xs.map f) (hy:ys[i]?=some y):∃x,xs[i]?=some x/\x∈xs/\f y=f x:=by
 have h9:=yq5 (fun z=>z[i]?) hd
 simp only [List.getElem?_map,hy,Option.map_some] at h9
 obtain ⟨x,h1,h2⟩:=lbc.1 h9.symm
 exact ⟨x,h1,lda h1,h2.symm⟩
theorem abY {g g':Zw} {x:Xo} (h:Wh g x) (E:Ext g g'):Wh g' x:=⟨h.Y9.ext E,h.out.ext E⟩
theorem abZ {g g':Zw} {x:Yx} (h:Un g x) (E:Ext g g'):Un g' x:=⟨h.ty,h.loc.ext E,Z0.Wc (ok:=okV) (fun _ _ _ h E=>h.ext E) h.body E⟩
section
variable {g:Zw} {w:World} {l:List As} {m:Ze}
theorem Nd {α:Type} {e:TypeId} {s:Nat} {en:α->yz} {u:Value} {xs:List α} (H:Sat g w (Sl e s en u xs::l)):∃a c,u=.slice a xs.length c/\Sat g w (Sl e s en (.slice a xs.length c) xs::l):=by
 obtain ⟨a,c,rfl⟩:=H.form 0 rfl
 exact ⟨a,c,rfl,H⟩
theorem amU (H:Sat g w l) (v:Value) (xs:List Xo) (hx:Z0 g Od (Wh g) 2 v xs) (hl:xs.length<=1000):yC 134 #[v] w (fun u w'=>Sat g w' (Sl 104 2 Od u xs::l)):=by
 have BC:∀y∈xs,((Od y).all (·.oneCell'))=true:=fun y h=>by have o:=Z0.all hx y h;simp only [Od,yq9,yq8,Z0.one o.Y9,Z0.one o.out];rfl
 refine Fc.of Tryz.func134 rfl k_d ?_
 rcases Z0.Tf hx with ⟨ND,NC⟩|⟨b1,c1,V1⟩
 .subst ND
  subst NC
  refine XC rfl<|cT rfl<|Z6.mk ?_
  replace H:=H.U9 (en:=Od) (s:=2) (104) (fun _=>rfl)
  exact H
 subst V1
 exact XC rfl<|cF rfl<|ZW H rfl rfl rfl rfl<|fun p1 w1 H=>H.Wv (n:=0) (en:=Od) (s:=2) 0 rfl [] rfl rfl (fun _=>rfl) rfl<|fun H=>Ut 48 H 0 rfl (H.rd hx) yX rfl rfl rfl (by grind) (by grind)<|fun v1 w2 H=>Z6.mk<|H
theorem amV (H:Sat g w l) (v:Value) (xs:List (yA × Int)) (hx:Z0 g Tz Rj 2 v xs) (hl:xs.length<=1000):yC 135 #[v] w (fun u w'=>Sat g w' (Sl 125 2 Tz u xs::l)):=by
 refine Fc.of Tryz.func135 rfl k_d ?_
 rcases Z0.Tf hx with ⟨ND,NC⟩|⟨b1,c1,V1⟩
 .subst ND
  subst NC
  refine XC rfl<|cT rfl<|Z6.mk ?_
  replace H:=H.U9 (en:=Tz) (s:=2) (125) (fun _=>rfl)
  exact H
 subst V1
 exact XC rfl<|cF rfl<|ZW H rfl rfl rfl rfl<|fun p1 w1 H=>H.Wv (n:=0) (en:=Tz) (s:=2) 0 rfl [] rfl rfl (fun _=>rfl) rfl<|fun H=>Ut 24 H 0 rfl (H.rd hx) (fun y _=>rfl) rfl rfl rfl (by grind) (by grind)<|fun v1 w2 H=>Z6.mk<|H
theorem amW (H:Sat g w l) (v:Value) (xs:List (yA × Int)) (hx:Z0 g Tz Rj 2 v xs) (hl:xs.length<=1000):yC 137 #[v] w (fun u w'=>Sat g w' (Sl 129 2 Tz u xs::l)):=by
 refine Fc.of Tryz.func137 rfl k_d ?_
 rcases Z0.Tf hx with ⟨ND,NC⟩|⟨b1,c1,V1⟩
 .subst ND
  subst NC
  refine XC rfl<|cT rfl<|Z6.mk ?_
  replace H:=H.U9 (en:=Tz) (s:=2) (129) (fun _=>rfl)
  exact H
 subst V1
 exact XC rfl<|cF rfl<|ZW H rfl rfl rfl rfl<|fun p1 w1 H=>H.Wv (n:=0) (en:=Tz) (s:=2) 0 rfl [] rfl rfl (fun _=>rfl) rfl<|fun H=>Ut 24 H 0 rfl (H.rd hx) (fun y _=>rfl) rfl rfl rfl (by grind) (by grind)<|fun v1 w2 H=>Z6.mk<|H
theorem amX (H:Sat g w l) (v:Value) (xs:List (Int × Bool × Int)) (hx:Z0 g NJ Kt 3 v xs) (hl:xs.length<=1000):yC 136 #[v] w (fun u w'=>Sat g w' (Sl 99 3 NJ u xs::l)):=by
 refine Fc.of Tryz.func136 rfl k_d ?_
 rcases Z0.Tf hx with ⟨ND,NC⟩|⟨b1,c1,V1⟩
 .subst ND
  subst NC
  refine XC rfl<|cT rfl<|Z6.mk ?_
  replace H:=H.U9 (en:=NJ) (s:=3) (99) (fun _=>rfl)
  exact H
 subst V1
 exact XC rfl<|cF rfl<|ZW H rfl rfl rfl rfl<|fun p1 w1 H=>H.Wv (n:=0) (en:=NJ) (s:=3) 0 rfl [] rfl rfl (fun _=>rfl) rfl<|fun H=>Ut 16 H 0 rfl (H.rd hx) (fun y _=>rfl) rfl rfl rfl (by grind) (by grind)<|fun v1 w2 H=>Z6.mk<|H
theorem Ei (H:Sat g w l) (v:Value) (xs:yB) (hx:Z0 g YB U8 1 v xs) (hl:xs.length<=1000):yC 119 #[v] w (fun u w'=>∃a c,u=.slice a xs.length c/\Sat g w' (Sl 97 1 YB (.slice a xs.length c) xs::l)):=by
 refine Fc.of Tryz.func119 rfl k_d ?_
 rcases Z0.Tf hx with ⟨ND,NC⟩|⟨b1,c1,V1⟩
 .subst ND
  subst NC
  refine XC rfl<|cT rfl<|Z6.mk ?_
  refine ⟨none,0,?_⟩
  refine ⟨rfl,?_⟩
  replace H:=H.U9 (en:=YB) (s:=1) (97) (fun _=>rfl)
  exact H
 subst V1
 exact XC rfl<|cF rfl<|ZW H rfl rfl rfl rfl<|fun p1 w1 H=>H.Wv (n:=0) (en:=YB) (s:=1) 0 rfl [] rfl rfl (fun _=>rfl) rfl<|fun H=>Ut 1 H 0 rfl (H.rd hx) (fun y _=>rfl) rfl rfl rfl (by grind) (by grind)<|fun v1 w2 H=>Z6.mk<|Nd H
theorem aoX (H:Sat g w l) (v:Value) (xs:yB) (hx:Z0 g ZF XE 1 v xs) (hl:xs.length<=1000):yC 101 #[v] w (fun u w'=>∃a c,u=.slice a xs.length c/\Sat g w' (Sl 3 1 ZF (.slice a xs.length c) xs::l)):=by
 refine Fc.of Tryz.func101 rfl k_d ?_
 rcases Z0.Tf hx with ⟨ND,NC⟩|⟨b1,c1,V1⟩
 .subst ND
  subst NC
  refine XC rfl<|cT rfl<|Z6.mk ?_
  refine ⟨none,0,?_⟩
  refine ⟨rfl,?_⟩
  replace H:=H.U9 (en:=ZF) (s:=1) (3) (fun _=>rfl)
  exact H
 subst V1
 exact XC rfl<|cF rfl<|ZW H rfl rfl rfl rfl<|fun p1 w1 H=>H.Wv (n:=0) (en:=ZF) (s:=1) 0 rfl [] rfl rfl (fun _=>rfl) rfl<|fun H=>Ut 8 H 0 rfl (H.rd hx) (fun y _=>rfl) rfl rfl rfl (by grind) (by grind)<|fun v1 w2 H=>Z6.mk<|Nd H
theorem amY (H:Sat g w l) (v:Value) (xs:List Yx) (hx:Z0 g Oc (Un g) 3 v xs) (hl:xs.length<=1000):yC 138 #[v] w (fun u w'=>Sat g w' (Sl 107 3 Oc u xs::l)):=by
 have BC:∀y∈xs,((Oc y).all (·.oneCell'))=true:=fun y h=>by have o:=Z0.all hx y h;simp only [Oc,yq9,yq8,Z0.one o.loc,Z0.one o.body];rfl
 refine Fc.of Tryz.func138 rfl k_d ?_
 rcases Z0.Tf hx with ⟨ND,NC⟩|⟨b1,c1,V1⟩
 .subst ND
  subst NC
  refine XC rfl<|cT rfl<|Z6.mk ?_
  replace H:=H.U9 (en:=Oc) (s:=3) (107) (fun _=>rfl)
  exact H
 subst V1
 exact XC rfl<|cF rfl<|ZW H rfl rfl rfl rfl<|fun p1 w1 H=>H.Wv (n:=0) (en:=Oc) (s:=3) 0 rfl [] rfl rfl (fun _=>rfl) rfl<|fun H=>Ut 56 H 0 rfl (H.rd hx) yX rfl rfl rfl (by grind) (by grind)<|fun v1 w2 H=>Z6.mk<|H
theorem aoY (H:Sat g w l) (v:Value) (xs:List Y5) (hx:Z0 g I3 (okV g) 4 v xs) (hl:xs.length<=1000):yC 139 #[v] w (fun u w'=>∃a c,u=.slice a xs.length c/\Sat g w' (Sl 196 4 I3 (.slice a xs.length c) xs::l)):=by
 have BC:∀y∈xs,((I3 y).all (·.oneCell'))=true:=fun y h=>by have o:=Z0.all hx y h;simp only [I3,yq9,yq8,Z0.one o.to];rfl
 refine Fc.of Tryz.func139 rfl k_d ?_
 rcases Z0.Tf hx with ⟨ND,NC⟩|⟨b1,c1,V1⟩
 .subst ND
  subst NC
  refine XC rfl<|cT rfl<|Z6.mk ?_
  refine ⟨none,0,?_⟩
  refine ⟨rfl,?_⟩
  replace H:=H.U9 (en:=I3) (s:=4) (196) (fun _=>rfl)
  exact H
 subst V1
 exact XC rfl<|cF rfl<|ZW H rfl rfl rfl rfl<|fun p1 w1 H=>H.Wv (n:=0) (en:=I3) (s:=4) 0 rfl [] rfl rfl (fun _=>rfl) rfl<|fun H=>Ut 48 H 0 rfl (H.rd hx) yX rfl rfl rfl (by grind) (by grind)<|fun v1 w2 H=>Z6.mk<|Nd H
theorem Eh (H:Sat g w l) (v:Value) (xs:yB) (hx:Z0 g ZF XE 1 v xs) (hl:xs.length<=1000):yC 50 #[v] w (fun u w'=>∃a c,u=.slice a xs.length c/\Sat g w' (Sl 2 1 ZF (.slice a xs.length c) xs::l)):=by
 refine Fc.of Tryz.func50 rfl k_d ?_
 rcases Z0.Tf hx with ⟨ND,NC⟩|⟨b1,c1,V1⟩
 .subst ND
  subst NC
  refine XC rfl<|cT rfl<|Z6.mk ?_
  refine ⟨none,0,?_⟩
  refine ⟨rfl,?_⟩
  replace H:=H.U9 (en:=ZF) (s:=1) (2) (fun _=>rfl)
  exact H
 subst V1
 exact XC rfl<|cF rfl<|ZW H rfl rfl rfl rfl<|fun p1 w1 H=>H.Wv (n:=0) (en:=ZF) (s:=1) 0 rfl [] rfl rfl (fun _=>rfl) rfl<|fun H=>Ut 8 H 0 rfl (H.rd hx) (fun y _=>rfl) rfl rfl rfl (by grind) (by grind)<|fun v1 w2 H=>Z6.mk<|Nd H
def Wq (m:YR):YR:=⟨m.types,m.Zy,m.funcs,m.table,m.pages,m.most,m.globals,m.VV,m.start,[],[]⟩
theorem agh (H:Sat g w l) (hm:XH g m) (h1:m.types.length<=100) (h2:m.Zy.length<=100) (h3:m.funcs.length<=100) (h4:m.globals.length<=100) (h5:m.VV.length<=100) (hT:∀t∈m.types,t.d.Y9.length<=100/\t.d.out.length<=100) (hF:∀f∈m.funcs,f.d.loc.length<=100/\f.d.body.length<=200) (hB:∀f∈m.funcs,∀x∈f.d.body,x.to.length<=1000) :
  yC 100 #[.agg (yV m []).toArray] w (fun r w'=>∃(g':Zw) (m':Ze),r=.agg (yV m' []).toArray/\Ext g g'/\XH g' m'/\m'.d=Wq m.d/\Sat g' w' l):=by
 have ZO:=hm.types
 have Zq:=hm.Zy
 have ZT:=hm.funcs
 have Zf:=hm.globals
 have Xq:=hm.VV
 refine Fc.of Tryz.func100 rfl k_d<|ZJ H<|fun p1 w1 H=>ZV H rfl<|fun p2 w2 H=>Z9 rfl<|yQ H 1 0 yN ?_
 refine Z7.mk (Fc.imp (Rn.amU H _ _ ZO yY) ?_)
 rintro v' w1 H
 refine Z9 rfl<|Yy H 2 rfl rfl rfl (H.one 0 rfl)<|fun w3 H=>Z9 rfl<|yQ H 2 0 yN<|YK H 0 rfl rfl ?_
 refine Zd.rule (α:=Zw × Nat × List Xo) (g,0,m.types) (fun x_=>[(15,yT x_.2.1)]) (fun x_ w_=>(Ext g x_.1)/\(x_.2.1<=m.types.length)/\(x_.2.2.map Xo.d=m.types.map Xo.d)/\(∀y∈x_.2.2,Wh x_.1 y)/\Sat x_.1 w_ ((Sl 104 2 Od v' x_.2.2::Pt p2 [.slice none 0 0,.slice none 0 0,.slice none 0 0,yT 0,yT 0,yT 0,.slice none 0 0,.slice none 0 0,yT 0,.slice none 0 0,.slice none 0 0] 30::Pt p1 [v',m.vm,m.vf,yT m.table,yT m.pages,yT m.most,m.vg,m.vx,yT m.start,m.ve,m.vd] 30::l))) (fun x_=>m.types.length-x_.2.1) ?_ ?_ ?_
 .exact k_a
 .try simp only
  constructor
  .exact Ext.refl _
  refine ⟨yY,?_⟩
  constructor
  .simp
  constructor
  .exact Z0.all ZO
  exact H
 rintro ⟨gg,i,ts⟩ f_ w_ ⟨E,hi,hd,ho,H⟩
 try simp only at E hi hd ho H ⊢
 have Pg:ts.length=m.types.length:=by have:=yq5 List.length hd;simpa using this
 rcases loa i m.types.length with hlt|hge
 .obtain ⟨t,ht⟩:∃t,ts[i]?=some t:=⟨_,laa yY⟩
  have hto:=ho t (lda ht)
  obtain ⟨t0,ht0,Eg,FR⟩:=J5 hd ht
  obtain ⟨ht1,G4⟩:=hT t0 Eg
  rw [<-FR] at ht1 G4
  have ht1:t.Y9.length<=100:=ht1
  have G4:t.out.length<=100:=G4
  have J4:=hto.Y9
  have J3:=hto.out
  refine cT (Zu yY)<|bk ?_
  obtain ⟨b1,o1,E1⟩:=H.Zc 0 rfl (i) yY
  refine ZK E1 rfl rfl rfl<|ZD (H.el 0 rfl E1 ht) 0 rfl rfl rfl<|ZV H rfl<|fun p3 w1 H=>ZI H 0 rfl rfl rfl (by simp only [yq9,yq8,H.one 1 rfl,Z0.one J3,Z0.one J4,Z0.one Xq,Z0.one Zf,Z0.one ZT,Z0.one Zq,Z0.one ZO];rfl)<|fun w4 H=>ZN H [] [yRp0,yRh1,yRp2,yRp3,yRh4,yRp6,yRh7,yRf5,yRf8,yRp9,yRp10,yRfr11] mixed k_d k_d<|fun w1 H=>yO rfl rfl<|yP 3 0 yN rfl<|yO rfl rfl<|yP 0 0 yN rfl<|yO rfl rfl<|yP 0 1 yN rfl ?_
  refine Z7.mk (Fc.imp (Rn.Ei H _ _ J4 yY) ?_)
  rintro _ w4 ⟨a1,⟨c1,⟨rfl,H⟩⟩⟩
  refine Za.mk (H.drop 0 (fun H=>H)) ?_
  refine Z7.mk (Fc.imp (Rn.Ei H _ _ J3 yY) ?_)
  rintro _ w5 ⟨a2,⟨c2,⟨rfl,H⟩⟩⟩
  refine Za.mk (H.drop 1 (fun H=>H.drop 0 (fun H=>H)))<|tk (fun _ Z=>Zn rfl rfl rfl yU)<|tk (fun _ Z=>ZK E1 rfl rfl rfl yU)<|aif H 3 rfl E1 ht 0 (⟨.slice a1 t.Y9.length c1,t.Y9,.slice a2 t.out.length c2,t.out⟩:Xo) rfl rfl rfl rfl<|fun w9 H=>ZZ yY<|H.VD 0 U8 rfl (Z0.all J3)<|fun g8 E8 CG H=>H.VD 0 U8 rfl (Z0.all (J4.ext E8))<|fun g9 E9 Ll H=>?_
  have CG:=CG.ext E9
  have HH:=E8.trans E9
  have E:=E.trans HH
  have hd2:=(Rl (y2:=(⟨.slice a1 t.Y9.length c1,t.Y9,.slice a2 t.out.length c2,t.out⟩:Xo)) ht rfl).trans hd
  have NH:=J6 (i:=i) (ok:=Wh g9) (fun y hy=>⟨(ho y hy).Y9.ext HH,(ho y hy).out.ext HH⟩) (y2:=(⟨.slice a1 t.Y9.length c1,t.Y9,.slice a2 t.out.length c2,t.out⟩:Xo)) ⟨Ll,CG⟩
  refine Xt.mk ((g9,i+1,ts.set i { vi:=Value.slice a1 t.Y9.length c1,Y9:=t.Y9,vo:=Value.slice a2 t.out.length c2,out:=t.out })) (Zv rfl yW (ZY)) ?_ ?_
  .exact ⟨yX,yX,yX,yX,H.Z8 [3,3,3]<|fun H=>H.drop 3<|fun H=>H⟩
  exact yq7
 .have Zq:=Zq.ext E
  have Zf:=Zf.ext E
  have Xq:=Xq.ext E
  have ZT:Z0 gg Oc (Un gg) 3 m.vf m.funcs:=Z0.Wc (ok:=Un) (fun _ _ _ h E=>⟨h.ty,h.loc.ext E,Z0.Wc (ok:=okV) (fun _ _ _ h E=>h.ext E) h.body E⟩) ZT E
  refine cF (Zz yY)<|ZN H [] [yRp0,yRh1,yRp3,yRh4,yRf2,yRp6,yRfr5,yRfr7,yRp8,yRfr9] mixed k_d k_d<|fun w1 H=>yO rfl rfl<|yP 2 1 yN rfl<|yO rfl rfl<|yP 2 6 yN rfl ?_
  refine Z7.mk (Fc.imp (Rn.amV H _ _ Zq yY) ?_)
  rintro UP w4 H
  refine Za.mk (H.drop 0 (fun H=>H))<|yO rfl rfl ?_
  refine Z7.mk (Fc.imp (Rn.amX H _ _ Zf yY) ?_)
  rintro NK w5 H
  refine Yy H 4 rfl rfl rfl (H.one 1 rfl)<|fun w6 H=>yO rfl rfl<|Yy H 4 rfl rfl rfl (H.one 0 rfl)<|fun w5 H=>Z9 rfl<|yQ H 4 7 yN ?_
  refine Z7.mk (Fc.imp (Rn.amW H _ _ Xq yY) ?_)
  rintro Qi w6 H
  refine Z9 rfl<|Yy H 5 rfl rfl rfl (H.one 0 rfl)<|fun w7 H=>Z9 rfl<|Yy H 5 rfl rfl rfl rfl<|fun w6 H=>Z9 rfl<|Yy H 5 rfl rfl rfl rfl<|fun w7 H=>Z9 rfl<|yQ H 5 2 yN ?_
  refine Z7.mk (Fc.imp (Rn.amY H _ _ ZT yY) ?_)
  rintro EN w6 H
  refine Z9 rfl<|Yy H 6 rfl rfl rfl (H.one 0 rfl)<|fun w8 H=>Z9 rfl<|yQ H 6 2 yN<|YK H 0 rfl rfl ?_
  refine Zd.rule (α:=Zw × Nat × List Yx) (gg,0,m.funcs) (fun x_=>[(53,yT x_.2.1)]) (fun x_ w_=>(Ext gg x_.1)/\(x_.2.1<=m.funcs.length)/\(x_.2.2.map Yx.d=m.funcs.map Yx.d)/\(∀y∈x_.2.2,Un x_.1 y)/\Sat x_.1 w_ ((Sl 107 3 Oc EN x_.2.2::Sl 129 2 Tz Qi m.VV::Sl 99 3 NJ NK m.globals::Sl 125 2 Tz UP m.Zy::Sl 104 2 Od v' ts::Pt p2 [.slice none 0 0,.slice none 0 0,.slice none 0 0,yT 0,yT 0,yT 0,.slice none 0 0,.slice none 0 0,yT 0,.slice none 0 0,.slice none 0 0] 30::Pt p1 [v',UP,EN,yT m.table,yT m.pages,yT m.most,NK,Qi,yT m.start,.slice none 0 0,.slice none 0 0] 30::l))) (fun x_=>m.funcs.length-x_.2.1) ?_ ?_ ?_
  .exact k_a
  .try simp only
   constructor
   .exact Ext.refl _
   refine ⟨yY,?_⟩
   constructor
   .simp
   constructor
   .exact Z0.all ZT
   exact H
  rintro ⟨g3,n,fs⟩ f_ w_ ⟨E3,hn,C2,Aq,H⟩
  try simp only at E3 hn C2 Aq H ⊢
  have hfl:fs.length=m.funcs.length:=by have:=yq5 List.length C2;simpa using this
  rcases loa n m.funcs.length with hlt|amI
  .obtain ⟨t,ht⟩:∃t,fs[n]?=some t:=⟨_,laa yY⟩
   have hto:=Aq t (lda ht)
   obtain ⟨t0,ht0,Eg,FR⟩:=J5 C2 ht
   obtain ⟨ht1,G4⟩:=hF t0 Eg
   have Cr:=hB t0 Eg
   rw [<-FR] at ht1 G4 Cr
   have ht1:t.loc.length<=100:=ht1
   have G4:t.body.length<=200:=by have h:(t.body.map Y5.d).length<=200:=G4;rwa [lea] at h
   have Cr:∀x∈t.body,x.to.length<=1000:=fun x hx=>Cr x.d (List.mem_map_of_mem hx)
   have J2:=hto.loc
   have L7:=hto.body
   refine cT (Zu yY)<|bk ?_
   obtain ⟨b1,o1,E1⟩:=H.Zc 0 rfl (n) yY
   refine ZK E1 rfl rfl rfl<|ZD (H.el 0 rfl E1 ht) 0 rfl rfl rfl<|ZV H rfl<|fun p3 w6 H=>ZI H 0 rfl rfl rfl (by simp only [yq9,yq8,H.one 1 rfl,H.one 2 rfl,H.one 3 rfl,H.one 4 rfl,H.one 5 rfl,Z0.one L7,Z0.one J2,Z0.one ZT,Z0.one Xq,Z0.one Zf,Z0.one Zq,Z0.one ZO];rfl)<|fun w9 H=>ZN H [] [yRp0,yRh1,yRp3,yRh4,yRf2,yRp6,yRfr5,yRfr7,yRp8,yRfr9] mixed k_d k_d<|fun w6 H=>yO rfl rfl<|yP 0 1 yN rfl<|yO rfl rfl<|yP 0 2 yN rfl ?_
   refine Z7.mk (Fc.imp (Rn.Ei H _ _ J2 yY) ?_)
   rintro _ w9 ⟨a1,⟨c1,⟨rfl,H⟩⟩⟩
   refine Za.mk (H.drop 0 (fun H=>H))<|yO rfl rfl ?_
   refine Z7.mk (Fc.imp (Rn.aoY H _ _ L7 yY) ?_)
   rintro _ Dc ⟨a2,⟨c2,⟨rfl,H⟩⟩⟩
   refine Yy H 2 rfl rfl rfl rfl<|fun Fl H=>yO rfl rfl<|Yy H 2 rfl rfl rfl rfl<|fun Dc H=>Z9 rfl<|yQ H 2 2 yN<|V6 rfl ?_
   refine Zd.rule (α:=Zw × Nat × List Y5) (g3,0,t.body) (fun x_=>[(69,yT x_.2.1)]) (fun x_ w_=>(Ext g3 x_.1)/\(x_.2.1<=t.body.length)/\(x_.2.2.map Y5.d=t.body.map Y5.d)/\(∀y∈x_.2.2,okV x_.1 y)/\Sat x_.1 w_ ((Sl 196 4 I3 (.slice a2 t.body.length c2) x_.2.2::Sl 97 1 YB (.slice a1 t.loc.length c1) t.loc::Pt p3 [yT t.ty,.slice a1 t.loc.length c1,.slice a2 t.body.length c2] 107::Sl 107 3 Oc EN fs::Sl 129 2 Tz Qi m.VV::Sl 99 3 NJ NK m.globals::Sl 125 2 Tz UP m.Zy::Sl 104 2 Od v' ts::Pt p2 [.slice none 0 0,.slice none 0 0,.slice none 0 0,yT 0,yT 0,yT 0,.slice none 0 0,.slice none 0 0,yT 0,.slice none 0 0,.slice none 0 0] 30::Pt p1 [v',UP,EN,yT m.table,yT m.pages,yT m.most,NK,Qi,yT m.start,.slice none 0 0,.slice none 0 0] 30::l))) (fun x_=>t.body.length-x_.2.1) ?_ ?_ ?_
   .exact k_a
   .try simp only
    constructor
    .exact Ext.refl _
    refine ⟨yY,?_⟩
    constructor
    .simp
    constructor
    .exact Z0.all L7
    exact H
   rintro ⟨g4,k,bs⟩ f_ w_ ⟨E4,hk,Cg,Ao,H⟩
   try simp only at E4 hk Cg Ao H ⊢
   have KW:bs.length=t.body.length:=by have:=yq5 List.length Cg;simpa using this
   rcases loa k t.body.length with amJ|aoK
   .obtain ⟨x,hx⟩:∃x,bs[k]?=some x:=⟨_,laa yY⟩
    have LH:=Ao x (lda hx)
    obtain ⟨x0,hx0,aoZ,S6⟩:=J5 Cg hx
    have hx1:x.to.length<=1000:=by rw [show x.to=x0.to from yq5 ZS.to S6];exact Cr x0 aoZ
    have agi:=LH.to
    refine cT (Zu yY)<|bk<|ZN H [] [yRp0,yRh1,yRp2,yRp3,yRh4,yRp5,yRp6,yRp7,yRh8,yRf9,yRp10,yRp11,yRfr12] mixed k_d k_d<|fun Fl H=>yO rfl rfl<|yP 2 2 yN rfl<|yO rfl rfl<|yP 2 2 yN rfl ?_
    obtain ⟨b2,o2,E2⟩:=H.Zc 0 rfl (k) yY
    refine tk (fun _ Z=>ZK E2 rfl rfl rfl yU)<|yO rfl rfl<|tk (fun _ Z=>yJ (Z.el 0 rfl E2 hx) 3 yI yU) ?_
    refine Z7.mk (Fc.imp (Rn.Eh H _ _ agi yX) ?_)
    rintro _ Db ⟨a3,⟨c3,⟨rfl,H⟩⟩⟩
    refine Za.mk (H.drop 0 (fun H=>H))<|tk (fun _ Z=>ZK E2 rfl rfl rfl yU)<|yO rfl rfl<|Ys H 1 rfl E2 hx 3 (⟨x.op,x.a,x.b,(Value.slice a3 x.to.length c3),x.to⟩) rfl rfl rfl rfl<|fun BJ H=>ZZ yY<|H.VD 0 XE rfl (Z0.all agi)<|fun g9 HH Ll H=>?_
    have E5:=E4.trans HH
    have hd5:=(Rl (y2:=(⟨x.op,x.a,x.b,.slice a3 x.to.length c3,x.to⟩:Y5)) hx rfl).trans Cg
    have ho5:=J6 (i:=k) (ok:=okV g9) (fun y hy=>(Ao y hy).ext HH) (y2:=(⟨x.op,x.a,x.b,.slice a3 x.to.length c3,x.to⟩:Y5)) ⟨LH.op,LH.a,LH.b,Ll⟩
    refine Xt.mk ((g9,k+1,bs.set k { op:=x.op,a:=x.a,b:=x.b,tv:=Value.slice a3 x.to.length c3,«to»:=x.to })) (Zv rfl yW (ZY)) ?_ ?_
    .grind
    exact yq7
   .refine cF (Zz yY)<|Z9 rfl<|yQ H 9 2 yN<|ZD (H.at 2 rfl) 0 rfl rfl rfl<|ZK E1 rfl rfl rfl<|aif H 3 rfl E1 ht 0 (⟨t.ty,.slice a1 t.loc.length c1,t.loc,.slice a2 t.body.length c2,bs⟩:Yx) rfl rfl rfl rfl<|fun w99 H=>ZZ yY<|H.VD 0 (okV g4) rfl Ao<|fun g8 E8 CG H=>H.VD 0 U8 rfl (Z0.all ((J2.ext E4).ext E8))<|fun g9 E9 Ll H=>?_
    have CG:=Z0.HF (CG.ext E9) (fun y hy h=>(h.ext E8).ext E9)
    have E5:=E4.trans (E8.trans E9)
    have E6:=E3.trans E5
    have hd5:=(Rl (y2:=(⟨t.ty,.slice a1 t.loc.length c1,t.loc,.slice a2 t.body.length c2,bs⟩:Yx)) ht (by grind [Yx.d])).trans C2
    have ho5:=J6 (i:=n) (ok:=Un g9) (fun y hy=>abZ (Aq y hy) E5) (y2:=(⟨t.ty,.slice a1 t.loc.length c1,t.loc,.slice a2 t.body.length c2,bs⟩:Yx)) ⟨hto.ty,Ll,CG⟩
    refine Xt.mk ((g9,n+1,fs.set n { ty:=t.ty,vl:=Value.slice a1 t.loc.length c1,loc:=t.loc,vb:=Value.slice a2 t.body.length c2,body:=bs })) (Zv rfl yW (ZY)) ?_ ?_
    .exact ⟨yX,yX,yX,yX,H.Z8 [7,7,7,7,7,7,7]<|fun H=>H.drop 7<|fun H=>H⟩
    exact yq7
  .refine cF (Zz yY)<|ZD (H.at 6 rfl) 0 rfl rfl rfl<|ZI H 5 rfl rfl rfl (by simp only [yq9,yq8,H.one 0 rfl,H.one 1 rfl,H.one 2 rfl,H.one 3 rfl,H.one 4 rfl,Z0.one ZT,Z0.one Xq,Z0.one Zf,Z0.one Zq,Z0.one ZO];rfl)<|fun w6 H=>XU (H.at 5 rfl) 0 rfl rfl rfl<|H.VD 0 (Un g3) rfl Aq<|fun ga Ea fa H=>H.VD 0 Rj rfl (Z0.all Xq)<|fun gb Eb fb H=>H.VD 0 Kt rfl (Z0.all Zf)<|fun gc Ec fc H=>H.VD 0 Rj rfl (Z0.all Zq)<|fun gd' Ed fd H=>?_
   have x3:=(Ea.trans Eb).trans (Ec.trans Ed)
   have EG:=E3.trans x3
   refine H.VD 0 (Wh gd') rfl (fun y hy=>abY (ho y hy) EG)<|fun ge Ee fe H=>?_
   exact Z6.mk ⟨ge,⟨v',ts,UP,m.Zy,EN,fs,m.table,m.pages,m.most,NK,m.globals,Qi,m.VV,m.start,.slice none 0 0,[],.slice none 0 0,[]⟩,rfl,(E.trans EG).trans Ee,
    ⟨Z0.HF fe (fun y hy h=>abY h Ee),fd.ext Ee,Z0.HF (fa.ext (((Eb.trans Ec).trans Ed).trans Ee)) (fun y hy h=>abZ h (x3.trans Ee)),hm.table,hm.pages,hm.most,fc.ext (Ed.trans Ee),fb.ext ((Ec.trans Ed).trans Ee),hm.start,Z0.Uq _ _ _ _,Z0.Uq _ _ _ _⟩,by
     unfold Ze.d Wq
     simp only [hd,C2];rfl,H.del 0 |>.del 0⟩
end
end Rn
namespace Valid
open Go YX RowKit
open YQ Zh Yg YO
theorem N5.ext' {g g':Zw} {xs:List Lh} (h:∀x∈xs,N5 g x) (E:Ext g g'):∀x∈xs,N5 g' x:=fun x hx=>(h x hx).ext E
theorem akx {ok:Lh->Prop} {ys:List Lh} {i:Nat} {y:Lh} (h:∀x∈ys,ok x) (h2:ok y):∀x∈ys.set i y,ok x:=by grind
theorem aky {g:Zw} {n:Nat}:∀x∈List.replicate n AF,N5 g x:=fun x hx=>by
 rw [(List.mem_replicate.1 hx).2];exact ⟨Z0.Uq _ _ _ _⟩
section
variable {bd:List ZS} {k:Nat} {x:Y5} {sh:Nat->Bool × yB} {K0:Int} {Es:yB} {bl:List XA} {st:yB} {j:XA}
theorem Qx (hc:Ya bd=0) (hx:bd[k]?=some x.d) (hb:bl=TX Es bd sh K0 k) (hst:(sh k).2=st) (ho:x.op=2\/x.op=3) (hj:j=⟨if x.op=3 then (k:Int) else gd Es k,if x.op=3 then 0 else W2 x.a,(st.length:Int)⟩):bl++[j]=TX Es bd sh K0 (k+1):=by
 refine abM hc hx (show x.op=2\/x.op=3\/x.op=4 by omega) hb ?_
 rw [hj,hst,if_neg (show ¬x.d.op=4 by show ¬x.op=4;omega),Int.sub_zero];rfl
theorem aaT (hc:Ya bd=0) (hx:bd[k]?=some x.d) (hb:bl=TX Es bd sh K0 k) (hst:(sh k).2=st) (ho:x.op=4) (hj:j=⟨if x.op=3 then (k:Int) else gd Es k,if x.op=3 then 0 else W2 x.a,(st.length:Int)-1⟩):bl++[j]=TX Es bd sh K0 (k+1):=by
 refine abM hc hx (show x.op=2\/x.op=3\/x.op=4 by omega) hb ?_
 rw [hj,hst,if_pos (show x.d.op=4 from ho)];rfl
end
section
variable {g:Zw} {w:World} {l:List As} {m:Ze}
theorem amZ (H:Sat g w l) (hT:NP g) (hm:XH g m) (h0:WT m.d=0) (k:Nat) (f:Yx) (hf:m.funcs[k]?=some f):yC 164 #[.agg (yV m []).toArray,yT k] w (fun r w'=>∃g' v outs e,r=.tuple #[v,yT e]/\e=0/\Ext g g'/\Z0 g' Ey (N5 g') 1 v outs/\Cd m f outs/\Sat g' w' l):=by
 have ZO:=hm.types
 have hty:=(Vn (Xu h0).1).2.1.fu f (lda hf)
 have apN:0<=f.ty:=by omega
 have ZT:=hm.funcs
 have hlf:=VL.len ZT
 have HC:=(lba.1 hf).1
 have Kp:=lda hf
 have hfo:=Z0.all ZT f Kp
 have Wg:=hfo.body
 obtain ⟨⟨s,hs,Gg⟩,_,_,LR,hc,_⟩:=CY h0 Kp
 have G2:=Z0.all ZO s (lda hs)
 have OK:=G2.out
 have Dk:s.out.length<=1:=by rw [Gg] at LR;exact LR
 have KW:=(Zb hc).1
 rw [lea] at KW
 have hbp:0<f.body.length:=by
  have:=Nu hc
  rw [<-lOb,lea] at this;exact this
 refine Fc.of Tryz.func164 rfl k_d ?_
 refine ZJ H ?_
 clear H
 intro p1 w1 H
 refine ZD (H.at 0 rfl) 0 rfl rfl rfl ?_
 refine Z7.mk (Fc.imp (Valid.Kj H yX yX yX (k) _ hf) ?_)
 clear H
 rintro _ w2 ⟨C9,⟨v1,⟨JA,⟨e1,⟨rfl,⟨h1,⟨HE,⟨h2,⟨h3,H⟩⟩⟩⟩⟩⟩⟩⟩⟩
 replace OK:=Z0.ext OK HE
 replace G2:=G2.ext HE
 replace Wg:=Z0.Wc (ok:=YQ.okV) (fun _ _ _ h E=>YQ.okV.ext h E) Wg HE
 replace hfo:=hfo.ext HE
 replace ZT:=Z0.Wc (ok:=YO.Un) (fun _ _ _ h E=>YO.Un.ext h E) ZT HE
 replace ZO:=Z0.Wc (ok:=YO.Wh) (fun _ _ _ h E=>YO.Wh.ext h E) ZO HE
 replace hm:=hm.ext HE
 have E:=HE
 clear HE
 have hSR:DS m f JA:=by assumption
 refine cF (Yo yX) ?_
 refine Z9 rfl ?_
 refine yQ H 0 2 yN ?_
 obtain ⟨b1,o1,E1,F1,ZL⟩:=Z0.Zc ZT hf
 have X8:=ZL.ty
 have Zr:=ZL.loc
 have ZE:=ZL.body
 refine ZK E1 rfl rfl rfl ?_
 refine Z9 rfl ?_
 refine yJ (H.Yu F1) 2 yI ?_
 refine Z7.mk (Fc.imp (Zh.match_ H f.vb f.body ZE) ?_)
 clear H
 rintro _ w9 ⟨ue,ul,Es,Ls,e9,rfl,he9,hM9,H⟩
 obtain ⟨op9,la9,hM⟩:∃op last,MK (f.body.map Y5.d) f.body.length ⟨op,last,true⟩ Es Ls:=by grind
 have zh:e9=0:=he9.trans hc
 subst zh
 clear hM9 he9
 have S:=ajR h0 Kp hM rfl
 have Dp:=hM.eL
 have BO:=hM.lL
 rw [lea] at Dp BO
 refine H.VD 0 Ry rfl (fun _ _=>trivial) ?_
 intro g2 E2 Fe
 clear H
 intro H
 refine H.VD 0 Ry rfl (fun _ _=>trivial) ?_
 intro g3 E3 zc
 clear H
 intro H
 have Fe:=Fe.ext E3
 have HE:=E2.trans E3
 clear E2 E3
 obtain ⟨a0,c0,hvb⟩:=Z0.form ZE
 rw [hvb]
 replace H:=H.U9 (en:=Nn) (s:=3) 215 (fun _=>rfl)
 replace ZE:=Z0.Wc (ok:=YQ.okV) (fun _ _ _ h E=>YQ.okV.ext h E) ZE HE
 replace Zr:=Z0.ext Zr HE
 replace ZL:=ZL.ext HE
 replace F1:=L0.ext F1 HE
 replace E:=E.trans HE
 replace hm:=hm.ext HE
 replace ZO:=Z0.Wc (ok:=YO.Wh) (fun _ _ _ h E=>YO.Wh.ext h E) ZO HE
 replace ZT:=Z0.Wc (ok:=YO.Un) (fun _ _ _ h E=>YO.Un.ext h E) ZT HE
 replace hfo:=hfo.ext HE
 replace Wg:=Z0.Wc (ok:=YQ.okV) (fun _ _ _ h E=>YQ.okV.ext h E) Wg HE
 replace G2:=G2.ext HE
 replace OK:=Z0.ext OK HE
 replace h2:=Z0.Wc (ok:=Valid.T4) (fun _ _ _ h E=>Valid.T4.ext h E) h2 HE
 clear HE
 obtain ⟨a1,c1,rfl⟩:=Z0.form Fe
 obtain ⟨a2,c2,rfl⟩:=Z0.form zc
 obtain ⟨a3,c3,rfl⟩:=Z0.form h2
 refine Zn rfl rfl rfl ?_
 refine ZJ H ?_
 clear H
 intro p2 w3 H
 clear w9
 refine ZN H [] [yRp0,yRp1,yRp2,yRp3,yRh4,yRp5,yRp6,yRp7,yRp8,yRh9,yRp10,yRh11,yRp12,yRp13,yRp14,yRh15,yRp16,yRp17,yRh18,yRp19,yRp20,yRf21,yRfr22,yRp23,yRp24,yRfr25] mixed k_d k_d ?_
 clear H
 intro w4 H
 clear w3
 refine yO rfl rfl ?_
 refine yP 0 4 yN rfl ?_
 refine tk (fun _ Z=>V6 rfl yU) ?_
 refine ZZ yY ?_
 refine yO rfl rfl ?_
 refine yP 2 0 yN rfl ?_
 refine yO rfl rfl ?_
 refine yP 2 2 yN rfl ?_
 refine tk (fun _ Z=>ZK E1 rfl rfl rfl yU) ?_
 refine yO rfl rfl ?_
 refine tk (fun _ Z=>yJ (Z.Yu F1) 0 yI yU) ?_
 obtain ⟨b2,o2,E2,F2,YW⟩:=Z0.Zc ZO hs
 have XW:=YW.Y9
 have Yr:=YW.out
 refine tk (fun _ Z=>ZK E2 yY rfl rfl yU) ?_
 refine yO rfl rfl ?_
 refine tk (fun _ Z=>yJ (Z.Yu F2) 1 yI yU) ?_
 refine tk (fun _ Z=>ZG Yr rfl yU) ?_
 refine tk (fun _ Z=>Zn rfl rfl rfl yU) ?_
 refine ZW H rfl rfl rfl rfl ?_
 clear H
 intro p3 w3 H
 clear w4
 refine Za.mk (H.drop 0 (fun H=>H)) ?_
 refine Ww (ys:=[⟨_,_,_⟩]) 24 H 2 rfl (H.at 0 rfl) rfl (fun y _=>rfl) rfl rfl rfl yW yW ?_
 intro v1
 clear H
 intro w4 H
 clear w3
 refine yO rfl rfl ?_
 refine Yy H 1 rfl rfl rfl (H.one 2 rfl) ?_
 clear H
 intro w3 H
 clear w4
 refine V6 rfl ?_
 refine R0 (en:=Ey) (s:=1) H (AF) ((f.body.length)) ((f.body.length)) 24 rfl rfl rfl (fun _=>rfl) yY yY yY yY yY ?_
 intro v2
 clear H
 intro w4 H
 clear w3
 refine V6 rfl ?_
 clear Wg hfo ZO ZT G2 OK
 obtain ⟨bd,hbd⟩:∃bd,bd=f.body.map Y5.d:=⟨_,rfl⟩
 obtain ⟨sh,hsh⟩:∃sh,sh=Yi (ZA m.d) ((XP m f).Y9++f.loc) (f.body.map Y5.d) (XP m f).d:=⟨_,rfl⟩
 have ao0:sh=Yi (ZA m.d) ((XP m f).Y9++f.loc) bd (XP m f).d:=by grind
 obtain ⟨K0,hK0⟩:∃K0:Int,K0=((XP m f).d.out.length:Int):=⟨_,rfl⟩
 have hcb:Ya bd=0:=by grind
 have hxl:=hSR.len
 refine Zd.rule (α:=Zw × Nat × Value × List XA × List Lh) (g3,0,v1,[⟨f.body.length-1,s.out.length,0⟩],List.replicate f.body.length AF) (fun x_=>[(74,yT x_.2.1)]) (fun x_ w_=>(Ext g3 x_.1)/\(x_.2.1<=f.body.length)/\(x_.2.2.2.1=TX Es bd sh K0 x_.2.1)/\(Gd Es Ls bd sh K0 x_.2.1 x_.2.2.2.2)/\(∀x∈x_.2.2.2.2,N5 x_.1 x)/\Sat x_.1 w_ ((Pt p2 [.slice a0 f.body.length c0,.slice a1 Es.length c1,.slice a2 Ls.length c2,.slice a3 JA.length c3,x_.2.2.1] 298::Sl 215 3 Nn x_.2.2.1 x_.2.2.2.1::Sl 211 1 Ey v2 x_.2.2.2.2::l))) (fun x_=>f.body.length-x_.2.1) ?_ ?_ ?_
 .exact k_a
 .try simp only
  constructor
  .exact Ext.refl _
  refine ⟨yY,?_⟩
  constructor
  ·(rw [afA,hbd,hK0,Gg,lea];rfl)
  constructor
  .exact Gd.zero (by grind)
  constructor
  .exact aky
  refine H.Z8 [0,3,3] ?_
  clear H
  intro H
  refine H.drop 4 ?_
  clear H
  intro H
  refine H.drop 3 ?_
  clear H
  exact id
 clear H
 rintro ⟨g4,i,vk,bl,outs⟩ f_ w_ ⟨E4,hi,hb,hI,ho,H⟩
 try simp only at E4 hi hb hI ho H ⊢
 have Dk:=hI.len
 rw [hbd,lea] at Dk
 have KA:Z0 g4 I3 (okV g4) 4 (.slice a0 f.body.length c0) f.body:=hvb ▸ Z0.Wc (ok:=okV) (fun _ _ _ h E=>h.ext E) ZE E4
 have OJ:=Fe.ext E4
 have I9:=zc.ext E4
 have L6:Z0 g4 NG (T4 g4) 2 (.slice a3 JA.length c3) JA:=Z0.Wc (ok:=T4) (fun _ _ _ h E=>h.ext E) h2 E4
 clear ZE Fe zc h2
 rcases loa i f.body.length with hlt|hge
 .obtain ⟨x,hx⟩:∃x,f.body[i]?=some x:=⟨_,laa hlt⟩
  obtain ⟨sp,hsp⟩:∃sp,JA[i]?=some sp:=⟨_,laa yY⟩
  obtain ⟨oy,AA⟩:∃oy,outs[i]?=some oy:=⟨_,laa yY⟩
  have S6:bd[i]?=some x.d:=by grind
  have hpos:=aht (Es:=Es) (sh:=sh) (K0:=K0) hcb (k:=i) (by grind)
  rw [<-hb] at hpos
  obtain ⟨Bh,DB⟩:=hpos
  have hW:zC bl x.d:=by
   rw [hb,hbd]
   exact ajP S (by rw [<-hbd];exact S6)
  have TQ:(sp.dead,sp.st)=sh i:=by rw [hsh];exact hSR.at_ hsp
  have Ef:(sh i).1=sp.dead:=by grind
  have HW:(sh i).2=sp.st:=by grind
  have N8:Wt x.d=0:=((Zb hcb).2.1 i x.d (by grind) S6).1
  have hto:=afB N8
  have hxa:x.op=2\/x.op=3\/x.op=4->0<=x.a/\x.a<=255:=fun ho=>ahw N8 ho
  have apO:x.op=4->gd Ls i<=1000:=fun h4=>ajQ S (by rw [<-hbd];exact S6) h4
  cases hd:sp.dead
  .rw [hd] at Ef
   refine cT (Zu yY) ?_
   refine bk ?_
   obtain ⟨b3,o3,E3,F3,Xp⟩:=Z0.Zc KA hx
   have O0:=Xp.op
   have Mx:=Xp.a
   have Mw:=Xp.b
   have XZ:=Xp.to
   refine ZK E3 rfl rfl rfl ?_
   refine ZD (H.Yu F3) 0 rfl rfl rfl ?_
   refine ZV H rfl ?_
   clear H
   intro p4 w3 H
   clear w_
   refine ZI H 0 rfl rfl rfl k_n ?_
   clear H
   intro w5 H
   clear w3
   obtain ⟨b4,o4,E5,F4,Vb⟩:=Z0.Zc L6 hsp
   have Wz:=Vb.st
   have Ra:=Vb.len
   refine ZK E5 rfl rfl rfl ?_
   refine Z9 rfl ?_
   refine yJ (H.Yu F4) 0 yI ?_
   refine cT (GC (yX)) ?_
   refine H.Z8 [2,2] ?_
   clear H
   intro H
   refine Z7.mk (Fc.imp (Valid.al4 H KA OJ I9 L6 (i) _ hx yX yY yY yX _ hsp yY yX yX yY yX _ HW) ?_)
   clear H
   rintro v' w3 ⟨CF,⟨h2,H⟩⟩
   refine H.VD 0 Ce rfl (fun _ _=>trivial) ?_
   intro g9 HE Ll
   clear H
   intro H
   have E9:=E4.trans HE
   have ho9:=N5.ext' ho HE
   replace Wz:=Z0.ext Wz HE
   replace Vb:=Vb.ext HE
   replace F4:=L0.ext F4 HE
   replace XZ:=Z0.ext XZ HE
   replace Xp:=Xp.ext HE
   replace F3:=L0.ext F3 HE
   replace L6:=Z0.Wc (ok:=Valid.T4) (fun _ _ _ h E=>Valid.T4.ext h E) L6 HE
   replace I9:=Z0.ext I9 HE
   replace OJ:=Z0.ext OJ HE
   replace KA:=Z0.Wc (ok:=YQ.okV) (fun _ _ _ h E=>YQ.okV.ext h E) KA HE
   replace ho:=fun y hy=>(ho y hy).ext HE
   replace E4:=E4.trans HE
   clear HE
   obtain ⟨b5,o5,E6⟩:=H.Zc 3 rfl (i) yY
   refine ZK E6 rfl rfl rfl ?_
   refine Z9 rfl ?_
   have hv9:=Z0.one Ll
   refine Ys H 3 rfl E6 AA 0 ⟨v',CF⟩ rfl yY rfl rfl ?_
   clear H
   intro w9 H
   have zb:=hI.put S6 Ef (v:=v') hb h2
   have hO9:=akx (i:=i) ho9 (y:=⟨v',CF⟩) ⟨Ll⟩
   by_cases h11:x.op=11
   .refine ZK E5 rfl rfl rfl ?_
    refine Z9 rfl ?_
    refine yJ (H.Yu F4) 1 yI ?_
    refine ZG Wz rfl ?_
    refine Z9 rfl ?_
    refine yQ H 2 0 yN ?_
    refine bk ?_
    refine cF (Z4 yY) ?_
    refine cF (Z4 yY) ?_
    refine cF (Z4 yY) ?_
    refine cT (ZH yX) ?_
    refine ZN H [] [yRp0,yRp1,yRp2,yRp3,yRh4,yRp5,yRp6,yRp7,yRh8,yRp9,yRp10,yRp11,yRp12,yRp13,yRfr14] mixed k_d k_d ?_
    clear H
    intro w6 H
    clear w9
    refine yO rfl rfl ?_
    refine yP 0 4 yN rfl ?_
    refine yO rfl rfl ?_
    refine yP 0 4 yN rfl ?_
    obtain ⟨a4,c4,V1⟩:=H.form 1 rfl
    refine tk (fun _ Z=>Xw V1 rfl yU) ?_
    refine ZZ yY ?_
    obtain ⟨v3,V2⟩:=H.vw 1 rfl (0) (((bl.length)-1)) yY yY
    refine tk (fun _ Z=>Vx V2 rfl rfl (.inl yU) (.inr ⟨_,by first|rfl|(congr 2;omega)⟩) yU) ?_
    refine yO rfl rfl ?_
    refine Yy H 0 rfl rfl rfl (by simp only [Bool.and_true,H.one 1 rfl,H.one 3 rfl,Vw.one V2,Z0.one KA,Z0.one OJ,Z0.one I9,Z0.one L6,Z0.one XZ,Z0.one Wz,Z0.one Ll,Z0.one Yr,Z0.one XW,Z0.one Fe,Z0.one Zr]) ?_
    clear H
    intro w7 H
    clear w6
    refine ZZ yY ?_
    replace H:=H.KI 1 rfl V2
    refine Xt.mk ((g9,i+1,v3,List.take (bl.length-1) bl,outs.set i { vs:=v',js:=CF })) (Zv rfl yW (ZY)) ?_ ?_
    .refine ⟨yX,yX,?_⟩
     constructor
     .exact ac7 hcb S6 yX hb
     refine ⟨yX,yX,?_⟩
     refine H.Z8 [3,2,2] ?_
     clear H
     intro H
     refine H.drop 3 ?_
     clear H
     exact id
    exact yq7
   .refine ZK E5 rfl rfl rfl ?_
    refine Z9 rfl ?_
    refine yJ (H.Yu F4) 1 yI ?_
    refine ZG Wz rfl ?_
    refine Z9 rfl ?_
    refine yQ H 2 0 yN ?_
    refine bk ?_
    refine yE (fun c4=>?_) (fun c4=>?_)
    .refine cT (ZH yX) ?_
     refine Z7.mk (Fc.imp (Valid.N4 H KA OJ (i) _ _ hx yY yY yY yX) ?_)
     clear H
     rintro UP w6 ⟨L5,⟨j1,⟨h4,H⟩⟩⟩
     refine ZZ yY ?_
     refine Xt.mk ((g9,i+1,L5,bl++[j1],outs.set i { vs:=v',js:=CF })) (Zv rfl yW (ZY)) ?_ ?_
     .refine ⟨yX,yX,?_⟩
      constructor
      .exact Qx hcb S6 hb HW yY yX
      refine ⟨yX,yX,?_⟩
      refine H.Z8 [3,2,2] ?_
      clear H
      intro H
      refine H.drop 3 ?_
      clear H
      exact id
     exact yq7
    refine yE (fun c5=>?_) (fun c5=>?_)
    .refine Z7.mk (Fc.imp (Valid.N4 H KA OJ (i) _ _ hx yY yY yY yX) ?_)
     clear H
     rintro UP w6 ⟨L5,⟨j1,⟨h4,H⟩⟩⟩
     refine ZZ yY ?_
     refine Xt.mk ((g9,i+1,L5,bl++[j1],outs.set i { vs:=v',js:=CF })) (Zv rfl yW (ZY)) ?_ ?_
     .refine ⟨yX,yX,?_⟩
      constructor
      .exact Qx hcb S6 hb HW yY yX
      refine ⟨yX,yX,?_⟩
      refine H.Z8 [3,2,2] ?_
      clear H
      intro H
      refine H.drop 3 ?_
      clear H
      exact id
     exact yq7
    refine yE (fun c6=>?_) (fun c6=>?_)
    .refine ZZ yY ?_
     refine Z7.mk (Fc.imp (Valid.N4 H KA OJ (i) _ _ hx yY yY yY yX) ?_)
     clear H
     rintro UP w6 ⟨L5,⟨j1,⟨h4,H⟩⟩⟩
     refine ZZ yY ?_
     refine Xt.mk ((g9,i+1,L5,bl++[j1],outs.set i { vs:=v',js:=CF })) (Zv rfl yW (ZY)) ?_ ?_
     .refine ⟨yX,yX,?_⟩
      constructor
      .exact aaT hcb S6 hb HW yX yX
      refine ⟨yX,yX,?_⟩
      refine H.Z8 [3,2,2] ?_
      clear H
      intro H
      refine H.drop 3 ?_
      clear H
      exact id
     exact yq7
    refine cF (Z4 yX) ?_
    refine ZZ yY ?_
    refine Xt.mk ((g9,i+1,vk,bl,outs.set i { vs:=v',js:=CF })) (Zv rfl yW (ZY)) ?_ ?_
    .refine ⟨yX,yX,?_⟩
     constructor
     .exact abN hcb S6 (by show ¬(x.op=2\/x.op=3\/x.op=4);omega) yX hb
     refine ⟨yX,yX,?_⟩
     refine H.Z8 [3,2,2] ?_
     clear H
     intro H
     refine H.drop 3 ?_
     clear H
     exact id
    exact yq7
  .rw [hd] at Ef
   have zb:=hI.skip Ef
   by_cases h11:x.op=11
   .refine cT (Zu yY) ?_
    refine bk ?_
    obtain ⟨b3,o3,E3,F3,Xp⟩:=Z0.Zc KA hx
    have O0:=Xp.op
    have Mx:=Xp.a
    have Mw:=Xp.b
    have XZ:=Xp.to
    refine ZK E3 rfl rfl rfl ?_
    refine ZD (H.Yu F3) 0 rfl rfl rfl ?_
    refine ZV H rfl ?_
    clear H
    intro p4 w3 H
    clear w_
    refine ZI H 0 rfl rfl rfl k_n ?_
    clear H
    intro w5 H
    clear w3
    obtain ⟨b4,o4,E5,F4,Vb⟩:=Z0.Zc L6 hsp
    have Wz:=Vb.st
    have Ra:=Vb.len
    refine ZK E5 rfl rfl rfl ?_
    refine Z9 rfl ?_
    refine yJ (H.Yu F4) 0 yI ?_
    refine cF (HG (yX)) ?_
    refine ZK E5 rfl rfl rfl ?_
    refine Z9 rfl ?_
    refine yJ (H.Yu F4) 1 yI ?_
    refine ZG Wz rfl ?_
    refine Z9 rfl ?_
    refine yQ H 0 0 yN ?_
    refine bk ?_
    refine cF (Z4 yY) ?_
    refine cF (Z4 yY) ?_
    refine cF (Z4 yY) ?_
    refine cT (ZH yX) ?_
    refine ZN H [] [yRp0,yRp1,yRp2,yRp3,yRh4,yRp5,yRp6,yRp7,yRh8,yRp9,yRp10,yRp11,yRp12,yRp13,yRfr14] mixed k_d k_d ?_
    clear H
    intro w3 H
    clear w5
    refine yO rfl rfl ?_
    refine yP 1 4 yN rfl ?_
    refine yO rfl rfl ?_
    refine yP 1 4 yN rfl ?_
    obtain ⟨a4,c4,V1⟩:=H.form 2 rfl
    refine tk (fun _ Z=>Xw V1 rfl yU) ?_
    refine ZZ yY ?_
    obtain ⟨v3,V2⟩:=H.vw 2 rfl (0) (((bl.length)-1)) yY yY
    refine tk (fun _ Z=>Vx V2 rfl rfl (.inl yU) (.inr ⟨_,by first|rfl|(congr 2;omega)⟩) yU) ?_
    refine yO rfl rfl ?_
    refine Yy H 1 rfl rfl rfl (by simp only [Bool.and_true,H.one 2 rfl,H.one 3 rfl,Vw.one V2,Z0.one Wz,Z0.one XZ,Z0.one L6,Z0.one I9,Z0.one OJ,Z0.one KA,Z0.one Yr,Z0.one XW,Z0.one Fe,Z0.one Zr]) ?_
    clear H
    intro w5 H
    clear w3
    refine ZZ yY ?_
    replace H:=H.KI 2 rfl V2
    refine Xt.mk ((g4,i+1,v3,List.take (bl.length-1) bl,outs)) (Zv rfl yW (ZY)) ?_ ?_
    .refine ⟨yX,yX,?_⟩
     constructor
     .exact ac7 hcb S6 yX hb
     refine ⟨yX,yX,?_⟩
     refine H.Z8 [3,3,3] ?_
     clear H
     intro H
     refine H.drop 3 ?_
     clear H
     exact id
    exact yq7
   .refine cT (Zu yY) ?_
    refine bk ?_
    obtain ⟨b3,o3,E3,F3,Xp⟩:=Z0.Zc KA hx
    have O0:=Xp.op
    have Mx:=Xp.a
    have Mw:=Xp.b
    have XZ:=Xp.to
    refine ZK E3 rfl rfl rfl ?_
    refine ZD (H.Yu F3) 0 rfl rfl rfl ?_
    refine ZV H rfl ?_
    clear H
    intro p4 w3 H
    clear w_
    refine ZI H 0 rfl rfl rfl k_n ?_
    clear H
    intro w5 H
    clear w3
    obtain ⟨b4,o4,E5,F4,Vb⟩:=Z0.Zc L6 hsp
    have Wz:=Vb.st
    have Ra:=Vb.len
    refine ZK E5 rfl rfl rfl ?_
    refine Z9 rfl ?_
    refine yJ (H.Yu F4) 0 yI ?_
    refine cF (HG (yX)) ?_
    refine ZK E5 rfl rfl rfl ?_
    refine Z9 rfl ?_
    refine yJ (H.Yu F4) 1 yI ?_
    refine ZG Wz rfl ?_
    refine Z9 rfl ?_
    refine yQ H 0 0 yN ?_
    refine bk ?_
    refine yE (fun c4=>?_) (fun c4=>?_)
    .refine cT (ZH yX) ?_
     refine H.Z8 [2,2] ?_
     clear H
     intro H
     refine Z7.mk (Fc.imp (Valid.N4 H KA OJ (i) _ _ hx yY yY yY yX) ?_)
     clear H
     rintro v' w3 ⟨L5,⟨j1,⟨h2,H⟩⟩⟩
     refine ZZ yY ?_
     refine Xt.mk ((g4,i+1,L5,bl++[j1],outs)) (Zv rfl yW (ZY)) ?_ ?_
     .refine ⟨yX,yX,?_⟩
      constructor
      .exact Qx hcb S6 hb HW yY yX
      refine ⟨yX,yX,?_⟩
      refine H.Z8 [3,2,2] ?_
      clear H
      intro H
      refine H.drop 3 ?_
      clear H
      exact id
     exact yq7
    refine yE (fun c5=>?_) (fun c5=>?_)
    .refine H.Z8 [2,2] ?_
     clear H
     intro H
     refine Z7.mk (Fc.imp (Valid.N4 H KA OJ (i) _ _ hx yY yY yY yX) ?_)
     clear H
     rintro v' w3 ⟨L5,⟨j1,⟨h2,H⟩⟩⟩
     refine ZZ yY ?_
     refine Xt.mk ((g4,i+1,L5,bl++[j1],outs)) (Zv rfl yW (ZY)) ?_ ?_
     .refine ⟨yX,yX,?_⟩
      constructor
      .exact Qx hcb S6 hb HW yY yX
      refine ⟨yX,yX,?_⟩
      refine H.Z8 [3,2,2] ?_
      clear H
      intro H
      refine H.drop 3 ?_
      clear H
      exact id
     exact yq7
    refine yE (fun c6=>?_) (fun c6=>?_)
    .refine ZZ yY ?_
     refine H.Z8 [2,2] ?_
     clear H
     intro H
     refine Z7.mk (Fc.imp (Valid.N4 H KA OJ (i) _ _ hx yY yY yY yX) ?_)
     clear H
     rintro v' w3 ⟨L5,⟨j1,⟨h2,H⟩⟩⟩
     refine ZZ yY ?_
     refine Xt.mk ((g4,i+1,L5,bl++[j1],outs)) (Zv rfl yW (ZY)) ?_ ?_
     .refine ⟨yX,yX,?_⟩
      constructor
      .exact aaT hcb S6 hb HW yX yX
      refine ⟨yX,yX,?_⟩
      refine H.Z8 [3,2,2] ?_
      clear H
      intro H
      refine H.drop 3 ?_
      clear H
      exact id
     exact yq7
    refine cF (Z4 yX) ?_
    refine ZZ yY ?_
    refine Xt.mk ((g4,i+1,vk,bl,outs)) (Zv rfl yW (ZY)) ?_ ?_
    .refine ⟨yX,yX,?_⟩
     constructor
     .exact abN hcb S6 (by show ¬(x.op=2\/x.op=3\/x.op=4);omega) yX hb
     refine ⟨yX,yX,?_⟩
     refine H.Z8 [3,3,3] ?_
     clear H
     intro H
     refine H.drop 3 ?_
     clear H
     exact id
    exact yq7
 .have zb:Cd m f outs:=ajS (m:=m) S (by rw [<-hbd,<-ao0,<-hK0];exact hI) yY
  refine cF (Zz yY) ?_
  refine H.VD 2 (N5 g4) rfl ho ?_
  intro g5 HE hf H2
  exact Z6.mk ⟨g5,_,outs,0,rfl,rfl,(E.trans E4).trans HE,Z0.HF hf (fun y hy h=>h.ext HE),zb,H2.tl.tl⟩
end
end Valid
namespace Rn
open Go YX RowKit
open YQ Zh Yg YO Valid Mem
section
variable {g:Zw} {w:World} {l:List As} {m:Ze}
theorem of_ (H:Sat g w l) (ys:yA) (most:Int) (hy:ys.length<=9223372036854775807):yC 99 #[.string (bs ys),yT most] w (fun r w' =>
  (Jx ys most/\∃p v ps,r=.tuple #[yS p,yT 0]/\flat ps=ys/\ps.length<=8/\Sat g w' (Pt p [v,yT most] 221::Sl 223 256 W8 v ps::l))\/(¬Jx ys most/\r=.tuple #[.pointer none,yT 1]/\Sat g w' l)):=by
 refine Fc.of Tryz.func99 rfl k_d ?_
 refine br (fun c1=>?_) (fun c1=>?_)
 .replace c1:=Y4 (c1)
  refine cT rfl<|Z6.mk ?_
  exact .inr ⟨fun h=>by obtain ⟨h1,h2,h3,h4⟩:=h;omega,rfl,H⟩
 replace c1:=Y3 (c1)
 refine br (fun c2=>?_) (fun c2=>?_)
 .replace c2:=Y4 (c2)
  refine cT rfl<|Z6.mk ?_
  exact .inr ⟨fun h=>by obtain ⟨h1,h2,h3,h4⟩:=h;omega,rfl,H⟩
 replace c2:=Y3 (c2)
 refine Yk rfl<|VW.mk (by decide)<|Qp yY ?_
 refine br (fun c3=>?_) (fun c3=>?_)
 .replace c3:=YM (c3)
  refine cT rfl<|Z6.mk ?_
  exact .inr ⟨fun h=>by obtain ⟨h1,h2,h3,h4⟩:=h;omega,rfl,H⟩
 replace c3:=YL (c3)
 refine Yk rfl<|VW.mk (by decide)<|Rr yY yY ?_
 refine yG (fun c4=>?_) (fun c4=>?_)
 .refine Z6.mk ?_
  exact .inr ⟨fun h=>by obtain ⟨h1,h2,h3,h4⟩:=h;omega,rfl,H⟩
 refine Yk rfl<|VW.mk (by decide)<|Rr yY yY<|R0 (en:=W8) (s:=256) H (zp) (((ys.length) / 256)) (((ys.length) / 256)) 256 rfl rfl rfl QK yY yY yY yY yY<|fun v1 w1 H=>?_
 obtain ⟨a1,c5,rfl⟩:=H.form 0 rfl
 refine Zn rfl rfl rfl<|ZJ H<|fun p1 w2 H=>?_
 refine Z7.mk (Fc.imp (Mem.put H _ _ ?_ ?_ ?_) ?_)
 .grind
 .omega
 .omega
 rintro _ w1 ⟨e1,⟨NL,⟨rfl,⟨(⟨h1,⟨h2,h3⟩⟩|⟨h4,⟨h5,h6⟩⟩),⟨h7,H⟩⟩⟩⟩⟩
 .refine Z6.mk ?_
  exact absurd ⟨by omega,by rw [lga];omega⟩ h3
 refine Z6.mk ?_
 exact .inl ⟨⟨by omega,by omega,by omega,by omega⟩,_,_,_,rfl,Eq.trans yX (ae3 (by grind [X0,List.length_replicate])),by rw [h7,lga];omega,H⟩
theorem QZ.ext {g':Zw} {x:Ng} (h:QZ g x) (E:Ext g g'):QZ g' x:=⟨Z0.Wc (ok:=N5) (fun _ _ _ h E=>h.ext E) h.outs E⟩
structure B5 (m:Ze) (ws:List Ng) (k:Nat):Prop where
 len:ws.length=k
 at_:∀(i:Nat) (f:Yx) (y:Ng),m.funcs[i]?=some f->ws[i]?=some y->Cd m f y.outs
theorem B5.snoc {ws:List Ng} {k:Nat} {f:Yx} {y:Ng} (h:B5 m ws k) (hf:m.funcs[k]?=some f) (hy:Cd m f y.outs):B5 m (ws++[y]) (k+1):=by
 refine ⟨by rw [lca,h.len];rfl,fun i f' y' h1 h2=>?_⟩
 rw [lOa] at h2
 split at h2
 .exact h.at_ i f' y' h1 h2
 .rename_i hi
  have:i-ws.length=0:=by grind
  rw [this] at h2
  obtain rfl:=yq6 h2
  have e:i=k:=by have:=h.len;omega
  rw [e,hf] at h1
  obtain rfl:=yq6 h1
  exact hy
theorem akz (H:Sat g w l) (hT:Yg.NP g) (hm:XH g m) (h0:WT m.d=0) (hl:m.funcs.length<=100):yC 116 #[.agg (yV m []).toArray] w (fun r w'=>∃g' v ws e,r=.tuple #[v,yT e]/\e=0/\Ext g g'/\Z0 g' Lr (QZ g') 1 v ws/\B5 m ws m.funcs.length/\Sat g' w' l):=by
 have ZT:=hm.funcs
 refine Fc.of Tryz.func116 rfl k_d<|ZJ H<|fun p1 w1 H=>ZD (H.at 0 rfl) 0 rfl rfl rfl ?_
 refine Z7.mk (Fc.imp (Valid.RT H yY yY) ?_)
 rintro _ w2 ⟨e1,⟨rfl,⟨h1,H⟩⟩⟩
 refine cF (Yo yY)<|Z9 rfl<|yQ H 0 2 yN<|ZG ZT rfl ?_
 replace H:=H.U9 (en:=Lr) (s:=1) 212 (fun _=>rfl)
 refine Zd.rule (α:=Zw × Nat × Value × List Ng) (g,0,.slice none 0 0,[]) (fun x_=>[(17,yT x_.2.1),(5,x_.2.2.1)]) (fun x_ w_=>(Ext g x_.1)/\(x_.2.1<=m.funcs.length)/\(B5 m x_.2.2.2 x_.2.1)/\(∀y∈x_.2.2.2,QZ x_.1 y)/\Sat x_.1 w_ ((Sl 212 1 Lr x_.2.2.1 x_.2.2.2::Pt p1 (yV m []) 30::l))) (fun x_=>m.funcs.length-x_.2.1) ?_ ?_ ?_
 .exact k_a
 .try simp only
  constructor
  .exact Ext.refl _
  refine ⟨yY,?_⟩
  constructor
  .exact ⟨rfl,fun _ _ _ _ h=>by simp at h⟩
  constructor
  .simp
  exact H
 rintro ⟨gg,k,vo,ws⟩ f_ w_ ⟨E,hk,hW,ho,H⟩
 try simp only at E hk hW ho H ⊢
 have Ff:=hW.len
 rcases loa k m.funcs.length with hlt|hge
 .obtain ⟨f,hf⟩:∃f,m.funcs[k]?=some f:=⟨_,laa hlt⟩
  refine cT (Zu yY)<|bk<|ZD (H.at 1 rfl) 0 rfl rfl rfl ?_
  refine Z7.mk (Fc.imp (amZ H (N7 hT E) (XH.ext hm E) h0 k f hf) ?_)
  rintro _ w' ⟨g2,v,outs,e,rfl,he,E2,MR,hR,H⟩
  obtain ⟨av,cv,rfl⟩:=Z0.form MR
  refine ZW H rfl rfl rfl rfl<|fun p2 w3 H=>?_
  refine Ww (ys:=[(⟨.slice av outs.length cv,outs⟩:Ng)]) 24 H 1 rfl (H.at 0 rfl) rfl (fun y hy=>by rw [lra.1 hy];simp only [Rn.Lr,yq9,yq8,H.one 1 rfl,Z0.one MR,Z0.one ZT];rfl) rfl rfl rfl yY yY<|fun v1 w4 H=>ZZ yY ?_
  replace H:=H.del 0
  obtain ⟨An,Cs⟩:∃An:List Ng,An=ws++[⟨.slice av outs.length cv,outs⟩]:=⟨_,rfl⟩
  have hW2:=hW.snoc hf (y:=⟨.slice av outs.length cv,outs⟩) hR
  replace H:Sat g2 w4 (Sl 212 1 Lr v1 (ws++[⟨.slice av outs.length cv,outs⟩])::Pt p1 (yV m []) 30::l):=H
  rw [<-Cs] at H hW2
  refine Xt.mk (g2,k+1,v1,An) (Zv rfl (by grind) (ZR rfl ZY)) ⟨E.trans E2,by simp only;omega,hW2,?_,H⟩ (by grind)
  subst Cs
  intro y hy
  rcases lHa.1 hy with hy|hy
  .exact QZ.ext (ho y hy) E2
  .rw [lra] at hy
   subst hy
   exact ⟨MR⟩
 .refine cF (Zz yY) ?_
  have TS:k=m.funcs.length:=by omega
  subst TS
  exact H.VD 0 (QZ gg) rfl ho<|fun g9 E9 f9 H=>Z6.mk ⟨g9,_,ws,0,rfl,rfl,E.trans E9,Z0.HF f9 (fun y hy h=>QZ.ext h E9),hW,H.del 0⟩
end
end Rn
namespace Rn
open Go YX RowKit
open YQ Zh Yg YO Valid
section
variable {g:Zw} {m m':Ze} {f:Yx} {mem:yA} {ts gs:yB}
theorem FI {s:Xo} (hs:m.types[f.ty.toNat]?=some s) (Gg:XP m f=s):QC m.d f.d=(XP m f).d:=by
 rw [Gg]
 unfold QC
 show (m.types.map Xo.d).getD f.ty.toNat sz=_
 rw [lka,lCa,hs];rfl
theorem tyl:m.d.types.length=m.types.length:=lea ..
theorem J1 (hm:XH g m) (h0:WT m.d=0):Uy m.d:=by
 obtain ⟨hc,hI,hS⟩:=Vn (Xu h0).1
 have Q:=Vo hc
 refine ⟨fun f hf=>?_,fun x hx=>by rw [tyl];exact hI.im x hx,fun t ht=>?_,Q.most,?_,Q.Zy,Q.table.2⟩
 .obtain ⟨F,hF,rfl⟩:=lVa.1 hf
  obtain ⟨⟨s,hs,Gg⟩,K,kd,ol,hcb,hr⟩:=CY h0 hF
  have e:=FI hs Gg
  refine ⟨by rw [tyl];exact hI.fu F hF,?_,fun x hx=>?_,?_⟩
  .unfold Xc
   rw [e]
   exact snd_mk hcb hr K kd ol
  .obtain ⟨X,hX,rfl⟩:=lVa.1 hx
   have o:=Z0.all (Z0.all hm.funcs F hF).body X hX
   exact ⟨o.op.1,o.a⟩
  .have:=(VY.1 (Zi.1 (Zi.1 (Q.Re F hF)).2).1).1
   omega
 .obtain ⟨T,hT,rfl⟩:=lVa.1 ht
  exact ⟨hS.Y9 T hT,hS.out T hT⟩
 .show (m.funcs.map Yx.d).length<=16
  rw [lea];exact Q.funcs
theorem adx {M:YR} (P:Uy M):Uy (Wq M) :=
 ⟨fun f hf=>⟨(P.fn f hf).ty,(P.fn f hf).snd,(P.fn f hf).a64,(P.fn f hf).loc⟩,P.imp,P.sig,P.most,P.nf,P.ni,P.Zt⟩
theorem akA {outs:List Lh} (h0:WT m.d=0) (hf:f∈m.funcs) (R:Cd m f outs):outs.length=f.body.length/\∀(j:Nat) (s:Lh),outs[j]?=some s->s.js=Jh m.d f.d j:=by
 refine ⟨R.len,fun j s hs=>?_⟩
 obtain ⟨Es,Ls,S,h⟩:=R.ex
 obtain ⟨⟨t,ht,htg⟩,_⟩:=CY h0 hf
 have e:=FI ht htg
 have hj:j<(f.body.map Y5.d).length:=by
  have:=(lba.1 hs).1
  have:=R.len
  rw [lea];omega
 have hx:(f.body.map Y5.d)[j]?=some (f.body.map Y5.d)[j]:=laa hj
 have h1:=h j s _ hs hx
 rw [h1]
 unfold Jh Xc
 rw [e]
 show _=JP (DR (f.body.map Y5.d)) (Cc (f.body.map Y5.d)) (f.body.map Y5.d) _ _ j ((f.body.map Y5.d).getD j Fg)
 rw [lka,hx]
 exact ade S hx
theorem akB {ws:List Ng} (h0:WT m.d=0) (W:B5 m ws m.funcs.length) (hd:m'.d=Wq m.d):K6 m' ws:=by
 have hf:m'.funcs.map Yx.d=m.funcs.map Yx.d:=yq5 YR.funcs hd
 have hl:m'.funcs.length=m.funcs.length:=by grind [List.length_map]
 refine ⟨by rw [W.len,hl],fun i f' y h1 h2=>?_⟩
 obtain ⟨F,hF,hm,hfd⟩:=J5 hf h1
 obtain ⟨a,b⟩:=akA h0 hm (W.at_ i F y hF h2)
 have hb:f'.body.map Y5.d=F.body.map Y5.d:=yq5 O8.body hfd
 refine ⟨by have:=yq5 List.length hb;rw [lea,lea] at this;omega,fun j s hs=>?_⟩
 rw [b j s hs,hd,hfd];rfl
theorem akC (hm:XH g m) (h:Xl.Eu m mem ts gs 0):Vv (Wq m.d) ⟨mem,ts,gs⟩:=by
 obtain ⟨h1,h2,h3⟩:=Xl.Q9 h.eq.symm
 obtain ⟨q1,q2,q3⟩:=h.ok rfl
 obtain ⟨_,a2,a3,a4,a5,a6⟩:=Xl.ac8 h 0
 have Q:=Vo (Vn (Xu h1).1).1
 refine ⟨by simp only;omega,?_,?_,a6,a3,fun n hn=>?_,?_,fun i x v hx hv=>?_⟩
 .show m.pages<=_;simp only;omega
 .show _<=m.most;simp only;omega
 .have h7:=UW.1 (Xl.abR h1 m.table.toNat) n (by grind)
  unfold Xl.tE at h7
  split at h7
  .omega
  .rename_i h8
   show -1<=n/\n<(m.Zy.length:Int)+(m.funcs.map Yx.d).length
   rw [lea];omega
 .show gs.length=m.globals.length
  rw [q3,lea]
 .have hx:m.globals[i]?=some x:=hx
  have hv:gs[i]?=some v:=hv
  rw [q3,lCa,hx] at hv
  obtain rfl:=yq6 hv
  have hmem:=lda hx
  have o:=Z0.all hm.globals x hmem
  have hg:=(Zi.1 (Q.Mv x hmem)).2
  refine ⟨⟨o.start,fun hk=>?_⟩,fun _=>rfl⟩
  unfold Oe at hg
  split at hg
  .grind
  .omega
theorem Nc (h0:WT m.d=0):m.types.length<=100/\m.Zy.length<=100/\m.funcs.length<=100/\m.globals.length<=100/\m.VV.length<=100/\(∀t∈m.types,t.d.Y9.length<=100/\t.d.out.length<=100)/\(∀f∈m.funcs,f.d.loc.length<=100/\f.d.body.length<=200)/\∀f∈m.funcs,∀x∈f.d.body,x.to.length<=1000:=by
 obtain ⟨hc,hI,hS⟩:=Vn (Xu h0).1
 have Q:=Vo hc
 have q1:=Q.types
 have q2:=Q.Zy
 have q3:=Q.funcs
 have q4:=Q.globals
 have q5:=Q.VV
 refine ⟨by omega,by omega,by omega,by omega,by omega,fun t ht=>?_,fun f hf=>?_,fun f hf x hx=>?_⟩
 .have h1:=hS.Y9 t ht
  have h2:=hS.out t ht
  exact ⟨by show t.Y9.length<=100;omega,by show t.out.length<=100;omega⟩
 .obtain ⟨_,K,kd,ol,hcb,hr⟩:=CY h0 hf
  have:=(VY.1 (Zi.1 (Zi.1 (Q.Re f hf)).2).1).1
  exact ⟨by omega,(Zb hcb).1⟩
 .obtain ⟨_,K,kd,ol,hcb,hr⟩:=CY h0 hf
  obtain ⟨i,hi,rfl⟩:=lWa.1 hx
  have h9:=((Zb hcb).2.1 i _ hi (laa hi)).1
  obtain ⟨X,hX,e⟩:=lVa.1 hx
  rw [<-e]
  have:=afB (x:=X) (by grind)
  show X.to.length<=1000
  omega
end
end Rn
namespace Rn
open Go YX RowKit
open YQ Zh Yg YO Valid Mem
section
variable {g:Zw} {w:World} {l:List As} {m:Ze} {mem:yA} {ts gs:yB} {xt xg:Value}
theorem ahZ (H:Sat g w l) (hm:XH g m) (h0:WT m.d=0) (ho:Jx mem m.most) (ht:Z0 g ZF XE 1 xt ts) (hg:Z0 g ZF XE 1 xg gs) (h1:ts.length<=1000) (h2:gs.length<=1000):yC 46 #[.agg (yV m []).toArray,.agg #[.string (bs mem),xt,xg]] w (fun r w'=>∃(g':Zw) (k:Ze) (cp mp:Nat) (vt vg vp:Value) (ps:List WC),r=yS cp/\Ext g g'/\XH g' k/\k.d=Wq m.d/\flat ps=mem/\ps.length<=8/\Sat g' w' (Pt cp (yV k [yS mp,vt,vg]) 158::Pt mp [vp,yT m.most] 221::Sl 223 256 W8 vp ps::Sl 3 1 ZF vt ts::Sl 2 1 ZF vg gs::l)):=by
 refine Fc.of Tryz.func46 rfl k_d ?_
 obtain ⟨z1,z2,z3,z4,z5,z6,z7,z8⟩:=Nc h0
 have hml:mem.length<=100000:=by obtain ⟨_,o2,o3,o4⟩:=ho;omega
 refine ZJ H<|fun p1 w1 H=>ZJ H<|fun p2 w2 H=>Z9 rfl<|yQ H 0 0 yN<|Z9 rfl<|yQ H 1 5 yN ?_
 refine Z7.mk (Fc.imp (of_ H mem m.most yY) ?_)
 rintro _ w' (⟨_,mp,vp,ps,rfl,hfl,Tb,H⟩|⟨hn,_⟩)
 rotate_left
 .exact absurd ho hn
 refine ZN H [] [yRh0,yRp2,yRp3,yRh4,yRp6,yRh7,yRf1,yRf5,yRfr8,yRp9,yRfr10,yRp11] mixed k_d k_d<|fun w1 H=>?_
 refine tk (fun _ Z=>ZD (Z.at 3 rfl) 0 rfl rfl rfl yU)<|yO rfl rfl<|yP 2 1 yN rfl<|yO rfl rfl<|yP 2 2 yN rfl ?_
 refine Z7.mk (Fc.imp (agh H hm z1 z2 z3 z4 z5 z6 z7 z8) ?_)
 rintro _ w' ⟨g2,k,rfl,E,hk,Tl,H⟩
 have ht:=ht.ext E
 have hg:=hg.ext E
 refine Za.mk (H.forget E) ?_
 refine Z7.mk (Fc.imp (Rn.aoX H _ _ ht yY) ?_)
 rintro _ w3 ⟨a1,⟨c1,⟨rfl,H⟩⟩⟩
 refine Za.mk ((H.del 0).forget E) ?_
 refine Z7.mk (Fc.imp (Rn.Eh H _ _ hg yY) ?_)
 rintro _ w4 ⟨a2,⟨c2,⟨rfl,H⟩⟩⟩
 refine tk (fun _ Z=>Zn rfl rfl rfl yU)<|ZJ H<|fun p3 w5 H=>Z6.mk ?_
 refine ⟨g2,k,p3,mp,Value.slice a1 ts.length c1,Value.slice a2 gs.length c2,vp,ps,?_⟩
 refine ⟨rfl,?_⟩
 exact ⟨yY,yY,yY,yY,yY,H.Z8 [1,2,4,4,4]<|fun H=>yH H [6,5]<|fun H=>H⟩
theorem Xf (H:Sat g w l) (hT:Yg.NP g) (hm:XH g m) (h0:WT m.d=0) (ho:Jx mem m.most) (ht:Z0 g ZF XE 1 xt ts) (hg:Z0 g ZF XE 1 xg gs) (h1:ts.length<=1000) (h2:gs.length<=1000):yC 78 #[.agg (yV m []).toArray,.agg #[.string (bs mem),xt,xg]] w (fun r w'=>∃(g':Zw) (k:Ze) (vw:Value) (ws:List Ng) (pr:Nat),r=yS pr/\Ext g g'/\XH g' k/\k.d=Wq m.d/\Z0 g' Lr (QZ g') 1 vw ws/\K6 k ws/\Sat g' w' (LV k vw pr ⟨⟨mem,ts,gs⟩,[],0⟩::l)):=by
 refine Fc.of Tryz.func78 rfl k_d ?_
 obtain ⟨z1,z2,z3,z4,z5,z6,z7,z8⟩:=Nc h0
 refine ZJ H<|fun p1 w1 H=>ZJ H<|fun p2 w2 H=>ZD (H.at 1 rfl) 0 rfl rfl rfl ?_
 refine Z7.mk (Fc.imp (akz H hT hm h0 z3) ?_)
 rintro _ w' ⟨g2,vw,ws,e,rfl,he,E,MR,hR,H⟩
 obtain ⟨aw,cw,rfl⟩:=Z0.form MR
 have hm2:=hm.ext E
 have ht:=ht.ext E
 have hg:=hg.ext E
 refine ZD (H.at 1 rfl) 0 rfl rfl rfl<|ZD (H.at 0 rfl) 0 rfl rfl rfl ?_
 refine Z7.mk (Fc.imp (ahZ H hm2 h0 ho ht hg h1 h2) ?_)
 rintro _ w' ⟨g3,k,cp,mp,vt,vg,vp,ps,rfl,E3,hk,Tl,hfl,Tb,H⟩
 have hmo:k.most=m.most:=yq5 YR.most Tl
 rw [<-hmo] at H
 refine Zn rfl rfl rfl<|ZJ H<|fun p3 w1 H=>?_
 exact Z6.mk ⟨g3,k,_,ws,p3,rfl,E.trans E3,hk,Tl,Z0.Wc (ok:=QZ) (fun _ _ _ h E=>QZ.ext h E) MR E3,akB h0 hR Tl,RF (agd ((H.del 6).del 6)) rfl (by rw [hfl]) Tb rfl⟩
def OI (m:Ze):MS:=⟨⟨Xl.Ib (256 * m.pages.toNat) m.data,Xl.Kg m.table.toNat m.elems,m.globals.map (·.2.2)⟩,[],0⟩
theorem ao1 (H:Sat g w l) (hT:Yg.NP g) (hm:XH g m):yC 33 #[.agg (yV m []).toArray] w (fun r w'=>(Xl.Ht m≠0/\r=.tuple #[.pointer none,yT (Xl.Ht m)]/\Sat g w' l)\/(Xl.Ht m=0/\∃(g':Zw) (k:Ze) (vw:Value) (ws:List Ng) (pr:Nat),r=.tuple #[yS pr,yT 0]/\Ext g g'/\XH g' k/\k.d=Wq m.d/\Z0 g' Lr (QZ g') 1 vw ws/\K6 k ws/\Uy k.d/\Vv k.d (OI m).ins/\Sat g' w' (LV k vw pr (OI m)::l))):=by
 refine Fc.of Tryz.func33 rfl k_d<|ZJ H<|fun p1 w1 H=>ZD (H.at 0 rfl) 0 rfl rfl rfl ?_
 refine Z7.mk (Fc.imp (Xl.amH H hT hm) ?_)
 rintro _ w' ⟨g2,mem,ts,gs,vt,vg,e,rfl,E,hts,Bp,hR,H⟩
 obtain ⟨at1,ct1,rfl⟩:=Z0.form hts
 obtain ⟨ag1,cg1,rfl⟩:=Z0.form Bp
 by_cases he:e=0
 .have Bg:=hR
  rw [he] at Bg
  obtain ⟨q1,q2,q3⟩:=Bg.ok rfl
  have hmk:Xl.Ht m=0:=Bg.eq.symm
  obtain ⟨h0,_⟩:=Xl.Q9 hmk
  obtain ⟨_,a2,a3,a4,a5,a6⟩:=Xl.ac8 Bg 0
  have hM:=akC hm Bg
  have Q:=Vo (Vn (Xu h0).1).1
  have Js:=Q.table
  have IL:=Q.globals
  have BM:gs.length=m.globals.length:=hM.gl
  have ho:Jx mem m.most:=⟨by omega,a6,by omega,by omega⟩
  refine ZV H rfl<|fun p2 w2 H=>?_
  refine ZI H 0 rfl rfl rfl rfl<|fun w3 H=>cF (Yo yX)<|ZD (H.at 1 rfl) 0 rfl rfl rfl<|ZD (H.at 0 rfl) 0 rfl rfl rfl ?_
  refine Z7.mk (Fc.imp (Xf H (N7 hT E) (hm.ext E) h0 ho hts Bp yY yY) ?_)
  rintro _ w' ⟨g3,k,vw,ws,pr,rfl,E3,hk,Tl,Da,hW,H⟩
  have hS:OI m=⟨⟨mem,ts,gs⟩,[],0⟩:=by unfold OI;rw [q1,q2,q3]
  exact Z6.mk (.inr ⟨hmk,g3,k,vw,ws,pr,rfl,E.trans E3,hk,Tl,Da,hW,by rw [Tl];exact adx (J1 hm h0),by rw [hS,Tl];exact hM,by rw [hS];exact (H.del 1).del 1⟩)
 .refine ZV H rfl<|fun p2 w2 H=>?_
  exact ZI H 0 rfl rfl rfl rfl<|fun w3 H=>cT (Xk yX)<|Z6.mk (.inl ⟨by rw [<-hR.eq];exact he,by rw [<-hR.eq],((H.del 0).del 0).forget E⟩)
end
end Rn
namespace Rn
open Go YX RowKit
open YQ Zh Yg YO Valid Mem
structure B4 (g:Zw) (k:Ze) (vw:Value) (ws:List Ng):Prop where
 md:XH g k
 po:Uy k.d
 fs:Z0 g Lr (QZ g) 1 vw ws
 ways:K6 k ws
theorem B4.ext {g g':Zw} {k:Ze} {vw:Value} {ws:List Ng} (h:B4 g k vw ws) (E:Ext g g'):B4 g' k vw ws :=
 ⟨h.md.ext E,h.po,Z0.Wc (ok:=QZ) (fun _ _ _ h E=>QZ.ext h E) h.fs E,h.ways⟩
def Sm (m:Ze) (f:Int) (args:yB):Prop:=Xl.Ht m=0/\QY (Wq m.d) (OI m) f args 0 (ZU (Wq m.d) (OI m) f args)
section
variable {g:Zw} {w:World} {l:List As} {m:Ze} {va:Value} {f:Int} {args:yB}
theorem acF {M:YR} {S S1:MS} {e:Int} (h:QY M S f args e S1) (he:e=0):S1=ZU M S f args:=by
 rcases h with ⟨h,_⟩|⟨_,⟨h,_⟩|⟨_,_,h⟩⟩
 .omega
 .omega
 .exact h
theorem ad3 {M:YR} {S S1:MS} {e:Int} (h:QY M S f args e S1) (he:e≠0):S1=S/\(e=8\/e=1):=by
 rcases h with ⟨h,_,h2⟩|⟨_,⟨h,_,h2⟩|⟨h,_⟩⟩
 .grind
 .grind
 .omega
theorem akD (P:Uy (Wq m.d)) (hI:Vv (Wq m.d) (OI m).ins) (h:Sm m f args) (hv:∀v∈args,XS v):Ty (Wq m.d) (ZU (Wq m.d) (OI m) f args):=by
 rcases h.2 with ⟨h,_⟩|⟨h1,⟨h,_⟩|⟨_,h2,_⟩⟩
 .omega
 .omega
 .exact agc P hI yY yY h2 hv
theorem agj (H:Sat g w l) (hT:Yg.NP g) (hm:XH g m) (hf:XS f) (ha:Z0 g ZF XE 1 va args):yC 26 #[.agg (yV m []).toArray,yT f,va] w (fun r w'=>(¬Sm m f args/\r=.tuple #[.pointer none,.bool true]/\Sat g w' l)\/(Sm m f args/\∃(g':Zw) (k:Ze) (vw:Value) (ws:List Ng) (pr:Nat),r=.tuple #[yS pr,.bool true]/\Ext g g'/\B4 g' k vw ws/\k.d=Wq m.d/\Ty k.d (ZU k.d (OI m) f args)/\Sat g' w' (LV k vw pr (ZU k.d (OI m) f args)::l))):=by
 refine Fc.of Tryz.func26 rfl k_d<|ZJ H<|fun p1 w1 H=>ZD (H.at 0 rfl) 0 rfl rfl rfl ?_
 refine Z7.mk (Fc.imp (ao1 H hT hm) ?_)
 rintro _ w' (⟨he,rfl,H⟩|⟨he,g2,k,vw,ws,pr,rfl,E,hk,Tl,MR,hW,hP,hI,H⟩)
 .obtain ⟨e,hE⟩:∃e,e=Xl.Ht m:=⟨_,rfl⟩
  rw [<-hE] at he ⊢
  exact cT (Xk yX)<|Pw rfl<|Z6.mk (.inl ⟨fun h=>he (hE.trans h.1),rfl,H.del 0⟩)
 .have ha:=ha.ext E
  have hpn:=H
  refine cF (Yo yY)<|Pw rfl<|cF rfl ?_
  refine Z7.mk (Fc.imp (aku H hk hP rfl rfl hf ha) ?_)
  rintro _ w' ⟨e,S1,rfl,hS,H⟩
  by_cases h0:e=0
  .have Am:=acF hS h0
   have hc:Sm m f args:=⟨he,by rw [h0,Am,Tl] at hS;exact hS⟩
   have Me:Ty k.d (ZU k.d (OI m) f args):=by rw [Tl] at hP hI ⊢;exact akD hP hI hc (Z0.all ha)
   rw [Am] at H
   exact cF (Yo yX)<|Z6.mk (.inr ⟨hc,g2,k,vw,ws,pr,rfl,E,⟨hk,hP,MR,hW⟩,Tl,Me,H.del 1⟩)
  .obtain ⟨Am,za⟩:=ad3 hS h0
   subst Am
   have hc:¬Sm m f args:=fun h=>h0 (QY.RK hS (by rw [Tl];exact h.2)).1
   have Me:Ty k.d (OI m):=⟨hI,by unfold OI;simp,⟨Int.le_refl _,by show (0:Int)<=_;unfold YZ;omega⟩,.inl ⟨rfl,rfl⟩⟩
   rcases za with za|za
   .refine cT (Xk yX)<|VT (ZH yX) ?_
    refine Z7.mk (Fc.imp (HX H hP Me) ?_)
    rintro _ w' ⟨sv,Bf,rfl,hsc,H⟩
    obtain ⟨a9,c9,rfl⟩:=H.form 1 rfl
    have N9:Bf.length=0:=by have:=yq5 List.length hsc;rw [lea] at this;exact this
    refine R7 rfl<|V6 rfl ?_
    have hq:K4 (Bf.length:Int) 0=true:=by grind [YV]
    exact Z6.mk (.inl ⟨hc,by rw [hq],((((H.del 0).del 0).del 0).del 0).forget E⟩)
   .refine cT (Xk yX)<|Yh (Z4 yY)<|VT (ZH yX) ?_
    refine Z7.mk (Fc.imp (HX H hP Me) ?_)
    rintro _ w' ⟨sv,Bf,rfl,hsc,H⟩
    obtain ⟨a9,c9,rfl⟩:=H.form 1 rfl
    have N9:Bf.length=0:=by have:=yq5 List.length hsc;rw [lea] at this;exact this
    refine R7 rfl<|V6 rfl ?_
    have hq:K4 (Bf.length:Int) 0=true:=by grind [YV]
    exact Z6.mk (.inl ⟨hc,by rw [hq],((((H.del 0).del 0).del 0).del 0).forget E⟩)
end
end Rn
end Go.Proofs.YtakpnepblgfknaaGreatDoor
