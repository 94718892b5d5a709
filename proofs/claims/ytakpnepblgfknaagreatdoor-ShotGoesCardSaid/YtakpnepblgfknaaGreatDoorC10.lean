/- Texts of this claim, one behind the other. -/
import Derived.Test.YtakpnepblgfknaaGreatDoorC9
set_option maxRecDepth 100000
set_option maxHeartbeats 4000000
set_option linter.unusedVariables false
set_option linter.unusedSimpArgs false
set_option linter.defProp false
namespace Go.Proofs.YtakpnepblgfknaaGreatDoor
namespace Rn
open Go YX Go.RowKit
open YQ Zh Yg YO Valid Mem
section
variable {g:Zw} {w:World} {l:List As} {m:Ze} {cp mp:Nat} {vp vt vg vl vs Si:Value} {ps:List WC} {Zt Zl loc stk:yB} {x:ZS}
theorem adZ {ps:List WC} {n:Nat}:flat (ps++List.replicate n zp)=flat ps++List.replicate (256 * n) 0:=by
 unfold flat
 rw [lIa]
 congr 1
 induction n with
 | zero=>rfl
 | succ n ih =>
  rw [lNb,lMa,ih,show 256 * (n+1)=256+256 * n by omega,<-List.replicate_append_replicate];rfl
theorem bt2 {s:yB} (h:3<=s.length):∃t a b c,s=t++[a]++[b]++[c]:=by
 obtain ⟨t,c,rfl⟩:=N3 (show 1<=s.length by omega)
 rw [lca,lKa] at h
 obtain ⟨t,b,rfl⟩:=N3 (show 1<=t.length by omega)
 rw [lca,lKa] at h
 obtain ⟨t,a,rfl⟩:=N3 (show 1<=t.length by omega)
 exact ⟨t,a,b,c,rfl⟩
theorem apE {d:yB->Bw} {e:Int} {mm:yA} {gl s':yB} (h:∀loc,Mf (d loc) e mm gl loc s'):Mf (d loc) e mm gl loc s':=h loc
theorem aoG {I:RQ} {s':yB} {e e1 e2:Int} {s1 s2:yB} {c:Prop} [Decidable c] (h:(s',e)=(if c then (s1,e1) else (s2,e2))):Mf (if c then ⟨I,loc,s1,e1⟩ else ⟨I,loc,s2,e2⟩) e I.mem I.Zl loc s':=by
 by_cases hc:c
 .rw [if_pos hc] at h ⊢
  injection h with h1 h2
  exact ⟨h2,rfl,rfl,rfl,fun _=>h1⟩
 .rw [if_neg hc] at h ⊢
  injection h with h1 h2
  exact ⟨h2,rfl,rfl,rfl,fun _=>h1⟩
theorem gr0 {e a most:Int} {ps':List WC} (h1:1<=stk.length) (h:most-(ps.length:Int)<a % 4294967296) (he:e=-1) (hp:ps'=ps):Mf (if most-(ps.length:Int)<a % 4294967296 then ⟨⟨flat ps,Zt,Zl⟩,loc,low stk 1++[-1],0⟩ else ⟨⟨flat ps++List.replicate (256 * (a % 4294967296).toNat) 0,Zt,Zl⟩,loc,low stk 1++[(ps.length:Int)],0⟩) 0 (flat ps') Zl loc (stk.set (stk.length-1) e):=by
 rw [if_pos h,he,hp]
 exact ⟨rfl,rfl,rfl,rfl,fun _=>Nk h1⟩
theorem gr1 {e a most:Int} {ps':List WC} (h1:1<=stk.length) (h:¬most-(ps.length:Int)<a % 4294967296) (he:e=ps.length) (hp:ps'=ps++List.replicate (a % 4294967296).toNat zp):Mf (if most-(ps.length:Int)<a % 4294967296 then ⟨⟨flat ps,Zt,Zl⟩,loc,low stk 1++[-1],0⟩ else ⟨⟨flat ps++List.replicate (256 * (a % 4294967296).toNat) 0,Zt,Zl⟩,loc,low stk 1++[(ps.length:Int)],0⟩) 0 (flat ps') Zl loc (stk.set (stk.length-1) e):=by
 rw [if_neg h,he,hp,adZ]
 exact ⟨rfl,rfl,rfl,rfl,fun _=>Nk h1⟩
theorem amv (H:Sat g w (Pt cp (yV m [yS mp,vt,vg]) 158::Pt mp [vp,yT m.most] 221::Sl 223 256 W8 vp ps::Sl 3 1 ZF vt Zt::Sl 2 1 ZF vg Zl::Sl 2 1 ZF vl loc::Sl 2 1 ZF vs stk::l)) (ho:x.op=26) (h1:1<=stk.length) (hlen:stk.length<=100000) (hp:ps.length<=8):yC 160 #[yS cp,.agg #[.int .u8 x.op,yT x.a,yT x.b,Si],vl,vs] w (fun r w'=>∃e vs' Tp ps' WV loc' W0,r=.tuple #[vs',yT e]/\Mf (VG m.most x ⟨flat ps,Zt,Zl⟩ loc stk) e (flat ps') WV loc' W0/\ps'.length<=8/\Sat g w' (Pt cp (yV m [yS mp,vt,vg]) 158::Pt mp [Tp,yT m.most] 221::Sl 223 256 W8 Tp ps'::Sl 3 1 ZF vt Zt::Sl 2 1 ZF vg WV::Sl 2 1 ZF vl loc'::Sl 2 1 ZF vs' W0::l)):=by
 refine Fc.of Tryz.func160 rfl k_d ?_
 have hd:VG m.most x ⟨flat ps,Zt,Zl⟩ loc stk=⟨⟨flat ps,Zt,Zl⟩,loc,low stk 1,0⟩:=by grind [VG]
 rw [hd]
 clear hd
 refine ZJ H<|fun p1 w1 H=>YK H 7 rfl rfl<|ZZ yY<|bk<|Z9 rfl<|yQ H 0 0 yN<|cT (ZH yX)<|MX H 7 rfl 0 ((stk.length)-1) rfl rfl yY yY (.inl ⟨rfl,rfl⟩) (.inr ⟨_,by first|rfl|(congr 2;omega)⟩)<|fun v1 H=>Z6.mk ?_
 refine ⟨0,v1,vp,ps,Zl,loc,List.drop 0 (List.take (stk.length-1) stk),?_⟩
 refine ⟨rfl,?_⟩
 constructor
 .exact ⟨rfl,rfl,rfl,rfl,fun _=>Je⟩
 refine ⟨yY,?_⟩
 exact H.Z8 [7,7,7,7,7,7,7]<|fun H=>H.drop 7<|fun H=>H
theorem amw (H:Sat g w (Pt cp (yV m [yS mp,vt,vg]) 158::Pt mp [vp,yT m.most] 221::Sl 223 256 W8 vp ps::Sl 3 1 ZF vt Zt::Sl 2 1 ZF vg Zl::Sl 2 1 ZF vl loc::Sl 2 1 ZF vs stk::l)) (ho:x.op=27) (h1:3<=stk.length) (hlen:stk.length<=100000) (hp:ps.length<=8):yC 160 #[yS cp,.agg #[.int .u8 x.op,yT x.a,yT x.b,Si],vl,vs] w (fun r w'=>∃e vs' Tp ps' WV loc' W0,r=.tuple #[vs',yT e]/\Mf (VG m.most x ⟨flat ps,Zt,Zl⟩ loc stk) e (flat ps') WV loc' W0/\ps'.length<=8/\Sat g w' (Pt cp (yV m [yS mp,vt,vg]) 158::Pt mp [Tp,yT m.most] 221::Sl 223 256 W8 Tp ps'::Sl 3 1 ZF vt Zt::Sl 2 1 ZF vg WV::Sl 2 1 ZF vl loc'::Sl 2 1 ZF vs' W0::l)):=by
 refine Fc.of Tryz.func160 rfl k_d ?_
 obtain ⟨t,a,b,c,hs⟩:=bt2 h1
 have hl:stk.length=t.length+3:=by grind
 have hc:stk[stk.length-1]?=some c:=by grind
 have hb:stk[stk.length-1-1]?=some b:=by grind
 have ha:stk[stk.length-1-2]?=some a:=by grind
 have r1:List.drop 0 (List.take (stk.length-1-1) stk)=t++[a]:=by
  rw [hl,hs];simp
  rw [show t++[a,b,c]=(t++[a])++[b,c] by simp,lxa yW,lsa yW]
 have r2:List.drop 0 (List.take (stk.length-1-1) (stk.set (stk.length-1-2) b))=t++[b]:=by
  rw [hl,hs];simp
  rw [show t++[b,b,c]=(t++[b])++[b,c] by simp,lxa yW,lsa yW]
 have hd:VG m.most x ⟨flat ps,Zt,Zl⟩ loc stk=⟨⟨flat ps,Zt,Zl⟩,loc,if c=0 then t++[b] else t++[a],0⟩:=by
  unfold VG
  rw [if_neg yY,if_pos ho,hs,Uk,amj,F0 yW,Uk,Mq,Mq,Jj]
 rw [hd]
 clear hd
 refine ZJ H<|fun p1 w1 H=>YK H 7 rfl rfl<|ZZ yY<|bk<|Z9 rfl<|yQ H 0 0 yN<|cF (Z4 yY)<|Z9 rfl<|yQ H 0 0 yN<|cT (ZH yX) ?_
 obtain ⟨b1,o1,E1⟩:=H.Zc 7 rfl ((stk.length)-1) yY
 refine ZK E1 yY rfl rfl<|yJ (H.el 7 rfl E1 hc) 0 yI ?_
 refine yE (fun c1=>?_) (fun c1=>?_)
 .refine ZZ yY<|ZZ yY ?_
  obtain ⟨b2,o2,E2⟩:=H.Zc 7 rfl (((stk.length)-1)-1) yY
  refine ZK E2 yY rfl rfl<|yJ (H.el 7 rfl E2 hb) 0 yI ?_
  obtain ⟨b3,o3,E3⟩:=H.Zc 7 rfl (((stk.length)-1)-2) yY
  refine ZK E3 yY rfl rfl<|Ys H 7 rfl E3 ha 0 (b) rfl rfl rfl rfl<|fun w2 H=>ZZ yY<|MX H 7 rfl 0 (((stk.length)-1)-1) rfl rfl (by grind) (by grind) (.inl ⟨rfl,rfl⟩) (.inr ⟨_,by first|rfl|(congr 2;(first|omega|(simp only [List.length_append,List.length_set,List.length_cons,List.length_nil];omega)|(simp;omega)|(simp;done)))⟩)<|fun v1 H=>Z6.mk ?_
  refine ⟨0,v1,vp,ps,Zl,loc,List.drop 0 (List.take (stk.length-1-1) (stk.set (stk.length-1-2) b)),?_⟩
  refine ⟨rfl,?_⟩
  constructor
  .exact ⟨rfl,rfl,rfl,rfl,fun _=>by rw [if_pos yX];exact r2⟩
  refine ⟨yY,?_⟩
  exact H.Z8 [7,7,7,7,7,7,7]<|fun H=>H.drop 7<|fun H=>H
 refine ZZ yY<|MX H 7 rfl 0 (((stk.length)-1)-1) rfl rfl yY yY (.inl ⟨rfl,rfl⟩) (.inr ⟨_,by first|rfl|(congr 2;omega)⟩)<|fun v1 H=>Z6.mk ?_
 refine ⟨0,v1,vp,ps,Zl,loc,List.drop 0 (List.take (stk.length-1-1) stk),?_⟩
 refine ⟨rfl,?_⟩
 constructor
 .exact ⟨rfl,rfl,rfl,rfl,fun _=>by rw [if_neg yX];exact r1⟩
 refine ⟨yY,?_⟩
 exact H.Z8 [7,7,7,7,7,7,7]<|fun H=>H.drop 7<|fun H=>H
theorem amx (H:Sat g w (Pt cp (yV m [yS mp,vt,vg]) 158::Pt mp [vp,yT m.most] 221::Sl 223 256 W8 vp ps::Sl 3 1 ZF vt Zt::Sl 2 1 ZF vg Zl::Sl 2 1 ZF vl loc::Sl 2 1 ZF vs stk::l)) (ho:x.op=32) (hb:0<=x.a/\x.a<loc.length) (hlen:stk.length<=100000) (hp:ps.length<=8):yC 160 #[yS cp,.agg #[.int .u8 x.op,yT x.a,yT x.b,Si],vl,vs] w (fun r w'=>∃e vs' Tp ps' WV loc' W0,r=.tuple #[vs',yT e]/\Mf (VG m.most x ⟨flat ps,Zt,Zl⟩ loc stk) e (flat ps') WV loc' W0/\ps'.length<=8/\Sat g w' (Pt cp (yV m [yS mp,vt,vg]) 158::Pt mp [Tp,yT m.most] 221::Sl 223 256 W8 Tp ps'::Sl 3 1 ZF vt Zt::Sl 2 1 ZF vg WV::Sl 2 1 ZF vl loc'::Sl 2 1 ZF vs' W0::l)):=by
 refine Fc.of Tryz.func160 rfl k_d ?_
 obtain ⟨i,hi⟩:=lwa hb.1
 rw [hi] at hb ⊢
 obtain ⟨y,hy⟩:∃y,loc[i]?=some y:=⟨_,laa yY⟩
 have hd:VG m.most x ⟨flat ps,Zt,Zl⟩ loc stk=⟨⟨flat ps,Zt,Zl⟩,loc,stk++[y],0⟩:=by grind [VG]
 rw [hd]
 clear hd
 refine ZJ H<|fun p1 w1 H=>YK H 7 rfl rfl<|ZZ yY<|bk<|Z9 rfl<|yQ H 0 0 yN<|cF (Z4 yY)<|Z9 rfl<|yQ H 0 0 yN<|cF (Z4 yY)<|Z9 rfl<|yQ H 0 0 yN<|cT (ZH yX)<|Z9 rfl<|yQ H 0 1 yN ?_
 obtain ⟨b1,o1,E1⟩:=H.Zc 6 rfl (i) yY
 refine ZK E1 rfl rfl rfl<|yJ (H.el 6 rfl E1 hy) 0 yI<|ZW H rfl rfl rfl rfl<|fun p2 w2 H=>Ww (ys:=[_]) 8 H 8 rfl (H.at 0 rfl) rfl (fun y _=>rfl) rfl rfl rfl yY yY<|fun v1 w1 H=>Z6.mk ?_
 refine ⟨0,v1,vp,ps,Zl,loc,stk++[y],?_⟩
 refine ⟨rfl,?_⟩
 constructor
 .exact k_w
 refine ⟨yY,?_⟩
 exact H.Z8 [8,8,8,8,8,8,8]<|fun H=>yH H [8,7]<|fun H=>H
theorem amy (H:Sat g w (Pt cp (yV m [yS mp,vt,vg]) 158::Pt mp [vp,yT m.most] 221::Sl 223 256 W8 vp ps::Sl 3 1 ZF vt Zt::Sl 2 1 ZF vg Zl::Sl 2 1 ZF vl loc::Sl 2 1 ZF vs stk::l)) (ho:x.op=33\/x.op=34) (hb:0<=x.a/\x.a<loc.length) (h1:1<=stk.length) (hlen:stk.length<=100000) (hp:ps.length<=8):yC 160 #[yS cp,.agg #[.int .u8 x.op,yT x.a,yT x.b,Si],vl,vs] w (fun r w'=>∃e vs' Tp ps' WV loc' W0,r=.tuple #[vs',yT e]/\Mf (VG m.most x ⟨flat ps,Zt,Zl⟩ loc stk) e (flat ps') WV loc' W0/\ps'.length<=8/\Sat g w' (Pt cp (yV m [yS mp,vt,vg]) 158::Pt mp [Tp,yT m.most] 221::Sl 223 256 W8 Tp ps'::Sl 3 1 ZF vt Zt::Sl 2 1 ZF vg WV::Sl 2 1 ZF vl loc'::Sl 2 1 ZF vs' W0::l)):=by
 refine Fc.of Tryz.func160 rfl k_d ?_
 obtain ⟨a,ha,G0,GN⟩:=DQ (s:=stk) yY
 obtain ⟨i,hi⟩:=lwa hb.1
 rw [hi] at hb ⊢
 obtain ⟨y,hy⟩:∃y,loc[i]?=some y:=⟨_,laa yY⟩
 have hd:VG m.most x ⟨flat ps,Zt,Zl⟩ loc stk=⟨⟨flat ps,Zt,Zl⟩,loc.set i a,if x.op=33 then low stk 1 else stk,0⟩:=by grind [VG]
 rw [hd]
 clear hd
 rcases ho with ho|ho
 .rw [if_pos ho]
  refine ZJ H<|fun p1 w1 H=>YK H 7 rfl rfl<|ZZ yY<|bk<|Z9 rfl<|yQ H 0 0 yN<|cF (Z4 yY)<|Z9 rfl<|yQ H 0 0 yN<|cF (Z4 yY)<|Z9 rfl<|yQ H 0 0 yN<|cF (Z4 yY)<|Z9 rfl<|yQ H 0 0 yN<|cT (ZH yX)<|ZN H [] [yRp0,yRp1,yRh2,yRp3,yRp4,yRp5,yRh6,yRp7,yRfr8] mixed k_d k_d<|fun w2 H=>yO rfl rfl<|yP 0 1 yN rfl ?_
  obtain ⟨b1,o1,E1⟩:=H.Zc 7 rfl ((stk.length)-1) yY
  refine tk (fun _ Z=>ZK E1 yY rfl rfl yU)<|tk (fun _ Z=>yJ (Z.el 7 rfl E1 ha) 0 yI yU) ?_
  obtain ⟨b2,o2,E2⟩:=H.Zc 6 rfl (i) yY
  refine tk (fun _ Z=>ZK E2 rfl rfl rfl yU)<|Ys H 6 rfl E2 hy 0 (a) rfl rfl rfl rfl<|fun w1 H=>MX H 7 rfl 0 ((stk.length)-1) rfl rfl yY yY (.inl ⟨rfl,rfl⟩) (.inr ⟨_,by first|rfl|(congr 2;omega)⟩)<|fun v1 H=>Z6.mk ?_
  refine ⟨0,v1,vp,ps,Zl,loc.set i a,List.drop 0 (List.take (stk.length-1) stk),?_⟩
  refine ⟨rfl,?_⟩
  constructor
  .exact ⟨rfl,rfl,rfl,rfl,fun _=>Je⟩
  refine ⟨yY,?_⟩
  exact H.Z8 [7,7,7,7,7,7,7]<|fun H=>H.drop 7<|fun H=>H
 .rw [if_neg yY]
  refine ZJ H<|fun p1 w1 H=>YK H 7 rfl rfl<|ZZ yY<|bk<|Z9 rfl<|yQ H 0 0 yN<|cF (Z4 yY)<|Z9 rfl<|yQ H 0 0 yN<|cF (Z4 yY)<|Z9 rfl<|yQ H 0 0 yN<|cF (Z4 yY)<|Z9 rfl<|yQ H 0 0 yN<|cF (Z4 yY)<|Z9 rfl<|yQ H 0 0 yN<|cT (ZH yX)<|ZN H [] [yRp0,yRp1,yRh2,yRp3,yRp4,yRp5,yRh6,yRp7,yRfr8] mixed k_d k_d<|fun w2 H=>yO rfl rfl<|yP 0 1 yN rfl ?_
  obtain ⟨b1,o1,E1⟩:=H.Zc 7 rfl ((stk.length)-1) yY
  refine tk (fun _ Z=>ZK E1 yY rfl rfl yU)<|tk (fun _ Z=>yJ (Z.el 7 rfl E1 ha) 0 yI yU) ?_
  obtain ⟨b2,o2,E2⟩:=H.Zc 6 rfl (i) yY
  refine tk (fun _ Z=>ZK E2 rfl rfl rfl yU)<|Ys H 6 rfl E2 hy 0 (a) rfl rfl rfl rfl<|fun w1 H=>Z6.mk ?_
  refine ⟨0,vs,vp,ps,Zl,loc.set i a,stk,?_⟩
  refine ⟨rfl,?_⟩
  constructor
  .exact k_w
  refine ⟨yY,?_⟩
  exact H.Z8 [7,7,7,7,7,7,7]<|fun H=>H.drop 7<|fun H=>H
theorem amz (H:Sat g w (Pt cp (yV m [yS mp,vt,vg]) 158::Pt mp [vp,yT m.most] 221::Sl 223 256 W8 vp ps::Sl 3 1 ZF vt Zt::Sl 2 1 ZF vg Zl::Sl 2 1 ZF vl loc::Sl 2 1 ZF vs stk::l)) (ho:x.op=35) (hb:0<=x.a/\x.a<Zl.length) (hlen:stk.length<=100000) (hp:ps.length<=8):yC 160 #[yS cp,.agg #[.int .u8 x.op,yT x.a,yT x.b,Si],vl,vs] w (fun r w'=>∃e vs' Tp ps' WV loc' W0,r=.tuple #[vs',yT e]/\Mf (VG m.most x ⟨flat ps,Zt,Zl⟩ loc stk) e (flat ps') WV loc' W0/\ps'.length<=8/\Sat g w' (Pt cp (yV m [yS mp,vt,vg]) 158::Pt mp [Tp,yT m.most] 221::Sl 223 256 W8 Tp ps'::Sl 3 1 ZF vt Zt::Sl 2 1 ZF vg WV::Sl 2 1 ZF vl loc'::Sl 2 1 ZF vs' W0::l)):=by
 refine Fc.of Tryz.func160 rfl k_d ?_
 obtain ⟨i,hi⟩:=lwa hb.1
 rw [hi] at hb ⊢
 obtain ⟨y,hy⟩:∃y,Zl[i]?=some y:=⟨_,laa yY⟩
 have hd:VG m.most x ⟨flat ps,Zt,Zl⟩ loc stk=⟨⟨flat ps,Zt,Zl⟩,loc,stk++[y],0⟩:=by grind [VG]
 rw [hd]
 clear hd
 refine ZJ H<|fun p1 w1 H=>YK H 7 rfl rfl<|ZZ yY<|bk<|Z9 rfl<|yQ H 0 0 yN<|cF (Z4 yY)<|Z9 rfl<|yQ H 0 0 yN<|cF (Z4 yY)<|Z9 rfl<|yQ H 0 0 yN<|cF (Z4 yY)<|Z9 rfl<|yQ H 0 0 yN<|cF (Z4 yY)<|Z9 rfl<|yQ H 0 0 yN<|cF (Z4 yY)<|Z9 rfl<|yQ H 0 0 yN<|cT (ZH yX)<|ZN H [] [yRp0,yRp1,yRp2,yRp3,yRh4,yRp5,yRh6,yRp7,yRh8,yRfr9,yRfr10,yRp11,yRp12] mixed k_d k_d<|fun w2 H=>yO rfl rfl<|yP 1 13 yN rfl<|yO rfl rfl<|yP 0 1 yN rfl ?_
 obtain ⟨b1,o1,E1⟩:=H.Zc 5 rfl (i) yY
 refine tk (fun _ Z=>ZK E1 rfl rfl rfl yU)<|tk (fun _ Z=>yJ (Z.el 5 rfl E1 hy) 0 yI yU)<|ZW H rfl rfl rfl rfl<|fun p2 w1 H=>Ww (ys:=[_]) 8 H 8 rfl (H.at 0 rfl) rfl (fun y _=>rfl) rfl rfl rfl yY yY<|fun v1 w2 H=>Z6.mk ?_
 refine ⟨0,v1,vp,ps,Zl,loc,stk++[y],?_⟩
 refine ⟨rfl,?_⟩
 constructor
 .exact k_w
 refine ⟨yY,?_⟩
 exact H.Z8 [8,8,8,8,8,8,8]<|fun H=>yH H [8,7]<|fun H=>H
theorem amA (H:Sat g w (Pt cp (yV m [yS mp,vt,vg]) 158::Pt mp [vp,yT m.most] 221::Sl 223 256 W8 vp ps::Sl 3 1 ZF vt Zt::Sl 2 1 ZF vg Zl::Sl 2 1 ZF vl loc::Sl 2 1 ZF vs stk::l)) (ho:x.op=36) (hb:0<=x.a/\x.a<Zl.length) (h1:1<=stk.length) (hlen:stk.length<=100000) (hp:ps.length<=8):yC 160 #[yS cp,.agg #[.int .u8 x.op,yT x.a,yT x.b,Si],vl,vs] w (fun r w'=>∃e vs' Tp ps' WV loc' W0,r=.tuple #[vs',yT e]/\Mf (VG m.most x ⟨flat ps,Zt,Zl⟩ loc stk) e (flat ps') WV loc' W0/\ps'.length<=8/\Sat g w' (Pt cp (yV m [yS mp,vt,vg]) 158::Pt mp [Tp,yT m.most] 221::Sl 223 256 W8 Tp ps'::Sl 3 1 ZF vt Zt::Sl 2 1 ZF vg WV::Sl 2 1 ZF vl loc'::Sl 2 1 ZF vs' W0::l)):=by
 refine Fc.of Tryz.func160 rfl k_d ?_
 obtain ⟨a,ha,G0,GN⟩:=DQ (s:=stk) yY
 obtain ⟨i,hi⟩:=lwa hb.1
 rw [hi] at hb ⊢
 obtain ⟨y,hy⟩:∃y,Zl[i]?=some y:=⟨_,laa yY⟩
 have hd:VG m.most x ⟨flat ps,Zt,Zl⟩ loc stk=⟨⟨flat ps,Zt,Zl.set i a⟩,loc,low stk 1,0⟩:=by grind [VG]
 rw [hd]
 clear hd
 refine ZJ H<|fun p1 w1 H=>YK H 7 rfl rfl<|ZZ yY<|bk<|Z9 rfl<|yQ H 0 0 yN<|cF (Z4 yY)<|Z9 rfl<|yQ H 0 0 yN<|cF (Z4 yY)<|Z9 rfl<|yQ H 0 0 yN<|cF (Z4 yY)<|Z9 rfl<|yQ H 0 0 yN<|cF (Z4 yY)<|Z9 rfl<|yQ H 0 0 yN<|cF (Z4 yY)<|Z9 rfl<|yQ H 0 0 yN<|cF (Z4 yY)<|Z9 rfl<|yQ H 0 0 yN<|cT (ZH yX)<|ZN H [] [yRp0,yRp1,yRp2,yRh3,yRp4,yRh5,yRp6,yRp7,yRp8,yRh9,yRp10,yRfr11] mixed k_d k_d<|fun w2 H=>yO rfl rfl<|yP 1 13 yN rfl<|yO rfl rfl<|yP 0 1 yN rfl ?_
 obtain ⟨b1,o1,E1⟩:=H.Zc 7 rfl ((stk.length)-1) yY
 refine tk (fun _ Z=>ZK E1 yY rfl rfl yU)<|tk (fun _ Z=>yJ (Z.el 7 rfl E1 ha) 0 yI yU) ?_
 obtain ⟨b2,o2,E2⟩:=H.Zc 5 rfl (i) yY
 refine tk (fun _ Z=>ZK E2 rfl rfl rfl yU)<|Ys H 5 rfl E2 hy 0 (a) rfl rfl rfl rfl<|fun w1 H=>MX H 7 rfl 0 ((stk.length)-1) rfl rfl yY yY (.inl ⟨rfl,rfl⟩) (.inr ⟨_,by first|rfl|(congr 2;omega)⟩)<|fun v1 H=>Z6.mk ?_
 refine ⟨0,v1,vp,ps,Zl.set i a,loc,List.drop 0 (List.take (stk.length-1) stk),?_⟩
 refine ⟨rfl,?_⟩
 constructor
 .exact ⟨rfl,rfl,rfl,rfl,fun _=>Je⟩
 refine ⟨yY,?_⟩
 exact H.Z8 [7,7,7,7,7,7,7]<|fun H=>H.drop 7<|fun H=>H
theorem amB (H:Sat g w (Pt cp (yV m [yS mp,vt,vg]) 158::Pt mp [vp,yT m.most] 221::Sl 223 256 W8 vp ps::Sl 3 1 ZF vt Zt::Sl 2 1 ZF vg Zl::Sl 2 1 ZF vl loc::Sl 2 1 ZF vs stk::l)) (ho:x.op=65\/x.op=66) (hlen:stk.length<=100000) (hp:ps.length<=8):yC 160 #[yS cp,.agg #[.int .u8 x.op,yT x.a,yT x.b,Si],vl,vs] w (fun r w'=>∃e vs' Tp ps' WV loc' W0,r=.tuple #[vs',yT e]/\Mf (VG m.most x ⟨flat ps,Zt,Zl⟩ loc stk) e (flat ps') WV loc' W0/\ps'.length<=8/\Sat g w' (Pt cp (yV m [yS mp,vt,vg]) 158::Pt mp [Tp,yT m.most] 221::Sl 223 256 W8 Tp ps'::Sl 3 1 ZF vt Zt::Sl 2 1 ZF vg WV::Sl 2 1 ZF vl loc'::Sl 2 1 ZF vs' W0::l)):=by
 refine Fc.of Tryz.func160 rfl k_d ?_
 have hd:VG m.most x ⟨flat ps,Zt,Zl⟩ loc stk=⟨⟨flat ps,Zt,Zl⟩,loc,stk++[x.a],0⟩:=by grind [VG]
 rw [hd]
 clear hd
 rcases ho with ho|ho
 .refine ZJ H<|fun p1 w1 H=>YK H 7 rfl rfl<|ZZ yY<|bk<|Z9 rfl<|yQ H 0 0 yN<|cF (Z4 yY)<|Z9 rfl<|yQ H 0 0 yN<|cF (Z4 yY)<|Z9 rfl<|yQ H 0 0 yN<|cF (Z4 yY)<|Z9 rfl<|yQ H 0 0 yN<|cF (Z4 yY)<|Z9 rfl<|yQ H 0 0 yN<|cF (Z4 yY)<|Z9 rfl<|yQ H 0 0 yN<|cF (Z4 yY)<|Z9 rfl<|yQ H 0 0 yN<|cF (Z4 yY)<|Z9 rfl<|yQ H 0 0 yN<|cT (ZH yX)<|cT (ZH yX)<|Z9 rfl<|yQ H 0 1 yN<|ZW H rfl rfl rfl rfl<|fun p2 w2 H=>Ww (ys:=[_]) 8 H 8 rfl (H.at 0 rfl) rfl (fun y _=>rfl) rfl rfl rfl yY yY<|fun v1 w1 H=>Z6.mk ?_
  refine ⟨0,v1,vp,ps,Zl,loc,stk++[x.a],?_⟩
  refine ⟨rfl,?_⟩
  constructor
  .exact k_w
  refine ⟨yY,?_⟩
  exact H.Z8 [8,8,8,8,8,8,8]<|fun H=>yH H [8,7]<|fun H=>H
 .refine ZJ H<|fun p1 w1 H=>YK H 7 rfl rfl<|ZZ yY<|bk<|Z9 rfl<|yQ H 0 0 yN<|cF (Z4 yY)<|Z9 rfl<|yQ H 0 0 yN<|cF (Z4 yY)<|Z9 rfl<|yQ H 0 0 yN<|cF (Z4 yY)<|Z9 rfl<|yQ H 0 0 yN<|cF (Z4 yY)<|Z9 rfl<|yQ H 0 0 yN<|cF (Z4 yY)<|Z9 rfl<|yQ H 0 0 yN<|cF (Z4 yY)<|Z9 rfl<|yQ H 0 0 yN<|cF (Z4 yY)<|Z9 rfl<|yQ H 0 0 yN<|cF (Z4 yY)<|Z9 rfl<|yQ H 0 0 yN<|cT (ZH yX)<|Z9 rfl<|yQ H 0 1 yN<|ZW H rfl rfl rfl rfl<|fun p2 w2 H=>Ww (ys:=[_]) 8 H 8 rfl (H.at 0 rfl) rfl (fun y _=>rfl) rfl rfl rfl yY yY<|fun v1 w1 H=>Z6.mk ?_
  refine ⟨0,v1,vp,ps,Zl,loc,stk++[x.a],?_⟩
  refine ⟨rfl,?_⟩
  constructor
  .exact k_w
  refine ⟨yY,?_⟩
  exact H.Z8 [8,8,8,8,8,8,8]<|fun H=>yH H [8,7]<|fun H=>H
theorem amC (H:Sat g w (Pt cp (yV m [yS mp,vt,vg]) 158::Pt mp [vp,yT m.most] 221::Sl 223 256 W8 vp ps::Sl 3 1 ZF vt Zt::Sl 2 1 ZF vg Zl::Sl 2 1 ZF vl loc::Sl 2 1 ZF vs stk::l)) (ho:x.op=63) (hlen:stk.length<=100000) (hp:ps.length<=8):yC 160 #[yS cp,.agg #[.int .u8 x.op,yT x.a,yT x.b,Si],vl,vs] w (fun r w'=>∃e vs' Tp ps' WV loc' W0,r=.tuple #[vs',yT e]/\Mf (VG m.most x ⟨flat ps,Zt,Zl⟩ loc stk) e (flat ps') WV loc' W0/\ps'.length<=8/\Sat g w' (Pt cp (yV m [yS mp,vt,vg]) 158::Pt mp [Tp,yT m.most] 221::Sl 223 256 W8 Tp ps'::Sl 3 1 ZF vt Zt::Sl 2 1 ZF vg WV::Sl 2 1 ZF vl loc'::Sl 2 1 ZF vs' W0::l)):=by
 refine Fc.of Tryz.func160 rfl k_d ?_
 have hd:VG m.most x ⟨flat ps,Zt,Zl⟩ loc stk=⟨⟨flat ps,Zt,Zl⟩,loc,stk++[(ps.length:Int)],0⟩:=by
  unfold VG
  rw [if_neg yY,if_neg yY,if_neg yY,if_neg yY,if_neg yY,if_neg yY,if_neg yY,if_neg yY,if_pos ho,Tq]
 rw [hd]
 clear hd
 refine ZJ H<|fun p1 w1 H=>YK H 7 rfl rfl<|ZZ yY<|bk<|Z9 rfl<|yQ H 0 0 yN<|cF (Z4 yY)<|Z9 rfl<|yQ H 0 0 yN<|cF (Z4 yY)<|Z9 rfl<|yQ H 0 0 yN<|cF (Z4 yY)<|Z9 rfl<|yQ H 0 0 yN<|cF (Z4 yY)<|Z9 rfl<|yQ H 0 0 yN<|cF (Z4 yY)<|Z9 rfl<|yQ H 0 0 yN<|cF (Z4 yY)<|Z9 rfl<|yQ H 0 0 yN<|cF (Z4 yY)<|Z9 rfl<|yQ H 0 0 yN<|cF (Z4 yY)<|Z9 rfl<|yQ H 0 0 yN<|cF (Z4 yY)<|Z9 rfl<|yQ H 0 0 yN<|cT (ZH yX)<|Z9 rfl<|yQ H 1 11 yN<|H.Z8 [3,3]<|fun H=>?_
 refine Z7.mk (Fc.imp (Mem.size H) ?_)
 rintro _ w2 ⟨rfl,H⟩
 refine ZW H rfl rfl rfl rfl<|fun p2 w3 H=>Ww (ys:=[_]) 8 H 8 rfl (H.at 0 rfl) rfl (fun y _=>rfl) rfl rfl rfl yY yY<|fun v1 w2 H=>Z6.mk ?_
 refine ⟨0,v1,vp,ps,Zl,loc,stk++[(↑ps.length:Int)],?_⟩
 refine ⟨rfl,?_⟩
 constructor
 .exact k_w
 refine ⟨yY,?_⟩
 exact H.Z8 [8,8,8,8,6,6,8]<|fun H=>yH H [8,7]<|fun H=>H
theorem amD (H:Sat g w (Pt cp (yV m [yS mp,vt,vg]) 158::Pt mp [vp,yT m.most] 221::Sl 223 256 W8 vp ps::Sl 3 1 ZF vt Zt::Sl 2 1 ZF vg Zl::Sl 2 1 ZF vl loc::Sl 2 1 ZF vs stk::l)) (ho:x.op=64) (h1:1<=stk.length) (Ur:∀v∈stk,XS v) (hm:ps.length<=m.most/\m.most<=8) (hlen:stk.length<=100000) (hp:ps.length<=8):yC 160 #[yS cp,.agg #[.int .u8 x.op,yT x.a,yT x.b,Si],vl,vs] w (fun r w'=>∃e vs' Tp ps' WV loc' W0,r=.tuple #[vs',yT e]/\Mf (VG m.most x ⟨flat ps,Zt,Zl⟩ loc stk) e (flat ps') WV loc' W0/\ps'.length<=8/\Sat g w' (Pt cp (yV m [yS mp,vt,vg]) 158::Pt mp [Tp,yT m.most] 221::Sl 223 256 W8 Tp ps'::Sl 3 1 ZF vt Zt::Sl 2 1 ZF vg WV::Sl 2 1 ZF vl loc'::Sl 2 1 ZF vs' W0::l)):=by
 refine Fc.of Tryz.func160 rfl k_d ?_
 obtain ⟨a,ha,G0,GN⟩:=DQ (s:=stk) yY
 have Em:=Ur a GN
 have hd:VG m.most x ⟨flat ps,Zt,Zl⟩ loc stk=(if m.most-(ps.length:Int)<a % 4294967296 then ⟨⟨flat ps,Zt,Zl⟩,loc,low stk 1++[-1],0⟩ else ⟨⟨flat ps++List.replicate (256 * (a % 4294967296).toNat) 0,Zt,Zl⟩,loc,low stk 1++[(ps.length:Int)],0⟩):=by
  unfold VG
  rw [if_neg yY,if_neg yY,if_neg yY,if_neg yY,if_neg yY,if_neg yY,if_neg yY,if_neg yY,if_neg yY,if_pos ho,G0,Tq]
 rw [hd]
 clear hd
 refine ZJ H<|fun p1 w1 H=>YK H 7 rfl rfl<|ZZ yY<|bk<|Z9 rfl<|yQ H 0 0 yN<|cF (Z4 k_i)<|Z9 rfl<|yQ H 0 0 yN<|cF (Z4 k_i)<|Z9 rfl<|yQ H 0 0 yN<|cF (Z4 k_i)<|Z9 rfl<|yQ H 0 0 yN<|cF (Z4 k_i)<|Z9 rfl<|yQ H 0 0 yN<|cF (Z4 k_i)<|Z9 rfl<|yQ H 0 0 yN<|cF (Z4 k_i)<|Z9 rfl<|yQ H 0 0 yN<|cF (Z4 k_i)<|Z9 rfl<|yQ H 0 0 yN<|cF (Z4 k_i)<|Z9 rfl<|yQ H 0 0 yN<|cF (Z4 k_i)<|Z9 rfl<|yQ H 0 0 yN<|cF (Z4 k_i)<|Z9 rfl<|yQ H 0 0 yN<|cT (ZH k_i)<|ZN H [] [yRp0,yRp1,yRp2,yRp3,yRp4,yRh5,yRp6,yRp7,yRp8,yRh9,yRfr10,yRp11,yRfr12] mixed k_d k_d<|fun w2 H=>yO rfl rfl<|yP 1 11 yN rfl ?_
 obtain ⟨b1,o1,E1⟩:=H.Zc 7 rfl ((stk.length)-1) yY
 refine tk (fun _ Z=>ZK E1 yY rfl rfl yU)<|tk (fun _ Z=>yJ (Z.el 7 rfl E1 ha) 0 yI yU)<|H.Z8 [3,3]<|fun H=>?_
 refine Z7.mk (Fc.imp (Mem.grow H _ ?_ ?_ ?_) ?_)
 .exact k_i
 .exact k_i
 .exact k_i
 rintro _ w1 ⟨e1,⟨v'1,⟨NL,⟨rfl,⟨(⟨h2,⟨h3,h4⟩⟩|⟨h5,⟨h6,h7⟩⟩),H⟩⟩⟩⟩⟩
 .refine tk (fun _ Z=>ZK E1 yY rfl rfl yU)<|Ys H 7 rfl E1 ha 0 (e1) rfl rfl rfl rfl<|fun w3 H=>Z6.mk ?_
  refine ⟨0,vs,v'1,NL,Zl,loc,stk.set (stk.length-1) e1,?_⟩
  refine ⟨rfl,?_⟩
  constructor
  .exact gr0 h1 yY yX yX
  constructor
  .exact k_i
  exact H.Z8 [7,7,7,7,5,5,7]<|fun H=>H.drop 7<|fun H=>H
 refine tk (fun _ Z=>ZK E1 yY rfl rfl yU)<|Ys H 7 rfl E1 ha 0 (e1) rfl rfl rfl rfl<|fun w3 H=>Z6.mk ?_
 refine ⟨0,vs,v'1,NL,Zl,loc,stk.set (stk.length-1) e1,?_⟩
 refine ⟨rfl,?_⟩
 constructor
 .exact gr1 h1 yY yX yX
 constructor
 .exact k_i
 exact H.Z8 [7,7,7,7,5,5,7]<|fun H=>H.drop 7<|fun H=>H
theorem amE (H:Sat g w (Pt cp (yV m [yS mp,vt,vg]) 158::Pt mp [vp,yT m.most] 221::Sl 223 256 W8 vp ps::Sl 3 1 ZF vt Zt::Sl 2 1 ZF vg Zl::Sl 2 1 ZF vl loc::Sl 2 1 ZF vs stk::l)) (ho:36<x.op/\x.op<=255) (hw:0<wid x.op) (Ur:∀v∈stk,XS v) (hn:UI x.op<=stk.length) (hb:0<=x.b/\x.b<=4294967295) (hlen:stk.length<=100000) (hp:ps.length<=8):yC 160 #[yS cp,.agg #[.int .u8 x.op,yT x.a,yT x.b,Si],vl,vs] w (fun r w'=>∃e vs' Tp ps' WV loc' W0,r=.tuple #[vs',yT e]/\Mf (VG m.most x ⟨flat ps,Zt,Zl⟩ loc stk) e (flat ps') WV loc' W0/\ps'.length<=8/\Sat g w' (Pt cp (yV m [yS mp,vt,vg]) 158::Pt mp [Tp,yT m.most] 221::Sl 223 256 W8 Tp ps'::Sl 3 1 ZF vt Zt::Sl 2 1 ZF vg WV::Sl 2 1 ZF vl loc'::Sl 2 1 ZF vs' W0::l)):=by
 refine Fc.of Tryz.func160 rfl k_d ?_
 have Ff:=Q6 hw
 have BH:=Q7 x.op
 have hd:VG m.most x ⟨flat ps,Zt,Zl⟩ loc stk=_:=rfl
 rw [hd]
 clear hd
 refine ZJ H<|fun p1 w1 H=>YK H 7 rfl rfl<|ZZ yY<|bk<|Z9 rfl<|yQ H 0 0 yN<|cF (Z4 yY)<|Z9 rfl<|yQ H 0 0 yN<|cF (Z4 yY)<|Z9 rfl<|yQ H 0 0 yN<|cF (Z4 yY)<|Z9 rfl<|yQ H 0 0 yN<|cF (Z4 yY)<|Z9 rfl<|yQ H 0 0 yN<|cF (Z4 yY)<|Z9 rfl<|yQ H 0 0 yN<|cF (Z4 yY)<|Z9 rfl<|yQ H 0 0 yN<|cF (Z4 yY)<|Z9 rfl<|yQ H 0 0 yN<|cF (Z4 yY)<|Z9 rfl<|yQ H 0 0 yN<|cF (Z4 yY)<|Z9 rfl<|yQ H 0 0 yN<|cF (Z4 yY)<|Z9 rfl<|yQ H 0 0 yN<|cF (Z4 yY)<|Z9 rfl<|yQ H 0 0 yN ?_
 refine Z7.mk (Fc.imp (YQ.KE _ _) ?_)
 rintro _ _ ⟨⟨r1,⟨rfl,h1⟩⟩,rfl⟩
 refine cT (Zu yY)<|ZD (H.at 0 rfl) 0 rfl rfl rfl<|H.Z8 [7,6,6,6,6,6]<|fun H=>?_
 refine Z7.mk (Fc.imp (Rn.amu H yY yY yY yY yY yY yY) ?_)
 rintro _ w2 ⟨e1,⟨Zo,⟨NL,⟨Q3,⟨rfl,⟨h2,⟨h3,H⟩⟩⟩⟩⟩⟩⟩
 refine Z6.mk ?_
 refine ⟨e1,Zo,vp,NL,Zl,loc,Q3,?_⟩
 refine ⟨rfl,?_⟩
 constructor
 .grind
 refine ⟨yY,?_⟩
 exact H.Z8 [5,7,6,6,6,6,6]<|fun H=>H.drop 7<|fun H=>H
theorem amF (H:Sat g w (Pt cp (yV m [yS mp,vt,vg]) 158::Pt mp [vp,yT m.most] 221::Sl 223 256 W8 vp ps::Sl 3 1 ZF vt Zt::Sl 2 1 ZF vg Zl::Sl 2 1 ZF vl loc::Sl 2 1 ZF vs stk::l)) (ho:36<x.op/\x.op<=255) (hw:¬0<wid x.op) (hq:(Xa x.op).2.2=true) (c1:x.op≠63/\x.op≠64/\x.op≠65/\x.op≠66) (Ur:∀v∈stk,XS v) (hn:UI x.op<=stk.length) (hT:Fold.Hl g) (hlen:stk.length<=100000) (hp:ps.length<=8):yC 160 #[yS cp,.agg #[.int .u8 x.op,yT x.a,yT x.b,Si],vl,vs] w (fun r w'=>∃e vs' Tp ps' WV loc' W0,r=.tuple #[vs',yT e]/\Mf (VG m.most x ⟨flat ps,Zt,Zl⟩ loc stk) e (flat ps') WV loc' W0/\ps'.length<=8/\Sat g w' (Pt cp (yV m [yS mp,vt,vg]) 158::Pt mp [Tp,yT m.most] 221::Sl 223 256 W8 Tp ps'::Sl 3 1 ZF vt Zt::Sl 2 1 ZF vg WV::Sl 2 1 ZF vl loc'::Sl 2 1 ZF vs' W0::l)):=by
 refine Fc.of Tryz.func160 rfl k_d ?_
 have BH:=Q7 x.op
 obtain ⟨n1,n2,n3⟩:=adk hq hw c1.1 c1.2.1 c1.2.2.1 c1.2.2.2
 have hnn:(Xa x.op).1.length=1\/(Xa x.op).1.length=2:=by
  rw [n2]
  by_cases h:(XM x.op).1.length=1
  .omega
  .exact .inr (adj (a:=0) (b:=0) n1 h).2.2.2
 unfold UI at hn
 rw [if_neg yY,if_neg yY,if_pos yY] at hn
 have hd:VG m.most x ⟨flat ps,Zt,Zl⟩ loc stk=(if (Xa x.op).1.length=1 then ⟨⟨flat ps,Zt,Zl⟩,loc,low stk 1++[(Xm.UR x.op (top stk 0)).1],(Xm.UR x.op (top stk 0)).2⟩ else ⟨⟨flat ps,Zt,Zl⟩,loc,low stk 2++[(Xm.US x.op (top stk 1) (top stk 0)).1],(Xm.US x.op (top stk 1) (top stk 0)).2⟩):=by grind [VG]
 rw [hd]
 clear hd
 refine ZJ H<|fun p1 w1 H=>YK H 7 rfl rfl<|ZZ yY<|bk<|Z9 rfl<|yQ H 0 0 yN<|cF (Z4 yY)<|Z9 rfl<|yQ H 0 0 yN<|cF (Z4 yY)<|Z9 rfl<|yQ H 0 0 yN<|cF (Z4 yY)<|Z9 rfl<|yQ H 0 0 yN<|cF (Z4 yY)<|Z9 rfl<|yQ H 0 0 yN<|cF (Z4 yY)<|Z9 rfl<|yQ H 0 0 yN<|cF (Z4 yY)<|Z9 rfl<|yQ H 0 0 yN<|cF (Z4 yY)<|Z9 rfl<|yQ H 0 0 yN<|cF (Z4 yY)<|Z9 rfl<|yQ H 0 0 yN<|cF (Z4 yY)<|Z9 rfl<|yQ H 0 0 yN<|cF (Z4 yY)<|Z9 rfl<|yQ H 0 0 yN<|cF (Z4 yY)<|Z9 rfl<|yQ H 0 0 yN ?_
 refine Z7.mk (Fc.imp (YQ.KE _ _) ?_)
 rintro _ _ ⟨⟨r1,⟨rfl,h1⟩⟩,rfl⟩
 refine cF (Zz yY)<|Z9 rfl<|yQ H 0 0 yN<|H.Z8 [7]<|fun H=>?_
 refine Z7.mk (Fc.imp (Rn.ahK H yY _ yY yY yY yY yY) ?_)
 rintro _ w2 ⟨Zo,⟨Q3,⟨e1,⟨rfl,⟨h2,H⟩⟩⟩⟩⟩
 refine Z6.mk ?_
 refine ⟨e1,Zo,vp,ps,Zl,loc,Q3,?_⟩
 refine ⟨rfl,?_⟩
 constructor
 .exact aoG yX
 refine ⟨yY,?_⟩
 exact H.Z8 [0,7,7,7,7,7,7]<|fun H=>H.drop 7<|fun H=>H
end
end Rn
namespace Xl
open Go YX Go.RowKit
open YQ Zh Yg YO Valid
section
variable {g:Zw} {w:World} {l:List As} {m:Ze}
theorem within (H:Sat g w l) (a many all:Int) (ha:-2147483648<=a/\a<=2147483647) (hm:0<=many/\many<=1000000) (hl:0<=all/\all<=1000000):yC 43 #[yT a,yT many,yT all] w (fun r w'=>∃b,r=.bool b/\(b=true↔(0<=a/\a+many<=all))/\Sat g w' l):=by
 refine Fc.of Tryz.func43 rfl k_d<|Ye rfl rfl<|XR yY rfl rfl<|ZZ yY<|Z6.mk ?_
 exact ⟨_,rfl,by simp [YP];omega,H⟩
end
end Xl
namespace Xl
open Go YX Go.RowKit
open YQ Zh Yg YO Valid
section
variable {g:Zw} {w:World} {l:List As} {m:Ze}
theorem afW {l:yB} {i:Nat} (h:l=List.replicate i (-1)):l++[-1]=List.replicate (i+1) (-1):=by
 rw [h,List.replicate_succ']
theorem afX {l:yB} {xs:List (Int × Bool × Int)} {i:Nat} {x:Int × Bool × Int} (h:l=(xs.take i).map (·.2.2)) (hx:xs[i]?=some x):l++[x.2.2]=(xs.take (i+1)).map (·.2.2):=by grind [List.take_add_one]
theorem aiQ {x:RW} (h:EK x.d=0):(-2147483648<=x.pl/\x.pl<=2147483647)/\x.fs.length<=16:=by
 unfold EK at h
 obtain ⟨h1,h2⟩:=Zi.1 h
 have h3:=(VY.1 h2).1
 unfold Og at h1
 by_cases hq:-2147483648<=x.d.1/\x.d.1<=2147483647
 .exact ⟨hq,by have:x.d.2.length=x.fs.length:=rfl;omega⟩
 .omega
theorem amG {x:Int × yA} (h:LC x=0):(-2147483648<=x.1/\x.1<=2147483647)/\x.2.length<=64:=by
 unfold LC at h
 obtain ⟨h1,h2⟩:=Zi.1 h
 unfold Og at h1
 unfold Lj at h2
 refine ⟨yY,?_⟩
 .omega
theorem amH (H:Sat g w l) (hT:NP g) (hm:XH g m):yC 14 #[.agg (yV m []).toArray] w (fun r w'=>∃(g':Zw) (mem:yA) (ts gs:yB) (vt vg:Value) (e:Int),r=.tuple #[.agg #[.string (bs mem),vt,vg],yT e]/\Ext g g'/\Z0 g' ZF XE 1 vt ts/\Z0 g' ZF XE 1 vg gs/\Eu m mem ts gs e/\Sat g' w' l):=by
 refine Fc.of Tryz.func14 rfl k_d ?_
 have ZO:=hm.types
 have ZT:=hm.funcs
 have Zf:=hm.globals
 have Zq:=hm.Zy
 have Xq:=hm.VV
 have XG:=hm.elems
 have VI:=hm.data
 by_cases h0:WT m.d=0
 .obtain ⟨zn,hI,AJ⟩:=Vn (Xu h0).1
  have P:=Vo zn
  have adq:=P.table
  have adr:=P.pages
  have akg:=P.most
  have ad0:=P.globals
  have ane:=P.elems
  have aoH:=P.data
  obtain ⟨tb,htb⟩:=lwa adq.1
  obtain ⟨pg,hpg⟩:=lwa adr.1
  refine ZJ H<|fun p1 w1 H=>ZV H rfl<|fun p2 w2 H=>ZD (H.at 1 rfl) 0 rfl rfl rfl ?_
  refine Z7.mk (Fc.imp (Valid.RT H yY yY) ?_)
  rintro _ w1 ⟨e1,⟨rfl,⟨h1,H⟩⟩⟩
  refine cF (Yo yY)<|Z9 rfl<|yQ H 1 9 yN<|ZG XG rfl ?_
  refine Zd.rule (α:=Nat) (0) (fun x_=>[(24,yT x_)]) (fun x_ w_=>(x_<=m.elems.length)/\(AI (fun x:RW=>Ew x.pl x.fs.length m.table) m.elems x_)/\Sat g w_ ((Pt p2 [.string (bs []),.slice none 0 0,.slice none 0 0] 34::Pt p1 (yV m []) 30::l))) (fun x_=>m.elems.length-x_) ?_ ?_ ?_
  .exact k_a
  .try simp only
   refine ⟨yY,?_⟩
   constructor
   .exact AI.zero
   exact H
  rintro i f_ w_ ⟨hi,hA,H⟩
  try simp only at hi hA H ⊢
  rcases loa i m.elems.length with hlt|hge
  .obtain ⟨x,hx⟩:∃x,m.elems[i]?=some x:=⟨_,laa hlt⟩
   have Hw:=lda hx
   have LH:=Z0.all XG x Hw
   have Qh:=LH.fs
   have Hx:=aiQ (P.Im x Hw)
   refine cT (Zu yY)<|bk ?_
   obtain ⟨b1,o1,E1,F1,ZL⟩:=Z0.Zc XG hx
   have O4:=ZL.pl
   have VJ:=ZL.fs
   refine ZK E1 rfl rfl rfl<|ZD (H.Yu F1) 0 rfl rfl rfl<|ZV H rfl<|fun p3 w3 H=>ZI H 0 rfl rfl rfl (by simp only [List.all_cons,List.all_nil,Z0.one VJ,Z0.one Qh,Z0.one VI,Z0.one XG,Z0.one Xq,Z0.one Zq,Z0.one Zf,Z0.one ZT,Z0.one ZO];rfl)<|fun w4 H=>Z9 rfl<|yQ H 0 0 yN<|Z9 rfl<|yQ H 0 1 yN<|ZG VJ rfl<|Z9 rfl<|yQ H 2 3 yN ?_
   refine Z7.mk (Fc.imp (Xl.within H _ _ _ yY yY yY) ?_)
   rintro _ w3 ⟨b2,⟨rfl,⟨h2,H⟩⟩⟩
   refine cI (fun c1=>?_) (fun c1=>?_)
   .replace c1:=Sz h2 (TM (c1))
    exact Zn rfl rfl rfl<|ZI H 1 rfl rfl rfl rfl<|fun w5 H=>XU (H.at 1 rfl) 0 rfl rfl rfl<|Z6.mk<|⟨g,[],[],[],_,_,_,rfl,Ext.refl _,Z0.Uq _ _ _ _,Z0.Uq _ _ _ _,mk2 yY hA hx yY,((H.del 0).del 0).del 0⟩
   replace c1:=h2.1 (TL (c1))
   refine ZZ yY ?_
   refine Xt.mk (i+1) (Zv rfl yY (ZY)) ?_ ?_
   .refine ⟨yY,?_⟩
    constructor
    .exact hA.step hx (Jk.2 yY)
    exact H.Z8 [2,2]<|fun H=>H.drop 2<|fun H=>H
   omega
  .have hE:=hA.fin hge
   refine cF (Zz yY)<|Z9 rfl<|yQ H 1 4 yN<|ZZ yY<|R0 (en:=VU) (s:=1) H ((0:UInt8)) ((m.pages * 256).toNat) ((m.pages * 256).toNat) 1 rfl rfl rfl (fun _=>rfl) yY yY yY yY yY<|fun v1 w3 H=>Z9 rfl<|yQ H 2 10 yN<|ZG VI rfl ?_
   rw [show (m.pages * 256).toNat=256 * m.pages.toNat by omega] at H
   refine Zd.rule (α:=Nat × yA) (0,List.replicate (256 * m.pages.toNat) 0) (fun x_=>[(46,yT x_.1)]) (fun x_ w_=>(x_.1<=m.data.length)/\(AI (fun x:Int × yA=>Ew x.1 x.2.length (m.pages * 256)) m.data x_.1)/\(LM (256 * m.pages.toNat) m.data x_.1 x_.2)/\Sat g w_ ((Sl 5 1 VU v1 x_.2::Pt p2 [.string (bs []),.slice none 0 0,.slice none 0 0] 34::Pt p1 (yV m []) 30::l))) (fun x_=>m.data.length-x_.1) ?_ ?_ ?_
   .exact k_a
   .try simp only
    refine ⟨yY,?_⟩
    constructor
    .exact AI.zero
    constructor
    .exact LM.zero
    exact H
   rintro ⟨i2,cur⟩ f_ w_ ⟨hi2,hB,hL,H⟩
   try simp only at hi2 hB hL H ⊢
   have Va:=hL.len
   rcases loa i2 m.data.length with NI|Lz
   .obtain ⟨x,hx⟩:∃x,m.data[i2]?=some x:=⟨_,laa NI⟩
    have Hw:=lda hx
    have LH:=Z0.all VI x Hw
    have Hx:=amG (P.alT x Hw)
    refine cT (Zu yY)<|bk ?_
    obtain ⟨b1,o1,E1,F1,ZL⟩:=Z0.Zc VI hx
    have O4:=ZL.pl
    have acA:=ZL.bytes
    refine ZK E1 rfl rfl rfl<|ZD (H.Yu F1) 0 rfl rfl rfl<|ZV H rfl<|fun p3 w4 H=>ZI H 0 rfl rfl rfl rfl<|fun w5 H=>Z9 rfl<|yQ H 0 0 yN<|Z9 rfl<|yQ H 0 1 yN<|Yk rfl<|YK H 1 rfl rfl ?_
    refine Z7.mk (Fc.imp (Xl.within H _ _ _ yY yY yY) ?_)
    rintro _ w4 ⟨b2,⟨rfl,⟨h2,H⟩⟩⟩
    refine cI (fun c1=>?_) (fun c1=>?_)
    .replace c1:=Sz h2 (TM (c1))
     exact Zn rfl rfl rfl<|ZI H 2 rfl rfl rfl rfl<|fun w6 H=>XU (H.at 2 rfl) 0 rfl rfl rfl<|Z6.mk<|⟨g,[],[],[],_,_,_,rfl,Ext.refl _,Z0.Uq _ _ _ _,Z0.Uq _ _ _ _,mk3 yY hE hB hx yY,(((H.del 0).del 0).del 0).del 0⟩
    replace c1:=h2.1 (TL (c1))
    refine ZN H [] [yRp0,yRp1,yRh2,yRp3,yRp4,yRh5,yRfr6] mixed k_d k_d<|fun w6 H=>yO rfl rfl<|yP 0 0 yN rfl ?_
    obtain ⟨v2,V1⟩:=H.vw 1 rfl ((x.fst).toNat) ((cur).length) yY yY
    refine tk (fun _ Z=>Vx V1 rfl rfl (.inr ⟨_,by first|rfl|(congr 2;omega)⟩) (.inl yU) yU)<|yO rfl rfl<|yP 0 1 yN rfl<|ag7 H 1 rfl V1 yY rfl rfl<|fun w9 H=>ZZ yY ?_
    refine Xt.mk ((i2+1,List.take x.fst.toNat cur++x.snd++List.drop (x.fst.toNat+x.snd.length) cur)) (Zv rfl yY (ZY)) ?_ ?_
    .refine ⟨yY,?_⟩
     constructor
     .exact hB.step hx (Jk.2 yY)
     constructor
     .exact hL.step hx yY
     exact H.Z8 [3,3,3]<|fun H=>H.drop 3<|fun H=>H
    omega
   .have hD:=hB.fin Lz
    have hmem:=hL.fin Lz
    refine cF (Zz yY)<|ZV H rfl<|fun p3 w4 H=>Z9 rfl<|yQ H 3 3 yN ?_
    replace H:=H.U9 (en:=ZF) (s:=1) 3 (fun _=>rfl)
    have apF:m.table.toNat=tb:=by omega
    refine Zd.rule (α:=Nat × Value × yB) (0,.slice none 0 0,[]) (fun x_=>[(70,yT x_.1)]) (fun x_ w_=>(x_.1<=tb)/\(x_.2.2=List.replicate x_.1 (-1))/\Sat g w_ ((Sl 3 1 ZF x_.2.1 x_.2.2::Pt p3 [.string (bs []),x_.2.1,.slice none 0 0] 34::Sl 5 1 VU v1 cur::Pt p2 [.string (bs []),.slice none 0 0,.slice none 0 0] 34::Pt p1 (yV m []) 30::l))) (fun x_=>tb-x_.1) ?_ ?_ ?_
    .exact k_a
    .try simp only
     refine ⟨yY,?_⟩
     constructor
     .simp
     exact H
    rintro ⟨i3,vt,tc⟩ f_ w_ ⟨Cf,Ay,H⟩
    try simp only at Cf Ay H ⊢
    have Pg:tc.length=i3:=by grind
    rcases loa i3 tb with alZ|al0
    .refine cT (Zu yY)<|bk<|Z9 rfl<|yQ H 1 1 yN<|ZW H rfl rfl rfl rfl<|fun p4 w5 H=>Ww (ys:=[_]) 8 H 1 rfl (H.at 0 rfl) rfl (fun y _=>rfl) rfl rfl rfl yY yY<|fun v2 w6 H=>Z9 rfl<|Yy H 2 rfl rfl rfl (H.one 1 rfl)<|fun w5 H=>ZZ yY ?_
     refine Xt.mk ((i3+1,v2,tc++[-1])) (Zv rfl yY (ZY)) ?_ ?_
     .refine ⟨yY,?_⟩
      constructor
      .exact afW Ay
      exact H.Z8 [5,5,5,5,5]<|fun H=>H.drop 5<|fun H=>H
     omega
    .have aoI:i3=m.table.toNat:=by omega
     have hLT:LT m.table.toNat m.elems 0 tc:=by
      rw [Ay,aoI];exact LT.zero
     refine cF (Zz yY)<|Z9 rfl<|yQ H 4 9 yN<|ZG XG rfl ?_
     refine Zd.rule (α:=Nat × yB) (0,tc) (fun x_=>[(81,yT x_.1)]) (fun x_ w_=>(x_.1<=m.elems.length)/\(LT m.table.toNat m.elems x_.1 x_.2)/\Sat g w_ ((Sl 3 1 ZF vt x_.2::Pt p3 [.string (bs []),vt,.slice none 0 0] 34::Sl 5 1 VU v1 cur::Pt p2 [.string (bs []),.slice none 0 0,.slice none 0 0] 34::Pt p1 (yV m []) 30::l))) (fun x_=>m.elems.length-x_.1) ?_ ?_ ?_
     .exact k_a
     .grind
     rintro ⟨i4,tu⟩ f_ w_ ⟨hi4,hJ,H⟩
     try simp only at hi4 hJ H ⊢
     have apG:=hJ.len
     rcases loa i4 m.elems.length with aoJ|amI
     .obtain ⟨x,hx⟩:∃x,m.elems[i4]?=some x:=⟨_,laa aoJ⟩
      have Hw:=lda hx
      have LH:=Z0.all XG x Hw
      have Qh:=LH.fs
      have Hx:=aiQ (P.Im x Hw)
      have apj:=Jk.1 (UW.1 hE x Hw)
      refine cT (Zu yY)<|bk ?_
      obtain ⟨b1,o1,E1,F1,ZL⟩:=Z0.Zc XG hx
      have O4:=ZL.pl
      have VJ:=ZL.fs
      refine ZK E1 rfl rfl rfl<|ZD (H.Yu F1) 0 rfl rfl rfl<|ZV H rfl<|fun p4 w5 H=>ZI H 0 rfl rfl rfl (by simp only [List.all_cons,List.all_nil,H.one 1 rfl,H.one 3 rfl,Z0.one VJ,Z0.one Qh,Z0.one VI,Z0.one XG,Z0.one Xq,Z0.one Zq,Z0.one Zf,Z0.one ZT,Z0.one ZO];rfl)<|fun w6 H=>ZN H [] [yRp0,yRh1,yRp2,yRh3,yRp4,yRp5,yRh6,yRfr7] mixed k_d k_d<|fun w5 H=>yO rfl rfl<|yP 2 1 yN rfl<|yO rfl rfl<|yP 0 0 yN rfl ?_
      obtain ⟨v2,V1⟩:=H.vw 1 rfl ((x.pl).toNat) ((tu).length) yY yY
      refine tk (fun _ Z=>Vx V1 rfl rfl (.inr ⟨_,by first|rfl|(congr 2;omega)⟩) (.inl yU) yU)<|yO rfl rfl<|yP 0 1 yN rfl<|ag8 H 1 rfl V1 (H.rd Qh) yY (fun y _=>rfl) rfl rfl<|fun w9 H=>ZZ yY ?_
      refine Xt.mk ((i4+1,List.take x.pl.toNat tu++x.fs++List.drop (x.pl.toNat+x.fs.length) tu)) (Zv rfl yY (ZY)) ?_ ?_
      .refine ⟨yY,?_⟩
       constructor
       .exact hJ.step hx yY (Z0.all Qh)
       exact H.Z8 [5,5,5,5,5]<|fun H=>H.drop 5<|fun H=>H
      omega
     .have Qs:=hJ.fin amI
      refine cF (Zz yY)<|Z9 rfl<|yQ H 4 6 yN<|ZG Zf rfl ?_
      replace H:=H.U9 (en:=ZF) (s:=1) 2 (fun _=>rfl)
      refine Zd.rule (α:=Nat × Value × yB) (0,.slice none 0 0,[]) (fun x_=>[(97,yT x_.1)]) (fun x_ w_=>(x_.1<=m.globals.length)/\(x_.2.2=(m.globals.take x_.1).map (·.2.2))/\Sat g w_ ((Sl 2 1 ZF x_.2.1 x_.2.2::Sl 3 1 ZF vt tu::Pt p3 [.string (bs []),vt,x_.2.1] 34::Sl 5 1 VU v1 cur::Pt p2 [.string (bs []),.slice none 0 0,.slice none 0 0] 34::Pt p1 (yV m []) 30::l))) (fun x_=>m.globals.length-x_.1) ?_ ?_ ?_
      .exact k_a
      .grind
      rintro ⟨i5,vg,gc⟩ f_ w_ ⟨hi5,hG,H⟩
      try simp only at hi5 hG H ⊢
      have BM:gc.length=i5:=by grind
      rcases loa i5 m.globals.length with amJ|aoK
      .obtain ⟨x,hx⟩:∃x,m.globals[i5]?=some x:=⟨_,laa amJ⟩
       have LH:=Z0.all Zf x (lda hx)
       have apk:=LH.start
       refine cT (Zu yY)<|bk ?_
       obtain ⟨b1,o1,E1,F1,ZL⟩:=Z0.Zc Zf hx
       have QG:=ZL.kind
       have RV:=ZL.start
       refine ZK E1 rfl rfl rfl<|ZD (H.Yu F1) 0 rfl rfl rfl<|ZV H rfl<|fun p4 w5 H=>ZI H 0 rfl rfl rfl rfl<|fun w6 H=>Z9 rfl<|yQ H 3 2 yN<|Z9 rfl<|yQ H 0 2 yN<|ZW H rfl rfl rfl rfl<|fun p5 w5 H=>Ww (ys:=[_]) 8 H 2 rfl (H.at 0 rfl) rfl (fun y _=>rfl) rfl rfl rfl yY yY<|fun v2 w6 H=>Z9 rfl<|Yy H 4 rfl rfl rfl (H.one 2 rfl)<|fun w5 H=>ZZ yY ?_
       refine Xt.mk ((i5+1,v2,gc++[x.snd.snd])) (Zv rfl yY (ZY)) ?_ ?_
       .refine ⟨yY,?_⟩
        constructor
        .exact afX hG hx
        exact H.Z8 [7,7,7,7,7,7]<|fun H=>yH H [7,6]<|fun H=>H
       omega
      .have Bp:gc=m.globals.map (·.2.2):=by grind
       have hgo:∀y∈gc,XS y:=fun y hy=>by
        rw [Bp] at hy
        obtain ⟨z,hz,rfl⟩:=lVa.1 hy
        exact (Z0.all Zf z hz).start
       refine cF (Zz yY)<|TK H 3 rfl rfl rfl rfl<|Z9 rfl<|Yy H 2 rfl rfl rfl rfl<|fun w5 H=>ZD (H.at 2 rfl) 0 rfl rfl rfl<|ZI H 4 rfl rfl rfl (by simp only [List.all_cons,List.all_nil,H.one 0 rfl,H.one 1 rfl,H.one 3 rfl,Z0.one VI,Z0.one XG,Z0.one Xq,Z0.one Zq,Z0.one Zf,Z0.one ZT,Z0.one ZO];rfl)<|fun w6 H=>XU (H.at 4 rfl) 0 rfl rfl rfl<|H.VD 0 XE rfl hgo<|fun g1 e1 zm H=>H.VD 0 XE rfl hJ.ok<|fun g2 e2 htF H=>?_
       replace zm:=zm.ext e2
       have E:=e1.trans e2
       exact Z6.mk<|⟨g2,_,_,_,_,_,_,rfl,E,htF,zm,mk4 h0.symm hE hD hmem Qs Bp,(((H.del 0).del 0).del 0).del 0⟩
 .refine ZJ H<|fun p1 w1 H=>ZV H rfl<|fun p2 w2 H=>ZD (H.at 1 rfl) 0 rfl rfl rfl ?_
  refine Z7.mk (Fc.imp (Valid.RT H yY yY) ?_)
  rintro _ w1 ⟨e1,⟨rfl,⟨h1,H⟩⟩⟩
  exact cT (Xk yY)<|Zn rfl rfl rfl<|ZI H 0 rfl rfl rfl rfl<|fun w3 H=>XU (H.at 0 rfl) 0 rfl rfl rfl<|Z6.mk<|⟨g,[],[],[],_,_,_,rfl,Ext.refl _,Z0.Uq _ _ _ _,Z0.Uq _ _ _ _,mk1 yX yY,(H.del 0).del 0⟩
end
end Xl
namespace Xl
open Go YX Go.RowKit
open YQ Zh Yg YO Valid
section
variable {g:Zw} {w:World} {l:List As} {m:Ze}
theorem FO (H:Sat g w l) (k a:Int):yC 48 #[.int .u8 k,yT a] w (fun v w'=>∃r,v=yT r/\r=RA k a/\Sat g w' l):=by
 refine Fc.of Tryz.func48 rfl k_d ?_
 refine cI (fun h=>?_) (fun h=>?_)
 .have h:=ZQ h
  refine ZB rfl rfl<|ZB rfl rfl ?_
  exact Z6.mk ⟨_,rfl,by unfold RA;rw [if_pos h],H⟩
 have h:=ZP h
 exact Z6.mk ⟨_,rfl,by unfold RA;rw [if_neg h],H⟩
end
end Xl
namespace Rn
open Go YX Go.RowKit
open YQ Zh Yg YO Valid Mem
section
variable {g:Zw} {w:World} {l:List As} {m:Ze} {cp mp:Nat} {vp vt vg vl vs Si:Value} {ps:List WC} {Zt Zl loc stk:yB} {x:ZS}
theorem do_ (H:Sat g w (Pt cp (yV m [yS mp,vt,vg]) 158::Pt mp [vp,yT m.most] 221::Sl 223 256 W8 vp ps::Sl 3 1 ZF vt Zt::Sl 2 1 ZF vg Zl::Sl 2 1 ZF vl loc::Sl 2 1 ZF vs stk::l)) (hD:FX x ⟨flat ps,Zt,Zl⟩ loc stk) (hT:Fold.Hl g) (hop:x.op<=255) (hm:ps.length<=m.most/\m.most<=8) (hlen:stk.length<=100000):yC 160 #[yS cp,.agg #[.int .u8 x.op,yT x.a,yT x.b,Si],vl,vs] w (fun r w'=>∃e vs' Tp ps' WV loc' W0,r=.tuple #[vs',yT e]/\Mf (VG m.most x ⟨flat ps,Zt,Zl⟩ loc stk) e (flat ps') WV loc' W0/\ps'.length<=8/\Sat g w' (Pt cp (yV m [yS mp,vt,vg]) 158::Pt mp [Tp,yT m.most] 221::Sl 223 256 W8 Tp ps'::Sl 3 1 ZF vt Zt::Sl 2 1 ZF vg WV::Sl 2 1 ZF vl loc'::Sl 2 1 ZF vs' W0::l)):=by
 have hp:ps.length<=8:=by omega
 have hn:=hD.need
 have n1:x.op=26\/x.op=33\/x.op=34\/x.op=36->1<=stk.length:=fun h=>by unfold UI at hn;rw [if_pos h] at hn;exact hn
 rcases hD.op with h|h|h|⟨LA,hq⟩
 .exact amv H h (n1 (.inl h)) hlen hp
 .exact amw H h (by unfold UI at hn;rw [if_neg yY,if_pos h] at hn;exact hn) hlen hp
 .by_cases h2:x.op=32
  .exact amx H h2 (hD.loc h.1 yY) hlen hp
  by_cases h3:x.op=33\/x.op=34
  .exact amy H h3 (hD.loc h.1 yY) (n1 yY) hlen hp
  by_cases h5:x.op=35
  .exact amz H h5 (hD.Zl (.inl h5)) hlen hp
  .exact amA H yY (hD.Zl yY) (n1 yY) hlen hp
 .by_cases h5:x.op=65\/x.op=66
  .exact amB H h5 hlen hp
  by_cases h3:x.op=63
  .exact amC H h3 hlen hp
  by_cases h4:x.op=64
  .have h1:1<=stk.length:=by
    unfold UI at hn
    rw [if_neg yY,if_neg yY,if_pos yY,h4,show Xa 64=([127],[127],true) by decide] at hn;exact hn
   exact amD H h4 h1 hD.GP hm hlen hp
  by_cases hw:0<wid x.op
  .exact amE H ⟨LA,hop⟩ hw hD.GP hn (hD.off hw) hlen hp
  .exact amF H ⟨LA,hop⟩ hw hq ⟨h3,h4,by omega,by omega⟩ hD.GP hn hT hlen hp
theorem aiR (P:Uy m.d) {n:Int} (h0:0<=n) (h1:n<(m.Zy.length:Int)+m.funcs.length):∃(i:Nat) (t:Xo),m.types[i]?=some t/\t.d=YG m.d n /\
  (n<m.Zy.length->∃y,m.Zy[n.toNat]?=some y/\y.2=i)/\(¬n<m.Zy.length->∃f,m.funcs[n.toNat-m.Zy.length]?=some f/\f.ty=i):=by
 have hfl:m.d.funcs.length=m.funcs.length:=lea ..
 have hil:m.d.Zy.length=m.Zy.length:=rfl
 have Pg:m.d.types.length=m.types.length:=lea ..
 by_cases h:n<m.Zy.length
 .have hi:n.toNat<m.Zy.length:=by omega
  have hm:=P.imp _ (lzb (show n.toNat<m.d.Zy.length from hi))
  have hm:0<=m.Zy[n.toNat].2/\m.Zy[n.toNat].2<m.d.types.length:=hm
  obtain ⟨i,Bo⟩:=lwa hm.1
  have hit:i<m.types.length:=by omega
  refine ⟨i,m.types[i],laa hit,?_,fun _=>⟨_,laa hi,Bo⟩,fun h'=>absurd h h'⟩
  obtain ⟨t,e1,e2,_⟩:=Nr P h0 (show n<YZ m.d from h)
  rw [e2]
  unfold Xe P0 at e1
  rw [if_neg yY] at e1
  have DV:(ZA m.d).Zy.length=m.Zy.length:=lea ..
  rw [DV,if_pos h] at e1
  have e3:(ZA m.d).Zy[n.toNat]?=some m.Zy[n.toNat].2:=by
   show (m.Zy.map (·.2))[_]?=_
   rw [lCa,laa hi];rfl
  rw [e3,Bo] at e1
  have e1:(m.types.map Xo.d)[i]?=some t:=e1
  rw [lCa,laa hit] at e1
  exact Option.some.inj e1
 .have hi:n.toNat-m.Zy.length<m.funcs.length:=by omega
  have hmem:m.funcs[n.toNat-m.Zy.length].d∈m.d.funcs:=lVa.2 ⟨_,lzb hi,rfl⟩
  have hm:=(P.fn _ hmem).ty
  have hm:0<=m.funcs[n.toNat-m.Zy.length].ty/\m.funcs[n.toNat-m.Zy.length].ty<m.d.types.length:=hm
  obtain ⟨i,Bo⟩:=lwa hm.1
  have hit:i<m.types.length:=by omega
  refine ⟨i,m.types[i],laa hit,?_,fun h'=>absurd h' h,fun _=>⟨_,laa hi,Bo⟩⟩
  obtain ⟨_,e2⟩:=OS P (n:=n-YZ m.d) (by grind [YZ]) (by grind [YZ])
  rw [show YZ m.d+(n-YZ m.d)=n by omega] at e2
  rw [e2]
  have e3:WW m.d (n-YZ m.d)=m.funcs[n.toNat-m.Zy.length].d:=by
   unfold WW YZ
   rw [show (n-(m.d.Zy.length:Int)).toNat=n.toNat-m.Zy.length by omega]
   show (m.funcs.map Yx.d).getD _ _=_
   rw [lka,lCa,laa hi];rfl
  rw [e3]
  unfold QC
  show _=(m.types.map Xo.d).getD m.funcs[n.toNat-m.Zy.length].ty.toNat _
  rw [Bo,lla,lka,lCa,laa hit];rfl
theorem amK (H:Sat g w l) (u v:Value) (xs ys:yB) (hx:Z0 g YB U8 1 u xs) (hy:Z0 g YB U8 1 v ys) (hl:xs.length<=1000) :
  yC 166 #[u,v] w (fun r w'=>∃b,r=.bool b/\(b=true↔xs=ys)/\Sat g w' l):=by
 refine Fc.of Tryz.func166 rfl k_d<|ZG hx rfl<|ZG hy rfl ?_
 refine yD (fun c1=>?_) (fun c1=>?_)
 .exact Z6.mk<|⟨false,rfl,⟨nofun,fun h=>absurd (congrArg List.length h) yY⟩,H⟩
 refine ZG hx rfl ?_
 refine Zd.rule (α:=Nat) (0) (fun x_=>[(13,yT x_)]) (fun x_ w_=>(x_<=xs.length)/\(∀q,q<x_->xs[q]?=ys[q]?)/\Sat g w_ (l)) (fun x_=>xs.length-x_) ?_ ?_ ?_
 .exact k_a
 .grind
 rintro i f_ w_ ⟨hi,he,H⟩
 try simp only at hi he H ⊢
 refine yG (fun c2=>?_) (fun c2=>?_)
 .refine bk<|ZN H [] [yRp0,yRp1,yRp2,yRh3,yRp4,yRp5,yRp6,yRh7,yRp8] mixed k_d k_d<|fun w1 H=>?_
  obtain ⟨x1,hx1⟩:∃x,(xs)[(i)]?=some x:=⟨_,laa yY⟩
  obtain ⟨b1,o1,E1,F1,ZL⟩:=Z0.Zc hx hx1
  refine tk (fun _ Z=>ZK E1 rfl rfl rfl yU)<|tk (fun _ Z=>yJ (Z.Yu F1) 0 yI yU) ?_
  obtain ⟨x2,Tg⟩:∃x,(ys)[(i)]?=some x:=⟨_,laa yY⟩
  obtain ⟨b2,o2,E2,F2,YW⟩:=Z0.Zc hy Tg
  refine tk (fun _ Z=>ZK E2 rfl rfl rfl yU)<|tk (fun _ Z=>yJ (Z.Yu F2) 0 yI yU) ?_
  refine yD (fun c3=>?_) (fun c3=>?_)
  .exact Z6.mk<|⟨false,rfl,⟨nofun,fun h=>absurd (by subst h;exact Option.some.inj (hx1.symm.trans Tg)) yX⟩,H⟩
  refine ZZ yY ?_
  refine Xt.mk (i+1) (Zv rfl yY (ZY)) ?_ ?_
  .grind
  omega
 exact Z6.mk<|⟨true,rfl,⟨fun _=>Ref.Om yY yY he,fun _=>rfl⟩,H⟩
theorem aiS (H:Sat g w l) (a b:Xo) (ha:Wh g a) (hb:Wh g b) (h1:a.Y9.length<=1000) (h2:a.out.length<=1000) :
  yC 120 #[.agg #[a.vi,a.vo],.agg #[b.vi,b.vo]] w (fun r w'=>∃q,r=.bool q/\(q=true↔a.Y9=b.Y9/\a.out=b.out)/\Sat g w' l):=by
 refine Fc.of Tryz.func120 rfl k_d ?_
 have akh:=ha.Y9
 have aki:=ha.out
 have akj:=hb.Y9
 have akk:=hb.out
 refine ZJ H<|fun p1 w1 H=>ZJ H<|fun p2 w2 H=>Z9 rfl<|yQ H 1 0 yN<|Z9 rfl<|yQ H 0 0 yN ?_
 refine Z7.mk (Fc.imp (Rn.amK H _ _ _ _ akh akj ?_) ?_)
 .grind
 rintro _ w1 ⟨b1,⟨rfl,⟨h3,H⟩⟩⟩
 refine br (fun c1=>?_) (fun c1=>?_)
 .replace c1:=h3.1 (c1)
  refine Z9 rfl<|yQ H 1 1 yN<|Z9 rfl<|yQ H 0 1 yN ?_
  refine Z7.mk (Fc.imp (Rn.amK H _ _ _ _ aki akk ?_) ?_)
  .grind
  rintro _ w3 ⟨b2,⟨rfl,⟨h4,H⟩⟩⟩
  refine Z6.mk ?_
  refine ⟨b2,?_⟩
  constructor
  .grind
  constructor
  .grind
  exact yH H [1,0]<|fun H=>H
 replace c1:=Sz h3 (c1)
 refine Z6.mk ?_
 refine ⟨false,?_⟩
 constructor
 .grind
 constructor
 .grind
 exact yH H [1,0]<|fun H=>H
theorem K8 (H:Sat g w (Pt cp (yV m [yS mp,vt,vg]) 158::l)) (hm:XH g m) (P:Uy m.d) (n:Int) (h0:0<=n) (h1:n<(m.Zy.length:Int)+m.funcs.length) :
  yC 75 #[yS cp,yT n] w (fun r w'=>∃t:Xo,r=.agg #[t.vi,t.vo]/\t∈m.types/\Wh g t/\t.d=YG m.d n/\t.Y9.length<=4/\t.out.length<=1/\Sat g w' (Pt cp (yV m [yS mp,vt,vg]) 158::l)):=by
 refine Fc.of Tryz.func75 rfl k_d ?_
 have ZO:=hm.types
 have Zq:=hm.Zy
 have ZT:=hm.funcs
 obtain ⟨i,t,k1,k2,k3,k4⟩:=aiR P h0 h1
 have Nt:=lda k1
 have hto:=Z0.all ZO t Nt
 have J8:t.Y9.length<=4:=(P.sig t.d (lVa.2 ⟨t,Nt,rfl⟩)).1
 have aoL:t.out.length<=1:=(P.sig t.d (lVa.2 ⟨t,Nt,rfl⟩)).2
 have hni:=P.ni
 have hnf:=P.nf
 have hfl:m.d.funcs.length=m.funcs.length:=lea ..
 have hil:m.d.Zy.length=m.Zy.length:=rfl
 obtain ⟨k,rfl⟩:=lwa h0
 rw [lla] at k3 k4
 by_cases h:(k:Int)<m.Zy.length
 .obtain ⟨y,q1,q2⟩:=k3 h
  have hlt:=(lba.1 k1).1
  have zl:0<=y.2/\y.2<m.types.length:=by omega
  have CN:m.types[y.2.toNat]?=some t:=by grind
  refine ZV H rfl<|fun p1 w1 H=>Z9 rfl<|Z9 rfl<|yQ H 1 1 yN<|ZG Zq rfl<|cT (Zu yX)<|ZN H [] [yRp0,yRp1,yRp2,yRp3,yRh4,yRp5,yRp6,yRp7,yRp8,yRh9,yRp10,yRp11,yRp12,yRh13,yRp14,yRh15,yRfr16] mixed k_d k_d<|fun w2 H=>yO rfl rfl<|yO rfl rfl<|yP 1 0 yN rfl<|yO rfl rfl<|yO rfl rfl<|yP 1 1 yN rfl ?_
  obtain ⟨b1,o1,E1,F1,ZL⟩:=Z0.Zc Zq q1
  have Vf:=ZL.name
  have X8:=ZL.ty
  refine tk (fun _ Z=>ZK E1 rfl rfl rfl yU)<|yO rfl rfl<|tk (fun _ Z=>yJ (Z.Yu F1) 1 yI yU) ?_
  obtain ⟨b2,o2,E2,F2,YW⟩:=Z0.Zc ZO CN
  have XW:=YW.Y9
  have Yr:=YW.out
  refine tk (fun _ Z=>ZK E2 yY rfl rfl yU)<|tk (fun _ Z=>ZD (Z.Yu F2) 0 rfl rfl rfl yU)<|ZI H 0 rfl rfl rfl (by grind [Z0.one])<|fun w1 H=>XU (H.at 0 rfl) 0 rfl rfl rfl<|Z6.mk ?_
  refine ⟨t,?_⟩
  refine ⟨rfl,?_⟩
  refine ⟨yY,?_⟩
  refine ⟨yY,?_⟩
  refine ⟨yY,?_⟩
  refine ⟨yY,?_⟩
  refine ⟨yY,?_⟩
  exact H.Z8 [1]<|fun H=>H.drop 1<|fun H=>H
 .obtain ⟨f,q1,q2⟩:=k4 h
  have hlt:=(lba.1 k1).1
  have zl:0<=f.ty/\f.ty<m.types.length:=by omega
  have CN:m.types[f.ty.toNat]?=some t:=by grind
  refine ZV H rfl<|fun p1 w1 H=>Z9 rfl<|Z9 rfl<|yQ H 1 1 yN<|ZG Zq rfl<|cF (Zz yY)<|ZN H [] [yRp0,yRp1,yRp2,yRp3,yRh4,yRp5,yRp6,yRp7,yRp8,yRh9,yRp10,yRp11,yRp12,yRp13,yRp14,yRh15,yRp16,yRp17,yRp18,yRp19,yRh20,yRp21,yRh22,yRfr23] mixed k_d k_d<|fun w2 H=>yO rfl rfl<|yO rfl rfl<|yP 1 0 yN rfl<|yO rfl rfl<|yO rfl rfl<|yP 1 2 yN rfl<|yO rfl rfl<|yO rfl rfl<|yP 1 1 yN rfl<|tk (fun _ Z=>ZG Zq rfl yU)<|ZZ yY ?_
  obtain ⟨b1,o1,E1,F1,ZL⟩:=Z0.Zc ZT q1
  have X8:=ZL.ty
  have Zr:=ZL.loc
  have ZE:=ZL.body
  refine tk (fun _ Z=>ZK E1 yY rfl rfl yU)<|yO rfl rfl<|tk (fun _ Z=>yJ (Z.Yu F1) 0 yI yU) ?_
  obtain ⟨b2,o2,E2,F2,YW⟩:=Z0.Zc ZO CN
  have XW:=YW.Y9
  have Yr:=YW.out
  refine tk (fun _ Z=>ZK E2 yY rfl rfl yU)<|tk (fun _ Z=>ZD (Z.Yu F2) 0 rfl rfl rfl yU)<|ZI H 0 rfl rfl rfl (by grind [Z0.one])<|fun w1 H=>XU (H.at 0 rfl) 0 rfl rfl rfl<|Z6.mk ?_
  refine ⟨t,?_⟩
  refine ⟨rfl,?_⟩
  refine ⟨yY,?_⟩
  refine ⟨yY,?_⟩
  refine ⟨yY,?_⟩
  refine ⟨yY,?_⟩
  refine ⟨yY,?_⟩
  exact H.Z8 [1]<|fun H=>H.drop 1<|fun H=>H
theorem ce0 {t tx:Xo} {D:Xv} {f:Int} (h:t.d=D) (hc:¬(t.Y9=tx.Y9/\t.out=tx.out)):((0:Int),List.drop 0 (List.take (stk.length-1) stk),(25:Int))=if D.Y9≠tx.d.Y9\/D.out≠tx.d.out then (0,low stk 1,25) else (f,low stk 1,0):=by
 subst h
 rw [Je,if_pos]
 refine Decidable.by_contra fun hn=>hc ⟨Decidable.by_contra fun h1=>hn (.inl h1),Decidable.by_contra fun h2=>hn (.inr h2)⟩
theorem ce1 {t tx:Xo} {D:Xv} {f:Int} (h:t.d=D) (hc:t.Y9=tx.Y9/\t.out=tx.out):(f,List.drop 0 (List.take (stk.length-1) stk),(0:Int))=if D.Y9≠tx.d.Y9\/D.out≠tx.d.out then (0,low stk 1,25) else (f,low stk 1,0):=by
 subst h
 rw [Je,if_neg]
 rintro (h|h)
 .exact h hc.1
 .exact h hc.2
theorem Nj (H:Sat g w (Pt cp (yV m [yS mp,vt,vg]) 158::Sl 3 1 ZF vt Zt::Sl 2 1 ZF vs stk::l)) (hm:XH g m) (P:Uy m.d) (ho:x.op=16\/x.op=17) (Qs:∀n∈Zt,-1<=n/\n<(m.Zy.length:Int)+m.funcs.length) (h1:x.op=17->1<=stk.length/\0<=x.a/\x.a<m.types.length)
  (Ur:∀v∈stk,XS v) (hlen:stk.length<=100000) (Pg:Zt.length<=1000) :
  yC 196 #[yS cp,.agg #[.int .u8 x.op,yT x.a,yT x.b,Si],vs] w (fun r w'=>∃f vs' W0 e,r=.tuple #[yT f,vs',yT e]/\(f,W0,e)=YS m.d Zt x stk/\Sat g w' (Pt cp (yV m [yS mp,vt,vg]) 158::Sl 3 1 ZF vt Zt::Sl 2 1 ZF vs' W0::l)):=by
 refine Fc.of Tryz.func196 rfl k_d ?_
 have ZO:=hm.types
 have Zq:=hm.Zy
 have ZT:=hm.funcs
 unfold YS
 rcases ho with ho|ho
 .rw [if_pos ho]
  refine ZJ H<|fun p1 w1 H=>Z9 rfl<|yQ H 0 0 yN<|cT (ZH yX)<|Z9 rfl<|yQ H 0 1 yN<|Z6.mk ?_
  refine ⟨x.a,vs,stk,0,?_⟩
  refine ⟨rfl,?_⟩
  refine ⟨rfl,?_⟩
  exact H.Z8 [3,3,3]<|fun H=>H.drop 3<|fun H=>H
 .rw [if_neg yY]
  obtain ⟨h1,h2,h3⟩:=h1 ho
  obtain ⟨a,ha,G0,GN⟩:=DQ (s:=stk) yY
  have Em:=Ur a GN
  rw [G0]
  have hN0:0<=a % 4294967296:=by omega
  have zk:m.types[x.a.toNat]?=some m.types[x.a.toNat]:=laa yY
  have LH:=Z0.all ZO _ (lda zk)
  have S6:m.d.types.getD x.a.toNat sz=m.types[x.a.toNat].d:=by
   show (m.types.map Xo.d).getD _ _=_
   rw [lka,lCa,zk];rfl
  rw [S6]
  generalize m.types[x.a.toNat]=tx at *
  by_cases hNl:(a % 4294967296).toNat<Zt.length
  .obtain ⟨f,Bn⟩:∃f,Zt[(a % 4294967296).toNat]?=some f:=⟨_,laa hNl⟩
   have hNb:=Qs f (lda Bn)
   rw [afT Bn]
   by_cases hf:f<0
   .rw [if_pos (.inr hf)]
    refine ZJ H<|fun p1 w1 H=>Z9 rfl<|yQ H 0 0 yN<|cF (Z4 yY)<|YK H 3 rfl rfl<|ZZ yY ?_
    obtain ⟨b1,o1,E1⟩:=H.Zc 3 rfl ((stk.length)-1) yY
    refine ZK E1 yY rfl rfl<|yJ (H.el 3 rfl E1 ha) 0 yI<|Ye rfl rfl<|XR yY rfl rfl<|YK H 3 rfl rfl<|ZZ yY<|MX H 3 rfl 0 ((stk.length)-1) rfl rfl yY yY (.inl ⟨rfl,rfl⟩) (.inr ⟨_,by first|rfl|(congr 2;omega)⟩)<|fun v1 H=>Z9 rfl<|yQ H 1 12 yN<|YK H 2 rfl rfl<|Yh (YJ yY)<|Z9 rfl<|yQ H 1 12 yN ?_
    obtain ⟨b2,o2,E2⟩:=H.Zc 2 rfl (a % 4294967296).toNat yY
    refine ZK E2 yY rfl rfl<|yJ (H.el 2 rfl E2 Bn) 0 yI<|cT (Zu yX)<|Z6.mk ?_
    refine ⟨0,v1,List.drop 0 (List.take (stk.length-1) stk),24,?_⟩
    refine ⟨rfl,?_⟩
    refine ⟨rfl,?_⟩
    exact H.Z8 [3,3,3]<|fun H=>H.drop 3<|fun H=>H
   .rw [if_neg yY]
    refine ZJ H<|fun p1 w1 H=>Z9 rfl<|yQ H 0 0 yN<|cF (Z4 yY)<|YK H 3 rfl rfl<|ZZ yY ?_
    obtain ⟨b1,o1,E1⟩:=H.Zc 3 rfl ((stk.length)-1) yY
    refine ZK E1 yY rfl rfl<|yJ (H.el 3 rfl E1 ha) 0 yI<|Ye rfl rfl<|XR yY rfl rfl<|YK H 3 rfl rfl<|ZZ yY<|MX H 3 rfl 0 ((stk.length)-1) rfl rfl yY yY (.inl ⟨rfl,rfl⟩) (.inr ⟨_,by first|rfl|(congr 2;omega)⟩)<|fun v1 H=>Z9 rfl<|yQ H 1 12 yN<|YK H 2 rfl rfl<|Yh (YJ yY)<|Z9 rfl<|yQ H 1 12 yN ?_
    obtain ⟨b2,o2,E2⟩:=H.Zc 2 rfl (a % 4294967296).toNat yY
    refine ZK E2 yY rfl rfl<|yJ (H.el 2 rfl E2 Bn) 0 yI<|cF (Zz yY)<|Z9 rfl<|yQ H 1 12 yN<|ZK E2 yY rfl rfl<|yJ (H.el 2 rfl E2 Bn) 0 yI<|ZN H [] [yRp0,yRp1,yRp3,yRp4,yRp5,yRp6,yRh7,yRp8,yRh9,yRp10,yRh11,yRf2,yRfr12,yRp13] mixed k_d k_d<|fun w2 H=>yO rfl rfl<|yO rfl rfl<|yP 1 0 yN rfl<|yO rfl rfl<|yP 0 1 yN rfl ?_
    obtain ⟨b3,o3,E3,F1,ZL⟩:=Z0.Zc ZO zk
    have O6:=ZL.Y9
    have O5:=ZL.out
    refine tk (fun _ Z=>ZK E3 yY rfl rfl yU)<|tk (fun _ Z=>ZD (Z.Yu F1) 0 rfl rfl rfl yU)<|H.Z8 [1]<|fun H=>?_
    refine Z7.mk (Fc.imp (Rn.K8 H yY yY _ yY yY) ?_)
    rintro _ w1 ⟨t1,⟨rfl,⟨h4,⟨h5,⟨h6,⟨h7,⟨h8,H⟩⟩⟩⟩⟩⟩⟩
    refine H.Z8 [3,3,2,3]<|fun H=>Za.mk (H) ?_
    refine Z7.mk (Fc.imp (Rn.aiS H _ _ yY yY yY yY) ?_)
    rintro _ w3 ⟨q1,⟨rfl,⟨h9,H⟩⟩⟩
    refine cI (fun c1=>?_) (fun c1=>?_)
    .replace c1:=Sz h9 (TM (c1))
     refine Z6.mk ?_
     refine ⟨0,v1,List.drop 0 (List.take (stk.length-1) stk),25,?_⟩
     refine ⟨rfl,?_⟩
     constructor
     .exact ce0 yX yX
     exact H.Z8 [3,3,3]<|fun H=>H.drop 3<|fun H=>H
    replace c1:=h9.1 (TL (c1))
    refine Z6.mk ?_
    refine ⟨f,v1,List.drop 0 (List.take (stk.length-1) stk),0,?_⟩
    refine ⟨rfl,?_⟩
    constructor
    .exact ce1 yX yX
    exact H.Z8 [3,3,3]<|fun H=>H.drop 3<|fun H=>H
  .rw [if_pos (.inl yY)]
   refine ZJ H<|fun p1 w1 H=>Z9 rfl<|yQ H 0 0 yN<|cF (Z4 yY)<|YK H 3 rfl rfl<|ZZ yY ?_
   obtain ⟨b1,o1,E1⟩:=H.Zc 3 rfl ((stk.length)-1) yY
   refine ZK E1 yY rfl rfl<|yJ (H.el 3 rfl E1 ha) 0 yI<|Ye rfl rfl<|XR yY rfl rfl<|YK H 3 rfl rfl<|ZZ yY<|MX H 3 rfl 0 ((stk.length)-1) rfl rfl yY yY (.inl ⟨rfl,rfl⟩) (.inr ⟨_,by first|rfl|(congr 2;omega)⟩)<|fun v1 H=>Z9 rfl<|yQ H 1 12 yN<|YK H 2 rfl rfl<|VT (Yf yY)<|cT rfl<|Z6.mk ?_
   refine ⟨0,v1,List.drop 0 (List.take (stk.length-1) stk),24,?_⟩
   refine ⟨rfl,?_⟩
   refine ⟨rfl,?_⟩
   exact H.Z8 [3,3,3]<|fun H=>H.drop 3<|fun H=>H
end
end Rn
namespace Rn
open Go YX Go.RowKit
open YQ Zh Yg YO Valid Mem
structure CV where
 fn:Int
 at_:Int
 vl:Value
 loc:yB
 vs:Value
 stk:yB
def YA (c:CV):yz:=[.int .i64 c.fn,.int .i64 c.at_,c.vl,c.vs]
def CV.d (c:CV):Y0:=⟨c.fn,c.at_,c.loc,c.stk⟩
section
variable {g:Zw} {w:World} {l:List As} {vc:Value} {cs:List CV} {i b o:Nat}
theorem Jc (E:El vc 4 i b o) (c:CV) (hx:cs[i]?=some c) (H:Sat g w (Sl 79 4 YA vc cs::Sl 2 1 ZF c.vs c.stk::l)) (h1:1<=c.stk.length) (hlen:c.stk.length<=100000) :
  yC 162 #[.pointer (some ⟨b,o,none⟩)] w (fun r w'=>∃vs' t,r=yT t/\t=top c.stk 0/\Sat g w' (Sl 79 4 YA vc (cs.set i ⟨c.fn,c.at_,c.vl,c.loc,vs',low c.stk 1⟩)::Sl 2 1 ZF vs' (low c.stk 1)::l)):=by
 refine Fc.of Tryz.func162 rfl k_d ?_
 obtain ⟨a,ha,G0,GN⟩:=DQ (s:=c.stk) yY
 rw [G0]
 have hst:=H.one 1 rfl
 refine ZN H [] [yRp0,yRp1,yRp2,yRh3,yRp4,yRp5,yRp6,yRh7,yRp8,yRp9,yRp10,yRh11,yRp12] mixed k_d k_d<|fun w1 H=>yO rfl rfl<|tk (fun _ Z=>yJ (Z.el 0 rfl E hx) 3 yI yU)<|yO rfl rfl<|tk (fun _ Z=>yJ (Z.el 0 rfl E hx) 3 yI yU) ?_
 obtain ⟨a1,c1,V1⟩:=H.form 1 rfl
 refine tk (fun _ Z=>Xw V1 rfl yU)<|ZZ yY ?_
 obtain ⟨b1,o1,E1⟩:=H.Zc 1 rfl ((c.stk.length)-1) yY
 refine tk (fun _ Z=>ZK E1 yY rfl rfl yU)<|tk (fun _ Z=>yJ (Z.el 1 rfl E1 ha) 0 yI yU)<|ZN H [] [yRp0,yRp1,yRp2,yRp3,yRh4,yRp5,yRp6,yRp7,yRh8,yRp9,yRp10,yRp11,yRp12,yRp13,yRfr14] mixed k_d k_d<|fun w2 H=>yO rfl rfl<|tk (fun _ Z=>yJ (Z.el 0 rfl E hx) 3 yI yU)<|yO rfl rfl<|tk (fun _ Z=>yJ (Z.el 0 rfl E hx) 3 yI yU)<|tk (fun _ Z=>Xw V1 rfl yU)<|ZZ yY ?_
 obtain ⟨v1,V2⟩:=H.vw 1 rfl (0) (((c.stk.length)-1)) yY yY
 refine tk (fun _ Z=>Vx V2 rfl rfl (.inl yU) (.inr ⟨_,by first|rfl|(congr 2;omega)⟩) yU)<|yO rfl rfl<|Ys H 0 rfl E hx 3 (⟨c.fn,c.at_,c.vl,c.loc,(v1),low c.stk 1⟩) rfl (by simp only [Bool.and_true,H.one 0 rfl,H.one 1 rfl,Vw.one V2,hst]) rfl rfl<|fun w1 H=>Z6.mk ?_
 refine ⟨v1,a,?_⟩
 constructor
 .simp
 refine ⟨yY,?_⟩
 exact H.Gw 1 rfl V2
theorem K7 (E:El vc 4 i b o) (c:CV) (hx:cs[i]?=some c) (H:Sat g w (Sl 79 4 YA vc cs::Sl 2 1 ZF c.vs c.stk::l)) (j:XA) (h0:0<=j.height) (h1:0<=j.keep) (hf:j.height+j.keep<=c.stk.length) (hlen:c.stk.length<=100000) :
  yC 113 #[.pointer (some ⟨b,o,none⟩),.agg #[yT j.at_,yT j.keep,yT j.height]] w (fun r w'=>∃vs',Sat g w' (Sl 79 4 YA vc (cs.set i ⟨c.fn,j.at_,c.vl,c.loc,vs',c.stk.take j.height.toNat++c.stk.drop (c.stk.length-j.keep.toNat)⟩)::Sl 2 1 ZF vs' (c.stk.take j.height.toNat++c.stk.drop (c.stk.length-j.keep.toNat))::l)):=by
 refine Fc.of Tryz.func113 rfl k_d ?_
 have hst:=H.one 1 rfl
 obtain ⟨kk,hkk⟩:=lwa h1
 obtain ⟨hh,hhh⟩:=lwa h0
 rw [hkk,hhh,lla,lla]
 refine ZJ H<|fun p1 w1 H=>ZN H [] [yRp0,yRp1,yRp2,yRh3,yRp4,yRp5,yRp6,yRh7,yRp8,yRp9,yRh10,yRp11,yRp12,yRp13] mixed k_d k_d<|fun w2 H=>yO rfl rfl<|tk (fun _ Z=>yJ (Z.el 1 rfl E hx) 3 yI yU)<|yO rfl rfl<|tk (fun _ Z=>yJ (Z.el 1 rfl E hx) 3 yI yU) ?_
 obtain ⟨a1,c1,V1⟩:=H.form 2 rfl
 refine tk (fun _ Z=>Xw V1 rfl yU)<|yO rfl rfl<|yP 0 1 yN rfl<|ZZ yY ?_
 obtain ⟨v1,V2⟩:=H.vw 2 rfl (((c.stk.length)-(kk))) ((c.stk).length) yY yY
 refine tk (fun _ Z=>Vx V2 rfl rfl (.inr ⟨_,by first|rfl|(congr 2;omega)⟩) (.inl yU) yU)<|ZN H [] [yRp0,yRp1,yRp2,yRp3,yRh4,yRp5,yRh6,yRp7,yRp8,yRfr9,yRp10,yRp11,yRfr12] mixed k_d k_d<|fun w1 H=>yO rfl rfl<|tk (fun _ Z=>yJ (Z.el 1 rfl E hx) 3 yI yU)<|yO rfl rfl<|yP 0 2 yN rfl ?_
 obtain ⟨v2,V3⟩:=H.vw 2 rfl (0) ((hh)) yY yY
 refine tk (fun _ Z=>Vx V3 rfl rfl (.inl yU) (.inr ⟨_,by first|rfl|(congr 2;omega)⟩) yU)<|alu 8 H 2 rfl V3 V2 (fun y _=>rfl) rfl rfl rfl yY yY<|fun v3 w2 H=>yO rfl rfl<|Ys H 1 rfl E hx 3 (⟨c.fn,c.at_,c.vl,c.loc,(v3),c.stk.take hh++c.stk.drop (c.stk.length-kk)⟩) rfl (by simp only [Bool.and_true,H.one 1 rfl,H.one 2 rfl,Vw.one V3,Vw.one V2,hst]) rfl rfl<|fun w1 H=>Z9 rfl<|yQ H 0 0 yN<|Z9 rfl ?_
 have hx1:(cs.set i { fn:=c.fn,at_:=c.at_,vl:=c.vl,loc:=c.loc,vs:=v3,stk:=List.take hh c.stk++List.drop (c.stk.length-kk) c.stk })[i]?=some _:=WD hx
 refine Ys H 1 rfl E hx1 1 (⟨c.fn,j.at_,c.vl,c.loc,_,c.stk.take hh++c.stk.drop (c.stk.length-kk)⟩) rfl rfl rfl rfl<|fun w2 H=>Z6.mk ?_
 refine ⟨v3,?_⟩
 refine H.Z8 [2,2]<|fun H=>H.drop 2<|fun H=>?_
 refine H.cg (YC (P9 ?_) (YC rfl (rfl)))
 (simp;done)
end
end Rn
namespace Rn
open Go YX Go.RowKit
open YQ Zh Yg YO Valid Mem
section
variable {g:Zw} {w:World} {l:List As} {m:Ze} {pr cp mp:Nat} {vw vc vt vg va:Value} {host:Int} {cs:List CV} {args:yB} {c u:CV}
theorem afY (H:Sat g w (Pt pr [yS cp,vw,vc,yT host] 148::Pt cp (yV m [yS mp,vt,vg]) 158::Sl 79 4 YA vc cs::Sl 2 1 ZF va args::l)) (hm:XH g m) (n:Nat) (f:Yx) (hf:m.funcs[n]?=some f) (h1:f.loc.length<=16) (h2:args.length<=16) (h3:cs.length<=100) (hnf:m.funcs.length<=16) :
  yC 79 #[yS pr,yT n,va] w (fun r w'=>∃Qi GU,Sat g w' (Pt pr [yS cp,vw,Qi,yT host] 148::Pt cp (yV m [yS mp,vt,vg]) 158::Sl 79 4 YA Qi (cs++[⟨n,0,GU,args++List.replicate f.loc.length 0,.slice none 0 0,[]⟩])::Sl 2 1 ZF GU (args++List.replicate f.loc.length 0)::Sl 2 1 ZF (.slice none 0 0) []::l)):=by
 refine Fc.of Tryz.func79 rfl k_d ?_
 have ZT:=hm.funcs
 have hfo:=Z0.all ZT f (lda hf)
 have ahL:=hfo.loc
 replace H:=H.U9 (en:=ZF) (s:=1) 2 (fun _=>rfl)
 refine Z9 rfl<|yQ H 1 0 yN<|Z9 rfl<|Z9 rfl<|yQ H 2 2 yN ?_
 obtain ⟨b1,o1,E1,F1,ZL⟩:=Z0.Zc ZT hf
 have X8:=ZL.ty
 have Zr:=ZL.loc
 have ZE:=ZL.body
 refine ZK E1 rfl rfl rfl<|Z9 rfl<|yJ (H.Yu F1) 1 yI<|ZG Zr rfl<|anP (zx:=(0:Int)) 8 H 4 rfl rfl rfl rfl rfl rfl rfl yY yY<|fun v1 w1 H=>Z9 rfl<|yQ H 1 2 yN ?_
 obtain ⟨a1,c1,rfl⟩:=H.form 4 rfl
 refine Zn rfl rfl rfl<|ZW H rfl rfl rfl rfl<|fun p1 w2 H=>Ww (ys:=[⟨n,0,_,args++List.replicate f.loc.length 0,.slice none 0 0,[]⟩]) 64 H 4 rfl (H.at 0 rfl) rfl (fun y hy=>by rw [lra.1 hy];simp only [Rn.YA,List.all_cons,List.all_nil,H.one 1 rfl,H.one 4 rfl,H.one 5 rfl,Z0.one ZE,Z0.one Zr,Z0.one ahL,Z0.one ZT];rfl) rfl rfl rfl yY yY<|fun v1 w1 H=>Z9 rfl<|Yy H 2 rfl rfl rfl (H.one 4 rfl)<|fun w2 H=>Z6.mk ?_
 refine ⟨v1,Value.slice a1 (args++List.replicate f.loc.length 0).length c1,?_⟩
 exact H.Z8 [1,5,5,5,5]<|fun H=>H.drop 5<|fun H=>H
theorem OM (H:Sat g w (Sl 2 1 ZF va args::l)) (hl:args.length<=100000):yC 50 #[va] w (fun u w'=>Sat g w' (Sl 2 1 ZF u args::Sl 2 1 ZF va args::l)):=by
 refine Fc.of Tryz.func50 rfl k_d ?_
 rcases H.Tf 0 rfl with ⟨ND,NC⟩|⟨b1,o1,c1,V1⟩
 .subst ND
  subst NC
  refine XC rfl<|cT rfl<|Z6.mk ?_
  replace H:=H.U9 (en:=ZF) (s:=1) (2) (fun _=>rfl)
  exact H
 subst V1
 exact XC rfl<|cF rfl<|ZW H rfl rfl rfl rfl<|fun p1 w1 H=>H.Wv (n:=0) (en:=ZF) (s:=1) 0 rfl [] rfl rfl (fun _=>rfl) rfl<|fun H=>Ut 8 H 0 rfl (H.Dx (ok:=fun _=>True) 1 rfl (fun _ _=>trivial)) (fun y _=>rfl) rfl rfl rfl (by grind) (by grind)<|fun v1 w2 H=>Z6.mk<|H
theorem J7 {v v1:Value} {xs:yB} {a:Nat} (H:Sat g w (Sl 2 1 ZF v xs::l)) (V:Vw v 1 xs.length a xs.length v1) (hl:xs.length<=100000):yC 50 #[v1] w (fun u w'=>Sat g w' (Sl 2 1 ZF u (xs.drop a)::Sl 2 1 ZF v xs::l)):=by
 refine Fc.of Tryz.func50 rfl k_d ?_
 have hle:=V.le
 obtain ⟨A,q,he,h0⟩:∃A q,v1=.slice A (xs.length-a) q/\(A=none->xs.drop a=[]):=by
  obtain ⟨ad,cap,hv,_,_,_,_,Ob⟩:=V
  refine ⟨_,_,Ob,fun hn=>?_⟩
  cases ad with
  | none =>
   rcases (H.off 0 rfl).1 with ⟨_,hx⟩|⟨_,_,_,_,h,_⟩
   .grind
   .grind
  | some p =>
   split at hn
   .grind
   .grind
 cases A with
 | none =>
  rw [h0 rfl]
  subst he
  replace H:=H.U9 (en:=ZF) (s:=1) 2 (fun _=>rfl)
  exact XC rfl<|cT rfl<|Z6.mk<|H
 | some p =>
  subst he
  refine XC rfl<|cF rfl<|ZW H rfl rfl rfl rfl<|fun p1 w1 H=>H.Wv (n:=0) (en:=ZF) (s:=1) 0 rfl [] rfl rfl (fun _=>rfl) rfl<|fun H=>Ut 8 H 0 rfl (H.rdv (ok:=fun _=>True) 1 rfl V (fun _ _=>trivial)) (fun y _=>rfl) rfl rfl rfl (by grind) (by grind)<|fun v1 w2 H=>Z6.mk ?_
  refine H.cg (YC (P9 ?_) (YC rfl (rfl)))
  (simp;done)
theorem afZ (H:Sat g w (Pt pr [yS cp,vw,vc,yT host] 148::Sl 79 4 YA vc cs::Sl 2 1 ZF c.vs c.stk::l)) (hcs:cs=[c]) (hvl:c.vl.oneCell'=true) (hvs:c.vs.oneCell'=true) (hl:c.stk.length<=100000) :
  yC 112 #[yS pr] w (fun r w'=>∃Qi v',r=.tuple #[v',.bool true]/\Sat g w' (Pt pr [yS cp,vw,Qi,yT host] 148::Sl 79 4 YA Qi ([]:List CV)::Sl 2 1 ZF v' c.stk::l)):=by
 refine Fc.of Tryz.func112 rfl k_d ?_
 have hn:cs.length=1:=by grind
 have hx:cs[cs.length-1]?=some c:=by grind
 have Qg:List.drop 0 (cs.take (cs.length-1))=([]:List CV):=by grind
 refine ZN H [] [yRp0,yRp1,yRp2,yRh3,yRp4,yRp5,yRp6,yRh7,yRp8,yRp9,yRp10,yRh11,yRf12,yRfr13] mixed k_d k_d<|fun w1 H=>yO rfl rfl<|yP 0 2 yN rfl<|yO rfl rfl<|yP 0 2 yN rfl ?_
 obtain ⟨a1,c1,V1⟩:=H.form 1 rfl
 refine tk (fun _ Z=>Xw V1 rfl yU)<|ZZ yY ?_
 obtain ⟨b1,o1,E1⟩:=H.Zc 1 rfl ((cs.length)-1) yY
 refine tk (fun _ Z=>ZK E1 yY rfl rfl yU)<|tk (fun _ Z=>ZD (Z.el 1 rfl E1 hx) 0 rfl rfl rfl yU)<|ZV H rfl<|fun p1 w2 H=>Za.mk (H.drop 0 (fun H=>H))<|ZI H 0 rfl rfl rfl (by simp only [List.all_cons,List.all_nil,H.one 2 rfl,H.one 3 rfl,hvs,hvl];rfl)<|fun w1 H=>Z9 rfl<|yQ H 0 3 yN<|H.Z8 [3]<|fun H=>?_
 refine Z7.mk (Fc.imp (Rn.OM H yY) ?_)
 rintro v' w2 H
 refine ZN H [] [yRp0,yRp1,yRp2,yRp3,yRh4,yRp5,yRp6,yRp7,yRh8,yRp9,yRp10,yRp11,yRp12,yRp13,yRfr14] mixed k_d k_d<|fun w3 H=>yO rfl rfl<|yP 3 2 yN rfl<|yO rfl rfl<|yP 3 2 yN rfl<|tk (fun _ Z=>Xw V1 rfl yU)<|ZZ yY ?_
 obtain ⟨v1,V2⟩:=H.vw 4 rfl (0) (((cs.length)-1)) yY yY
 refine tk (fun _ Z=>Vx V2 rfl rfl (.inl yU) (.inr ⟨_,by first|rfl|(congr 2;omega)⟩) yU)<|yO rfl rfl<|Yy H 3 rfl rfl rfl (by simp only [Bool.and_true,H.one 0 rfl,H.one 1 rfl,H.one 4 rfl,Vw.one V2,hvs,hvl])<|fun w2 H=>Z9 rfl<|yQ H 3 2 yN<|IN V2 rfl ?_
 replace H:=H.Gw 4 rfl V2
 simp only [List.set_cons_succ,List.set_cons_zero,Qg] at H
 refine cT (ZH yY)<|Z6.mk ?_
 refine ⟨v1,v',?_⟩
 refine ⟨rfl,?_⟩
 exact H.Z8 [0,4,4]<|fun H=>yH H [4,3]<|fun H=>H
theorem af0 {up:List CV} (H:Sat g w (Pt pr [yS cp,vw,vc,yT host] 148::Sl 79 4 YA vc cs::Sl 2 1 ZF c.vs c.stk::Sl 2 1 ZF u.vs u.stk::l)) (hcs:cs=up++[u]++[c]) (hvl:c.vl.oneCell'=true) (hvs:c.vs.oneCell'=true) (hl:c.stk.length<=10000) (LP:u.stk.length<=10000) (hle:cs.length<=1000) :
  yC 112 #[yS pr] w (fun r w'=>∃Qi vs',r=.tuple #[.slice none 0 0,.bool false]/\Sat g w' (Pt pr [yS cp,vw,Qi,yT host] 148::Sl 79 4 YA Qi (up++[⟨u.fn,u.at_,u.vl,u.loc,vs',u.stk++c.stk⟩])::Sl 2 1 ZF vs' (u.stk++c.stk)::l)):=by
 refine Fc.of Tryz.func112 rfl k_d ?_
 have hn:cs.length=up.length+2:=by grind
 have hx:cs[cs.length-1]?=some c:=by grind
 have hu0:(cs.take (cs.length-1)).length=up.length+1:=by grind
 have Qg:List.drop 0 (cs.take (cs.length-1))=up++[u]:=by grind
 refine ZN H [] [yRp0,yRp1,yRp2,yRh3,yRp4,yRp5,yRp6,yRh7,yRp8,yRp9,yRp10,yRh11,yRf12,yRfr13] mixed k_d k_d<|fun w1 H=>yO rfl rfl<|yP 0 2 yN rfl<|yO rfl rfl<|yP 0 2 yN rfl ?_
 obtain ⟨a1,c1,V1⟩:=H.form 1 rfl
 refine tk (fun _ Z=>Xw V1 rfl yU)<|ZZ yY ?_
 obtain ⟨b1,o1,E1⟩:=H.Zc 1 rfl ((cs.length)-1) yY
 refine tk (fun _ Z=>ZK E1 yY rfl rfl yU)<|tk (fun _ Z=>ZD (Z.el 1 rfl E1 hx) 0 rfl rfl rfl yU)<|ZV H rfl<|fun p1 w2 H=>Za.mk (H.drop 0 (fun H=>H))<|ZI H 0 rfl rfl rfl (by simp only [List.all_cons,List.all_nil,H.one 2 rfl,H.one 3 rfl,H.one 4 rfl,hvs,hvl];rfl)<|fun w1 H=>Z9 rfl<|yQ H 0 3 yN<|H.Z8 [3]<|fun H=>?_
 refine Z7.mk (Fc.imp (Rn.OM H yY) ?_)
 rintro v' w2 H
 refine ZN H [] [yRp0,yRp1,yRp2,yRp3,yRh4,yRp5,yRp6,yRp7,yRh8,yRp9,yRp10,yRp11,yRp12,yRp13,yRfr14] mixed k_d k_d<|fun w3 H=>yO rfl rfl<|yP 3 2 yN rfl<|yO rfl rfl<|yP 3 2 yN rfl<|tk (fun _ Z=>Xw V1 rfl yU)<|ZZ yY ?_
 obtain ⟨v1,V2⟩:=H.vw 4 rfl (0) (((cs.length)-1)) yY yY
 refine tk (fun _ Z=>Vx V2 rfl rfl (.inl yU) (.inr ⟨_,by first|rfl|(congr 2;omega)⟩) yU)<|yO rfl rfl<|Yy H 3 rfl rfl rfl (by simp only [Bool.and_true,H.one 0 rfl,H.one 1 rfl,H.one 4 rfl,H.one 5 rfl,Vw.one V2,hvs,hvl])<|fun w2 H=>Z9 rfl<|yQ H 3 2 yN<|IN V2 rfl ?_
 replace H:=H.Gw 4 rfl V2
 rw [Qg] at H
 simp only [List.set_cons_succ,List.set_cons_zero] at H
 have Ez:cs.length-1-0-1=up.length:=by omega
 have hux:(up++[u])[cs.length-1-0-1]?=some u:=by grind
 have Wy:∀z,(up++[u]).set (cs.length-1-0-1) z=up++[z]:=fun z=>by rw [Ez];simp
 refine cF (Z4 yY)<|ZN H [] [yRp0,yRp1,yRp2,yRh3,yRp4,yRp5,yRp6,yRh7,yRp8,yRp9,yRp10,yRp11] mixed k_d k_d<|fun w3 H=>yO rfl rfl<|yP 3 2 yN rfl<|yO rfl rfl<|yP 3 2 yN rfl<|tk (fun _ Z=>IN V2 rfl yU)<|ZZ yY ?_
 obtain ⟨b2,o2,E2⟩:=H.Zc 4 rfl ((cs.length-1-0)-1) (by grind)
 refine tk (fun _ Z=>ZK E2 yY rfl rfl yU)<|Z9 rfl<|yJ (H.el 4 rfl E2 hux) 3 yI<|Ut 8 H 5 rfl (H.Dx (ok:=fun _=>True) 0 rfl (fun _ _=>trivial)) (fun y _=>rfl) rfl rfl rfl yY yY<|fun v2 w2 H=>Z9 rfl<|Ys H 4 rfl E2 hux 3 (⟨u.fn,u.at_,u.vl,u.loc,_,u.stk++c.stk⟩) rfl (by simp only [Bool.and_true,H.one 0 rfl,H.one 1 rfl,H.one 4 rfl,H.one 5 rfl,Vw.one V2,hvs,hvl]) rfl rfl<|fun w3 H=>?_
 simp only [Wy] at H
 refine Z6.mk ⟨v1,v2,rfl,?_⟩
 exact H.Z8 [5,5,5]<|fun H=>yH H [5,4,3]<|fun H=>H
end
end Rn
namespace Rn
open Go YX Go.RowKit
open YQ Zh Yg YO Valid Mem
section
variable {g:Zw} {w:World} {l:List As} {m:Ze} {pr cp mp:Nat} {vw vc vt vg Si:Value} {host f e:Int} {cs:List CV} {Zt s2:yB} {u:CV} {x:ZS} {i b o:Nat}
theorem QB {n1 n2:Int} {q:Int × yB × Int} {s:yB} (h:(n1,s,n2)=q) (hq:q=(f,s2,e)):f=n1/\s2=s/\e=n2:=by grind
theorem ahM {n:Int} (h0:(m.Zy.length:Int)<=n) (h1:n<(m.Zy.length:Int)+m.funcs.length):∃(k:Nat) (F:Yx),n=m.Zy.length+k/\m.funcs[k]?=some F/\WW m.d (n-YZ m.d)=F.d:=by
 obtain ⟨k,hk⟩:=lwa (show 0<=n-m.Zy.length by omega)
 have HC:k<m.funcs.length:=by omega
 refine ⟨k,m.funcs[k],by omega,laa HC,?_⟩
 unfold WW YZ
 show (m.funcs.map Yx.d).getD (n-(m.Zy.length:Int)).toNat _=_
 rw [hk,lla,lka,lCa,laa HC];rfl
theorem af1 (E:El vc 4 i b o) (c:CV) (hx:cs[i]?=some c) (H:Sat g w (Pt pr [yS cp,vw,vc,yT host] 148::Pt cp (yV m [yS mp,vt,vg]) 158::Sl 3 1 ZF vt Zt::Sl 79 4 YA vc cs::Sl 2 1 ZF c.vs c.stk::l)) (hm:XH g m) (P:Uy m.d) (ho:x.op=16\/x.op=17) (Qs:∀n∈Zt,-1<=n/\n<(m.Zy.length:Int)+m.funcs.length) (h1:x.op=17->1<=c.stk.length/\0<=x.a/\x.a<m.types.length) (Ur:∀v∈c.stk,XS v) (hlen:c.stk.length<=10000) (Pg:Zt.length<=1000) (Va:cs.length<=40) (hvl:c.vl.oneCell'=true) (hq:YS m.d Zt x c.stk=(f,s2,e)) (he:e≠0):yC 163 #[yS pr,.pointer (some ⟨b,o,none⟩),.agg #[.int .u8 x.op,yT x.a,yT x.b,Si]] w (fun r w'=>r=.agg #[yT 2,.slice none 0 0,yT e,yT 0,yT 0]/\Sat g w' (Pt pr [yS cp,vw,vc,yT host] 148::Pt cp (yV m [yS mp,vt,vg]) 158::Sl 3 1 ZF vt Zt::l)):=by
 refine Fc.of Tryz.func163 rfl k_d ?_
 have ZO:=hm.types
 have Zq:=hm.Zy
 have ZT:=hm.funcs
 have hvs:=H.one 4 rfl
 have hni:m.Zy.length<=16:=P.ni
 have hnf:m.funcs.length<=16:=by have:=P.nf;rwa [show m.d.funcs.length=m.funcs.length from lea ..] at this
 refine ZJ H<|fun p1 w1 H=>ZV H rfl<|fun p2 w2 H=>ZN H [] [yRp0,yRp1,yRp2,yRh3,yRh4,yRp5,yRp6,yRp7,yRh8,yRfr9,yRp10,yRp11,yRp12,yRp13,yRp14,yRp15,yRp16] mixed k_d k_d<|fun w1 H=>yO rfl rfl<|yP 2 0 yN rfl<|tk (fun _ Z=>ZD (Z.at 1 rfl) 0 rfl rfl rfl yU)<|yO rfl rfl<|tk (fun _ Z=>yJ (Z.el 5 rfl E hx) 3 yI yU)<|H.Z8 [6,5,5]<|fun H=>?_
 refine Z7.mk (Fc.imp (Rn.Nj H yY yY yY yY yY yY yY yY) ?_)
 rintro _ w2 ⟨f1,⟨Zo,⟨Q3,⟨e1,⟨rfl,⟨h2,H⟩⟩⟩⟩⟩⟩
 obtain ⟨rfl,rfl,rfl⟩:=QB h2 hq
 refine Z9 rfl<|Ys H 6 rfl E hx 3 (⟨c.fn,c.at_,c.vl,c.loc,(Zo),s2⟩) rfl k_q rfl rfl<|fun w3 H=>cT (Xk yX)<|Zn rfl rfl rfl<|ZI H 3 rfl rfl rfl rfl<|fun w2 H=>XU (H.at 3 rfl) 0 rfl rfl rfl<|Z6.mk ?_
 refine ⟨rfl,?_⟩
 exact H.Z8 [1,1,5]<|fun H=>yH H [6,5,4,3]<|fun H=>H
theorem af2 (E:El vc 4 i b o) (c:CV) (hx:cs[i]?=some c) (H:Sat g w (Pt pr [yS cp,vw,vc,yT host] 148::Pt cp (yV m [yS mp,vt,vg]) 158::Sl 3 1 ZF vt Zt::Sl 79 4 YA vc cs::Sl 2 1 ZF c.vs c.stk::l)) (hm:XH g m) (P:Uy m.d) (ho:x.op=16\/x.op=17) (Qs:∀n∈Zt,-1<=n/\n<(m.Zy.length:Int)+m.funcs.length) (h1:x.op=17->1<=c.stk.length/\0<=x.a/\x.a<m.types.length) (Ur:∀v∈c.stk,XS v) (hlen:c.stk.length<=10000) (Pg:Zt.length<=1000) (Va:cs.length<=40) (hvl:c.vl.oneCell'=true) (hq:YS m.d Zt x c.stk=(f,s2,0)) (hf:0<=f/\f<(m.Zy.length:Int)+m.funcs.length) (J8:(YG m.d f).Y9.length<=s2.length) (G6:s2.length<=10000) (zj:(m.Zy.length:Int)<=f) (AP:cs.length=40):yC 163 #[yS pr,.pointer (some ⟨b,o,none⟩),.agg #[.int .u8 x.op,yT x.a,yT x.b,Si]] w (fun r w'=>r=.agg #[yT 2,.slice none 0 0,yT 26,yT 0,yT 0]/\Sat g w' (Pt pr [yS cp,vw,vc,yT host] 148::Pt cp (yV m [yS mp,vt,vg]) 158::Sl 3 1 ZF vt Zt::l)):=by
 refine Fc.of Tryz.func163 rfl k_d ?_
 have ZO:=hm.types
 have Zq:=hm.Zy
 have ZT:=hm.funcs
 have hvs:=H.one 4 rfl
 have hni:m.Zy.length<=16:=P.ni
 have hnf:m.funcs.length<=16:=by have:=P.nf;rwa [show m.d.funcs.length=m.funcs.length from lea ..] at this
 have hty:∀t:Xo,t.d=YG m.d f->t.Y9.length=(YG m.d f).Y9.length:=fun t h=>by rw [<-h];rfl
 refine ZJ H<|fun p1 w1 H=>ZV H rfl<|fun p2 w2 H=>ZN H [] [yRp0,yRp1,yRp2,yRh3,yRh4,yRp5,yRp6,yRp7,yRh8,yRfr9,yRp10,yRp11,yRp12,yRp13,yRp14,yRp15,yRp16] mixed k_d k_d<|fun w1 H=>yO rfl rfl<|yP 2 0 yN rfl<|tk (fun _ Z=>ZD (Z.at 1 rfl) 0 rfl rfl rfl yU)<|yO rfl rfl<|tk (fun _ Z=>yJ (Z.el 5 rfl E hx) 3 yI yU)<|H.Z8 [6,5,5]<|fun H=>?_
 refine Z7.mk (Fc.imp (Rn.Nj H yY yY yY yY yY yY yY yY) ?_)
 rintro _ w2 ⟨f1,⟨Zo,⟨Q3,⟨e1,⟨rfl,⟨h2,H⟩⟩⟩⟩⟩⟩
 obtain ⟨rfl,rfl,rfl⟩:=QB h2 hq
 refine Z9 rfl<|Ys H 6 rfl E hx 3 (⟨c.fn,c.at_,c.vl,c.loc,(Zo),s2⟩) rfl k_q rfl rfl<|fun w3 H=>cF (Yo yY)<|ZN H [] [yRp0,yRp1,yRp2,yRh3,yRp4,yRp5,yRp6,yRp7,yRh8,yRp9,yRf10,yRp11,yRp12,yRp13,yRp14] mixed k_d k_d<|fun w2 H=>yO rfl rfl ?_
 have hx1:(cs.set i { fn:=c.fn,at_:=c.at_,vl:=c.vl,loc:=c.loc,vs:=Zo,stk:=s2 })[i]?=some _:=WD hx
 refine tk (fun _ Z=>yJ (Z.el 6 rfl E hx1) 3 yI yU) ?_
 obtain ⟨a1,c1,V1⟩:=H.form 2 rfl
 refine tk (fun _ Z=>Xw V1 rfl yU)<|yO rfl rfl<|yP 5 0 yN rfl ?_
 refine Z7.mk (Fc.imp (Rn.K8 H yY yY _ yY yY) ?_)
 rintro _ w3 ⟨t1,⟨rfl,⟨h3,⟨h4,⟨h5,⟨h6,⟨h7,H⟩⟩⟩⟩⟩⟩⟩
 have FN:=hty _ yX
 have H9:=Wh.Y9 (by assumption:Wh g _)
 refine Za.mk (H)<|tk (fun _ Z=>R7 rfl yU)<|tk (fun _ Z=>ZG H9 rfl yU)<|ZZ yY<|Z9 rfl<|yJ (H.el 6 rfl E hx1) 3 yI ?_
 obtain ⟨v1,V2⟩:=H.vw 2 rfl (((s2.length)-(t1.Y9.length))) ((s2).length) yY yY
 refine Vx V2 rfl rfl (.inr ⟨_,by first|rfl|(congr 2;omega)⟩) (.inl ⟨rfl,rfl⟩)<|H.Z8 [2]<|fun H=>?_
 refine Z7.mk (Fc.imp (Rn.J7 H V2 yY) ?_)
 rintro v' w4 H
 refine Z9 rfl<|yQ H 6 0 yN<|Z9 rfl<|Z9 rfl<|yQ H 2 1 yN<|ZG Zq rfl<|ZZ yY<|VT (Yf yY)<|Z9 rfl<|yQ H 6 2 yN<|YK H 7 rfl rfl<|cT (ZH (by grind))<|Zn rfl rfl rfl<|ZI H 4 rfl rfl rfl rfl<|fun w5 H=>XU (H.at 4 rfl) 0 rfl rfl rfl<|Z6.mk ?_
 refine ⟨rfl,?_⟩
 exact H.Z8 [3,3,6]<|fun H=>yH H [7,6,5,4,3]<|fun H=>H
theorem af3 (E:El vc 4 i b o) (c:CV) (hx:cs[i]?=some c) (H:Sat g w (Pt pr [yS cp,vw,vc,yT host] 148::Pt cp (yV m [yS mp,vt,vg]) 158::Sl 3 1 ZF vt Zt::Sl 79 4 YA vc cs::Sl 2 1 ZF c.vs c.stk::l)) (hm:XH g m) (P:Uy m.d) (ho:x.op=16\/x.op=17) (Qs:∀n∈Zt,-1<=n/\n<(m.Zy.length:Int)+m.funcs.length) (h1:x.op=17->1<=c.stk.length/\0<=x.a/\x.a<m.types.length) (Ur:∀v∈c.stk,XS v) (hlen:c.stk.length<=10000) (Pg:Zt.length<=1000) (Va:cs.length<=40) (hvl:c.vl.oneCell'=true) (hq:YS m.d Zt x c.stk=(f,s2,0)) (hf:0<=f/\f<(m.Zy.length:Int)+m.funcs.length) (J8:(YG m.d f).Y9.length<=s2.length) (G6:s2.length<=10000) (zj:f<m.Zy.length):yC 163 #[yS pr,.pointer (some ⟨b,o,none⟩),.agg #[.int .u8 x.op,yT x.a,yT x.b,Si]] w (fun r w'=>∃vs' vv,r=.agg #[yT 4,vv,yT 0,yT f,yT 0]/\Sat g w' (Pt pr [yS cp,vw,vc,yT (f+1)] 148::Pt cp (yV m [yS mp,vt,vg]) 158::Sl 3 1 ZF vt Zt::Sl 79 4 YA vc (cs.set i ⟨c.fn,c.at_,c.vl,c.loc,vs',s2.take (s2.length-(YG m.d f).Y9.length)⟩)::Sl 2 1 ZF vs' (s2.take (s2.length-(YG m.d f).Y9.length))::Sl 2 1 ZF vv (s2.drop (s2.length-(YG m.d f).Y9.length))::l)):=by
 refine Fc.of Tryz.func163 rfl k_d ?_
 have ZO:=hm.types
 have Zq:=hm.Zy
 have ZT:=hm.funcs
 have hvs:=H.one 4 rfl
 have hni:m.Zy.length<=16:=P.ni
 have hnf:m.funcs.length<=16:=by have:=P.nf;rwa [show m.d.funcs.length=m.funcs.length from lea ..] at this
 have hty:∀t:Xo,t.d=YG m.d f->t.Y9.length=(YG m.d f).Y9.length:=fun t h=>by rw [<-h];rfl
 refine ZJ H<|fun p1 w1 H=>ZV H rfl<|fun p2 w2 H=>ZN H [] [yRp0,yRp1,yRp2,yRh3,yRh4,yRp5,yRp6,yRp7,yRh8,yRfr9,yRp10,yRp11,yRp12,yRp13,yRp14,yRp15,yRp16] mixed k_d k_d<|fun w1 H=>yO rfl rfl<|yP 2 0 yN rfl<|tk (fun _ Z=>ZD (Z.at 1 rfl) 0 rfl rfl rfl yU)<|yO rfl rfl<|tk (fun _ Z=>yJ (Z.el 5 rfl E hx) 3 yI yU)<|H.Z8 [6,5,5]<|fun H=>?_
 refine Z7.mk (Fc.imp (Rn.Nj H yY yY yY yY yY yY yY yY) ?_)
 rintro _ w2 ⟨f1,⟨Zo,⟨Q3,⟨e1,⟨rfl,⟨h2,H⟩⟩⟩⟩⟩⟩
 obtain ⟨rfl,rfl,rfl⟩:=QB h2 hq
 refine Z9 rfl<|Ys H 6 rfl E hx 3 (⟨c.fn,c.at_,c.vl,c.loc,(Zo),s2.take (s2.length-(YG m.d f).Y9.length)⟩) rfl k_q rfl rfl<|fun w3 H=>cF (Yo yY)<|ZN H [] [yRp0,yRp1,yRp2,yRh3,yRp4,yRp5,yRp6,yRp7,yRh8,yRp9,yRf10,yRp11,yRp12,yRp13,yRp14] mixed k_d k_d<|fun w2 H=>yO rfl rfl ?_
 have hx1:(cs.set i { fn:=c.fn,at_:=c.at_,vl:=c.vl,loc:=c.loc,vs:=Zo,stk:=List.take (s2.length-(YG m.d f).Y9.length) s2 })[i]?=some _:=WD hx
 refine tk (fun _ Z=>yJ (Z.el 6 rfl E hx1) 3 yI yU) ?_
 obtain ⟨a1,c1,V1⟩:=H.form 2 rfl
 refine tk (fun _ Z=>Xw V1 rfl yU)<|yO rfl rfl<|yP 5 0 yN rfl ?_
 refine Z7.mk (Fc.imp (Rn.K8 H yY yY _ yY yY) ?_)
 rintro _ w3 ⟨t1,⟨rfl,⟨h3,⟨h4,⟨h5,⟨h6,⟨h7,H⟩⟩⟩⟩⟩⟩⟩
 have FN:=hty _ yX
 have H9:=Wh.Y9 (by assumption:Wh g _)
 refine Za.mk (H)<|tk (fun _ Z=>R7 rfl yU)<|tk (fun _ Z=>ZG H9 rfl yU)<|ZZ yY<|Z9 rfl<|yJ (H.el 6 rfl E hx1) 3 yI ?_
 obtain ⟨v1,V2⟩:=H.vw 2 rfl (((s2.length)-(t1.Y9.length))) ((s2).length) yY yY
 refine Vx V2 rfl rfl (.inr ⟨_,by first|rfl|(congr 2;omega)⟩) (.inl ⟨rfl,rfl⟩)<|H.Z8 [2]<|fun H=>?_
 refine Z7.mk (Fc.imp (Rn.J7 H V2 yY) ?_)
 rintro v' w4 H
 refine Z9 rfl<|yQ H 6 0 yN<|Z9 rfl<|Z9 rfl<|yQ H 2 1 yN<|ZG Zq rfl<|ZZ yY<|Yh (YJ yY)<|cF rfl<|Z9 rfl<|yJ (H.el 7 rfl E hx1) 3 yI ?_
 obtain ⟨v2,V3⟩:=H.vw 1 rfl (0) (((s2.length)-(t1.Y9.length))) yY yY
 refine Vx V3 rfl rfl (.inl ⟨rfl,rfl⟩) (.inr ⟨_,by first|rfl|(congr 2;omega)⟩)<|Z9 rfl<|Ys H 7 rfl E hx1 3 (⟨c.fn,c.at_,c.vl,c.loc,(v2),s2.take (s2.length-(YG m.d f).Y9.length)⟩) rfl (by simp only [Bool.and_true,H.one 0 rfl,H.one 1 rfl,H.one 3 rfl,H.one 7 rfl,Vw.one V3,Vw.one V2,Z0.one H9,hvs,Z0.one ZT,Z0.one Zq,Z0.one ZO,hvl]) rfl rfl<|fun w5 H=>cT (Zu yY)<|ZZ yY<|Z9 rfl<|Yy H 6 rfl rfl rfl rfl<|fun w4 H=>?_
 obtain ⟨a2,c2,rfl⟩:=H.form 0 rfl
 refine Zn rfl rfl rfl<|ZI H 4 rfl rfl rfl rfl<|fun w5 H=>XU (H.at 4 rfl) 0 rfl rfl rfl ?_
 replace H:=H.Gw 1 rfl V3
 simp only [List.set_cons_succ,List.set_cons_zero,List.drop_zero,FN,List.set_set] at H
 refine Z6.mk ⟨v2,_,(by rw [FN]),?_⟩
 exact H.Z8 [0,1,7,4,4,7]<|fun H=>yH H [7,6]<|fun H=>H
theorem af4 (E:El vc 4 i b o) (c:CV) (hx:cs[i]?=some c) (H:Sat g w (Pt pr [yS cp,vw,vc,yT host] 148::Pt cp (yV m [yS mp,vt,vg]) 158::Sl 3 1 ZF vt Zt::Sl 79 4 YA vc cs::Sl 2 1 ZF c.vs c.stk::l)) (hm:XH g m) (P:Uy m.d) (ho:x.op=16\/x.op=17) (Qs:∀n∈Zt,-1<=n/\n<(m.Zy.length:Int)+m.funcs.length) (h1:x.op=17->1<=c.stk.length/\0<=x.a/\x.a<m.types.length) (Ur:∀v∈c.stk,XS v) (hlen:c.stk.length<=10000) (Pg:Zt.length<=1000) (Va:cs.length<=40) (hvl:c.vl.oneCell'=true) (hq:YS m.d Zt x c.stk=(f,s2,0)) (hf:0<=f/\f<(m.Zy.length:Int)+m.funcs.length) (J8:(YG m.d f).Y9.length<=s2.length) (G6:s2.length<=10000) (k:Nat) (F:Yx) (Fh:f=m.Zy.length+k) (hF:m.funcs[k]?=some F) (B7:F.loc.length<=16) (h4:(YG m.d f).Y9.length<=4) (AP:cs.length<40):yC 163 #[yS pr,.pointer (some ⟨b,o,none⟩),.agg #[.int .u8 x.op,yT x.a,yT x.b,Si]] w (fun r w'=>∃Qi vs' GU,r=.agg #[yT 0,.slice none 0 0,yT 0,yT 0,yT 0]/\Sat g w' (Pt pr [yS cp,vw,Qi,yT host] 148::Pt cp (yV m [yS mp,vt,vg]) 158::Sl 3 1 ZF vt Zt::Sl 79 4 YA Qi (cs.set i ⟨c.fn,c.at_,c.vl,c.loc,vs',s2.take (s2.length-(YG m.d f).Y9.length)⟩++[⟨k,0,GU,(s2.drop (s2.length-(YG m.d f).Y9.length))++List.replicate F.loc.length 0,.slice none 0 0,[]⟩])::Sl 2 1 ZF vs' (s2.take (s2.length-(YG m.d f).Y9.length))::Sl 2 1 ZF GU ((s2.drop (s2.length-(YG m.d f).Y9.length))++List.replicate F.loc.length 0)::Sl 2 1 ZF (.slice none 0 0) []::l)):=by
 refine Fc.of Tryz.func163 rfl k_d ?_
 have ZO:=hm.types
 have Zq:=hm.Zy
 have ZT:=hm.funcs
 have hvs:=H.one 4 rfl
 have hni:m.Zy.length<=16:=P.ni
 have hnf:m.funcs.length<=16:=by have:=P.nf;rwa [show m.d.funcs.length=m.funcs.length from lea ..] at this
 have hty:∀t:Xo,t.d=YG m.d f->t.Y9.length=(YG m.d f).Y9.length:=fun t h=>by rw [<-h];rfl
 refine ZJ H<|fun p1 w1 H=>ZV H rfl<|fun p2 w2 H=>ZN H [] [yRp0,yRp1,yRp2,yRh3,yRh4,yRp5,yRp6,yRp7,yRh8,yRfr9,yRp10,yRp11,yRp12,yRp13,yRp14,yRp15,yRp16] mixed k_d k_d<|fun w1 H=>yO rfl rfl<|yP 2 0 yN rfl<|tk (fun _ Z=>ZD (Z.at 1 rfl) 0 rfl rfl rfl yU)<|yO rfl rfl<|tk (fun _ Z=>yJ (Z.el 5 rfl E hx) 3 yI yU)<|H.Z8 [6,5,5]<|fun H=>?_
 refine Z7.mk (Fc.imp (Rn.Nj H yY yY yY yY yY yY yY yY) ?_)
 rintro _ w2 ⟨f1,⟨Zo,⟨Q3,⟨e1,⟨rfl,⟨h2,H⟩⟩⟩⟩⟩⟩
 obtain ⟨rfl,rfl,rfl⟩:=QB h2 hq
 refine Z9 rfl<|Ys H 6 rfl E hx 3 (⟨c.fn,c.at_,c.vl,c.loc,(Zo),s2.take (s2.length-(YG m.d f).Y9.length)⟩) rfl k_q rfl rfl<|fun w3 H=>cF (Yo yY)<|ZN H [] [yRp0,yRp1,yRp2,yRh3,yRp4,yRp5,yRp6,yRp7,yRh8,yRp9,yRf10,yRp11,yRp12,yRp13,yRp14] mixed k_d k_d<|fun w2 H=>yO rfl rfl ?_
 have hx1:(cs.set i { fn:=c.fn,at_:=c.at_,vl:=c.vl,loc:=c.loc,vs:=Zo,stk:=List.take (s2.length-(YG m.d f).Y9.length) s2 })[i]?=some _:=WD hx
 refine tk (fun _ Z=>yJ (Z.el 6 rfl E hx1) 3 yI yU) ?_
 obtain ⟨a1,c1,V1⟩:=H.form 2 rfl
 refine tk (fun _ Z=>Xw V1 rfl yU)<|yO rfl rfl<|yP 5 0 yN rfl ?_
 refine Z7.mk (Fc.imp (Rn.K8 H yY yY _ yY yY) ?_)
 rintro _ w3 ⟨t1,⟨rfl,⟨h3,⟨h5,⟨h6,⟨h7,⟨h8,H⟩⟩⟩⟩⟩⟩⟩
 have FN:=hty _ yX
 have H9:=Wh.Y9 (by assumption:Wh g _)
 refine Za.mk (H)<|tk (fun _ Z=>R7 rfl yU)<|tk (fun _ Z=>ZG H9 rfl yU)<|ZZ yY<|Z9 rfl<|yJ (H.el 6 rfl E hx1) 3 yI ?_
 obtain ⟨v1,V2⟩:=H.vw 2 rfl (((s2.length)-(t1.Y9.length))) ((s2).length) yY yY
 refine Vx V2 rfl rfl (.inr ⟨_,by first|rfl|(congr 2;omega)⟩) (.inl ⟨rfl,rfl⟩)<|H.Z8 [2]<|fun H=>?_
 refine Z7.mk (Fc.imp (Rn.J7 H V2 yY) ?_)
 rintro v' w4 H
 refine Z9 rfl<|yQ H 6 0 yN<|Z9 rfl<|Z9 rfl<|yQ H 2 1 yN<|ZG Zq rfl<|ZZ yY<|VT (Yf yY)<|Z9 rfl<|yQ H 6 2 yN<|YK H 7 rfl rfl<|cF (Z4 (by grind))<|Z9 rfl<|yJ (H.el 7 rfl E hx1) 3 yI ?_
 obtain ⟨v2,V3⟩:=H.vw 1 rfl (0) (((s2.length)-(t1.Y9.length))) yY yY
 refine Vx V3 rfl rfl (.inl ⟨rfl,rfl⟩) (.inr ⟨_,by first|rfl|(congr 2;omega)⟩)<|Z9 rfl<|Ys H 7 rfl E hx1 3 (⟨c.fn,c.at_,c.vl,c.loc,(v2),s2.take (s2.length-(YG m.d f).Y9.length)⟩) rfl (by simp only [Bool.and_true,H.one 0 rfl,H.one 1 rfl,H.one 3 rfl,H.one 7 rfl,Vw.one V3,Vw.one V2,Z0.one H9,hvs,Z0.one ZT,Z0.one Zq,Z0.one ZO,hvl]) rfl rfl<|fun w5 H=>cF (Zz yY) ?_
 replace H:=H.Gw 1 rfl V3
 simp only [List.set_cons_succ,List.set_cons_zero,List.drop_zero,FN,List.set_set] at H
 rw [show f-(m.Zy.length:Int)=(k:Int) by omega]
 refine H.Z8 [0,7,3,7]<|fun H=>?_
 refine Z7.mk (Fc.imp (Rn.afY H yY (k) _ hF yY ?_ ?_ ?_) ?_)
 .grind
 .grind
 .omega
 rintro UP w4 ⟨FM,⟨TD,H⟩⟩
 refine Zn rfl rfl rfl<|ZI H 7 rfl rfl rfl rfl<|fun w6 H=>XU (H.at 7 rfl) 0 rfl rfl rfl ?_
 refine Z6.mk ⟨FM,v2,TD,rfl,?_⟩
 exact H.Z8 [4,4,5,5,6,6,6]<|fun H=>yH H [8,7]<|fun H=>H
end
end Rn
namespace Rn
open Go YX Go.RowKit
open YQ Zh Yg YO Valid Mem
def fr (c:CV):List As:=[Sl 2 1 ZF c.vl c.loc,Sl 2 1 ZF c.vs c.stk]
def Wa (cs:List CV):As:=Qq (cs.flatMap fr)
section
variable {g:Zw} {w:World} {l:List As} {m:Ze} {pr cp mp:Nat} {vw vc vt vg vp Si vj:Value} {host f e:Int} {cs up:List CV} {Zt Zl s2:yB} {ps:List WC} {c u:CV} {x:ZS} {i b o:Nat} {ws:List XA} {j:XA}
theorem H8 (H:Sat g w (Wa (up++[c])::l)):Sat g w (Sl 2 1 ZF c.vl c.loc::Sl 2 1 ZF c.vs c.stk::Wa up::l):=by
 have H:=H.unbox
 rw [lIa,lia0] at H
 have H:=(H.box (l1:=up.flatMap fr))
 have H:Sat g w (Wa up::Sl 2 1 ZF c.vl c.loc::Sl 2 1 ZF c.vs c.stk::l):=H
 exact H.Z8 [2,2] fun H=>H
theorem QA (H:Sat g w (Sl 2 1 ZF c.vl c.loc::Sl 2 1 ZF c.vs c.stk::Wa up::l)):Sat g w (Wa (up++[c])::l):=by
 refine H.Z8 [2]<|fun H=>?_
 have H:Sat g w (Qq (up.flatMap fr)::([Sl 2 1 ZF c.vl c.loc,Sl 2 1 ZF c.vs c.stk]++l)):=H
 have H:=H.unbox
 rw [<-lia0] at H
 have H:=H.box
 show Sat g w (Qq ((up++[c]).flatMap fr)::l)
 rw [lIa]
 exact H
theorem Yc (hcs:cs=up++[c]):cs[up.length]?=some c:=by grind
theorem Yb (hcs:cs=up++[c]) (z:CV):cs.set up.length z=up++[z]:=by grind
theorem amL (H:Sat g w (Pt pr [yS cp,vw,vc,yT 0] 148::Pt cp (yV m [yS mp,vt,vg]) 158::Pt mp [vp,yT m.most] 221::Sl 223 256 W8 vp ps::Sl 3 1 ZF vt Zt::Sl 2 1 ZF vg Zl::Sl 79 4 YA vc cs::Wa up::Sl 2 1 ZF c.vl c.loc::Sl 2 1 ZF c.vs c.stk::l)) (hcs:cs=up++[c]) (E:El vc 4 up.length b o) (TQ:0<=c.at_/\c.at_<=1000) (hlen:c.stk.length<=10000) (ho:x.op=0):yC 114 #[yS pr,.pointer (some ⟨b,o,none⟩),.agg #[.int .u8 x.op,yT x.a,yT x.b,Si],vj] w (fun r w'=>r=.agg #[yT 2,.slice none 0 0,yT 20,yT 0,yT 0]/\Sat g w' (Pt pr [yS cp,vw,vc,yT 0] 148::Pt cp (yV m [yS mp,vt,vg]) 158::Pt mp [vp,yT m.most] 221::Sl 223 256 W8 vp ps::Sl 3 1 ZF vt Zt::Sl 2 1 ZF vg Zl::l)):=by
 refine Fc.of Tryz.func114 rfl k_d ?_
 have hx:=Yc hcs
 refine ZJ H<|fun p1 w1 H=>ZV H rfl<|fun p2 w2 H=>Z9 rfl<|yJ (H.el 8 rfl E hx) 1 yI<|ZZ yY<|Z9 rfl<|Ys H 8 rfl E hx 1 (⟨c.fn,c.at_+1,c.vl,c.loc,c.vs,c.stk⟩) rfl rfl rfl rfl<|fun w1 H=>Z9 rfl<|yQ H 1 0 yN<|bk<|cT (ZH yX)<|Zn rfl rfl rfl<|ZI H 0 rfl rfl rfl rfl<|fun w2 H=>XU (H.at 0 rfl) 0 rfl rfl rfl<|Z6.mk ?_
 refine ⟨rfl,?_⟩
 exact H.Z8 [7,7,7,7,7,7]<|fun H=>yH H [11,10,9,8,7,6]<|fun H=>H
theorem amM (H:Sat g w (Pt pr [yS cp,vw,vc,yT 0] 148::Pt cp (yV m [yS mp,vt,vg]) 158::Pt mp [vp,yT m.most] 221::Sl 223 256 W8 vp ps::Sl 3 1 ZF vt Zt::Sl 2 1 ZF vg Zl::Sl 79 4 YA vc cs::Wa up::Sl 2 1 ZF c.vl c.loc::Sl 2 1 ZF c.vs c.stk::l)) (hcs:cs=up++[c]) (E:El vc 4 up.length b o) (TQ:0<=c.at_/\c.at_<=1000) (hlen:c.stk.length<=10000) (ho:x.op=1\/x.op=2\/x.op=3):yC 114 #[yS pr,.pointer (some ⟨b,o,none⟩),.agg #[.int .u8 x.op,yT x.a,yT x.b,Si],vj] w (fun r w'=>r=.agg #[yT 0,.slice none 0 0,yT 0,yT 0,yT 0]/\Sat g w' (Pt pr [yS cp,vw,vc,yT 0] 148::Pt cp (yV m [yS mp,vt,vg]) 158::Pt mp [vp,yT m.most] 221::Sl 223 256 W8 vp ps::Sl 3 1 ZF vt Zt::Sl 2 1 ZF vg Zl::Sl 79 4 YA vc (up++[⟨c.fn,c.at_+1,c.vl,c.loc,c.vs,c.stk⟩])::Wa up::Sl 2 1 ZF c.vl c.loc::Sl 2 1 ZF c.vs c.stk::l)):=by
 refine Fc.of Tryz.func114 rfl k_d ?_
 have hx:=Yc hcs
 have Wy:=Yb hcs
 rcases ho with ho|ho|ho
 .refine ZJ H<|fun p1 w1 H=>ZV H rfl<|fun p2 w2 H=>Z9 rfl<|yJ (H.el 8 rfl E hx) 1 yI<|ZZ yY<|Z9 rfl<|Ys H 8 rfl E hx 1 (⟨c.fn,c.at_+1,c.vl,c.loc,c.vs,c.stk⟩) rfl rfl rfl rfl<|fun w1 H=>Z9 rfl<|yQ H 1 0 yN<|bk<|cF (Z4 yY)<|cT (ZH yX)<|cT (ZH yX)<|Zn rfl rfl rfl<|ZI H 0 rfl rfl rfl rfl<|fun w2 H=>XU (H.at 0 rfl) 0 rfl rfl rfl<|Z6.mk ?_
  refine ⟨rfl,?_⟩
  refine H.Z8 [11,11,11,11,11,11,11,11,11,11]<|fun H=>yH H [11,10]<|fun H=>?_
  refine H.cg (YC rfl (YC rfl (YC rfl (YC rfl (YC rfl (YC rfl (YC (P9 ?_) (YC rfl (YC rfl (YC rfl (rfl)))))))))))
  exact Wy _
 .refine ZJ H<|fun p1 w1 H=>ZV H rfl<|fun p2 w2 H=>Z9 rfl<|yJ (H.el 8 rfl E hx) 1 yI<|ZZ yY<|Z9 rfl<|Ys H 8 rfl E hx 1 (⟨c.fn,c.at_+1,c.vl,c.loc,c.vs,c.stk⟩) rfl rfl rfl rfl<|fun w1 H=>Z9 rfl<|yQ H 1 0 yN<|bk<|cF (Z4 yY)<|cF (Z4 yY)<|cT (ZH yX)<|cT (ZH yX)<|Zn rfl rfl rfl<|ZI H 0 rfl rfl rfl rfl<|fun w2 H=>XU (H.at 0 rfl) 0 rfl rfl rfl<|Z6.mk ?_
  refine ⟨rfl,?_⟩
  refine H.Z8 [11,11,11,11,11,11,11,11,11,11]<|fun H=>yH H [11,10]<|fun H=>?_
  refine H.cg (YC rfl (YC rfl (YC rfl (YC rfl (YC rfl (YC rfl (YC (P9 ?_) (YC rfl (YC rfl (YC rfl (rfl)))))))))))
  exact Wy _
 .refine ZJ H<|fun p1 w1 H=>ZV H rfl<|fun p2 w2 H=>Z9 rfl<|yJ (H.el 8 rfl E hx) 1 yI<|ZZ yY<|Z9 rfl<|Ys H 8 rfl E hx 1 (⟨c.fn,c.at_+1,c.vl,c.loc,c.vs,c.stk⟩) rfl rfl rfl rfl<|fun w1 H=>Z9 rfl<|yQ H 1 0 yN<|bk<|cF (Z4 yY)<|cF (Z4 yY)<|cF (Z4 yY)<|cT (ZH yX)<|Zn rfl rfl rfl<|ZI H 0 rfl rfl rfl rfl<|fun w2 H=>XU (H.at 0 rfl) 0 rfl rfl rfl<|Z6.mk ?_
  refine ⟨rfl,?_⟩
  refine H.Z8 [11,11,11,11,11,11,11,11,11,11]<|fun H=>yH H [11,10]<|fun H=>?_
  refine H.cg (YC rfl (YC rfl (YC rfl (YC rfl (YC rfl (YC rfl (YC (P9 ?_) (YC rfl (YC rfl (YC rfl (rfl)))))))))))
  exact Wy _
theorem akl (H:Sat g w (Pt pr [yS cp,vw,vc,yT 0] 148::Pt cp (yV m [yS mp,vt,vg]) 158::Pt mp [vp,yT m.most] 221::Sl 223 256 W8 vp ps::Sl 3 1 ZF vt Zt::Sl 2 1 ZF vg Zl::Sl 79 4 YA vc cs::Wa up::Sl 2 1 ZF c.vl c.loc::Sl 2 1 ZF c.vs c.stk::l)) (hcs:cs=up++[c]) (E:El vc 4 up.length b o) (TQ:0<=c.at_/\c.at_<=1000) (hlen:c.stk.length<=10000) (hj:Z0 g Nn Ce 3 vj ws) (hjn:0<=j.height) (zX:0<=j.keep) (Ff:ws.length<=100) (ho:x.op=12\/x.op=15) (hw:ws[0]?=some j) (hjf:j.height+j.keep<=c.stk.length):yC 114 #[yS pr,.pointer (some ⟨b,o,none⟩),.agg #[.int .u8 x.op,yT x.a,yT x.b,Si],vj] w (fun r w'=>∃vs',r=.agg #[yT 0,.slice none 0 0,yT 0,yT 0,yT 0]/\Sat g w' (Pt pr [yS cp,vw,vc,yT 0] 148::Pt cp (yV m [yS mp,vt,vg]) 158::Pt mp [vp,yT m.most] 221::Sl 223 256 W8 vp ps::Sl 3 1 ZF vt Zt::Sl 2 1 ZF vg Zl::Sl 79 4 YA vc (up++[⟨c.fn,j.at_,c.vl,c.loc,vs',(c.stk.take j.height.toNat++c.stk.drop (c.stk.length-j.keep.toNat))⟩])::Wa up::Sl 2 1 ZF c.vl c.loc::Sl 2 1 ZF vs' (c.stk.take j.height.toNat++c.stk.drop (c.stk.length-j.keep.toNat))::l)):=by
 refine Fc.of Tryz.func114 rfl k_d ?_
 have hx:=Yc hcs
 have Wy:=Yb hcs
 rcases ho with ho|ho
 .refine ZJ H<|fun p1 w1 H=>ZV H rfl<|fun p2 w2 H=>Z9 rfl<|yJ (H.el 8 rfl E hx) 1 yI<|ZZ yY<|Z9 rfl<|Ys H 8 rfl E hx 1 (⟨c.fn,c.at_+1,c.vl,c.loc,c.vs,c.stk⟩) rfl rfl rfl rfl<|fun w1 H=>Z9 rfl<|yQ H 1 0 yN<|bk ?_
  simp only [Wy] at H
  have hx1:(up++[(⟨c.fn,c.at_+1,c.vl,c.loc,c.vs,c.stk⟩:CV)])[up.length]?=some (⟨c.fn,c.at_+1,c.vl,c.loc,c.vs,c.stk⟩:CV):=Yc rfl
  clear hx
  have Wl:∀z,(up++[(⟨c.fn,c.at_+1,c.vl,c.loc,c.vs,c.stk⟩:CV)]).set up.length z=up++[z]:=Yb rfl
  refine cF (Z4 yY)<|cF (Z4 yY)<|cF (Z4 yY)<|cF (Z4 yY)<|cF (Z4 yY)<|cT (ZH yX)<|cT (ZH yX) ?_
  obtain ⟨b1,o1,E1,F1,ZL⟩:=Z0.Zc hj hw
  refine ZK E1 rfl rfl rfl<|ZD (H.Yu F1) 0 rfl rfl rfl<|H.Z8 [11,9]<|fun H=>?_
  refine Z7.mk (Fc.imp (Rn.K7 E _ hx1 H _ yY yY yY ?_) ?_)
  .grind
  rintro v' w2 ⟨Zo,H⟩
  refine Zn rfl rfl rfl<|ZI H 2 rfl rfl rfl rfl<|fun w3 H=>XU (H.at 2 rfl) 0 rfl rfl rfl<|Z6.mk ?_
  refine ⟨Zo,?_⟩
  refine ⟨rfl,?_⟩
  refine H.Z8 [1,11,11,3,11,11,11,11,11,11]<|fun H=>yH H [11,10]<|fun H=>?_
  refine H.cg (YC rfl (YC rfl (YC rfl (YC rfl (YC rfl (YC rfl (YC (P9 ?_) (YC rfl (YC rfl (YC rfl (rfl)))))))))))
  exact Wl _
 .refine ZJ H<|fun p1 w1 H=>ZV H rfl<|fun p2 w2 H=>Z9 rfl<|yJ (H.el 8 rfl E hx) 1 yI<|ZZ yY<|Z9 rfl<|Ys H 8 rfl E hx 1 (⟨c.fn,c.at_+1,c.vl,c.loc,c.vs,c.stk⟩) rfl rfl rfl rfl<|fun w1 H=>Z9 rfl<|yQ H 1 0 yN<|bk ?_
  simp only [Wy] at H
  have hx1:(up++[(⟨c.fn,c.at_+1,c.vl,c.loc,c.vs,c.stk⟩:CV)])[up.length]?=some (⟨c.fn,c.at_+1,c.vl,c.loc,c.vs,c.stk⟩:CV):=Yc rfl
  clear hx
  have Wl:∀z,(up++[(⟨c.fn,c.at_+1,c.vl,c.loc,c.vs,c.stk⟩:CV)]).set up.length z=up++[z]:=Yb rfl
  refine cF (Z4 yY)<|cF (Z4 yY)<|cF (Z4 yY)<|cF (Z4 yY)<|cF (Z4 yY)<|cF (Z4 yY)<|cT (ZH yX) ?_
  obtain ⟨b1,o1,E1,F1,ZL⟩:=Z0.Zc hj hw
  refine ZK E1 rfl rfl rfl<|ZD (H.Yu F1) 0 rfl rfl rfl<|H.Z8 [11,9]<|fun H=>?_
  refine Z7.mk (Fc.imp (Rn.K7 E _ hx1 H _ yY yY yY ?_) ?_)
  .grind
  rintro v' w2 ⟨Zo,H⟩
  refine Zn rfl rfl rfl<|ZI H 2 rfl rfl rfl rfl<|fun w3 H=>XU (H.at 2 rfl) 0 rfl rfl rfl<|Z6.mk ?_
  refine ⟨Zo,?_⟩
  refine ⟨rfl,?_⟩
  refine H.Z8 [1,11,11,3,11,11,11,11,11,11]<|fun H=>yH H [11,10]<|fun H=>?_
  refine H.cg (YC rfl (YC rfl (YC rfl (YC rfl (YC rfl (YC rfl (YC (P9 ?_) (YC rfl (YC rfl (YC rfl (rfl)))))))))))
  exact Wl _
theorem aiT (H:Sat g w (Pt pr [yS cp,vw,vc,yT 0] 148::Pt cp (yV m [yS mp,vt,vg]) 158::Pt mp [vp,yT m.most] 221::Sl 223 256 W8 vp ps::Sl 3 1 ZF vt Zt::Sl 2 1 ZF vg Zl::Sl 79 4 YA vc cs::Wa up::Sl 2 1 ZF c.vl c.loc::Sl 2 1 ZF c.vs c.stk::l)) (hcs:cs=up++[c]) (E:El vc 4 up.length b o) (TQ:0<=c.at_/\c.at_<=1000) (hlen:c.stk.length<=10000) (hj:Z0 g Nn Ce 3 vj ws) (hjn:0<=j.height) (zX:0<=j.keep) (Ff:ws.length<=100) (h1:1<=c.stk.length) (ho:(x.op=4/\top c.stk 0=0)\/(x.op=13/\top c.stk 0≠0)) (hw:ws[0]?=some j) (hjf:j.height+j.keep<=(low c.stk 1).length):yC 114 #[yS pr,.pointer (some ⟨b,o,none⟩),.agg #[.int .u8 x.op,yT x.a,yT x.b,Si],vj] w (fun r w'=>∃vs',r=.agg #[yT 0,.slice none 0 0,yT 0,yT 0,yT 0]/\Sat g w' (Pt pr [yS cp,vw,vc,yT 0] 148::Pt cp (yV m [yS mp,vt,vg]) 158::Pt mp [vp,yT m.most] 221::Sl 223 256 W8 vp ps::Sl 3 1 ZF vt Zt::Sl 2 1 ZF vg Zl::Sl 79 4 YA vc (up++[⟨c.fn,j.at_,c.vl,c.loc,vs',((low c.stk 1).take j.height.toNat++(low c.stk 1).drop ((low c.stk 1).length-j.keep.toNat))⟩])::Wa up::Sl 2 1 ZF c.vl c.loc::Sl 2 1 ZF vs' ((low c.stk 1).take j.height.toNat++(low c.stk 1).drop ((low c.stk 1).length-j.keep.toNat))::l)):=by
 refine Fc.of Tryz.func114 rfl k_d ?_
 have hx:=Yc hcs
 have Wy:=Yb hcs
 have Qt:(low c.stk 1).length=c.stk.length-1:=Nl
 rcases ho with ⟨ho,hz⟩|⟨ho,hz⟩
 .refine ZJ H<|fun p1 w1 H=>ZV H rfl<|fun p2 w2 H=>Z9 rfl<|yJ (H.el 8 rfl E hx) 1 yI<|ZZ yY<|Z9 rfl<|Ys H 8 rfl E hx 1 (⟨c.fn,c.at_+1,c.vl,c.loc,c.vs,c.stk⟩) rfl rfl rfl rfl<|fun w1 H=>Z9 rfl<|yQ H 1 0 yN<|bk ?_
  simp only [Wy] at H
  have hx1:(up++[(⟨c.fn,c.at_+1,c.vl,c.loc,c.vs,c.stk⟩:CV)])[up.length]?=some (⟨c.fn,c.at_+1,c.vl,c.loc,c.vs,c.stk⟩:CV):=Yc rfl
  clear hx
  have Wl:∀z,(up++[(⟨c.fn,c.at_+1,c.vl,c.loc,c.vs,c.stk⟩:CV)]).set up.length z=up++[z]:=Yb rfl
  refine cF (Z4 yY)<|cF (Z4 yY)<|cF (Z4 yY)<|cF (Z4 yY)<|cT (ZH yX)<|H.Z8 [11,9]<|fun H=>?_
  refine Z7.mk (Fc.imp (Rn.Jc E _ hx1 H yY ?_) ?_)
  .grind
  rintro _ w2 ⟨Zo,⟨t1,⟨rfl,⟨h2,H⟩⟩⟩⟩
  simp only [Wl] at H
  replace h2:t1=top c.stk 0:=h2
  clear hx1
  have Tg:(up++[(⟨c.fn,c.at_+1,c.vl,c.loc,Zo,low c.stk 1⟩:CV)])[up.length]?=some (⟨c.fn,c.at_+1,c.vl,c.loc,Zo,low c.stk 1⟩:CV):=Yc rfl
  have Pn:∀z,(up++[(⟨c.fn,c.at_+1,c.vl,c.loc,Zo,low c.stk 1⟩:CV)]).set up.length z=up++[z]:=Yb rfl
  refine cT (ZH yY) ?_
  obtain ⟨b1,o1,E1,F1,ZL⟩:=Z0.Zc hj hw
  refine ZK E1 rfl rfl rfl<|ZD (H.Yu F1) 0 rfl rfl rfl ?_
  refine Z7.mk (Fc.imp (Rn.K7 E _ Tg H _ yY yY yY ?_) ?_)
  .grind
  rintro v' w3 ⟨VH,H⟩
  refine Zn rfl rfl rfl<|ZI H 2 rfl rfl rfl rfl<|fun w4 H=>XU (H.at 2 rfl) 0 rfl rfl rfl<|Z6.mk ?_
  refine ⟨VH,?_⟩
  refine ⟨rfl,?_⟩
  refine H.Z8 [1,11,11,3,11,11,11,11,11,11]<|fun H=>yH H [11,10]<|fun H=>?_
  refine H.cg (YC rfl (YC rfl (YC rfl (YC rfl (YC rfl (YC rfl (YC (P9 ?_) (YC rfl (YC rfl (YC rfl (rfl)))))))))))
  exact Pn _
 .refine ZJ H<|fun p1 w1 H=>ZV H rfl<|fun p2 w2 H=>Z9 rfl<|yJ (H.el 8 rfl E hx) 1 yI<|ZZ yY<|Z9 rfl<|Ys H 8 rfl E hx 1 (⟨c.fn,c.at_+1,c.vl,c.loc,c.vs,c.stk⟩) rfl rfl rfl rfl<|fun w1 H=>Z9 rfl<|yQ H 1 0 yN<|bk ?_
  simp only [Wy] at H
  have hx1:(up++[(⟨c.fn,c.at_+1,c.vl,c.loc,c.vs,c.stk⟩:CV)])[up.length]?=some (⟨c.fn,c.at_+1,c.vl,c.loc,c.vs,c.stk⟩:CV):=Yc rfl
  clear hx
  have Wl:∀z,(up++[(⟨c.fn,c.at_+1,c.vl,c.loc,c.vs,c.stk⟩:CV)]).set up.length z=up++[z]:=Yb rfl
  refine cF (Z4 yY)<|cF (Z4 yY)<|cF (Z4 yY)<|cF (Z4 yY)<|cF (Z4 yY)<|cF (Z4 yY)<|cF (Z4 yY)<|cT (ZH yX)<|H.Z8 [11,9]<|fun H=>?_
  refine Z7.mk (Fc.imp (Rn.Jc E _ hx1 H yY ?_) ?_)
  .grind
  rintro _ w2 ⟨Zo,⟨t1,⟨rfl,⟨h2,H⟩⟩⟩⟩
  simp only [Wl] at H
  replace h2:t1=top c.stk 0:=h2
  clear hx1
  have Tg:(up++[(⟨c.fn,c.at_+1,c.vl,c.loc,Zo,low c.stk 1⟩:CV)])[up.length]?=some (⟨c.fn,c.at_+1,c.vl,c.loc,Zo,low c.stk 1⟩:CV):=Yc rfl
  have Pn:∀z,(up++[(⟨c.fn,c.at_+1,c.vl,c.loc,Zo,low c.stk 1⟩:CV)]).set up.length z=up++[z]:=Yb rfl
  refine cT (Xk yY) ?_
  obtain ⟨b1,o1,E1,F1,ZL⟩:=Z0.Zc hj hw
  refine ZK E1 rfl rfl rfl<|ZD (H.Yu F1) 0 rfl rfl rfl ?_
  refine Z7.mk (Fc.imp (Rn.K7 E _ Tg H _ yY yY yY ?_) ?_)
  .grind
  rintro v' w3 ⟨VH,H⟩
  refine Zn rfl rfl rfl<|ZI H 2 rfl rfl rfl rfl<|fun w4 H=>XU (H.at 2 rfl) 0 rfl rfl rfl<|Z6.mk ?_
  refine ⟨VH,?_⟩
  refine ⟨rfl,?_⟩
  refine H.Z8 [1,11,11,3,11,11,11,11,11,11]<|fun H=>yH H [11,10]<|fun H=>?_
  refine H.cg (YC rfl (YC rfl (YC rfl (YC rfl (YC rfl (YC rfl (YC (P9 ?_) (YC rfl (YC rfl (YC rfl (rfl)))))))))))
  exact Pn _
theorem aiU (H:Sat g w (Pt pr [yS cp,vw,vc,yT 0] 148::Pt cp (yV m [yS mp,vt,vg]) 158::Pt mp [vp,yT m.most] 221::Sl 223 256 W8 vp ps::Sl 3 1 ZF vt Zt::Sl 2 1 ZF vg Zl::Sl 79 4 YA vc cs::Wa up::Sl 2 1 ZF c.vl c.loc::Sl 2 1 ZF c.vs c.stk::l)) (hcs:cs=up++[c]) (E:El vc 4 up.length b o) (TQ:0<=c.at_/\c.at_<=1000) (hlen:c.stk.length<=10000) (h1:1<=c.stk.length) (ho:(x.op=4/\top c.stk 0≠0)\/(x.op=13/\top c.stk 0=0)):yC 114 #[yS pr,.pointer (some ⟨b,o,none⟩),.agg #[.int .u8 x.op,yT x.a,yT x.b,Si],vj] w (fun r w'=>∃vs',r=.agg #[yT 0,.slice none 0 0,yT 0,yT 0,yT 0]/\Sat g w' (Pt pr [yS cp,vw,vc,yT 0] 148::Pt cp (yV m [yS mp,vt,vg]) 158::Pt mp [vp,yT m.most] 221::Sl 223 256 W8 vp ps::Sl 3 1 ZF vt Zt::Sl 2 1 ZF vg Zl::Sl 79 4 YA vc (up++[⟨c.fn,c.at_+1,c.vl,c.loc,vs',(low c.stk 1)⟩])::Wa up::Sl 2 1 ZF c.vl c.loc::Sl 2 1 ZF vs' (low c.stk 1)::l)):=by
 refine Fc.of Tryz.func114 rfl k_d ?_
 have hx:=Yc hcs
 have Wy:=Yb hcs
 have Qt:(low c.stk 1).length=c.stk.length-1:=Nl
 rcases ho with ⟨ho,hz⟩|⟨ho,hz⟩
 .refine ZJ H<|fun p1 w1 H=>ZV H rfl<|fun p2 w2 H=>Z9 rfl<|yJ (H.el 8 rfl E hx) 1 yI<|ZZ yY<|Z9 rfl<|Ys H 8 rfl E hx 1 (⟨c.fn,c.at_+1,c.vl,c.loc,c.vs,c.stk⟩) rfl rfl rfl rfl<|fun w1 H=>Z9 rfl<|yQ H 1 0 yN<|bk ?_
  simp only [Wy] at H
  have hx1:(up++[(⟨c.fn,c.at_+1,c.vl,c.loc,c.vs,c.stk⟩:CV)])[up.length]?=some (⟨c.fn,c.at_+1,c.vl,c.loc,c.vs,c.stk⟩:CV):=Yc rfl
  clear hx
  have Wl:∀z,(up++[(⟨c.fn,c.at_+1,c.vl,c.loc,c.vs,c.stk⟩:CV)]).set up.length z=up++[z]:=Yb rfl
  refine cF (Z4 yY)<|cF (Z4 yY)<|cF (Z4 yY)<|cF (Z4 yY)<|cT (ZH yX)<|H.Z8 [11,9]<|fun H=>?_
  refine Z7.mk (Fc.imp (Rn.Jc E _ hx1 H yY ?_) ?_)
  .grind
  rintro _ w2 ⟨Zo,⟨t1,⟨rfl,⟨h2,H⟩⟩⟩⟩
  simp only [Wl] at H
  replace h2:t1=top c.stk 0:=h2
  clear hx1
  have Tg:(up++[(⟨c.fn,c.at_+1,c.vl,c.loc,Zo,low c.stk 1⟩:CV)])[up.length]?=some (⟨c.fn,c.at_+1,c.vl,c.loc,Zo,low c.stk 1⟩:CV):=Yc rfl
  have Pn:∀z,(up++[(⟨c.fn,c.at_+1,c.vl,c.loc,Zo,low c.stk 1⟩:CV)]).set up.length z=up++[z]:=Yb rfl
  refine cF (Z4 yY)<|Zn rfl rfl rfl<|ZI H 2 rfl rfl rfl rfl<|fun w3 H=>XU (H.at 2 rfl) 0 rfl rfl rfl<|Z6.mk ?_
  refine ⟨Zo,?_⟩
  refine ⟨rfl,?_⟩
  exact H.Z8 [1,11,11,3,11,11,11,11,11,11]<|fun H=>yH H [11,10]<|fun H=>H
 .refine ZJ H<|fun p1 w1 H=>ZV H rfl<|fun p2 w2 H=>Z9 rfl<|yJ (H.el 8 rfl E hx) 1 yI<|ZZ yY<|Z9 rfl<|Ys H 8 rfl E hx 1 (⟨c.fn,c.at_+1,c.vl,c.loc,c.vs,c.stk⟩) rfl rfl rfl rfl<|fun w1 H=>Z9 rfl<|yQ H 1 0 yN<|bk ?_
  simp only [Wy] at H
  have hx1:(up++[(⟨c.fn,c.at_+1,c.vl,c.loc,c.vs,c.stk⟩:CV)])[up.length]?=some (⟨c.fn,c.at_+1,c.vl,c.loc,c.vs,c.stk⟩:CV):=Yc rfl
  clear hx
  have Wl:∀z,(up++[(⟨c.fn,c.at_+1,c.vl,c.loc,c.vs,c.stk⟩:CV)]).set up.length z=up++[z]:=Yb rfl
  refine cF (Z4 yY)<|cF (Z4 yY)<|cF (Z4 yY)<|cF (Z4 yY)<|cF (Z4 yY)<|cF (Z4 yY)<|cF (Z4 yY)<|cT (ZH yX)<|H.Z8 [11,9]<|fun H=>?_
  refine Z7.mk (Fc.imp (Rn.Jc E _ hx1 H yY ?_) ?_)
  .grind
  rintro _ w2 ⟨Zo,⟨t1,⟨rfl,⟨h2,H⟩⟩⟩⟩
  simp only [Wl] at H
  replace h2:t1=top c.stk 0:=h2
  clear hx1
  have Tg:(up++[(⟨c.fn,c.at_+1,c.vl,c.loc,Zo,low c.stk 1⟩:CV)])[up.length]?=some (⟨c.fn,c.at_+1,c.vl,c.loc,Zo,low c.stk 1⟩:CV):=Yc rfl
  have Pn:∀z,(up++[(⟨c.fn,c.at_+1,c.vl,c.loc,Zo,low c.stk 1⟩:CV)]).set up.length z=up++[z]:=Yb rfl
  refine cF (Yo yY)<|Zn rfl rfl rfl<|ZI H 2 rfl rfl rfl rfl<|fun w3 H=>XU (H.at 2 rfl) 0 rfl rfl rfl<|Z6.mk ?_
  refine ⟨Zo,?_⟩
  refine ⟨rfl,?_⟩
  exact H.Z8 [1,11,11,3,11,11,11,11,11,11]<|fun H=>yH H [11,10]<|fun H=>H
theorem akm (H:Sat g w (Pt pr [yS cp,vw,vc,yT 0] 148::Pt cp (yV m [yS mp,vt,vg]) 158::Pt mp [vp,yT m.most] 221::Sl 223 256 W8 vp ps::Sl 3 1 ZF vt Zt::Sl 2 1 ZF vg Zl::Sl 79 4 YA vc cs::Wa up::Sl 2 1 ZF c.vl c.loc::Sl 2 1 ZF c.vs c.stk::l)) (hcs:cs=up++[c]) (E:El vc 4 up.length b o) (TQ:0<=c.at_/\c.at_<=1000) (hlen:c.stk.length<=10000) (hj:Z0 g Nn Ce 3 vj ws) (hjn:0<=j.height) (zX:0<=j.keep) (Ff:ws.length<=100) (h1:1<=c.stk.length) (Ur:XS (top c.stk 0)) (ho:x.op=14) (hw0:1<=ws.length) (hw:ws[(min (top c.stk 0 % 4294967296) (ws.length-1)).toNat]?=some j) (hjf:j.height+j.keep<=(low c.stk 1).length):yC 114 #[yS pr,.pointer (some ⟨b,o,none⟩),.agg #[.int .u8 x.op,yT x.a,yT x.b,Si],vj] w (fun r w'=>∃vs',r=.agg #[yT 0,.slice none 0 0,yT 0,yT 0,yT 0]/\Sat g w' (Pt pr [yS cp,vw,vc,yT 0] 148::Pt cp (yV m [yS mp,vt,vg]) 158::Pt mp [vp,yT m.most] 221::Sl 223 256 W8 vp ps::Sl 3 1 ZF vt Zt::Sl 2 1 ZF vg Zl::Sl 79 4 YA vc (up++[⟨c.fn,j.at_,c.vl,c.loc,vs',((low c.stk 1).take j.height.toNat++(low c.stk 1).drop ((low c.stk 1).length-j.keep.toNat))⟩])::Wa up::Sl 2 1 ZF c.vl c.loc::Sl 2 1 ZF vs' ((low c.stk 1).take j.height.toNat++(low c.stk 1).drop ((low c.stk 1).length-j.keep.toNat))::l)):=by
 refine Fc.of Tryz.func114 rfl k_d ?_
 have hx:=Yc hcs
 have Wy:=Yb hcs
 have Qt:(low c.stk 1).length=c.stk.length-1:=Nl
 refine ZJ H<|fun p1 w1 H=>ZV H rfl<|fun p2 w2 H=>Z9 rfl<|yJ (H.el 8 rfl E hx) 1 yI<|ZZ yY<|Z9 rfl<|Ys H 8 rfl E hx 1 (⟨c.fn,c.at_+1,c.vl,c.loc,c.vs,c.stk⟩) rfl rfl rfl rfl<|fun w1 H=>Z9 rfl<|yQ H 1 0 yN<|bk ?_
 simp only [Wy] at H
 have hx1:(up++[(⟨c.fn,c.at_+1,c.vl,c.loc,c.vs,c.stk⟩:CV)])[up.length]?=some (⟨c.fn,c.at_+1,c.vl,c.loc,c.vs,c.stk⟩:CV):=Yc rfl
 clear hx
 have Wl:∀z,(up++[(⟨c.fn,c.at_+1,c.vl,c.loc,c.vs,c.stk⟩:CV)]).set up.length z=up++[z]:=Yb rfl
 refine cF (Z4 yY)<|cF (Z4 yY)<|cF (Z4 yY)<|cF (Z4 yY)<|cF (Z4 yY)<|cF (Z4 yY)<|cF (Z4 yY)<|cF (Z4 yY)<|cT (ZH yX)<|H.Z8 [11,9]<|fun H=>?_
 refine Z7.mk (Fc.imp (Rn.Jc E _ hx1 H yY ?_) ?_)
 .grind
 rintro _ w2 ⟨Zo,⟨t1,⟨rfl,⟨h2,H⟩⟩⟩⟩
 simp only [Wl] at H
 replace h2:t1=top c.stk 0:=h2
 clear hx1
 have Tg:(up++[(⟨c.fn,c.at_+1,c.vl,c.loc,Zo,low c.stk 1⟩:CV)])[up.length]?=some (⟨c.fn,c.at_+1,c.vl,c.loc,Zo,low c.stk 1⟩:CV):=Yc rfl
 have Pn:∀z,(up++[(⟨c.fn,c.at_+1,c.vl,c.loc,Zo,low c.stk 1⟩:CV)]).set up.length z=up++[z]:=Yb rfl
 have EX:ws[(min (t1 % 4294967296) (ws.length-1)).toNat]?=some j:=by grind
 have apH:XS t1:=by rw [h2];exact Ur
 refine Ye rfl rfl<|XR yY rfl rfl<|ZG hj rfl<|ZZ yY<|akS ?_
 obtain ⟨b1,o1,E1,F1,ZL⟩:=Z0.Zc hj EX
 refine ZK E1 yY rfl rfl<|ZD (H.Yu F1) 0 rfl rfl rfl ?_
 refine Z7.mk (Fc.imp (Rn.K7 E _ Tg H _ yY yY yY ?_) ?_)
 .grind
 rintro v' w3 ⟨VH,H⟩
 refine Zn rfl rfl rfl<|ZI H 2 rfl rfl rfl rfl<|fun w4 H=>XU (H.at 2 rfl) 0 rfl rfl rfl<|Z6.mk ?_
 refine ⟨VH,?_⟩
 refine ⟨rfl,?_⟩
 refine H.Z8 [1,11,11,3,11,11,11,11,11,11]<|fun H=>yH H [11,10]<|fun H=>?_
 refine H.cg (YC rfl (YC rfl (YC rfl (YC rfl (YC rfl (YC rfl (YC (P9 ?_) (YC rfl (YC rfl (YC rfl (rfl)))))))))))
 exact Pn _
end
end Rn
namespace Rn
open Go YX Go.RowKit
open YQ Zh Yg YO Valid Mem
section
variable {g:Zw} {w:World} {l:List As} {m:Ze} {pr cp mp:Nat} {vw vc vt vg vp Si vj:Value} {host f e:Int} {cs up:List CV} {Zt Zl s2:yB} {ps:List WC} {c u:CV} {x:ZS} {i b o:Nat} {ws:List XA} {j:XA}
theorem akn (H:Sat g w (Pt pr [yS cp,vw,vc,yT 0] 148::Pt cp (yV m [yS mp,vt,vg]) 158::Pt mp [vp,yT m.most] 221::Sl 223 256 W8 vp ps::Sl 3 1 ZF vt Zt::Sl 2 1 ZF vg Zl::Sl 79 4 YA vc cs::Wa up::Sl 2 1 ZF c.vl c.loc::Sl 2 1 ZF c.vs c.stk::l)) (hcs:cs=up++[c]) (E:El vc 4 up.length b o) (TQ:0<=c.at_/\c.at_<=1000) (hlen:c.stk.length<=10000) (hm:XH g m) (P:Uy m.d) (ho:x.op=16\/x.op=17) (Qs:∀n∈Zt,-1<=n/\n<(m.Zy.length:Int)+m.funcs.length) (h1:x.op=17->1<=c.stk.length/\0<=x.a/\x.a<m.types.length) (Ur:∀v∈c.stk,XS v) (Pg:Zt.length<=1000) (Va:cs.length<=40) (hq:YS m.d Zt x c.stk=(f,s2,e)) (he:e≠0):yC 114 #[yS pr,.pointer (some ⟨b,o,none⟩),.agg #[.int .u8 x.op,yT x.a,yT x.b,Si],vj] w (fun r w'=>r=.agg #[yT 2,.slice none 0 0,yT e,yT 0,yT 0]/\Sat g w' (Pt pr [yS cp,vw,vc,yT 0] 148::Pt cp (yV m [yS mp,vt,vg]) 158::Pt mp [vp,yT m.most] 221::Sl 223 256 W8 vp ps::Sl 3 1 ZF vt Zt::Sl 2 1 ZF vg Zl::l)):=by
 refine Fc.of Tryz.func114 rfl k_d ?_
 have hx:=Yc hcs
 have Wy:=Yb hcs
 have hvl:=H.one 8 rfl
 have CM:up.length+1=cs.length:=by grind
 refine ZJ H<|fun p1 w1 H=>ZV H rfl<|fun p2 w2 H=>Z9 rfl<|yJ (H.el 8 rfl E hx) 1 yI<|ZZ yY<|Z9 rfl<|Ys H 8 rfl E hx 1 (⟨c.fn,c.at_+1,c.vl,c.loc,c.vs,c.stk⟩) rfl rfl rfl rfl<|fun w1 H=>Z9 rfl<|yQ H 1 0 yN<|bk ?_
 simp only [Wy] at H
 have hx1:(up++[(⟨c.fn,c.at_+1,c.vl,c.loc,c.vs,c.stk⟩:CV)])[up.length]?=some (⟨c.fn,c.at_+1,c.vl,c.loc,c.vs,c.stk⟩:CV):=Yc rfl
 clear hx
 have Wl:∀z,(up++[(⟨c.fn,c.at_+1,c.vl,c.loc,c.vs,c.stk⟩:CV)]).set up.length z=up++[z]:=Yb rfl
 have Ek:(up++[(⟨c.fn,c.at_+1,c.vl,c.loc,c.vs,c.stk⟩:CV)]).length=cs.length:=by grind
 rcases ho with ho|ho
 .refine cF (Z4 yY)<|cF (Z4 yY)<|cF (Z4 yY)<|cF (Z4 yY)<|cF (Z4 yY)<|cF (Z4 yY)<|cF (Z4 yY)<|cF (Z4 yY)<|cF (Z4 yY)<|cT (ZH yX)<|cT (ZH yX)<|ZD (H.at 1 rfl) 0 rfl rfl rfl<|H.Z8 [11,9,8,6,6]<|fun H=>?_
  refine Z7.mk (Fc.imp (Rn.af1 E _ hx1 H yY yY yY yY yY yY yY yY yY yY hq yY) ?_)
  rintro _ w2 ⟨rfl,H⟩
  refine ZI H 3 rfl rfl rfl rfl<|fun w3 H=>XU (H.at 3 rfl) 0 rfl rfl rfl<|Z6.mk ?_
  refine ⟨rfl,?_⟩
  exact H.Z8 [7,3,7,7,5,5]<|fun H=>yH H [9,8,7,6]<|fun H=>H
 .refine cF (Z4 yY)<|cF (Z4 yY)<|cF (Z4 yY)<|cF (Z4 yY)<|cF (Z4 yY)<|cF (Z4 yY)<|cF (Z4 yY)<|cF (Z4 yY)<|cF (Z4 yY)<|cF (Z4 yY)<|cT (ZH yX)<|ZD (H.at 1 rfl) 0 rfl rfl rfl<|H.Z8 [11,9,8,6,6]<|fun H=>?_
  refine Z7.mk (Fc.imp (Rn.af1 E _ hx1 H yY yY yY yY yY yY yY yY yY yY hq yY) ?_)
  rintro _ w2 ⟨rfl,H⟩
  refine ZI H 3 rfl rfl rfl rfl<|fun w3 H=>XU (H.at 3 rfl) 0 rfl rfl rfl<|Z6.mk ?_
  refine ⟨rfl,?_⟩
  exact H.Z8 [7,3,7,7,5,5]<|fun H=>yH H [9,8,7,6]<|fun H=>H
theorem ako (H:Sat g w (Pt pr [yS cp,vw,vc,yT 0] 148::Pt cp (yV m [yS mp,vt,vg]) 158::Pt mp [vp,yT m.most] 221::Sl 223 256 W8 vp ps::Sl 3 1 ZF vt Zt::Sl 2 1 ZF vg Zl::Sl 79 4 YA vc cs::Wa up::Sl 2 1 ZF c.vl c.loc::Sl 2 1 ZF c.vs c.stk::l)) (hcs:cs=up++[c]) (E:El vc 4 up.length b o) (TQ:0<=c.at_/\c.at_<=1000) (hlen:c.stk.length<=10000) (hm:XH g m) (P:Uy m.d) (ho:x.op=16\/x.op=17) (Qs:∀n∈Zt,-1<=n/\n<(m.Zy.length:Int)+m.funcs.length) (h1:x.op=17->1<=c.stk.length/\0<=x.a/\x.a<m.types.length) (Ur:∀v∈c.stk,XS v) (Pg:Zt.length<=1000) (Va:cs.length<=40) (hq:YS m.d Zt x c.stk=(f,s2,0)) (hf:0<=f/\f<(m.Zy.length:Int)+m.funcs.length) (J8:(YG m.d f).Y9.length<=s2.length) (G6:s2.length<=10000) (zj:(m.Zy.length:Int)<=f) (AP:cs.length=40):yC 114 #[yS pr,.pointer (some ⟨b,o,none⟩),.agg #[.int .u8 x.op,yT x.a,yT x.b,Si],vj] w (fun r w'=>r=.agg #[yT 2,.slice none 0 0,yT 26,yT 0,yT 0]/\Sat g w' (Pt pr [yS cp,vw,vc,yT 0] 148::Pt cp (yV m [yS mp,vt,vg]) 158::Pt mp [vp,yT m.most] 221::Sl 223 256 W8 vp ps::Sl 3 1 ZF vt Zt::Sl 2 1 ZF vg Zl::l)):=by
 refine Fc.of Tryz.func114 rfl k_d ?_
 have hx:=Yc hcs
 have Wy:=Yb hcs
 have hvl:=H.one 8 rfl
 have CM:up.length+1=cs.length:=by grind
 refine ZJ H<|fun p1 w1 H=>ZV H rfl<|fun p2 w2 H=>Z9 rfl<|yJ (H.el 8 rfl E hx) 1 yI<|ZZ yY<|Z9 rfl<|Ys H 8 rfl E hx 1 (⟨c.fn,c.at_+1,c.vl,c.loc,c.vs,c.stk⟩) rfl rfl rfl rfl<|fun w1 H=>Z9 rfl<|yQ H 1 0 yN<|bk ?_
 simp only [Wy] at H
 have hx1:(up++[(⟨c.fn,c.at_+1,c.vl,c.loc,c.vs,c.stk⟩:CV)])[up.length]?=some (⟨c.fn,c.at_+1,c.vl,c.loc,c.vs,c.stk⟩:CV):=Yc rfl
 clear hx
 have Wl:∀z,(up++[(⟨c.fn,c.at_+1,c.vl,c.loc,c.vs,c.stk⟩:CV)]).set up.length z=up++[z]:=Yb rfl
 have Ek:(up++[(⟨c.fn,c.at_+1,c.vl,c.loc,c.vs,c.stk⟩:CV)]).length=cs.length:=by grind
 rcases ho with ho|ho
 .refine cF (Z4 yY)<|cF (Z4 yY)<|cF (Z4 yY)<|cF (Z4 yY)<|cF (Z4 yY)<|cF (Z4 yY)<|cF (Z4 yY)<|cF (Z4 yY)<|cF (Z4 yY)<|cT (ZH yX)<|cT (ZH yX)<|ZD (H.at 1 rfl) 0 rfl rfl rfl<|H.Z8 [11,9,8,6,6]<|fun H=>?_
  refine Z7.mk (Fc.imp (Rn.af2 E _ hx1 H yY yY yY yY yY yY yY yY yY yY hq yY yY yY yY yY) ?_)
  rintro _ w2 ⟨rfl,H⟩
  refine ZI H 3 rfl rfl rfl rfl<|fun w3 H=>XU (H.at 3 rfl) 0 rfl rfl rfl<|Z6.mk ?_
  refine ⟨rfl,?_⟩
  exact H.Z8 [7,3,7,7,5,5]<|fun H=>yH H [9,8,7,6]<|fun H=>H
 .refine cF (Z4 yY)<|cF (Z4 yY)<|cF (Z4 yY)<|cF (Z4 yY)<|cF (Z4 yY)<|cF (Z4 yY)<|cF (Z4 yY)<|cF (Z4 yY)<|cF (Z4 yY)<|cF (Z4 yY)<|cT (ZH yX)<|ZD (H.at 1 rfl) 0 rfl rfl rfl<|H.Z8 [11,9,8,6,6]<|fun H=>?_
  refine Z7.mk (Fc.imp (Rn.af2 E _ hx1 H yY yY yY yY yY yY yY yY yY yY hq yY yY yY yY yY) ?_)
  rintro _ w2 ⟨rfl,H⟩
  refine ZI H 3 rfl rfl rfl rfl<|fun w3 H=>XU (H.at 3 rfl) 0 rfl rfl rfl<|Z6.mk ?_
  refine ⟨rfl,?_⟩
  exact H.Z8 [7,3,7,7,5,5]<|fun H=>yH H [9,8,7,6]<|fun H=>H
theorem akp (H:Sat g w (Pt pr [yS cp,vw,vc,yT 0] 148::Pt cp (yV m [yS mp,vt,vg]) 158::Pt mp [vp,yT m.most] 221::Sl 223 256 W8 vp ps::Sl 3 1 ZF vt Zt::Sl 2 1 ZF vg Zl::Sl 79 4 YA vc cs::Wa up::Sl 2 1 ZF c.vl c.loc::Sl 2 1 ZF c.vs c.stk::l)) (hcs:cs=up++[c]) (E:El vc 4 up.length b o) (TQ:0<=c.at_/\c.at_<=1000) (hlen:c.stk.length<=10000) (hm:XH g m) (P:Uy m.d) (ho:x.op=16\/x.op=17) (Qs:∀n∈Zt,-1<=n/\n<(m.Zy.length:Int)+m.funcs.length) (h1:x.op=17->1<=c.stk.length/\0<=x.a/\x.a<m.types.length) (Ur:∀v∈c.stk,XS v) (Pg:Zt.length<=1000) (Va:cs.length<=40) (hq:YS m.d Zt x c.stk=(f,s2,0)) (hf:0<=f/\f<(m.Zy.length:Int)+m.funcs.length) (J8:(YG m.d f).Y9.length<=s2.length) (G6:s2.length<=10000) (zj:f<m.Zy.length):yC 114 #[yS pr,.pointer (some ⟨b,o,none⟩),.agg #[.int .u8 x.op,yT x.a,yT x.b,Si],vj] w (fun r w'=>∃vs' vv,r=.agg #[yT 4,vv,yT 0,yT f,yT 0]/\Sat g w' (Pt pr [yS cp,vw,vc,yT (f+1)] 148::Pt cp (yV m [yS mp,vt,vg]) 158::Pt mp [vp,yT m.most] 221::Sl 223 256 W8 vp ps::Sl 3 1 ZF vt Zt::Sl 2 1 ZF vg Zl::Sl 79 4 YA vc (up++[⟨c.fn,c.at_+1,c.vl,c.loc,vs',s2.take (s2.length-(YG m.d f).Y9.length)⟩])::Wa up::Sl 2 1 ZF c.vl c.loc::Sl 2 1 ZF vs' (s2.take (s2.length-(YG m.d f).Y9.length))::Sl 2 1 ZF vv (s2.drop (s2.length-(YG m.d f).Y9.length))::l)):=by
 refine Fc.of Tryz.func114 rfl k_d ?_
 have hx:=Yc hcs
 have Wy:=Yb hcs
 have hvl:=H.one 8 rfl
 have CM:up.length+1=cs.length:=by grind
 refine ZJ H<|fun p1 w1 H=>ZV H rfl<|fun p2 w2 H=>Z9 rfl<|yJ (H.el 8 rfl E hx) 1 yI<|ZZ yY<|Z9 rfl<|Ys H 8 rfl E hx 1 (⟨c.fn,c.at_+1,c.vl,c.loc,c.vs,c.stk⟩) rfl rfl rfl rfl<|fun w1 H=>Z9 rfl<|yQ H 1 0 yN<|bk ?_
 simp only [Wy] at H
 have hx1:(up++[(⟨c.fn,c.at_+1,c.vl,c.loc,c.vs,c.stk⟩:CV)])[up.length]?=some (⟨c.fn,c.at_+1,c.vl,c.loc,c.vs,c.stk⟩:CV):=Yc rfl
 clear hx
 have Wl:∀z,(up++[(⟨c.fn,c.at_+1,c.vl,c.loc,c.vs,c.stk⟩:CV)]).set up.length z=up++[z]:=Yb rfl
 have Ek:(up++[(⟨c.fn,c.at_+1,c.vl,c.loc,c.vs,c.stk⟩:CV)]).length=cs.length:=by grind
 rcases ho with ho|ho
 .refine cF (Z4 yY)<|cF (Z4 yY)<|cF (Z4 yY)<|cF (Z4 yY)<|cF (Z4 yY)<|cF (Z4 yY)<|cF (Z4 yY)<|cF (Z4 yY)<|cF (Z4 yY)<|cT (ZH yX)<|cT (ZH yX)<|ZD (H.at 1 rfl) 0 rfl rfl rfl<|H.Z8 [11,9,8,6,6]<|fun H=>?_
  refine Z7.mk (Fc.imp (Rn.af3 E _ hx1 H yY yY yY yY yY yY yY yY yY yY hq yY yY yY yY) ?_)
  rintro _ w2 ⟨Zo,⟨Ax,⟨rfl,H⟩⟩⟩
  refine ZI H 6 rfl rfl rfl (by simp only [List.all_cons,List.all_nil,H.one 2 rfl,H.one 3 rfl,H.one 4 rfl,H.one 5 rfl,H.one 9 rfl,H.one 10 rfl,H.one 12 rfl,hvl];rfl)<|fun w3 H=>XU (H.at 6 rfl) 0 rfl rfl rfl<|Z6.mk ?_
  refine ⟨Zo,Ax,?_⟩
  refine ⟨rfl,?_⟩
  refine H.Z8 [5,5,12,12,7,12,8,12,12,10,10]<|fun H=>yH H [12,11]<|fun H=>?_
  refine H.cg (YC rfl (YC rfl (YC rfl (YC rfl (YC rfl (YC rfl (YC (P9 ?_) (YC rfl (YC rfl (YC rfl (YC rfl (rfl))))))))))))
  exact Wl _
 .refine cF (Z4 yY)<|cF (Z4 yY)<|cF (Z4 yY)<|cF (Z4 yY)<|cF (Z4 yY)<|cF (Z4 yY)<|cF (Z4 yY)<|cF (Z4 yY)<|cF (Z4 yY)<|cF (Z4 yY)<|cT (ZH yX)<|ZD (H.at 1 rfl) 0 rfl rfl rfl<|H.Z8 [11,9,8,6,6]<|fun H=>?_
  refine Z7.mk (Fc.imp (Rn.af3 E _ hx1 H yY yY yY yY yY yY yY yY yY yY hq yY yY yY yY) ?_)
  rintro _ w2 ⟨Zo,⟨Ax,⟨rfl,H⟩⟩⟩
  refine ZI H 6 rfl rfl rfl (by simp only [List.all_cons,List.all_nil,H.one 2 rfl,H.one 3 rfl,H.one 4 rfl,H.one 5 rfl,H.one 9 rfl,H.one 10 rfl,H.one 12 rfl,hvl];rfl)<|fun w3 H=>XU (H.at 6 rfl) 0 rfl rfl rfl<|Z6.mk ?_
  refine ⟨Zo,Ax,?_⟩
  refine ⟨rfl,?_⟩
  refine H.Z8 [5,5,12,12,7,12,8,12,12,10,10]<|fun H=>yH H [12,11]<|fun H=>?_
  refine H.cg (YC rfl (YC rfl (YC rfl (YC rfl (YC rfl (YC rfl (YC (P9 ?_) (YC rfl (YC rfl (YC rfl (YC rfl (rfl))))))))))))
  exact Wl _
theorem akq (H:Sat g w (Pt pr [yS cp,vw,vc,yT 0] 148::Pt cp (yV m [yS mp,vt,vg]) 158::Pt mp [vp,yT m.most] 221::Sl 223 256 W8 vp ps::Sl 3 1 ZF vt Zt::Sl 2 1 ZF vg Zl::Sl 79 4 YA vc cs::Wa up::Sl 2 1 ZF c.vl c.loc::Sl 2 1 ZF c.vs c.stk::l)) (hcs:cs=up++[c]) (E:El vc 4 up.length b o) (TQ:0<=c.at_/\c.at_<=1000) (hlen:c.stk.length<=10000) (hm:XH g m) (P:Uy m.d) (ho:x.op=16\/x.op=17) (Qs:∀n∈Zt,-1<=n/\n<(m.Zy.length:Int)+m.funcs.length) (h1:x.op=17->1<=c.stk.length/\0<=x.a/\x.a<m.types.length) (Ur:∀v∈c.stk,XS v) (Pg:Zt.length<=1000) (Va:cs.length<=40) (hq:YS m.d Zt x c.stk=(f,s2,0)) (hf:0<=f/\f<(m.Zy.length:Int)+m.funcs.length) (J8:(YG m.d f).Y9.length<=s2.length) (G6:s2.length<=10000) (k:Nat) (F:Yx) (Fh:f=m.Zy.length+k) (hF:m.funcs[k]?=some F) (B7:F.loc.length<=16) (h4:(YG m.d f).Y9.length<=4) (AP:cs.length<40):yC 114 #[yS pr,.pointer (some ⟨b,o,none⟩),.agg #[.int .u8 x.op,yT x.a,yT x.b,Si],vj] w (fun r w'=>∃Qi vs' GU,r=.agg #[yT 0,.slice none 0 0,yT 0,yT 0,yT 0]/\Sat g w' (Pt pr [yS cp,vw,Qi,yT 0] 148::Pt cp (yV m [yS mp,vt,vg]) 158::Pt mp [vp,yT m.most] 221::Sl 223 256 W8 vp ps::Sl 3 1 ZF vt Zt::Sl 2 1 ZF vg Zl::Sl 79 4 YA Qi (up++[⟨c.fn,c.at_+1,c.vl,c.loc,vs',s2.take (s2.length-(YG m.d f).Y9.length)⟩]++[⟨k,0,GU,s2.drop (s2.length-(YG m.d f).Y9.length)++List.replicate F.loc.length 0,.slice none 0 0,[]⟩])::Wa up::Sl 2 1 ZF c.vl c.loc::Sl 2 1 ZF vs' (s2.take (s2.length-(YG m.d f).Y9.length))::Sl 2 1 ZF GU (s2.drop (s2.length-(YG m.d f).Y9.length)++List.replicate F.loc.length 0)::Sl 2 1 ZF (.slice none 0 0) []::l)):=by
 refine Fc.of Tryz.func114 rfl k_d ?_
 have hx:=Yc hcs
 have Wy:=Yb hcs
 have hvl:=H.one 8 rfl
 have CM:up.length+1=cs.length:=by grind
 refine ZJ H<|fun p1 w1 H=>ZV H rfl<|fun p2 w2 H=>Z9 rfl<|yJ (H.el 8 rfl E hx) 1 yI<|ZZ yY<|Z9 rfl<|Ys H 8 rfl E hx 1 (⟨c.fn,c.at_+1,c.vl,c.loc,c.vs,c.stk⟩) rfl rfl rfl rfl<|fun w1 H=>Z9 rfl<|yQ H 1 0 yN<|bk ?_
 simp only [Wy] at H
 have hx1:(up++[(⟨c.fn,c.at_+1,c.vl,c.loc,c.vs,c.stk⟩:CV)])[up.length]?=some (⟨c.fn,c.at_+1,c.vl,c.loc,c.vs,c.stk⟩:CV):=Yc rfl
 clear hx
 have Wl:∀z,(up++[(⟨c.fn,c.at_+1,c.vl,c.loc,c.vs,c.stk⟩:CV)]).set up.length z=up++[z]:=Yb rfl
 have Ek:(up++[(⟨c.fn,c.at_+1,c.vl,c.loc,c.vs,c.stk⟩:CV)]).length=cs.length:=by grind
 rcases ho with ho|ho
 .refine cF (Z4 yY)<|cF (Z4 yY)<|cF (Z4 yY)<|cF (Z4 yY)<|cF (Z4 yY)<|cF (Z4 yY)<|cF (Z4 yY)<|cF (Z4 yY)<|cF (Z4 yY)<|cT (ZH yX)<|cT (ZH yX)<|ZD (H.at 1 rfl) 0 rfl rfl rfl<|H.Z8 [11,9,8,6,6]<|fun H=>?_
  refine Z7.mk (Fc.imp (Rn.af4 E _ hx1 H yY yY yY yY yY yY yY yY yY yY hq yY yY yY (k) _ Fh hF yY yY yY) ?_)
  rintro _ w2 ⟨FM,⟨Zo,⟨TD,⟨rfl,H⟩⟩⟩⟩
  refine ZI H 7 rfl rfl rfl rfl<|fun w3 H=>XU (H.at 7 rfl) 0 rfl rfl rfl ?_
  simp only [Wl] at H
  refine Z6.mk ⟨FM,Zo,TD,rfl,?_⟩
  exact H.Z8 [6,6,6,13,13,8,13,9,13,13,11,11]<|fun H=>yH H [13,12]<|fun H=>H
 .refine cF (Z4 yY)<|cF (Z4 yY)<|cF (Z4 yY)<|cF (Z4 yY)<|cF (Z4 yY)<|cF (Z4 yY)<|cF (Z4 yY)<|cF (Z4 yY)<|cF (Z4 yY)<|cF (Z4 yY)<|cT (ZH yX)<|ZD (H.at 1 rfl) 0 rfl rfl rfl<|H.Z8 [11,9,8,6,6]<|fun H=>?_
  refine Z7.mk (Fc.imp (Rn.af4 E _ hx1 H yY yY yY yY yY yY yY yY yY yY hq yY yY yY (k) _ Fh hF yY yY yY) ?_)
  rintro _ w2 ⟨FM,⟨Zo,⟨TD,⟨rfl,H⟩⟩⟩⟩
  refine ZI H 7 rfl rfl rfl rfl<|fun w3 H=>XU (H.at 7 rfl) 0 rfl rfl rfl ?_
  simp only [Wl] at H
  refine Z6.mk ⟨FM,Zo,TD,rfl,?_⟩
  exact H.Z8 [6,6,6,13,13,8,13,9,13,13,11,11]<|fun H=>yH H [13,12]<|fun H=>H
theorem akr (H:Sat g w (Pt pr [yS cp,vw,vc,yT 0] 148::Pt cp (yV m [yS mp,vt,vg]) 158::Pt mp [vp,yT m.most] 221::Sl 223 256 W8 vp ps::Sl 3 1 ZF vt Zt::Sl 2 1 ZF vg Zl::Sl 79 4 YA vc cs::Wa up::Sl 2 1 ZF c.vl c.loc::Sl 2 1 ZF c.vs c.stk::l)) (hcs:cs=up++[c]) (E:El vc 4 up.length b o) (TQ:0<=c.at_/\c.at_<=1000) (hlen:c.stk.length<=10000) (hD:FX x ⟨flat ps,Zt,Zl⟩ c.loc c.stk) (hT:Fold.Hl g) (Cn:18<=x.op) (hop:x.op<=255) (hmo:ps.length<=m.most/\m.most<=8):yC 114 #[yS pr,.pointer (some ⟨b,o,none⟩),.agg #[.int .u8 x.op,yT x.a,yT x.b,Si],vj] w (fun r w'=>∃e vs' Tp ps' WV loc' W0,r=(if e≠0 then .agg #[yT 2,.slice none 0 0,yT e,yT 0,yT 0] else .agg #[yT 0,.slice none 0 0,yT 0,yT 0,yT 0])/\Mf (VG m.most x ⟨flat ps,Zt,Zl⟩ c.loc c.stk) e (flat ps') WV loc' W0/\ps'.length<=8/\Sat g w' (Pt pr [yS cp,vw,vc,yT 0] 148::Pt cp (yV m [yS mp,vt,vg]) 158::Pt mp [Tp,yT m.most] 221::Sl 223 256 W8 Tp ps'::Sl 3 1 ZF vt Zt::Sl 2 1 ZF vg WV::Sl 79 4 YA vc (up++[⟨c.fn,c.at_+1,c.vl,loc',vs',W0⟩])::Wa up::Sl 2 1 ZF c.vl loc'::Sl 2 1 ZF vs' W0::l)):=by
 refine Fc.of Tryz.func114 rfl k_d ?_
 have hx:=Yc hcs
 have Wy:=Yb hcs
 have hvl:=H.one 8 rfl
 refine ZJ H<|fun p1 w1 H=>ZV H rfl<|fun p2 w2 H=>Z9 rfl<|yJ (H.el 8 rfl E hx) 1 yI<|ZZ yY<|Z9 rfl<|Ys H 8 rfl E hx 1 (⟨c.fn,c.at_+1,c.vl,c.loc,c.vs,c.stk⟩) rfl rfl rfl rfl<|fun w1 H=>Z9 rfl<|yQ H 1 0 yN<|bk ?_
 simp only [Wy] at H
 have hx1:(up++[(⟨c.fn,c.at_+1,c.vl,c.loc,c.vs,c.stk⟩:CV)])[up.length]?=some (⟨c.fn,c.at_+1,c.vl,c.loc,c.vs,c.stk⟩:CV):=Yc rfl
 clear hx
 have Wl:∀z,(up++[(⟨c.fn,c.at_+1,c.vl,c.loc,c.vs,c.stk⟩:CV)]).set up.length z=up++[z]:=Yb rfl
 have Ek:(up++[(⟨c.fn,c.at_+1,c.vl,c.loc,c.vs,c.stk⟩:CV)]).length=cs.length:=by grind
 refine cF (Z4 yY)<|cF (Z4 yY)<|cF (Z4 yY)<|cF (Z4 yY)<|cF (Z4 yY)<|cF (Z4 yY)<|cF (Z4 yY)<|cF (Z4 yY)<|cF (Z4 yY)<|cF (Z4 yY)<|cF (Z4 yY)<|ZN H [] [yRp0,yRp1,yRp2,yRh3,yRh4,yRp5,yRp6,yRp7,yRh8,yRp9,yRp10,yRp11,yRh12,yRfr13,yRp14,yRp15,yRp16,yRp17,yRp18] mixed k_d k_d<|fun w2 H=>yO rfl rfl<|yP 2 0 yN rfl<|tk (fun _ Z=>ZD (Z.at 1 rfl) 0 rfl rfl rfl yU)<|yO rfl rfl<|tk (fun _ Z=>yJ (Z.el 8 rfl E hx1) 2 yI yU)<|yO rfl rfl<|tk (fun _ Z=>yJ (Z.el 8 rfl E hx1) 3 yI yU)<|H.Z8 [11,11,9,9,9,9,9]<|fun H=>?_
 refine Z7.mk (Fc.imp (Rn.do_ H yY yY yY yY yY) ?_)
 rintro _ w1 ⟨e1,⟨Zo,⟨amN,⟨NL,⟨aiV,⟨FL,⟨Q3,⟨rfl,⟨h1,⟨h2,H⟩⟩⟩⟩⟩⟩⟩⟩⟩⟩
 refine Z9 rfl<|Ys H 10 rfl E hx1 3 (⟨c.fn,c.at_+1,c.vl,FL,(Zo),Q3⟩) rfl (by simp only [Bool.and_true,H.one 2 rfl,H.one 3 rfl,H.one 4 rfl,H.one 5 rfl,H.one 6 rfl,H.one 10 rfl,hvl]) rfl rfl<|fun w3 H=>?_
 refine cI (fun c1=>?_) (fun c1=>?_)
 focus
  replace c1:=YM (c1)
  refine Zn rfl rfl rfl<|ZI H 7 rfl rfl rfl rfl<|fun w1 H=>XU (H.at 7 rfl) 0 rfl rfl rfl ?_
 rotate_left 1
 focus
  replace c1:=YL (c1)
  refine Zn rfl rfl rfl<|ZI H 7 rfl rfl rfl rfl<|fun w1 H=>XU (H.at 7 rfl) 0 rfl rfl rfl ?_
 rotate_left 1
 .simp only [Wl] at H
  refine Z6.mk ⟨e1,Zo,amN,NL,aiV,FL,Q3,(if_pos yX).symm,by assumption,by assumption,?_⟩
  exact H.Z8 [6,6,11,11,8,8,8,8,8,11]<|fun H=>yH H [11,10]<|fun H=>H
 .simp only [Wl] at H
  refine Z6.mk ⟨e1,Zo,amN,NL,aiV,FL,Q3,(if_neg yY).symm,by assumption,by assumption,?_⟩
  exact H.Z8 [6,6,11,11,8,8,8,8,8,11]<|fun H=>yH H [11,10]<|fun H=>H
end
end Rn
end Go.Proofs.YtakpnepblgfknaaGreatDoor
