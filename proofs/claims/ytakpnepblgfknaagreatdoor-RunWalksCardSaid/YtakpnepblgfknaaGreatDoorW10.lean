import Derived.Test.YtakpnepblgfknaaGreatDoorW9
set_option maxRecDepth 100000
set_option maxHeartbeats 4000000
set_option linter.unusedVariables false
set_option linter.unusedSimpArgs false
set_option linter.defProp false
namespace Go.Proofs.YtakpnepblgfknaaGreatDoor
namespace Rn
open Go YY Go.RowKit
open YT Zl X6 YP Valid Mem
section
variable {g:Zz} {w:World} {l:List As} {m:Zj} {cp mp:Nat} {vp vt vg vl vs Sj:Value} {ps:List WN} {Zx Zp loc stk:xO} {x:ZU}
theorem adC {ps:List WN} {n:Nat}:flat (ps++List.replicate n zp)=flat ps++List.replicate (256 * n) 0:=by
 unfold flat
 rw [lIa]
 congr 1
 induction n with
 | zero=>rfl
 | succ n ih =>
  rw [lGb,lPa,ih,show 256 * (n+1)=256+256 * n by omega,<-List.replicate_append_replicate];rfl
theorem bt2 {s:xO} (h:3<=s.length):∃t a b c,s=t++[a]++[b]++[c]:=by
 obtain ⟨t,c,rfl⟩:=Ob (show 1<=s.length by omega)
 rw [lca,lra] at h
 obtain ⟨t,b,rfl⟩:=Ob (show 1<=t.length by omega)
 rw [lca,lra] at h
 obtain ⟨t,a,rfl⟩:=Ob (show 1<=t.length by omega)
 exact ⟨t,a,b,c,rfl⟩
theorem apI {d:xO->Bc} {e:Int} {mm:xN} {gl s':xO} (h:∀loc,NP (d loc) e mm gl loc s'):NP (d loc) e mm gl loc s':=h loc
theorem aoy {I:WR} {s':xO} {e e1 e2:Int} {s1 s2:xO} {c:Prop} [Decidable c] (h:(s',e)=(if c then (s1,e1) else (s2,e2))):NP (if c then ⟨I,loc,s1,e1⟩ else ⟨I,loc,s2,e2⟩) e I.mem I.Zp loc s':=by
 by_cases hc:c
 .rw [if_pos hc] at h ⊢
  injection h with h1 h2
  exact ⟨h2,rfl,rfl,rfl,fun _=>h1⟩
 .rw [if_neg hc] at h ⊢
  injection h with h1 h2
  exact ⟨h2,rfl,rfl,rfl,fun _=>h1⟩
theorem gr0 {e a most:Int} {ps':List WN} (h1:1<=stk.length) (h:most-(ps.length:Int)<a % 4294967296) (he:e=-1) (hp:ps'=ps):NP (if most-(ps.length:Int)<a % 4294967296 then ⟨⟨flat ps,Zx,Zp⟩,loc,low stk 1++[-1],0⟩ else ⟨⟨flat ps++List.replicate (256 * (a % 4294967296).toNat) 0,Zx,Zp⟩,loc,low stk 1++[(ps.length:Int)],0⟩) 0 (flat ps') Zp loc (stk.set (stk.length-1) e):=by
 rw [if_pos h,he,hp]
 exact ⟨rfl,rfl,rfl,rfl,fun _=>Nt h1⟩
theorem gr1 {e a most:Int} {ps':List WN} (h1:1<=stk.length) (h:¬most-(ps.length:Int)<a % 4294967296) (he:e=ps.length) (hp:ps'=ps++List.replicate (a % 4294967296).toNat zp):NP (if most-(ps.length:Int)<a % 4294967296 then ⟨⟨flat ps,Zx,Zp⟩,loc,low stk 1++[-1],0⟩ else ⟨⟨flat ps++List.replicate (256 * (a % 4294967296).toNat) 0,Zx,Zp⟩,loc,low stk 1++[(ps.length:Int)],0⟩) 0 (flat ps') Zp loc (stk.set (stk.length-1) e):=by
 rw [if_neg h,he,hp,adC]
 exact ⟨rfl,rfl,rfl,rfl,fun _=>Nt h1⟩
theorem alR (H:Sat g w (Pt cp (yl m [yg mp,vt,vg]) 158::Pt mp [vp,yh m.most] 221::Sl 223 256 Xm vp ps::Sl 3 1 ZJ vt Zx::Sl 2 1 ZJ vg Zp::Sl 2 1 ZJ vl loc::Sl 2 1 ZJ vs stk::l)) (ho:x.op=26) (h1:1<=stk.length) (hlen:stk.length<=100000) (hp:ps.length<=8):xP 160 #[yg cp,.agg #[.int .u8 x.op,yh x.a,yh x.b,Sj],vl,vs] w (fun r w'=>∃e vs' Tv ps' Xa loc' YW,r=.tuple #[vs',yh e]/\NP (WB m.most x ⟨flat ps,Zx,Zp⟩ loc stk) e (flat ps') Xa loc' YW/\ps'.length<=8/\Sat g w' (Pt cp (yl m [yg mp,vt,vg]) 158::Pt mp [Tv,yh m.most] 221::Sl 223 256 Xm Tv ps'::Sl 3 1 ZJ vt Zx::Sl 2 1 ZJ vg Xa::Sl 2 1 ZJ vl loc'::Sl 2 1 ZJ vs' YW::l)):=by
 refine Fc.of Tryz.func160 rfl k_d ?_
 have hd:WB m.most x ⟨flat ps,Zx,Zp⟩ loc stk=⟨⟨flat ps,Zx,Zp⟩,loc,low stk 1,0⟩:=by grind [WB]
 rw [hd]
 clear hd
 refine ZL H<|fun p1 w1 H=>YN H 7 rfl rfl<|ZX yp<|bk<|Z9 rfl<|ye H 0 0 x9<|cT (ZK yo)<|M8 H 7 rfl 0 ((stk.length)-1) rfl rfl yp yp (.inl ⟨rfl,rfl⟩) (.inr ⟨_,by first|rfl|(congr 2;omega)⟩)<|fun v1 H=>Z6.mk ?_
 refine ⟨0,v1,vp,ps,Zp,loc,List.drop 0 (List.take (stk.length-1) stk),?_⟩
 refine ⟨rfl,?_⟩
 constructor
 .exact ⟨rfl,rfl,rfl,rfl,fun _=>I7⟩
 refine ⟨yp,?_⟩
 exact H.Z8 [7,7,7,7,7,7,7]<|fun H=>H.drop 7<|fun H=>H
theorem alS (H:Sat g w (Pt cp (yl m [yg mp,vt,vg]) 158::Pt mp [vp,yh m.most] 221::Sl 223 256 Xm vp ps::Sl 3 1 ZJ vt Zx::Sl 2 1 ZJ vg Zp::Sl 2 1 ZJ vl loc::Sl 2 1 ZJ vs stk::l)) (ho:x.op=27) (h1:3<=stk.length) (hlen:stk.length<=100000) (hp:ps.length<=8):xP 160 #[yg cp,.agg #[.int .u8 x.op,yh x.a,yh x.b,Sj],vl,vs] w (fun r w'=>∃e vs' Tv ps' Xa loc' YW,r=.tuple #[vs',yh e]/\NP (WB m.most x ⟨flat ps,Zx,Zp⟩ loc stk) e (flat ps') Xa loc' YW/\ps'.length<=8/\Sat g w' (Pt cp (yl m [yg mp,vt,vg]) 158::Pt mp [Tv,yh m.most] 221::Sl 223 256 Xm Tv ps'::Sl 3 1 ZJ vt Zx::Sl 2 1 ZJ vg Xa::Sl 2 1 ZJ vl loc'::Sl 2 1 ZJ vs' YW::l)):=by
 refine Fc.of Tryz.func160 rfl k_d ?_
 obtain ⟨t,a,b,c,hs⟩:=bt2 h1
 have hl:stk.length=t.length+3:=by grind
 have hc:stk[stk.length-1]?=some c:=by grind
 have hb:stk[stk.length-1-1]?=some b:=by grind
 have ha:stk[stk.length-1-2]?=some a:=by grind
 have r1:List.drop 0 (List.take (stk.length-1-1) stk)=t++[a]:=by
  rw [hl,hs];simp
  rw [show t++[a,b,c]=(t++[a])++[b,c] by simp,lya ym,lta ym]
 have r2:List.drop 0 (List.take (stk.length-1-1) (stk.set (stk.length-1-2) b))=t++[b]:=by
  rw [hl,hs];simp
  rw [show t++[b,b,c]=(t++[b])++[b,c] by simp,lya ym,lta ym]
 have hd:WB m.most x ⟨flat ps,Zx,Zp⟩ loc stk=⟨⟨flat ps,Zx,Zp⟩,loc,if c=0 then t++[b] else t++[a],0⟩:=by
  unfold WB
  rw [if_neg yp,if_pos ho,hs,Wa,alH,Ge ym,Wa,MB,MB,Jc]
 rw [hd]
 clear hd
 refine ZL H<|fun p1 w1 H=>YN H 7 rfl rfl<|ZX yp<|bk<|Z9 rfl<|ye H 0 0 x9<|cF (Z5 yp)<|Z9 rfl<|ye H 0 0 x9<|cT (ZK yo) ?_
 obtain ⟨b1,o1,E1⟩:=H.Y5 7 rfl ((stk.length)-1) yp
 refine ZI E1 yp rfl rfl<|xW (H.el 7 rfl E1 hc) 0 xV ?_
 refine xR (fun c1=>?_) (fun c1=>?_)
 .refine ZX yp<|ZX yp ?_
  obtain ⟨b2,o2,E2⟩:=H.Y5 7 rfl (((stk.length)-1)-1) yp
  refine ZI E2 yp rfl rfl<|xW (H.el 7 rfl E2 hb) 0 xV ?_
  obtain ⟨b3,o3,E3⟩:=H.Y5 7 rfl (((stk.length)-1)-2) yp
  refine ZI E3 yp rfl rfl<|Yl H 7 rfl E3 ha 0 (b) rfl rfl rfl rfl<|fun w2 H=>ZX yp<|M8 H 7 rfl 0 (((stk.length)-1)-1) rfl rfl (by grind) (by grind) (.inl ⟨rfl,rfl⟩) (.inr ⟨_,by first|rfl|(congr 2;(first|omega|(simp only [yq7,List.length_set,List.length_cons,List.length_nil];omega)|(simp;omega)|(simp;done)))⟩)<|fun v1 H=>Z6.mk ?_
  refine ⟨0,v1,vp,ps,Zp,loc,List.drop 0 (List.take (stk.length-1-1) (stk.set (stk.length-1-2) b)),?_⟩
  refine ⟨rfl,?_⟩
  constructor
  .exact ⟨rfl,rfl,rfl,rfl,fun _=>by rw [if_pos yo];exact r2⟩
  refine ⟨yp,?_⟩
  exact H.Z8 [7,7,7,7,7,7,7]<|fun H=>H.drop 7<|fun H=>H
 refine ZX yp<|M8 H 7 rfl 0 (((stk.length)-1)-1) rfl rfl yp yp (.inl ⟨rfl,rfl⟩) (.inr ⟨_,by first|rfl|(congr 2;omega)⟩)<|fun v1 H=>Z6.mk ?_
 refine ⟨0,v1,vp,ps,Zp,loc,List.drop 0 (List.take (stk.length-1-1) stk),?_⟩
 refine ⟨rfl,?_⟩
 constructor
 .exact ⟨rfl,rfl,rfl,rfl,fun _=>by rw [if_neg yo];exact r1⟩
 refine ⟨yp,?_⟩
 exact H.Z8 [7,7,7,7,7,7,7]<|fun H=>H.drop 7<|fun H=>H
theorem alT (H:Sat g w (Pt cp (yl m [yg mp,vt,vg]) 158::Pt mp [vp,yh m.most] 221::Sl 223 256 Xm vp ps::Sl 3 1 ZJ vt Zx::Sl 2 1 ZJ vg Zp::Sl 2 1 ZJ vl loc::Sl 2 1 ZJ vs stk::l)) (ho:x.op=32) (hb:0<=x.a/\x.a<loc.length) (hlen:stk.length<=100000) (hp:ps.length<=8):xP 160 #[yg cp,.agg #[.int .u8 x.op,yh x.a,yh x.b,Sj],vl,vs] w (fun r w'=>∃e vs' Tv ps' Xa loc' YW,r=.tuple #[vs',yh e]/\NP (WB m.most x ⟨flat ps,Zx,Zp⟩ loc stk) e (flat ps') Xa loc' YW/\ps'.length<=8/\Sat g w' (Pt cp (yl m [yg mp,vt,vg]) 158::Pt mp [Tv,yh m.most] 221::Sl 223 256 Xm Tv ps'::Sl 3 1 ZJ vt Zx::Sl 2 1 ZJ vg Xa::Sl 2 1 ZJ vl loc'::Sl 2 1 ZJ vs' YW::l)):=by
 refine Fc.of Tryz.func160 rfl k_d ?_
 obtain ⟨i,hi⟩:=lqa hb.1
 rw [hi] at hb ⊢
 obtain ⟨y,hy⟩:∃y,loc[i]?=some y:=⟨_,laa yp⟩
 have hd:WB m.most x ⟨flat ps,Zx,Zp⟩ loc stk=⟨⟨flat ps,Zx,Zp⟩,loc,stk++[y],0⟩:=by grind [WB]
 rw [hd]
 clear hd
 refine ZL H<|fun p1 w1 H=>YN H 7 rfl rfl<|ZX yp<|bk<|Z9 rfl<|ye H 0 0 x9<|cF (Z5 yp)<|Z9 rfl<|ye H 0 0 x9<|cF (Z5 yp)<|Z9 rfl<|ye H 0 0 x9<|cT (ZK yo)<|Z9 rfl<|ye H 0 1 x9 ?_
 obtain ⟨b1,o1,E1⟩:=H.Y5 6 rfl (i) yp
 refine ZI E1 rfl rfl rfl<|xW (H.el 6 rfl E1 hy) 0 xV<|ZZ H rfl rfl rfl rfl<|fun p2 w2 H=>WO (ys:=[_]) 8 H 8 rfl (H.at 0 rfl) rfl (fun y _=>rfl) rfl rfl rfl yp yp<|fun v1 w1 H=>Z6.mk ?_
 refine ⟨0,v1,vp,ps,Zp,loc,stk++[y],?_⟩
 refine ⟨rfl,?_⟩
 constructor
 .exact k_v
 refine ⟨yp,?_⟩
 exact H.Z8 [8,8,8,8,8,8,8]<|fun H=>xU H [8,7]<|fun H=>H
theorem alU (H:Sat g w (Pt cp (yl m [yg mp,vt,vg]) 158::Pt mp [vp,yh m.most] 221::Sl 223 256 Xm vp ps::Sl 3 1 ZJ vt Zx::Sl 2 1 ZJ vg Zp::Sl 2 1 ZJ vl loc::Sl 2 1 ZJ vs stk::l)) (ho:x.op=33\/x.op=34) (hb:0<=x.a/\x.a<loc.length) (h1:1<=stk.length) (hlen:stk.length<=100000) (hp:ps.length<=8):xP 160 #[yg cp,.agg #[.int .u8 x.op,yh x.a,yh x.b,Sj],vl,vs] w (fun r w'=>∃e vs' Tv ps' Xa loc' YW,r=.tuple #[vs',yh e]/\NP (WB m.most x ⟨flat ps,Zx,Zp⟩ loc stk) e (flat ps') Xa loc' YW/\ps'.length<=8/\Sat g w' (Pt cp (yl m [yg mp,vt,vg]) 158::Pt mp [Tv,yh m.most] 221::Sl 223 256 Xm Tv ps'::Sl 3 1 ZJ vt Zx::Sl 2 1 ZJ vg Xa::Sl 2 1 ZJ vl loc'::Sl 2 1 ZJ vs' YW::l)):=by
 refine Fc.of Tryz.func160 rfl k_d ?_
 obtain ⟨a,ha,HU,G6⟩:=Em (s:=stk) yp
 obtain ⟨i,hi⟩:=lqa hb.1
 rw [hi] at hb ⊢
 obtain ⟨y,hy⟩:∃y,loc[i]?=some y:=⟨_,laa yp⟩
 have hd:WB m.most x ⟨flat ps,Zx,Zp⟩ loc stk=⟨⟨flat ps,Zx,Zp⟩,loc.set i a,if x.op=33 then low stk 1 else stk,0⟩:=by grind [WB]
 rw [hd]
 clear hd
 rcases ho with ho|ho
 .rw [if_pos ho]
  refine ZL H<|fun p1 w1 H=>YN H 7 rfl rfl<|ZX yp<|bk<|Z9 rfl<|ye H 0 0 x9<|cF (Z5 yp)<|Z9 rfl<|ye H 0 0 x9<|cF (Z5 yp)<|Z9 rfl<|ye H 0 0 x9<|cF (Z5 yp)<|Z9 rfl<|ye H 0 0 x9<|cT (ZK yo)<|ZN H [] [yfp0,yfp1,yfh2,yfp3,yfp4,yfp5,yfh6,yfp7,yffr8] mixed k_d k_d<|fun w2 H=>yc rfl rfl<|yd 0 1 x9 rfl ?_
  obtain ⟨b1,o1,E1⟩:=H.Y5 7 rfl ((stk.length)-1) yp
  refine tk (fun _ Z=>ZI E1 yp rfl rfl yj)<|tk (fun _ Z=>xW (Z.el 7 rfl E1 ha) 0 xV yj) ?_
  obtain ⟨b2,o2,E2⟩:=H.Y5 6 rfl (i) yp
  refine tk (fun _ Z=>ZI E2 rfl rfl rfl yj)<|Yl H 6 rfl E2 hy 0 (a) rfl rfl rfl rfl<|fun w1 H=>M8 H 7 rfl 0 ((stk.length)-1) rfl rfl yp yp (.inl ⟨rfl,rfl⟩) (.inr ⟨_,by first|rfl|(congr 2;omega)⟩)<|fun v1 H=>Z6.mk ?_
  refine ⟨0,v1,vp,ps,Zp,loc.set i a,List.drop 0 (List.take (stk.length-1) stk),?_⟩
  refine ⟨rfl,?_⟩
  constructor
  .exact ⟨rfl,rfl,rfl,rfl,fun _=>I7⟩
  refine ⟨yp,?_⟩
  exact H.Z8 [7,7,7,7,7,7,7]<|fun H=>H.drop 7<|fun H=>H
 .rw [if_neg yp]
  refine ZL H<|fun p1 w1 H=>YN H 7 rfl rfl<|ZX yp<|bk<|Z9 rfl<|ye H 0 0 x9<|cF (Z5 yp)<|Z9 rfl<|ye H 0 0 x9<|cF (Z5 yp)<|Z9 rfl<|ye H 0 0 x9<|cF (Z5 yp)<|Z9 rfl<|ye H 0 0 x9<|cF (Z5 yp)<|Z9 rfl<|ye H 0 0 x9<|cT (ZK yo)<|ZN H [] [yfp0,yfp1,yfh2,yfp3,yfp4,yfp5,yfh6,yfp7,yffr8] mixed k_d k_d<|fun w2 H=>yc rfl rfl<|yd 0 1 x9 rfl ?_
  obtain ⟨b1,o1,E1⟩:=H.Y5 7 rfl ((stk.length)-1) yp
  refine tk (fun _ Z=>ZI E1 yp rfl rfl yj)<|tk (fun _ Z=>xW (Z.el 7 rfl E1 ha) 0 xV yj) ?_
  obtain ⟨b2,o2,E2⟩:=H.Y5 6 rfl (i) yp
  refine tk (fun _ Z=>ZI E2 rfl rfl rfl yj)<|Yl H 6 rfl E2 hy 0 (a) rfl rfl rfl rfl<|fun w1 H=>Z6.mk ?_
  refine ⟨0,vs,vp,ps,Zp,loc.set i a,stk,?_⟩
  refine ⟨rfl,?_⟩
  constructor
  .exact k_v
  refine ⟨yp,?_⟩
  exact H.Z8 [7,7,7,7,7,7,7]<|fun H=>H.drop 7<|fun H=>H
theorem alV (H:Sat g w (Pt cp (yl m [yg mp,vt,vg]) 158::Pt mp [vp,yh m.most] 221::Sl 223 256 Xm vp ps::Sl 3 1 ZJ vt Zx::Sl 2 1 ZJ vg Zp::Sl 2 1 ZJ vl loc::Sl 2 1 ZJ vs stk::l)) (ho:x.op=35) (hb:0<=x.a/\x.a<Zp.length) (hlen:stk.length<=100000) (hp:ps.length<=8):xP 160 #[yg cp,.agg #[.int .u8 x.op,yh x.a,yh x.b,Sj],vl,vs] w (fun r w'=>∃e vs' Tv ps' Xa loc' YW,r=.tuple #[vs',yh e]/\NP (WB m.most x ⟨flat ps,Zx,Zp⟩ loc stk) e (flat ps') Xa loc' YW/\ps'.length<=8/\Sat g w' (Pt cp (yl m [yg mp,vt,vg]) 158::Pt mp [Tv,yh m.most] 221::Sl 223 256 Xm Tv ps'::Sl 3 1 ZJ vt Zx::Sl 2 1 ZJ vg Xa::Sl 2 1 ZJ vl loc'::Sl 2 1 ZJ vs' YW::l)):=by
 refine Fc.of Tryz.func160 rfl k_d ?_
 obtain ⟨i,hi⟩:=lqa hb.1
 rw [hi] at hb ⊢
 obtain ⟨y,hy⟩:∃y,Zp[i]?=some y:=⟨_,laa yp⟩
 have hd:WB m.most x ⟨flat ps,Zx,Zp⟩ loc stk=⟨⟨flat ps,Zx,Zp⟩,loc,stk++[y],0⟩:=by grind [WB]
 rw [hd]
 clear hd
 refine ZL H<|fun p1 w1 H=>YN H 7 rfl rfl<|ZX yp<|bk<|Z9 rfl<|ye H 0 0 x9<|cF (Z5 yp)<|Z9 rfl<|ye H 0 0 x9<|cF (Z5 yp)<|Z9 rfl<|ye H 0 0 x9<|cF (Z5 yp)<|Z9 rfl<|ye H 0 0 x9<|cF (Z5 yp)<|Z9 rfl<|ye H 0 0 x9<|cF (Z5 yp)<|Z9 rfl<|ye H 0 0 x9<|cT (ZK yo)<|ZN H [] [yfp0,yfp1,yfp2,yfp3,yfh4,yfp5,yfh6,yfp7,yfh8,yffr9,yffr10,yfp11,yfp12] mixed k_d k_d<|fun w2 H=>yc rfl rfl<|yd 1 13 x9 rfl<|yc rfl rfl<|yd 0 1 x9 rfl ?_
 obtain ⟨b1,o1,E1⟩:=H.Y5 5 rfl (i) yp
 refine tk (fun _ Z=>ZI E1 rfl rfl rfl yj)<|tk (fun _ Z=>xW (Z.el 5 rfl E1 hy) 0 xV yj)<|ZZ H rfl rfl rfl rfl<|fun p2 w1 H=>WO (ys:=[_]) 8 H 8 rfl (H.at 0 rfl) rfl (fun y _=>rfl) rfl rfl rfl yp yp<|fun v1 w2 H=>Z6.mk ?_
 refine ⟨0,v1,vp,ps,Zp,loc,stk++[y],?_⟩
 refine ⟨rfl,?_⟩
 constructor
 .exact k_v
 refine ⟨yp,?_⟩
 exact H.Z8 [8,8,8,8,8,8,8]<|fun H=>xU H [8,7]<|fun H=>H
theorem alW (H:Sat g w (Pt cp (yl m [yg mp,vt,vg]) 158::Pt mp [vp,yh m.most] 221::Sl 223 256 Xm vp ps::Sl 3 1 ZJ vt Zx::Sl 2 1 ZJ vg Zp::Sl 2 1 ZJ vl loc::Sl 2 1 ZJ vs stk::l)) (ho:x.op=36) (hb:0<=x.a/\x.a<Zp.length) (h1:1<=stk.length) (hlen:stk.length<=100000) (hp:ps.length<=8):xP 160 #[yg cp,.agg #[.int .u8 x.op,yh x.a,yh x.b,Sj],vl,vs] w (fun r w'=>∃e vs' Tv ps' Xa loc' YW,r=.tuple #[vs',yh e]/\NP (WB m.most x ⟨flat ps,Zx,Zp⟩ loc stk) e (flat ps') Xa loc' YW/\ps'.length<=8/\Sat g w' (Pt cp (yl m [yg mp,vt,vg]) 158::Pt mp [Tv,yh m.most] 221::Sl 223 256 Xm Tv ps'::Sl 3 1 ZJ vt Zx::Sl 2 1 ZJ vg Xa::Sl 2 1 ZJ vl loc'::Sl 2 1 ZJ vs' YW::l)):=by
 refine Fc.of Tryz.func160 rfl k_d ?_
 obtain ⟨a,ha,HU,G6⟩:=Em (s:=stk) yp
 obtain ⟨i,hi⟩:=lqa hb.1
 rw [hi] at hb ⊢
 obtain ⟨y,hy⟩:∃y,Zp[i]?=some y:=⟨_,laa yp⟩
 have hd:WB m.most x ⟨flat ps,Zx,Zp⟩ loc stk=⟨⟨flat ps,Zx,Zp.set i a⟩,loc,low stk 1,0⟩:=by grind [WB]
 rw [hd]
 clear hd
 refine ZL H<|fun p1 w1 H=>YN H 7 rfl rfl<|ZX yp<|bk<|Z9 rfl<|ye H 0 0 x9<|cF (Z5 yp)<|Z9 rfl<|ye H 0 0 x9<|cF (Z5 yp)<|Z9 rfl<|ye H 0 0 x9<|cF (Z5 yp)<|Z9 rfl<|ye H 0 0 x9<|cF (Z5 yp)<|Z9 rfl<|ye H 0 0 x9<|cF (Z5 yp)<|Z9 rfl<|ye H 0 0 x9<|cF (Z5 yp)<|Z9 rfl<|ye H 0 0 x9<|cT (ZK yo)<|ZN H [] [yfp0,yfp1,yfp2,yfh3,yfp4,yfh5,yfp6,yfp7,yfp8,yfh9,yfp10,yffr11] mixed k_d k_d<|fun w2 H=>yc rfl rfl<|yd 1 13 x9 rfl<|yc rfl rfl<|yd 0 1 x9 rfl ?_
 obtain ⟨b1,o1,E1⟩:=H.Y5 7 rfl ((stk.length)-1) yp
 refine tk (fun _ Z=>ZI E1 yp rfl rfl yj)<|tk (fun _ Z=>xW (Z.el 7 rfl E1 ha) 0 xV yj) ?_
 obtain ⟨b2,o2,E2⟩:=H.Y5 5 rfl (i) yp
 refine tk (fun _ Z=>ZI E2 rfl rfl rfl yj)<|Yl H 5 rfl E2 hy 0 (a) rfl rfl rfl rfl<|fun w1 H=>M8 H 7 rfl 0 ((stk.length)-1) rfl rfl yp yp (.inl ⟨rfl,rfl⟩) (.inr ⟨_,by first|rfl|(congr 2;omega)⟩)<|fun v1 H=>Z6.mk ?_
 refine ⟨0,v1,vp,ps,Zp.set i a,loc,List.drop 0 (List.take (stk.length-1) stk),?_⟩
 refine ⟨rfl,?_⟩
 constructor
 .exact ⟨rfl,rfl,rfl,rfl,fun _=>I7⟩
 refine ⟨yp,?_⟩
 exact H.Z8 [7,7,7,7,7,7,7]<|fun H=>H.drop 7<|fun H=>H
theorem alX (H:Sat g w (Pt cp (yl m [yg mp,vt,vg]) 158::Pt mp [vp,yh m.most] 221::Sl 223 256 Xm vp ps::Sl 3 1 ZJ vt Zx::Sl 2 1 ZJ vg Zp::Sl 2 1 ZJ vl loc::Sl 2 1 ZJ vs stk::l)) (ho:x.op=65\/x.op=66) (hlen:stk.length<=100000) (hp:ps.length<=8):xP 160 #[yg cp,.agg #[.int .u8 x.op,yh x.a,yh x.b,Sj],vl,vs] w (fun r w'=>∃e vs' Tv ps' Xa loc' YW,r=.tuple #[vs',yh e]/\NP (WB m.most x ⟨flat ps,Zx,Zp⟩ loc stk) e (flat ps') Xa loc' YW/\ps'.length<=8/\Sat g w' (Pt cp (yl m [yg mp,vt,vg]) 158::Pt mp [Tv,yh m.most] 221::Sl 223 256 Xm Tv ps'::Sl 3 1 ZJ vt Zx::Sl 2 1 ZJ vg Xa::Sl 2 1 ZJ vl loc'::Sl 2 1 ZJ vs' YW::l)):=by
 refine Fc.of Tryz.func160 rfl k_d ?_
 have hd:WB m.most x ⟨flat ps,Zx,Zp⟩ loc stk=⟨⟨flat ps,Zx,Zp⟩,loc,stk++[x.a],0⟩:=by grind [WB]
 rw [hd]
 clear hd
 rcases ho with ho|ho
 .refine ZL H<|fun p1 w1 H=>YN H 7 rfl rfl<|ZX yp<|bk<|Z9 rfl<|ye H 0 0 x9<|cF (Z5 yp)<|Z9 rfl<|ye H 0 0 x9<|cF (Z5 yp)<|Z9 rfl<|ye H 0 0 x9<|cF (Z5 yp)<|Z9 rfl<|ye H 0 0 x9<|cF (Z5 yp)<|Z9 rfl<|ye H 0 0 x9<|cF (Z5 yp)<|Z9 rfl<|ye H 0 0 x9<|cF (Z5 yp)<|Z9 rfl<|ye H 0 0 x9<|cF (Z5 yp)<|Z9 rfl<|ye H 0 0 x9<|cT (ZK yo)<|cT (ZK yo)<|Z9 rfl<|ye H 0 1 x9<|ZZ H rfl rfl rfl rfl<|fun p2 w2 H=>WO (ys:=[_]) 8 H 8 rfl (H.at 0 rfl) rfl (fun y _=>rfl) rfl rfl rfl yp yp<|fun v1 w1 H=>Z6.mk ?_
  refine ⟨0,v1,vp,ps,Zp,loc,stk++[x.a],?_⟩
  refine ⟨rfl,?_⟩
  constructor
  .exact k_v
  refine ⟨yp,?_⟩
  exact H.Z8 [8,8,8,8,8,8,8]<|fun H=>xU H [8,7]<|fun H=>H
 .refine ZL H<|fun p1 w1 H=>YN H 7 rfl rfl<|ZX yp<|bk<|Z9 rfl<|ye H 0 0 x9<|cF (Z5 yp)<|Z9 rfl<|ye H 0 0 x9<|cF (Z5 yp)<|Z9 rfl<|ye H 0 0 x9<|cF (Z5 yp)<|Z9 rfl<|ye H 0 0 x9<|cF (Z5 yp)<|Z9 rfl<|ye H 0 0 x9<|cF (Z5 yp)<|Z9 rfl<|ye H 0 0 x9<|cF (Z5 yp)<|Z9 rfl<|ye H 0 0 x9<|cF (Z5 yp)<|Z9 rfl<|ye H 0 0 x9<|cF (Z5 yp)<|Z9 rfl<|ye H 0 0 x9<|cT (ZK yo)<|Z9 rfl<|ye H 0 1 x9<|ZZ H rfl rfl rfl rfl<|fun p2 w2 H=>WO (ys:=[_]) 8 H 8 rfl (H.at 0 rfl) rfl (fun y _=>rfl) rfl rfl rfl yp yp<|fun v1 w1 H=>Z6.mk ?_
  refine ⟨0,v1,vp,ps,Zp,loc,stk++[x.a],?_⟩
  refine ⟨rfl,?_⟩
  constructor
  .exact k_v
  refine ⟨yp,?_⟩
  exact H.Z8 [8,8,8,8,8,8,8]<|fun H=>xU H [8,7]<|fun H=>H
theorem alY (H:Sat g w (Pt cp (yl m [yg mp,vt,vg]) 158::Pt mp [vp,yh m.most] 221::Sl 223 256 Xm vp ps::Sl 3 1 ZJ vt Zx::Sl 2 1 ZJ vg Zp::Sl 2 1 ZJ vl loc::Sl 2 1 ZJ vs stk::l)) (ho:x.op=63) (hlen:stk.length<=100000) (hp:ps.length<=8):xP 160 #[yg cp,.agg #[.int .u8 x.op,yh x.a,yh x.b,Sj],vl,vs] w (fun r w'=>∃e vs' Tv ps' Xa loc' YW,r=.tuple #[vs',yh e]/\NP (WB m.most x ⟨flat ps,Zx,Zp⟩ loc stk) e (flat ps') Xa loc' YW/\ps'.length<=8/\Sat g w' (Pt cp (yl m [yg mp,vt,vg]) 158::Pt mp [Tv,yh m.most] 221::Sl 223 256 Xm Tv ps'::Sl 3 1 ZJ vt Zx::Sl 2 1 ZJ vg Xa::Sl 2 1 ZJ vl loc'::Sl 2 1 ZJ vs' YW::l)):=by
 refine Fc.of Tryz.func160 rfl k_d ?_
 have hd:WB m.most x ⟨flat ps,Zx,Zp⟩ loc stk=⟨⟨flat ps,Zx,Zp⟩,loc,stk++[(ps.length:Int)],0⟩:=by
  unfold WB
  rw [if_neg yp,if_neg yp,if_neg yp,if_neg yp,if_neg yp,if_neg yp,if_neg yp,if_neg yp,if_pos ho,Ut]
 rw [hd]
 clear hd
 refine ZL H<|fun p1 w1 H=>YN H 7 rfl rfl<|ZX yp<|bk<|Z9 rfl<|ye H 0 0 x9<|cF (Z5 yp)<|Z9 rfl<|ye H 0 0 x9<|cF (Z5 yp)<|Z9 rfl<|ye H 0 0 x9<|cF (Z5 yp)<|Z9 rfl<|ye H 0 0 x9<|cF (Z5 yp)<|Z9 rfl<|ye H 0 0 x9<|cF (Z5 yp)<|Z9 rfl<|ye H 0 0 x9<|cF (Z5 yp)<|Z9 rfl<|ye H 0 0 x9<|cF (Z5 yp)<|Z9 rfl<|ye H 0 0 x9<|cF (Z5 yp)<|Z9 rfl<|ye H 0 0 x9<|cF (Z5 yp)<|Z9 rfl<|ye H 0 0 x9<|cT (ZK yo)<|Z9 rfl<|ye H 1 11 x9<|H.Z8 [3,3]<|fun H=>?_
 refine Z7.mk (Fc.imp (Mem.size H) ?_)
 rintro _ w2 ⟨rfl,H⟩
 refine ZZ H rfl rfl rfl rfl<|fun p2 w3 H=>WO (ys:=[_]) 8 H 8 rfl (H.at 0 rfl) rfl (fun y _=>rfl) rfl rfl rfl yp yp<|fun v1 w2 H=>Z6.mk ?_
 refine ⟨0,v1,vp,ps,Zp,loc,stk++[(↑ps.length:Int)],?_⟩
 refine ⟨rfl,?_⟩
 constructor
 .exact k_v
 refine ⟨yp,?_⟩
 exact H.Z8 [8,8,8,8,6,6,8]<|fun H=>xU H [8,7]<|fun H=>H
theorem alZ (H:Sat g w (Pt cp (yl m [yg mp,vt,vg]) 158::Pt mp [vp,yh m.most] 221::Sl 223 256 Xm vp ps::Sl 3 1 ZJ vt Zx::Sl 2 1 ZJ vg Zp::Sl 2 1 ZJ vl loc::Sl 2 1 ZJ vs stk::l)) (ho:x.op=64) (h1:1<=stk.length) (TZ:∀v∈stk,XB v) (hm:ps.length<=m.most/\m.most<=8) (hlen:stk.length<=100000) (hp:ps.length<=8):xP 160 #[yg cp,.agg #[.int .u8 x.op,yh x.a,yh x.b,Sj],vl,vs] w (fun r w'=>∃e vs' Tv ps' Xa loc' YW,r=.tuple #[vs',yh e]/\NP (WB m.most x ⟨flat ps,Zx,Zp⟩ loc stk) e (flat ps') Xa loc' YW/\ps'.length<=8/\Sat g w' (Pt cp (yl m [yg mp,vt,vg]) 158::Pt mp [Tv,yh m.most] 221::Sl 223 256 Xm Tv ps'::Sl 3 1 ZJ vt Zx::Sl 2 1 ZJ vg Xa::Sl 2 1 ZJ vl loc'::Sl 2 1 ZJ vs' YW::l)):=by
 refine Fc.of Tryz.func160 rfl k_d ?_
 obtain ⟨a,ha,HU,G6⟩:=Em (s:=stk) yp
 have Ek:=TZ a G6
 have hd:WB m.most x ⟨flat ps,Zx,Zp⟩ loc stk=(if m.most-(ps.length:Int)<a % 4294967296 then ⟨⟨flat ps,Zx,Zp⟩,loc,low stk 1++[-1],0⟩ else ⟨⟨flat ps++List.replicate (256 * (a % 4294967296).toNat) 0,Zx,Zp⟩,loc,low stk 1++[(ps.length:Int)],0⟩):=by
  unfold WB
  rw [if_neg yp,if_neg yp,if_neg yp,if_neg yp,if_neg yp,if_neg yp,if_neg yp,if_neg yp,if_neg yp,if_pos ho,HU,Ut]
 rw [hd]
 clear hd
 refine ZL H<|fun p1 w1 H=>YN H 7 rfl rfl<|ZX yp<|bk<|Z9 rfl<|ye H 0 0 x9<|cF (Z5 k_h)<|Z9 rfl<|ye H 0 0 x9<|cF (Z5 k_h)<|Z9 rfl<|ye H 0 0 x9<|cF (Z5 k_h)<|Z9 rfl<|ye H 0 0 x9<|cF (Z5 k_h)<|Z9 rfl<|ye H 0 0 x9<|cF (Z5 k_h)<|Z9 rfl<|ye H 0 0 x9<|cF (Z5 k_h)<|Z9 rfl<|ye H 0 0 x9<|cF (Z5 k_h)<|Z9 rfl<|ye H 0 0 x9<|cF (Z5 k_h)<|Z9 rfl<|ye H 0 0 x9<|cF (Z5 k_h)<|Z9 rfl<|ye H 0 0 x9<|cF (Z5 k_h)<|Z9 rfl<|ye H 0 0 x9<|cT (ZK k_h)<|ZN H [] [yfp0,yfp1,yfp2,yfp3,yfp4,yfh5,yfp6,yfp7,yfp8,yfh9,yffr10,yfp11,yffr12] mixed k_d k_d<|fun w2 H=>yc rfl rfl<|yd 1 11 x9 rfl ?_
 obtain ⟨b1,o1,E1⟩:=H.Y5 7 rfl ((stk.length)-1) yp
 refine tk (fun _ Z=>ZI E1 yp rfl rfl yj)<|tk (fun _ Z=>xW (Z.el 7 rfl E1 ha) 0 xV yj)<|H.Z8 [3,3]<|fun H=>?_
 refine Z7.mk (Fc.imp (Mem.grow H _ ?_ ?_ ?_) ?_)
 .exact k_h
 .exact k_h
 .exact k_h
 rintro _ w1 ⟨e1,⟨v'1,⟨P8,⟨rfl,⟨(⟨h2,⟨h3,h4⟩⟩|⟨h5,⟨h6,h7⟩⟩),H⟩⟩⟩⟩⟩
 .refine tk (fun _ Z=>ZI E1 yp rfl rfl yj)<|Yl H 7 rfl E1 ha 0 (e1) rfl rfl rfl rfl<|fun w3 H=>Z6.mk ?_
  refine ⟨0,vs,v'1,P8,Zp,loc,stk.set (stk.length-1) e1,?_⟩
  refine ⟨rfl,?_⟩
  constructor
  .exact gr0 h1 yp yo yo
  constructor
  .exact k_h
  exact H.Z8 [7,7,7,7,5,5,7]<|fun H=>H.drop 7<|fun H=>H
 refine tk (fun _ Z=>ZI E1 yp rfl rfl yj)<|Yl H 7 rfl E1 ha 0 (e1) rfl rfl rfl rfl<|fun w3 H=>Z6.mk ?_
 refine ⟨0,vs,v'1,P8,Zp,loc,stk.set (stk.length-1) e1,?_⟩
 refine ⟨rfl,?_⟩
 constructor
 .exact gr1 h1 yp yo yo
 constructor
 .exact k_h
 exact H.Z8 [7,7,7,7,5,5,7]<|fun H=>H.drop 7<|fun H=>H
theorem al0 (H:Sat g w (Pt cp (yl m [yg mp,vt,vg]) 158::Pt mp [vp,yh m.most] 221::Sl 223 256 Xm vp ps::Sl 3 1 ZJ vt Zx::Sl 2 1 ZJ vg Zp::Sl 2 1 ZJ vl loc::Sl 2 1 ZJ vs stk::l)) (ho:36<x.op/\x.op<=255) (hw:0<wid x.op) (TZ:∀v∈stk,XB v) (hn:UG x.op<=stk.length) (hb:0<=x.b/\x.b<=4294967295) (hlen:stk.length<=100000) (hp:ps.length<=8):xP 160 #[yg cp,.agg #[.int .u8 x.op,yh x.a,yh x.b,Sj],vl,vs] w (fun r w'=>∃e vs' Tv ps' Xa loc' YW,r=.tuple #[vs',yh e]/\NP (WB m.most x ⟨flat ps,Zx,Zp⟩ loc stk) e (flat ps') Xa loc' YW/\ps'.length<=8/\Sat g w' (Pt cp (yl m [yg mp,vt,vg]) 158::Pt mp [Tv,yh m.most] 221::Sl 223 256 Xm Tv ps'::Sl 3 1 ZJ vt Zx::Sl 2 1 ZJ vg Xa::Sl 2 1 ZJ vl loc'::Sl 2 1 ZJ vs' YW::l)):=by
 refine Fc.of Tryz.func160 rfl k_d ?_
 have Fg:=RQ hw
 have Bo:=Re x.op
 have hd:WB m.most x ⟨flat ps,Zx,Zp⟩ loc stk=_:=rfl
 rw [hd]
 clear hd
 refine ZL H<|fun p1 w1 H=>YN H 7 rfl rfl<|ZX yp<|bk<|Z9 rfl<|ye H 0 0 x9<|cF (Z5 yp)<|Z9 rfl<|ye H 0 0 x9<|cF (Z5 yp)<|Z9 rfl<|ye H 0 0 x9<|cF (Z5 yp)<|Z9 rfl<|ye H 0 0 x9<|cF (Z5 yp)<|Z9 rfl<|ye H 0 0 x9<|cF (Z5 yp)<|Z9 rfl<|ye H 0 0 x9<|cF (Z5 yp)<|Z9 rfl<|ye H 0 0 x9<|cF (Z5 yp)<|Z9 rfl<|ye H 0 0 x9<|cF (Z5 yp)<|Z9 rfl<|ye H 0 0 x9<|cF (Z5 yp)<|Z9 rfl<|ye H 0 0 x9<|cF (Z5 yp)<|Z9 rfl<|ye H 0 0 x9<|cF (Z5 yp)<|Z9 rfl<|ye H 0 0 x9 ?_
 refine Z7.mk (Fc.imp (YT.KA _ _) ?_)
 rintro _ _ ⟨⟨r1,⟨rfl,h1⟩⟩,rfl⟩
 refine cT (Y9 yp)<|ZC (H.at 0 rfl) 0 rfl rfl rfl<|H.Z8 [7,6,6,6,6,6]<|fun H=>?_
 refine Z7.mk (Fc.imp (Rn.alQ H yp yp yp yp yp yp yp) ?_)
 rintro _ w2 ⟨e1,⟨Zt,⟨P8,⟨Tu,⟨rfl,⟨h2,⟨h3,H⟩⟩⟩⟩⟩⟩⟩
 refine Z6.mk ?_
 refine ⟨e1,Zt,vp,P8,Zp,loc,Tu,?_⟩
 refine ⟨rfl,?_⟩
 constructor
 .grind
 refine ⟨yp,?_⟩
 exact H.Z8 [5,7,6,6,6,6,6]<|fun H=>H.drop 7<|fun H=>H
theorem al1 (H:Sat g w (Pt cp (yl m [yg mp,vt,vg]) 158::Pt mp [vp,yh m.most] 221::Sl 223 256 Xm vp ps::Sl 3 1 ZJ vt Zx::Sl 2 1 ZJ vg Zp::Sl 2 1 ZJ vl loc::Sl 2 1 ZJ vs stk::l)) (ho:36<x.op/\x.op<=255) (hw:¬0<wid x.op) (hq:(W6 x.op).2.2=true) (c1:x.op≠63/\x.op≠64/\x.op≠65/\x.op≠66) (TZ:∀v∈stk,XB v) (hn:UG x.op<=stk.length) (hT:Fold.JI g) (hlen:stk.length<=100000) (hp:ps.length<=8):xP 160 #[yg cp,.agg #[.int .u8 x.op,yh x.a,yh x.b,Sj],vl,vs] w (fun r w'=>∃e vs' Tv ps' Xa loc' YW,r=.tuple #[vs',yh e]/\NP (WB m.most x ⟨flat ps,Zx,Zp⟩ loc stk) e (flat ps') Xa loc' YW/\ps'.length<=8/\Sat g w' (Pt cp (yl m [yg mp,vt,vg]) 158::Pt mp [Tv,yh m.most] 221::Sl 223 256 Xm Tv ps'::Sl 3 1 ZJ vt Zx::Sl 2 1 ZJ vg Xa::Sl 2 1 ZJ vl loc'::Sl 2 1 ZJ vs' YW::l)):=by
 refine Fc.of Tryz.func160 rfl k_d ?_
 have Bo:=Re x.op
 obtain ⟨n1,n2,n3⟩:=ac0 hq hw c1.1 c1.2.1 c1.2.2.1 c1.2.2.2
 have hnn:(W6 x.op).1.length=1\/(W6 x.op).1.length=2:=by
  rw [n2]
  by_cases h:(XK x.op).1.length=1
  .omega
  .exact .inr (acZ (a:=0) (b:=0) n1 h).2.2.2
 unfold UG at hn
 rw [if_neg yp,if_neg yp,if_pos yp] at hn
 have hd:WB m.most x ⟨flat ps,Zx,Zp⟩ loc stk=(if (W6 x.op).1.length=1 then ⟨⟨flat ps,Zx,Zp⟩,loc,low stk 1++[(Xh.UO x.op (top stk 0)).1],(Xh.UO x.op (top stk 0)).2⟩ else ⟨⟨flat ps,Zx,Zp⟩,loc,low stk 2++[(Xh.UP x.op (top stk 1) (top stk 0)).1],(Xh.UP x.op (top stk 1) (top stk 0)).2⟩):=by grind [WB]
 rw [hd]
 clear hd
 refine ZL H<|fun p1 w1 H=>YN H 7 rfl rfl<|ZX yp<|bk<|Z9 rfl<|ye H 0 0 x9<|cF (Z5 yp)<|Z9 rfl<|ye H 0 0 x9<|cF (Z5 yp)<|Z9 rfl<|ye H 0 0 x9<|cF (Z5 yp)<|Z9 rfl<|ye H 0 0 x9<|cF (Z5 yp)<|Z9 rfl<|ye H 0 0 x9<|cF (Z5 yp)<|Z9 rfl<|ye H 0 0 x9<|cF (Z5 yp)<|Z9 rfl<|ye H 0 0 x9<|cF (Z5 yp)<|Z9 rfl<|ye H 0 0 x9<|cF (Z5 yp)<|Z9 rfl<|ye H 0 0 x9<|cF (Z5 yp)<|Z9 rfl<|ye H 0 0 x9<|cF (Z5 yp)<|Z9 rfl<|ye H 0 0 x9<|cF (Z5 yp)<|Z9 rfl<|ye H 0 0 x9 ?_
 refine Z7.mk (Fc.imp (YT.KA _ _) ?_)
 rintro _ _ ⟨⟨r1,⟨rfl,h1⟩⟩,rfl⟩
 refine cF (Zs yp)<|Z9 rfl<|ye H 0 0 x9<|H.Z8 [7]<|fun H=>?_
 refine Z7.mk (Fc.imp (Rn.ahf H yp _ yp yp yp yp yp) ?_)
 rintro _ w2 ⟨Zt,⟨Tu,⟨e1,⟨rfl,⟨h2,H⟩⟩⟩⟩⟩
 refine Z6.mk ?_
 refine ⟨e1,Zt,vp,ps,Zp,loc,Tu,?_⟩
 refine ⟨rfl,?_⟩
 constructor
 .exact aoy yo
 refine ⟨yp,?_⟩
 exact H.Z8 [0,7,7,7,7,7,7]<|fun H=>H.drop 7<|fun H=>H
end
end Rn
namespace XR
open Go YY Go.RowKit
open YT Zl X6 YP Valid
section
variable {g:Zz} {w:World} {l:List As} {m:Zj}
theorem within (H:Sat g w l) (a many all:Int) (ha:-2147483648<=a/\a<=2147483647) (hm:0<=many/\many<=1000000) (hl:0<=all/\all<=1000000):xP 43 #[yh a,yh many,yh all] w (fun r w'=>∃b,r=.bool b/\(b=true↔(0<=a/\a+many<=all))/\Sat g w' l):=by
 refine Fc.of Tryz.func43 rfl k_d<|Yk rfl rfl<|W9 yp rfl rfl<|ZX yp<|Z6.mk ?_
 exact ⟨_,rfl,by simp [YM];omega,H⟩
end
end XR
namespace XR
open Go YY Go.RowKit
open YT Zl X6 YP Valid
section
variable {g:Zz} {w:World} {l:List As} {m:Zj}
theorem afn {l:xO} {i:Nat} (h:l=List.replicate i (-1)):l++[-1]=List.replicate (i+1) (-1):=by
 rw [h,List.replicate_succ']
theorem afo {l:xO} {xs:List (Int × Bool × Int)} {i:Nat} {x:Int × Bool × Int} (h:l=(xs.take i).map (·.2.2)) (hx:xs[i]?=some x):l++[x.2.2]=(xs.take (i+1)).map (·.2.2):=by grind [List.take_add_one]
theorem aia {x:RW} (h:EK x.d=0):(-2147483648<=x.pl/\x.pl<=2147483647)/\x.fs.length<=16:=by
 unfold EK at h
 obtain ⟨h1,h2⟩:=Zi.1 h
 have h3:=(VC.1 h2).1
 unfold Ok at h1
 by_cases hq:-2147483648<=x.d.1/\x.d.1<=2147483647
 .exact ⟨hq,by have:x.d.2.length=x.fs.length:=rfl;omega⟩
 .omega
theorem al2 {x:Int × xN} (h:LN x=0):(-2147483648<=x.1/\x.1<=2147483647)/\x.2.length<=64:=by
 unfold LN at h
 obtain ⟨h1,h2⟩:=Zi.1 h
 unfold Ok at h1
 unfold Lw at h2
 refine ⟨yp,?_⟩
 .omega
theorem al3 (H:Sat g w l) (hT:NR g) (hm:XE g m):xP 14 #[.agg (yl m []).toArray] w (fun r w'=>∃(g':Zz) (mem:xN) (ts gs:xO) (vt vg:Value) (e:Int),r=.tuple #[.agg #[.string (bs mem),vt,vg],yh e]/\Ext g g'/\Z0 g' ZJ WD 1 vt ts/\Z0 g' ZJ WD 1 vg gs/\Fh m mem ts gs e/\Sat g' w' l):=by
 refine Fc.of Tryz.func14 rfl k_d ?_
 have ZP:=hm.types
 have ZT:=hm.funcs
 have Ze:=hm.globals
 have Zu:=hm.ZA
 have Xu:=hm.VR
 have XD:=hm.elems
 have VA:=hm.data
 by_cases h0:Wm m.d=0
 .obtain ⟨yX,hI,Aj⟩:=Uu (W4 h0).1
  have P:=UR yX
  have ac5:=P.table
  have ac6:=P.pages
  have ajt:=P.most
  have adD:=P.globals
  have am7:=P.elems
  have aoz:=P.data
  obtain ⟨tb,htb⟩:=lqa ac5.1
  obtain ⟨pg,hpg⟩:=lqa ac6.1
  refine ZL H<|fun p1 w1 H=>ZV H rfl<|fun p2 w2 H=>ZC (H.at 1 rfl) 0 rfl rfl rfl ?_
  refine Z7.mk (Fc.imp (Valid.RT H yp yp) ?_)
  rintro _ w1 ⟨e1,⟨rfl,⟨h1,H⟩⟩⟩
  refine cF (XL yp)<|Z9 rfl<|ye H 1 9 x9<|ZF XD rfl ?_
  refine YV.rule (α:=Nat) (0) (fun x_=>[(24,yh x_)]) (fun x_ w_=>(x_<=m.elems.length)/\(AI (fun x:RW=>Ew x.pl x.fs.length m.table) m.elems x_)/\Sat g w_ ((Pt p2 [.string (bs []),.slice none 0 0,.slice none 0 0] 34::Pt p1 (yl m []) 30::l))) (fun x_=>m.elems.length-x_) ?_ ?_ ?_
  .exact k_a
  .try simp only
   refine ⟨yp,?_⟩
   constructor
   .exact AI.zero
   exact H
  rintro i f_ w_ ⟨hi,hA,H⟩
  try simp only at hi hA H ⊢
  rcases lAa i m.elems.length with hlt|hge
  .obtain ⟨x,hx⟩:∃x,m.elems[i]?=some x:=⟨_,laa hlt⟩
   have Hz:=lda hx
   have Kg:=Z0.all XD x Hz
   have Ql:=Kg.fs
   have HA:=aia (P.Ih x Hz)
   refine cT (Y9 yp)<|bk ?_
   obtain ⟨b1,o1,E1,F1,ZH⟩:=Z0.Y5 XD hx
   have Pe:=ZH.pl
   have VB:=ZH.fs
   refine ZI E1 rfl rfl rfl<|ZC (H.Yt F1) 0 rfl rfl rfl<|ZV H rfl<|fun p3 w3 H=>ZG H 0 rfl rfl rfl (by simp only [yq9,yq8,Z0.one VB,Z0.one Ql,Z0.one VA,Z0.one XD,Z0.one Xu,Z0.one Zu,Z0.one Ze,Z0.one ZT,Z0.one ZP];rfl)<|fun w4 H=>Z9 rfl<|ye H 0 0 x9<|Z9 rfl<|ye H 0 1 x9<|ZF VB rfl<|Z9 rfl<|ye H 2 3 x9 ?_
   refine Z7.mk (Fc.imp (XR.within H _ _ _ yp yp yp) ?_)
   rintro _ w3 ⟨b2,⟨rfl,⟨h2,H⟩⟩⟩
   refine cI (fun c1=>?_) (fun c1=>?_)
   .replace c1:=Su h2 (Sw (c1))
    exact Zn rfl rfl rfl<|ZG H 1 rfl rfl rfl rfl<|fun w5 H=>XM (H.at 1 rfl) 0 rfl rfl rfl<|Z6.mk<|⟨g,[],[],[],_,_,_,rfl,Ext.refl _,Z0.M4 _ _ _ _,Z0.M4 _ _ _ _,mk2 yp hA hx yp,((H.del 0).del 0).del 0⟩
   replace c1:=h2.1 (Sv (c1))
   refine ZX yp ?_
   refine W0.mk (i+1) (Zr rfl yp (ZW)) ?_ ?_
   .refine ⟨yp,?_⟩
    constructor
    .exact hA.step hx (Jd.2 yp)
    exact H.Z8 [2,2]<|fun H=>H.drop 2<|fun H=>H
   omega
  .have hE:=hA.fin hge
   refine cF (Zs yp)<|Z9 rfl<|ye H 1 4 x9<|ZX yp<|R1 (en:=SJ) (s:=1) H ((0:UInt8)) ((m.pages * 256).toNat) ((m.pages * 256).toNat) 1 rfl rfl rfl (fun _=>rfl) yp yp yp yp yp<|fun v1 w3 H=>Z9 rfl<|ye H 2 10 x9<|ZF VA rfl ?_
   rw [show (m.pages * 256).toNat=256 * m.pages.toNat by omega] at H
   refine YV.rule (α:=Nat × xN) (0,List.replicate (256 * m.pages.toNat) 0) (fun x_=>[(46,yh x_.1)]) (fun x_ w_=>(x_.1<=m.data.length)/\(AI (fun x:Int × xN=>Ew x.1 x.2.length (m.pages * 256)) m.data x_.1)/\(LM (256 * m.pages.toNat) m.data x_.1 x_.2)/\Sat g w_ ((Sl 5 1 SJ v1 x_.2::Pt p2 [.string (bs []),.slice none 0 0,.slice none 0 0] 34::Pt p1 (yl m []) 30::l))) (fun x_=>m.data.length-x_.1) ?_ ?_ ?_
   .exact k_a
   .try simp only
    refine ⟨yp,?_⟩
    constructor
    .exact AI.zero
    constructor
    .exact LM.zero
    exact H
   rintro ⟨i2,cur⟩ f_ w_ ⟨hi2,hB,hL,H⟩
   try simp only at hi2 hB hL H ⊢
   have Ti:=hL.len
   rcases lAa i2 m.data.length with Kr|LH
   .obtain ⟨x,hx⟩:∃x,m.data[i2]?=some x:=⟨_,laa Kr⟩
    have Hz:=lda hx
    have Kg:=Z0.all VA x Hz
    have HA:=al2 (P.alf x Hz)
    refine cT (Y9 yp)<|bk ?_
    obtain ⟨b1,o1,E1,F1,ZH⟩:=Z0.Y5 VA hx
    have Pe:=ZH.pl
    have acq:=ZH.bytes
    refine ZI E1 rfl rfl rfl<|ZC (H.Yt F1) 0 rfl rfl rfl<|ZV H rfl<|fun p3 w4 H=>ZG H 0 rfl rfl rfl rfl<|fun w5 H=>Z9 rfl<|ye H 0 0 x9<|Z9 rfl<|ye H 0 1 x9<|Xv rfl<|YN H 1 rfl rfl ?_
    refine Z7.mk (Fc.imp (XR.within H _ _ _ yp yp yp) ?_)
    rintro _ w4 ⟨b2,⟨rfl,⟨h2,H⟩⟩⟩
    refine cI (fun c1=>?_) (fun c1=>?_)
    .replace c1:=Su h2 (Sw (c1))
     exact Zn rfl rfl rfl<|ZG H 2 rfl rfl rfl rfl<|fun w6 H=>XM (H.at 2 rfl) 0 rfl rfl rfl<|Z6.mk<|⟨g,[],[],[],_,_,_,rfl,Ext.refl _,Z0.M4 _ _ _ _,Z0.M4 _ _ _ _,mk3 yp hE hB hx yp,(((H.del 0).del 0).del 0).del 0⟩
    replace c1:=h2.1 (Sv (c1))
    refine ZN H [] [yfp0,yfp1,yfh2,yfp3,yfp4,yfh5,yffr6] mixed k_d k_d<|fun w6 H=>yc rfl rfl<|yd 0 0 x9 rfl ?_
    obtain ⟨v2,V1⟩:=H.vw 1 rfl ((x.fst).toNat) ((cur).length) yp yp
    refine tk (fun _ Z=>Wp V1 rfl rfl (.inr ⟨_,by first|rfl|(congr 2;omega)⟩) (.inl yj) yj)<|yc rfl rfl<|yd 0 1 x9 rfl<|agD H 1 rfl V1 yp rfl rfl<|fun w9 H=>ZX yp ?_
    refine W0.mk ((i2+1,List.take x.fst.toNat cur++x.snd++List.drop (x.fst.toNat+x.snd.length) cur)) (Zr rfl yp (ZW)) ?_ ?_
    .refine ⟨yp,?_⟩
     constructor
     .exact hB.step hx (Jd.2 yp)
     constructor
     .exact hL.step hx yp
     exact H.Z8 [3,3,3]<|fun H=>H.drop 3<|fun H=>H
    omega
   .have hD:=hB.fin LH
    have hmem:=hL.fin LH
    refine cF (Zs yp)<|ZV H rfl<|fun p3 w4 H=>Z9 rfl<|ye H 3 3 x9 ?_
    replace H:=H.Ve (en:=ZJ) (s:=1) 3 (fun _=>rfl)
    have apJ:m.table.toNat=tb:=by omega
    refine YV.rule (α:=Nat × Value × xO) (0,.slice none 0 0,[]) (fun x_=>[(70,yh x_.1)]) (fun x_ w_=>(x_.1<=tb)/\(x_.2.2=List.replicate x_.1 (-1))/\Sat g w_ ((Sl 3 1 ZJ x_.2.1 x_.2.2::Pt p3 [.string (bs []),x_.2.1,.slice none 0 0] 34::Sl 5 1 SJ v1 cur::Pt p2 [.string (bs []),.slice none 0 0,.slice none 0 0] 34::Pt p1 (yl m []) 30::l))) (fun x_=>tb-x_.1) ?_ ?_ ?_
    .exact k_a
    .try simp only
     refine ⟨yp,?_⟩
     constructor
     .simp
     exact H
    rintro ⟨i3,vt,tc⟩ f_ w_ ⟨Bl,CR,H⟩
    try simp only at Bl CR H ⊢
    have NC:tc.length=i3:=by grind
    rcases lAa i3 tb with alm|aln
    .refine cT (Y9 yp)<|bk<|Z9 rfl<|ye H 1 1 x9<|ZZ H rfl rfl rfl rfl<|fun p4 w5 H=>WO (ys:=[_]) 8 H 1 rfl (H.at 0 rfl) rfl (fun y _=>rfl) rfl rfl rfl yp yp<|fun v2 w6 H=>Z9 rfl<|Yo H 2 rfl rfl rfl (H.one 1 rfl)<|fun w5 H=>ZX yp ?_
     refine W0.mk ((i3+1,v2,tc++[-1])) (Zr rfl yp (ZW)) ?_ ?_
     .refine ⟨yp,?_⟩
      constructor
      .exact afn CR
      exact H.Z8 [5,5,5,5,5]<|fun H=>H.drop 5<|fun H=>H
     omega
    .have aoA:i3=m.table.toNat:=by omega
     have hLT:LT m.table.toNat m.elems 0 tc:=by
      rw [CR,aoA];exact LT.zero
     refine cF (Zs yp)<|Z9 rfl<|ye H 4 9 x9<|ZF XD rfl ?_
     refine YV.rule (α:=Nat × xO) (0,tc) (fun x_=>[(81,yh x_.1)]) (fun x_ w_=>(x_.1<=m.elems.length)/\(LT m.table.toNat m.elems x_.1 x_.2)/\Sat g w_ ((Sl 3 1 ZJ vt x_.2::Pt p3 [.string (bs []),vt,.slice none 0 0] 34::Sl 5 1 SJ v1 cur::Pt p2 [.string (bs []),.slice none 0 0,.slice none 0 0] 34::Pt p1 (yl m []) 30::l))) (fun x_=>m.elems.length-x_.1) ?_ ?_ ?_
     .exact k_a
     .grind
     rintro ⟨i4,tu⟩ f_ w_ ⟨hi4,hJ,H⟩
     try simp only at hi4 hJ H ⊢
     have apK:=hJ.len
     rcases lAa i4 m.elems.length with aoB|al4
     .obtain ⟨x,hx⟩:∃x,m.elems[i4]?=some x:=⟨_,laa aoB⟩
      have Hz:=lda hx
      have Kg:=Z0.all XD x Hz
      have Ql:=Kg.fs
      have HA:=aia (P.Ih x Hz)
      have apr:=Jd.1 (Ua.1 hE x Hz)
      refine cT (Y9 yp)<|bk ?_
      obtain ⟨b1,o1,E1,F1,ZH⟩:=Z0.Y5 XD hx
      have Pe:=ZH.pl
      have VB:=ZH.fs
      refine ZI E1 rfl rfl rfl<|ZC (H.Yt F1) 0 rfl rfl rfl<|ZV H rfl<|fun p4 w5 H=>ZG H 0 rfl rfl rfl (by simp only [yq9,yq8,H.one 1 rfl,H.one 3 rfl,Z0.one VB,Z0.one Ql,Z0.one VA,Z0.one XD,Z0.one Xu,Z0.one Zu,Z0.one Ze,Z0.one ZT,Z0.one ZP];rfl)<|fun w6 H=>ZN H [] [yfp0,yfh1,yfp2,yfh3,yfp4,yfp5,yfh6,yffr7] mixed k_d k_d<|fun w5 H=>yc rfl rfl<|yd 2 1 x9 rfl<|yc rfl rfl<|yd 0 0 x9 rfl ?_
      obtain ⟨v2,V1⟩:=H.vw 1 rfl ((x.pl).toNat) ((tu).length) yp yp
      refine tk (fun _ Z=>Wp V1 rfl rfl (.inr ⟨_,by first|rfl|(congr 2;omega)⟩) (.inl yj) yj)<|yc rfl rfl<|yd 0 1 x9 rfl<|agE H 1 rfl V1 (H.rd Ql) yp (fun y _=>rfl) rfl rfl<|fun w9 H=>ZX yp ?_
      refine W0.mk ((i4+1,List.take x.pl.toNat tu++x.fs++List.drop (x.pl.toNat+x.fs.length) tu)) (Zr rfl yp (ZW)) ?_ ?_
      .refine ⟨yp,?_⟩
       constructor
       .exact hJ.step hx yp (Z0.all Ql)
       exact H.Z8 [5,5,5,5,5]<|fun H=>H.drop 5<|fun H=>H
      omega
     .have Q9:=hJ.fin al4
      refine cF (Zs yp)<|Z9 rfl<|ye H 4 6 x9<|ZF Ze rfl ?_
      replace H:=H.Ve (en:=ZJ) (s:=1) 2 (fun _=>rfl)
      refine YV.rule (α:=Nat × Value × xO) (0,.slice none 0 0,[]) (fun x_=>[(97,yh x_.1)]) (fun x_ w_=>(x_.1<=m.globals.length)/\(x_.2.2=(m.globals.take x_.1).map (·.2.2))/\Sat g w_ ((Sl 2 1 ZJ x_.2.1 x_.2.2::Sl 3 1 ZJ vt tu::Pt p3 [.string (bs []),vt,x_.2.1] 34::Sl 5 1 SJ v1 cur::Pt p2 [.string (bs []),.slice none 0 0,.slice none 0 0] 34::Pt p1 (yl m []) 30::l))) (fun x_=>m.globals.length-x_.1) ?_ ?_ ?_
      .exact k_a
      .grind
      rintro ⟨i5,vg,gc⟩ f_ w_ ⟨hi5,hG,H⟩
      try simp only at hi5 hG H ⊢
      have y9:gc.length=i5:=by grind
      rcases lAa i5 m.globals.length with al5|aoC
      .obtain ⟨x,hx⟩:∃x,m.globals[i5]?=some x:=⟨_,laa al5⟩
       have Kg:=Z0.all Ze x (lda hx)
       have aps:=Kg.start
       refine cT (Y9 yp)<|bk ?_
       obtain ⟨b1,o1,E1,F1,ZH⟩:=Z0.Y5 Ze hx
       have QI:=ZH.kind
       have RV:=ZH.start
       refine ZI E1 rfl rfl rfl<|ZC (H.Yt F1) 0 rfl rfl rfl<|ZV H rfl<|fun p4 w5 H=>ZG H 0 rfl rfl rfl rfl<|fun w6 H=>Z9 rfl<|ye H 3 2 x9<|Z9 rfl<|ye H 0 2 x9<|ZZ H rfl rfl rfl rfl<|fun p5 w5 H=>WO (ys:=[_]) 8 H 2 rfl (H.at 0 rfl) rfl (fun y _=>rfl) rfl rfl rfl yp yp<|fun v2 w6 H=>Z9 rfl<|Yo H 4 rfl rfl rfl (H.one 2 rfl)<|fun w5 H=>ZX yp ?_
       refine W0.mk ((i5+1,v2,gc++[x.snd.snd])) (Zr rfl yp (ZW)) ?_ ?_
       .refine ⟨yp,?_⟩
        constructor
        .exact afo hG hx
        exact H.Z8 [7,7,7,7,7,7]<|fun H=>xU H [7,6]<|fun H=>H
       omega
      .have AY:gc=m.globals.map (·.2.2):=by grind
       have hgo:∀y∈gc,XB y:=fun y hy=>by
        rw [AY] at hy
        obtain ⟨z,hz,rfl⟩:=lbb.1 hy
        exact (Z0.all Ze z hz).start
       refine cF (Zs yp)<|R4 H 3 rfl rfl rfl rfl<|Z9 rfl<|Yo H 2 rfl rfl rfl rfl<|fun w5 H=>ZC (H.at 2 rfl) 0 rfl rfl rfl<|ZG H 4 rfl rfl rfl (by simp only [yq9,yq8,H.one 0 rfl,H.one 1 rfl,H.one 3 rfl,Z0.one VA,Z0.one XD,Z0.one Xu,Z0.one Zu,Z0.one Ze,Z0.one ZT,Z0.one ZP];rfl)<|fun w6 H=>XM (H.at 4 rfl) 0 rfl rfl rfl<|H.Vj 0 WD rfl hgo<|fun g1 e1 yW H=>H.Vj 0 WD rfl hJ.ok<|fun g2 e2 htF H=>?_
       replace yW:=yW.ext e2
       have E:=e1.trans e2
       exact Z6.mk<|⟨g2,_,_,_,_,_,_,rfl,E,htF,yW,mk4 h0.symm hE hD hmem Q9 AY,(((H.del 0).del 0).del 0).del 0⟩
 .refine ZL H<|fun p1 w1 H=>ZV H rfl<|fun p2 w2 H=>ZC (H.at 1 rfl) 0 rfl rfl rfl ?_
  refine Z7.mk (Fc.imp (Valid.RT H yp yp) ?_)
  rintro _ w1 ⟨e1,⟨rfl,⟨h1,H⟩⟩⟩
  exact cT (WE yp)<|Zn rfl rfl rfl<|ZG H 0 rfl rfl rfl rfl<|fun w3 H=>XM (H.at 0 rfl) 0 rfl rfl rfl<|Z6.mk<|⟨g,[],[],[],_,_,_,rfl,Ext.refl _,Z0.M4 _ _ _ _,Z0.M4 _ _ _ _,mk1 yo yp,(H.del 0).del 0⟩
end
end XR
namespace XR
open Go YY Go.RowKit
open YT Zl X6 YP Valid
section
variable {g:Zz} {w:World} {l:List As} {m:Zj}
theorem G5 (H:Sat g w l) (k a:Int):xP 48 #[.int .u8 k,yh a] w (fun v w'=>∃r,v=yh r/\r=Tm k a/\Sat g w' l):=by
 refine Fc.of Tryz.func48 rfl k_d ?_
 refine cI (fun h=>?_) (fun h=>?_)
 .have h:=ZR h
  refine Zo rfl rfl<|Zo rfl rfl ?_
  exact Z6.mk ⟨_,rfl,by unfold Tm;rw [if_pos h],H⟩
 have h:=ZQ h
 exact Z6.mk ⟨_,rfl,by unfold Tm;rw [if_neg h],H⟩
end
end XR
namespace Rn
open Go YY Go.RowKit
open YT Zl X6 YP Valid Mem
section
variable {g:Zz} {w:World} {l:List As} {m:Zj} {cp mp:Nat} {vp vt vg vl vs Sj:Value} {ps:List WN} {Zx Zp loc stk:xO} {x:ZU}
theorem do_ (H:Sat g w (Pt cp (yl m [yg mp,vt,vg]) 158::Pt mp [vp,yh m.most] 221::Sl 223 256 Xm vp ps::Sl 3 1 ZJ vt Zx::Sl 2 1 ZJ vg Zp::Sl 2 1 ZJ vl loc::Sl 2 1 ZJ vs stk::l)) (hD:F9 x ⟨flat ps,Zx,Zp⟩ loc stk) (hT:Fold.JI g) (hop:x.op<=255) (hm:ps.length<=m.most/\m.most<=8) (hlen:stk.length<=100000):xP 160 #[yg cp,.agg #[.int .u8 x.op,yh x.a,yh x.b,Sj],vl,vs] w (fun r w'=>∃e vs' Tv ps' Xa loc' YW,r=.tuple #[vs',yh e]/\NP (WB m.most x ⟨flat ps,Zx,Zp⟩ loc stk) e (flat ps') Xa loc' YW/\ps'.length<=8/\Sat g w' (Pt cp (yl m [yg mp,vt,vg]) 158::Pt mp [Tv,yh m.most] 221::Sl 223 256 Xm Tv ps'::Sl 3 1 ZJ vt Zx::Sl 2 1 ZJ vg Xa::Sl 2 1 ZJ vl loc'::Sl 2 1 ZJ vs' YW::l)):=by
 have hp:ps.length<=8:=by omega
 have hn:=hD.need
 have n1:x.op=26\/x.op=33\/x.op=34\/x.op=36->1<=stk.length:=fun h=>by unfold UG at hn;rw [if_pos h] at hn;exact hn
 rcases hD.op with h|h|h|⟨LI,hq⟩
 .exact alR H h (n1 (.inl h)) hlen hp
 .exact alS H h (by unfold UG at hn;rw [if_neg yp,if_pos h] at hn;exact hn) hlen hp
 .by_cases h2:x.op=32
  .exact alT H h2 (hD.loc h.1 yp) hlen hp
  by_cases h3:x.op=33\/x.op=34
  .exact alU H h3 (hD.loc h.1 yp) (n1 yp) hlen hp
  by_cases h5:x.op=35
  .exact alV H h5 (hD.Zp (.inl h5)) hlen hp
  .exact alW H yp (hD.Zp yp) (n1 yp) hlen hp
 .by_cases h5:x.op=65\/x.op=66
  .exact alX H h5 hlen hp
  by_cases h3:x.op=63
  .exact alY H h3 hlen hp
  by_cases h4:x.op=64
  .have h1:1<=stk.length:=by
    unfold UG at hn
    rw [if_neg yp,if_neg yp,if_pos yp,h4,show W6 64=([127],[127],true) by decide] at hn;exact hn
   exact alZ H h4 h1 hD.GV hm hlen hp
  by_cases hw:0<wid x.op
  .exact al0 H ⟨LI,hop⟩ hw hD.GV hn (hD.off hw) hlen hp
  .exact al1 H ⟨LI,hop⟩ hw hq ⟨h3,h4,by omega,by omega⟩ hD.GV hn hT hlen hp
theorem al6 (P:VJ m.d) {n:Int} (h0:0<=n) (h1:n<(m.ZA.length:Int)+m.funcs.length):∃(i:Nat) (t:Xx),m.types[i]?=some t/\t.d=YO m.d n /\
  (n<m.ZA.length->∃y,m.ZA[n.toNat]?=some y/\y.2=i)/\(¬n<m.ZA.length->∃f,m.funcs[n.toNat-m.ZA.length]?=some f/\f.ty=i):=by
 have hfl:m.d.funcs.length=m.funcs.length:=lea ..
 have hil:m.d.ZA.length=m.ZA.length:=rfl
 have NC:m.d.types.length=m.types.length:=lea ..
 by_cases h:n<m.ZA.length
 .have hi:n.toNat<m.ZA.length:=by omega
  have hm:=P.imp _ (lsb0 (show n.toNat<m.d.ZA.length from hi))
  have hm:0<=m.ZA[n.toNat].2/\m.ZA[n.toNat].2<m.d.types.length:=hm
  obtain ⟨i,AX⟩:=lqa hm.1
  have hit:i<m.types.length:=by omega
  refine ⟨i,m.types[i],laa hit,?_,fun _=>⟨_,laa hi,AX⟩,fun h'=>absurd h h'⟩
  obtain ⟨t,e1,e2,_⟩:=NB P h0 (show n<Y8 m.d from h)
  rw [e2]
  unfold Xd P7 at e1
  rw [if_neg yp] at e1
  have DI:(ZB m.d).ZA.length=m.ZA.length:=lea ..
  rw [DI,if_pos h] at e1
  have e3:(ZB m.d).ZA[n.toNat]?=some m.ZA[n.toNat].2:=by
   show (m.ZA.map (·.2))[_]?=_
   rw [lva,laa hi];rfl
  rw [e3,AX] at e1
  have e1:(m.types.map Xx.d)[i]?=some t:=e1
  rw [lva,laa hit] at e1
  exact yq6 e1
 .have hi:n.toNat-m.ZA.length<m.funcs.length:=by omega
  have hmem:m.funcs[n.toNat-m.ZA.length].d∈m.d.funcs:=lbb.2 ⟨_,lsb0 hi,rfl⟩
  have hm:=(P.fn _ hmem).ty
  have hm:0<=m.funcs[n.toNat-m.ZA.length].ty/\m.funcs[n.toNat-m.ZA.length].ty<m.d.types.length:=hm
  obtain ⟨i,AX⟩:=lqa hm.1
  have hit:i<m.types.length:=by omega
  refine ⟨i,m.types[i],laa hit,?_,fun h'=>absurd h' h,fun _=>⟨_,laa hi,AX⟩⟩
  obtain ⟨_,e2⟩:=QD P (n:=n-Y8 m.d) (by grind [Y8]) (by grind [Y8])
  rw [show Y8 m.d+(n-Y8 m.d)=n by omega] at e2
  rw [e2]
  have e3:Zg m.d (n-Y8 m.d)=m.funcs[n.toNat-m.ZA.length].d:=by
   unfold Zg Y8
   rw [show (n-(m.d.ZA.length:Int)).toNat=n.toNat-m.ZA.length by omega]
   show (m.funcs.map Yr.d).getD _ _=_
   rw [lha,lva,laa hi];rfl
  rw [e3]
  unfold UN
  show _=(m.types.map Xx.d).getD m.funcs[n.toNat-m.ZA.length].ty.toNat _
  rw [AX,lia0,lha,lva,laa hit];rfl
theorem al7 (H:Sat g w l) (u v:Value) (xs ys:xO) (hx:Z0 g Yu U8 1 u xs) (hy:Z0 g Yu U8 1 v ys) (hl:xs.length<=1000) :
  xP 166 #[u,v] w (fun r w'=>∃b,r=.bool b/\(b=true↔xs=ys)/\Sat g w' l):=by
 refine Fc.of Tryz.func166 rfl k_d<|ZF hx rfl<|ZF hy rfl ?_
 refine xQ (fun c1=>?_) (fun c1=>?_)
 .exact Z6.mk<|⟨false,rfl,⟨nofun,fun h=>absurd (yq5 List.length h) yp⟩,H⟩
 refine ZF hx rfl ?_
 refine YV.rule (α:=Nat) (0) (fun x_=>[(13,yh x_)]) (fun x_ w_=>(x_<=xs.length)/\(∀q,q<x_->xs[q]?=ys[q]?)/\Sat g w_ (l)) (fun x_=>xs.length-x_) ?_ ?_ ?_
 .exact k_a
 .grind
 rintro i f_ w_ ⟨hi,he,H⟩
 try simp only at hi he H ⊢
 refine xT (fun c2=>?_) (fun c2=>?_)
 .refine bk<|ZN H [] [yfp0,yfp1,yfp2,yfh3,yfp4,yfp5,yfp6,yfh7,yfp8] mixed k_d k_d<|fun w1 H=>?_
  obtain ⟨x1,hx1⟩:∃x,(xs)[(i)]?=some x:=⟨_,laa yp⟩
  obtain ⟨b1,o1,E1,F1,ZH⟩:=Z0.Y5 hx hx1
  refine tk (fun _ Z=>ZI E1 rfl rfl rfl yj)<|tk (fun _ Z=>xW (Z.Yt F1) 0 xV yj) ?_
  obtain ⟨x2,RK⟩:∃x,(ys)[(i)]?=some x:=⟨_,laa yp⟩
  obtain ⟨b2,o2,E2,F2,YB⟩:=Z0.Y5 hy RK
  refine tk (fun _ Z=>ZI E2 rfl rfl rfl yj)<|tk (fun _ Z=>xW (Z.Yt F2) 0 xV yj) ?_
  refine xQ (fun c3=>?_) (fun c3=>?_)
  .exact Z6.mk<|⟨false,rfl,⟨nofun,fun h=>absurd (by subst h;exact yq6 (hx1.symm.trans RK)) yo⟩,H⟩
  refine ZX yp ?_
  refine W0.mk (i+1) (Zr rfl yp (ZW)) ?_ ?_
  .grind
  omega
 exact Z6.mk<|⟨true,rfl,⟨fun _=>Ref.Oq yp yp he,fun _=>rfl⟩,H⟩
theorem al8 (H:Sat g w l) (a b:Xx) (ha:WI g a) (hb:WI g b) (h1:a.Zh.length<=1000) (h2:a.out.length<=1000) :
  xP 120 #[.agg #[a.vi,a.vo],.agg #[b.vi,b.vo]] w (fun r w'=>∃q,r=.bool q/\(q=true↔a.Zh=b.Zh/\a.out=b.out)/\Sat g w' l):=by
 refine Fc.of Tryz.func120 rfl k_d ?_
 have aju:=ha.Zh
 have ajv:=ha.out
 have ajw:=hb.Zh
 have ajx:=hb.out
 refine ZL H<|fun p1 w1 H=>ZL H<|fun p2 w2 H=>Z9 rfl<|ye H 1 0 x9<|Z9 rfl<|ye H 0 0 x9 ?_
 refine Z7.mk (Fc.imp (Rn.al7 H _ _ _ _ aju ajw ?_) ?_)
 .grind
 rintro _ w1 ⟨b1,⟨rfl,⟨h3,H⟩⟩⟩
 refine br (fun c1=>?_) (fun c1=>?_)
 .replace c1:=h3.1 (c1)
  refine Z9 rfl<|ye H 1 1 x9<|Z9 rfl<|ye H 0 1 x9 ?_
  refine Z7.mk (Fc.imp (Rn.al7 H _ _ _ _ ajv ajx ?_) ?_)
  .grind
  rintro _ w3 ⟨b2,⟨rfl,⟨h4,H⟩⟩⟩
  refine Z6.mk ?_
  refine ⟨b2,?_⟩
  constructor
  .grind
  constructor
  .grind
  exact xU H [1,0]<|fun H=>H
 replace c1:=Su h3 (c1)
 refine Z6.mk ?_
 refine ⟨false,?_⟩
 constructor
 .grind
 constructor
 .grind
 exact xU H [1,0]<|fun H=>H
theorem NV (H:Sat g w (Pt cp (yl m [yg mp,vt,vg]) 158::l)) (hm:XE g m) (P:VJ m.d) (n:Int) (h0:0<=n) (h1:n<(m.ZA.length:Int)+m.funcs.length) :
  xP 75 #[yg cp,yh n] w (fun r w'=>∃t:Xx,r=.agg #[t.vi,t.vo]/\t∈m.types/\WI g t/\t.d=YO m.d n/\t.Zh.length<=4/\t.out.length<=1/\Sat g w' (Pt cp (yl m [yg mp,vt,vg]) 158::l)):=by
 refine Fc.of Tryz.func75 rfl k_d ?_
 have ZP:=hm.types
 have Zu:=hm.ZA
 have ZT:=hm.funcs
 obtain ⟨i,t,k1,k2,k3,k4⟩:=al6 P h0 h1
 have Lx:=lda k1
 have hto:=Z0.all ZP t Lx
 have J3:t.Zh.length<=4:=(P.sig t.d (lbb.2 ⟨t,Lx,rfl⟩)).1
 have al9:t.out.length<=1:=(P.sig t.d (lbb.2 ⟨t,Lx,rfl⟩)).2
 have hni:=P.ni
 have hnf:=P.nf
 have hfl:m.d.funcs.length=m.funcs.length:=lea ..
 have hil:m.d.ZA.length=m.ZA.length:=rfl
 obtain ⟨k,rfl⟩:=lqa h0
 rw [lia0] at k3 k4
 by_cases h:(k:Int)<m.ZA.length
 .obtain ⟨y,q1,q2⟩:=k3 h
  have hlt:=(lba.1 k1).1
  have hyb:0<=y.2/\y.2<m.types.length:=by omega
  have yV:m.types[y.2.toNat]?=some t:=by grind
  refine ZV H rfl<|fun p1 w1 H=>Z9 rfl<|Z9 rfl<|ye H 1 1 x9<|ZF Zu rfl<|cT (Y9 yo)<|ZN H [] [yfp0,yfp1,yfp2,yfp3,yfh4,yfp5,yfp6,yfp7,yfp8,yfh9,yfp10,yfp11,yfp12,yfh13,yfp14,yfh15,yffr16] mixed k_d k_d<|fun w2 H=>yc rfl rfl<|yc rfl rfl<|yd 1 0 x9 rfl<|yc rfl rfl<|yc rfl rfl<|yd 1 1 x9 rfl ?_
  obtain ⟨b1,o1,E1,F1,ZH⟩:=Z0.Y5 Zu q1
  have Ux:=ZH.name
  have XS:=ZH.ty
  refine tk (fun _ Z=>ZI E1 rfl rfl rfl yj)<|yc rfl rfl<|tk (fun _ Z=>xW (Z.Yt F1) 1 xV yj) ?_
  obtain ⟨b2,o2,E2,F2,YB⟩:=Z0.Y5 ZP yV
  have Yz:=YB.Zh
  have YK:=YB.out
  refine tk (fun _ Z=>ZI E2 yp rfl rfl yj)<|tk (fun _ Z=>ZC (Z.Yt F2) 0 rfl rfl rfl yj)<|ZG H 0 rfl rfl rfl (by grind [Z0.one])<|fun w1 H=>XM (H.at 0 rfl) 0 rfl rfl rfl<|Z6.mk ?_
  refine ⟨t,?_⟩
  refine ⟨rfl,?_⟩
  refine ⟨yp,?_⟩
  refine ⟨yp,?_⟩
  refine ⟨yp,?_⟩
  refine ⟨yp,?_⟩
  refine ⟨yp,?_⟩
  exact H.Z8 [1]<|fun H=>H.drop 1<|fun H=>H
 .obtain ⟨f,q1,q2⟩:=k4 h
  have hlt:=(lba.1 k1).1
  have hyb:0<=f.ty/\f.ty<m.types.length:=by omega
  have yV:m.types[f.ty.toNat]?=some t:=by grind
  refine ZV H rfl<|fun p1 w1 H=>Z9 rfl<|Z9 rfl<|ye H 1 1 x9<|ZF Zu rfl<|cF (Zs yp)<|ZN H [] [yfp0,yfp1,yfp2,yfp3,yfh4,yfp5,yfp6,yfp7,yfp8,yfh9,yfp10,yfp11,yfp12,yfp13,yfp14,yfh15,yfp16,yfp17,yfp18,yfp19,yfh20,yfp21,yfh22,yffr23] mixed k_d k_d<|fun w2 H=>yc rfl rfl<|yc rfl rfl<|yd 1 0 x9 rfl<|yc rfl rfl<|yc rfl rfl<|yd 1 2 x9 rfl<|yc rfl rfl<|yc rfl rfl<|yd 1 1 x9 rfl<|tk (fun _ Z=>ZF Zu rfl yj)<|ZX yp ?_
  obtain ⟨b1,o1,E1,F1,ZH⟩:=Z0.Y5 ZT q1
  have XS:=ZH.ty
  have Zv:=ZH.loc
  have ZE:=ZH.body
  refine tk (fun _ Z=>ZI E1 yp rfl rfl yj)<|yc rfl rfl<|tk (fun _ Z=>xW (Z.Yt F1) 0 xV yj) ?_
  obtain ⟨b2,o2,E2,F2,YB⟩:=Z0.Y5 ZP yV
  have Yz:=YB.Zh
  have YK:=YB.out
  refine tk (fun _ Z=>ZI E2 yp rfl rfl yj)<|tk (fun _ Z=>ZC (Z.Yt F2) 0 rfl rfl rfl yj)<|ZG H 0 rfl rfl rfl (by grind [Z0.one])<|fun w1 H=>XM (H.at 0 rfl) 0 rfl rfl rfl<|Z6.mk ?_
  refine ⟨t,?_⟩
  refine ⟨rfl,?_⟩
  refine ⟨yp,?_⟩
  refine ⟨yp,?_⟩
  refine ⟨yp,?_⟩
  refine ⟨yp,?_⟩
  refine ⟨yp,?_⟩
  exact H.Z8 [1]<|fun H=>H.drop 1<|fun H=>H
theorem ce0 {t tx:Xx} {D:Xl} {f:Int} (h:t.d=D) (hc:¬(t.Zh=tx.Zh/\t.out=tx.out)):((0:Int),List.drop 0 (List.take (stk.length-1) stk),(25:Int))=if D.Zh≠tx.d.Zh\/D.out≠tx.d.out then (0,low stk 1,25) else (f,low stk 1,0):=by
 subst h
 rw [I7,if_pos]
 refine Decidable.by_contra fun hn=>hc ⟨Decidable.by_contra fun h1=>hn (.inl h1),Decidable.by_contra fun h2=>hn (.inr h2)⟩
theorem ce1 {t tx:Xx} {D:Xl} {f:Int} (h:t.d=D) (hc:t.Zh=tx.Zh/\t.out=tx.out):(f,List.drop 0 (List.take (stk.length-1) stk),(0:Int))=if D.Zh≠tx.d.Zh\/D.out≠tx.d.out then (0,low stk 1,25) else (f,low stk 1,0):=by
 subst h
 rw [I7,if_neg]
 rintro (h|h)
 .exact h hc.1
 .exact h hc.2
theorem OV (H:Sat g w (Pt cp (yl m [yg mp,vt,vg]) 158::Sl 3 1 ZJ vt Zx::Sl 2 1 ZJ vs stk::l)) (hm:XE g m) (P:VJ m.d) (ho:x.op=16\/x.op=17) (Q9:∀n∈Zx,-1<=n/\n<(m.ZA.length:Int)+m.funcs.length) (h1:x.op=17->1<=stk.length/\0<=x.a/\x.a<m.types.length)
  (TZ:∀v∈stk,XB v) (hlen:stk.length<=100000) (NC:Zx.length<=1000) :
  xP 196 #[yg cp,.agg #[.int .u8 x.op,yh x.a,yh x.b,Sj],vs] w (fun r w'=>∃f vs' YW e,r=.tuple #[yh f,vs',yh e]/\(f,YW,e)=Zd m.d Zx x stk/\Sat g w' (Pt cp (yl m [yg mp,vt,vg]) 158::Sl 3 1 ZJ vt Zx::Sl 2 1 ZJ vs' YW::l)):=by
 refine Fc.of Tryz.func196 rfl k_d ?_
 have ZP:=hm.types
 have Zu:=hm.ZA
 have ZT:=hm.funcs
 unfold Zd
 rcases ho with ho|ho
 .rw [if_pos ho]
  refine ZL H<|fun p1 w1 H=>Z9 rfl<|ye H 0 0 x9<|cT (ZK yo)<|Z9 rfl<|ye H 0 1 x9<|Z6.mk ?_
  refine ⟨x.a,vs,stk,0,?_⟩
  refine ⟨rfl,?_⟩
  refine ⟨rfl,?_⟩
  exact H.Z8 [3,3,3]<|fun H=>H.drop 3<|fun H=>H
 .rw [if_neg yp]
  obtain ⟨h1,h2,h3⟩:=h1 ho
  obtain ⟨a,ha,HU,G6⟩:=Em (s:=stk) yp
  have Ek:=TZ a G6
  rw [HU]
  have hN0:0<=a % 4294967296:=by omega
  have yU:m.types[x.a.toNat]?=some m.types[x.a.toNat]:=laa yp
  have Kg:=Z0.all ZP _ (lda yU)
  have SH:m.d.types.getD x.a.toNat sz=m.types[x.a.toNat].d:=by
   show (m.types.map Xx.d).getD _ _=_
   rw [lha,lva,yU];rfl
  rw [SH]
  generalize m.types[x.a.toNat]=tx at *
  by_cases hNl:(a % 4294967296).toNat<Zx.length
  .obtain ⟨f,AW⟩:∃f,Zx[(a % 4294967296).toNat]?=some f:=⟨_,laa hNl⟩
   have hNb:=Q9 f (lda AW)
   rw [afk AW]
   by_cases hf:f<0
   .rw [if_pos (.inr hf)]
    refine ZL H<|fun p1 w1 H=>Z9 rfl<|ye H 0 0 x9<|cF (Z5 yp)<|YN H 3 rfl rfl<|ZX yp ?_
    obtain ⟨b1,o1,E1⟩:=H.Y5 3 rfl ((stk.length)-1) yp
    refine ZI E1 yp rfl rfl<|xW (H.el 3 rfl E1 ha) 0 xV<|Yk rfl rfl<|W9 yp rfl rfl<|YN H 3 rfl rfl<|ZX yp<|M8 H 3 rfl 0 ((stk.length)-1) rfl rfl yp yp (.inl ⟨rfl,rfl⟩) (.inr ⟨_,by first|rfl|(congr 2;omega)⟩)<|fun v1 H=>Z9 rfl<|ye H 1 12 x9<|YN H 2 rfl rfl<|XP (Yy yp)<|Z9 rfl<|ye H 1 12 x9 ?_
    obtain ⟨b2,o2,E2⟩:=H.Y5 2 rfl (a % 4294967296).toNat yp
    refine ZI E2 yp rfl rfl<|xW (H.el 2 rfl E2 AW) 0 xV<|cT (Y9 yo)<|Z6.mk ?_
    refine ⟨0,v1,List.drop 0 (List.take (stk.length-1) stk),24,?_⟩
    refine ⟨rfl,?_⟩
    refine ⟨rfl,?_⟩
    exact H.Z8 [3,3,3]<|fun H=>H.drop 3<|fun H=>H
   .rw [if_neg yp]
    refine ZL H<|fun p1 w1 H=>Z9 rfl<|ye H 0 0 x9<|cF (Z5 yp)<|YN H 3 rfl rfl<|ZX yp ?_
    obtain ⟨b1,o1,E1⟩:=H.Y5 3 rfl ((stk.length)-1) yp
    refine ZI E1 yp rfl rfl<|xW (H.el 3 rfl E1 ha) 0 xV<|Yk rfl rfl<|W9 yp rfl rfl<|YN H 3 rfl rfl<|ZX yp<|M8 H 3 rfl 0 ((stk.length)-1) rfl rfl yp yp (.inl ⟨rfl,rfl⟩) (.inr ⟨_,by first|rfl|(congr 2;omega)⟩)<|fun v1 H=>Z9 rfl<|ye H 1 12 x9<|YN H 2 rfl rfl<|XP (Yy yp)<|Z9 rfl<|ye H 1 12 x9 ?_
    obtain ⟨b2,o2,E2⟩:=H.Y5 2 rfl (a % 4294967296).toNat yp
    refine ZI E2 yp rfl rfl<|xW (H.el 2 rfl E2 AW) 0 xV<|cF (Zs yp)<|Z9 rfl<|ye H 1 12 x9<|ZI E2 yp rfl rfl<|xW (H.el 2 rfl E2 AW) 0 xV<|ZN H [] [yfp0,yfp1,yfp3,yfp4,yfp5,yfp6,yfh7,yfp8,yfh9,yfp10,yfh11,yff2,yffr12,yfp13] mixed k_d k_d<|fun w2 H=>yc rfl rfl<|yc rfl rfl<|yd 1 0 x9 rfl<|yc rfl rfl<|yd 0 1 x9 rfl ?_
    obtain ⟨b3,o3,E3,F1,ZH⟩:=Z0.Y5 ZP yU
    have Ph:=ZH.Zh
    have Pg:=ZH.out
    refine tk (fun _ Z=>ZI E3 yp rfl rfl yj)<|tk (fun _ Z=>ZC (Z.Yt F1) 0 rfl rfl rfl yj)<|H.Z8 [1]<|fun H=>?_
    refine Z7.mk (Fc.imp (Rn.NV H yp yp _ yp yp) ?_)
    rintro _ w1 ⟨t1,⟨rfl,⟨h4,⟨h5,⟨h6,⟨h7,⟨h8,H⟩⟩⟩⟩⟩⟩⟩
    refine H.Z8 [3,3,2,3]<|fun H=>Y2.mk (H) ?_
    refine Z7.mk (Fc.imp (Rn.al8 H _ _ yp yp yp yp) ?_)
    rintro _ w3 ⟨q1,⟨rfl,⟨h9,H⟩⟩⟩
    refine cI (fun c1=>?_) (fun c1=>?_)
    .replace c1:=Su h9 (Sw (c1))
     refine Z6.mk ?_
     refine ⟨0,v1,List.drop 0 (List.take (stk.length-1) stk),25,?_⟩
     refine ⟨rfl,?_⟩
     constructor
     .exact ce0 yo yo
     exact H.Z8 [3,3,3]<|fun H=>H.drop 3<|fun H=>H
    replace c1:=h9.1 (Sv (c1))
    refine Z6.mk ?_
    refine ⟨f,v1,List.drop 0 (List.take (stk.length-1) stk),0,?_⟩
    refine ⟨rfl,?_⟩
    constructor
    .exact ce1 yo yo
    exact H.Z8 [3,3,3]<|fun H=>H.drop 3<|fun H=>H
  .rw [if_pos (.inl yp)]
   refine ZL H<|fun p1 w1 H=>Z9 rfl<|ye H 0 0 x9<|cF (Z5 yp)<|YN H 3 rfl rfl<|ZX yp ?_
   obtain ⟨b1,o1,E1⟩:=H.Y5 3 rfl ((stk.length)-1) yp
   refine ZI E1 yp rfl rfl<|xW (H.el 3 rfl E1 ha) 0 xV<|Yk rfl rfl<|W9 yp rfl rfl<|YN H 3 rfl rfl<|ZX yp<|M8 H 3 rfl 0 ((stk.length)-1) rfl rfl yp yp (.inl ⟨rfl,rfl⟩) (.inr ⟨_,by first|rfl|(congr 2;omega)⟩)<|fun v1 H=>Z9 rfl<|ye H 1 12 x9<|YN H 2 rfl rfl<|Vt (Yc yp)<|cT rfl<|Z6.mk ?_
   refine ⟨0,v1,List.drop 0 (List.take (stk.length-1) stk),24,?_⟩
   refine ⟨rfl,?_⟩
   refine ⟨rfl,?_⟩
   exact H.Z8 [3,3,3]<|fun H=>H.drop 3<|fun H=>H
end
end Rn
namespace Rn
open Go YY Go.RowKit
open YT Zl X6 YP Valid Mem
structure CV where
 fn:Int
 at_:Int
 vl:Value
 loc:xO
 vs:Value
 stk:xO
def XY (c:CV):xM:=[.int .i64 c.fn,.int .i64 c.at_,c.vl,c.vs]
def CV.d (c:CV):Y4:=⟨c.fn,c.at_,c.loc,c.stk⟩
section
variable {g:Zz} {w:World} {l:List As} {vc:Value} {cs:List CV} {i b o:Nat}
theorem OU (E:El vc 4 i b o) (c:CV) (hx:cs[i]?=some c) (H:Sat g w (Sl 79 4 XY vc cs::Sl 2 1 ZJ c.vs c.stk::l)) (h1:1<=c.stk.length) (hlen:c.stk.length<=100000) :
  xP 162 #[.pointer (some ⟨b,o,none⟩)] w (fun r w'=>∃vs' t,r=yh t/\t=top c.stk 0/\Sat g w' (Sl 79 4 XY vc (cs.set i ⟨c.fn,c.at_,c.vl,c.loc,vs',low c.stk 1⟩)::Sl 2 1 ZJ vs' (low c.stk 1)::l)):=by
 refine Fc.of Tryz.func162 rfl k_d ?_
 obtain ⟨a,ha,HU,G6⟩:=Em (s:=c.stk) yp
 rw [HU]
 have hst:=H.one 1 rfl
 refine ZN H [] [yfp0,yfp1,yfp2,yfh3,yfp4,yfp5,yfp6,yfh7,yfp8,yfp9,yfp10,yfh11,yfp12] mixed k_d k_d<|fun w1 H=>yc rfl rfl<|tk (fun _ Z=>xW (Z.el 0 rfl E hx) 3 xV yj)<|yc rfl rfl<|tk (fun _ Z=>xW (Z.el 0 rfl E hx) 3 xV yj) ?_
 obtain ⟨a1,c1,V1⟩:=H.form 1 rfl
 refine tk (fun _ Z=>XQ V1 rfl yj)<|ZX yp ?_
 obtain ⟨b1,o1,E1⟩:=H.Y5 1 rfl ((c.stk.length)-1) yp
 refine tk (fun _ Z=>ZI E1 yp rfl rfl yj)<|tk (fun _ Z=>xW (Z.el 1 rfl E1 ha) 0 xV yj)<|ZN H [] [yfp0,yfp1,yfp2,yfp3,yfh4,yfp5,yfp6,yfp7,yfh8,yfp9,yfp10,yfp11,yfp12,yfp13,yffr14] mixed k_d k_d<|fun w2 H=>yc rfl rfl<|tk (fun _ Z=>xW (Z.el 0 rfl E hx) 3 xV yj)<|yc rfl rfl<|tk (fun _ Z=>xW (Z.el 0 rfl E hx) 3 xV yj)<|tk (fun _ Z=>XQ V1 rfl yj)<|ZX yp ?_
 obtain ⟨v1,V2⟩:=H.vw 1 rfl (0) (((c.stk.length)-1)) yp yp
 refine tk (fun _ Z=>Wp V2 rfl rfl (.inl yj) (.inr ⟨_,by first|rfl|(congr 2;omega)⟩) yj)<|yc rfl rfl<|Yl H 0 rfl E hx 3 (⟨c.fn,c.at_,c.vl,c.loc,(v1),low c.stk 1⟩) rfl (by simp only [Bool.and_true,H.one 0 rfl,H.one 1 rfl,Vw.one V2,hst]) rfl rfl<|fun w1 H=>Z6.mk ?_
 refine ⟨v1,a,?_⟩
 constructor
 .simp
 refine ⟨yp,?_⟩
 exact H.Jl 1 rfl V2
theorem Lc (E:El vc 4 i b o) (c:CV) (hx:cs[i]?=some c) (H:Sat g w (Sl 79 4 XY vc cs::Sl 2 1 ZJ c.vs c.stk::l)) (j:Yg) (h0:0<=j.height) (h1:0<=j.keep) (hf:j.height+j.keep<=c.stk.length) (hlen:c.stk.length<=100000) :
  xP 113 #[.pointer (some ⟨b,o,none⟩),.agg #[yh j.at_,yh j.keep,yh j.height]] w (fun r w'=>∃vs',Sat g w' (Sl 79 4 XY vc (cs.set i ⟨c.fn,j.at_,c.vl,c.loc,vs',c.stk.take j.height.toNat++c.stk.drop (c.stk.length-j.keep.toNat)⟩)::Sl 2 1 ZJ vs' (c.stk.take j.height.toNat++c.stk.drop (c.stk.length-j.keep.toNat))::l)):=by
 refine Fc.of Tryz.func113 rfl k_d ?_
 have hst:=H.one 1 rfl
 obtain ⟨kk,hkk⟩:=lqa h1
 obtain ⟨hh,hhh⟩:=lqa h0
 rw [hkk,hhh,lia0,lia0]
 refine ZL H<|fun p1 w1 H=>ZN H [] [yfp0,yfp1,yfp2,yfh3,yfp4,yfp5,yfp6,yfh7,yfp8,yfp9,yfh10,yfp11,yfp12,yfp13] mixed k_d k_d<|fun w2 H=>yc rfl rfl<|tk (fun _ Z=>xW (Z.el 1 rfl E hx) 3 xV yj)<|yc rfl rfl<|tk (fun _ Z=>xW (Z.el 1 rfl E hx) 3 xV yj) ?_
 obtain ⟨a1,c1,V1⟩:=H.form 2 rfl
 refine tk (fun _ Z=>XQ V1 rfl yj)<|yc rfl rfl<|yd 0 1 x9 rfl<|ZX yp ?_
 obtain ⟨v1,V2⟩:=H.vw 2 rfl (((c.stk.length)-(kk))) ((c.stk).length) yp yp
 refine tk (fun _ Z=>Wp V2 rfl rfl (.inr ⟨_,by first|rfl|(congr 2;omega)⟩) (.inl yj) yj)<|ZN H [] [yfp0,yfp1,yfp2,yfp3,yfh4,yfp5,yfh6,yfp7,yfp8,yffr9,yfp10,yfp11,yffr12] mixed k_d k_d<|fun w1 H=>yc rfl rfl<|tk (fun _ Z=>xW (Z.el 1 rfl E hx) 3 xV yj)<|yc rfl rfl<|yd 0 2 x9 rfl ?_
 obtain ⟨v2,V3⟩:=H.vw 2 rfl (0) ((hh)) yp yp
 refine tk (fun _ Z=>Wp V3 rfl rfl (.inl yj) (.inr ⟨_,by first|rfl|(congr 2;omega)⟩) yj)<|ahS 8 H 2 rfl V3 V2 (fun y _=>rfl) rfl rfl rfl yp yp<|fun v3 w2 H=>yc rfl rfl<|Yl H 1 rfl E hx 3 (⟨c.fn,c.at_,c.vl,c.loc,(v3),c.stk.take hh++c.stk.drop (c.stk.length-kk)⟩) rfl (by simp only [Bool.and_true,H.one 1 rfl,H.one 2 rfl,Vw.one V3,Vw.one V2,hst]) rfl rfl<|fun w1 H=>Z9 rfl<|ye H 0 0 x9<|Z9 rfl ?_
 have hx1:(cs.set i { fn:=c.fn,at_:=c.at_,vl:=c.vl,loc:=c.loc,vs:=v3,stk:=List.take hh c.stk++List.drop (c.stk.length-kk) c.stk })[i]?=some _:=Wv hx
 refine Yl H 1 rfl E hx1 1 (⟨c.fn,j.at_,c.vl,c.loc,_,c.stk.take hh++c.stk.drop (c.stk.length-kk)⟩) rfl rfl rfl rfl<|fun w2 H=>Z6.mk ?_
 refine ⟨v3,?_⟩
 refine H.Z8 [2,2]<|fun H=>H.drop 2<|fun H=>?_
 refine H.cg (YC (Qa ?_) (YC rfl (rfl)))
 (simp;done)
end
end Rn
namespace Rn
open Go YY Go.RowKit
open YT Zl X6 YP Valid Mem
section
variable {g:Zz} {w:World} {l:List As} {m:Zj} {pr cp mp:Nat} {vw vc vt vg va:Value} {host:Int} {cs:List CV} {args:xO} {c u:CV}
theorem afp (H:Sat g w (Pt pr [yg cp,vw,vc,yh host] 148::Pt cp (yl m [yg mp,vt,vg]) 158::Sl 79 4 XY vc cs::Sl 2 1 ZJ va args::l)) (hm:XE g m) (n:Nat) (f:Yr) (hf:m.funcs[n]?=some f) (h1:f.loc.length<=16) (h2:args.length<=16) (h3:cs.length<=100) (hnf:m.funcs.length<=16) :
  xP 79 #[yg pr,yh n,va] w (fun r w'=>∃Pd Pw,Sat g w' (Pt pr [yg cp,vw,Pd,yh host] 148::Pt cp (yl m [yg mp,vt,vg]) 158::Sl 79 4 XY Pd (cs++[⟨n,0,Pw,args++List.replicate f.loc.length 0,.slice none 0 0,[]⟩])::Sl 2 1 ZJ Pw (args++List.replicate f.loc.length 0)::Sl 2 1 ZJ (.slice none 0 0) []::l)):=by
 refine Fc.of Tryz.func79 rfl k_d ?_
 have ZT:=hm.funcs
 have hfo:=Z0.all ZT f (lda hf)
 have ahg:=hfo.loc
 replace H:=H.Ve (en:=ZJ) (s:=1) 2 (fun _=>rfl)
 refine Z9 rfl<|ye H 1 0 x9<|Z9 rfl<|Z9 rfl<|ye H 2 2 x9 ?_
 obtain ⟨b1,o1,E1,F1,ZH⟩:=Z0.Y5 ZT hf
 have XS:=ZH.ty
 have Zv:=ZH.loc
 have ZE:=ZH.body
 refine ZI E1 rfl rfl rfl<|Z9 rfl<|xW (H.Yt F1) 1 xV<|ZF Zv rfl<|akQ (zx:=(0:Int)) 8 H 4 rfl rfl rfl rfl rfl rfl rfl yp yp<|fun v1 w1 H=>Z9 rfl<|ye H 1 2 x9 ?_
 obtain ⟨a1,c1,rfl⟩:=H.form 4 rfl
 refine Zn rfl rfl rfl<|ZZ H rfl rfl rfl rfl<|fun p1 w2 H=>WO (ys:=[⟨n,0,_,args++List.replicate f.loc.length 0,.slice none 0 0,[]⟩]) 64 H 4 rfl (H.at 0 rfl) rfl (fun y hy=>by rw [lpa.1 hy];simp only [Rn.XY,yq9,yq8,H.one 1 rfl,H.one 4 rfl,H.one 5 rfl,Z0.one ZE,Z0.one Zv,Z0.one ahg,Z0.one ZT];rfl) rfl rfl rfl yp yp<|fun v1 w1 H=>Z9 rfl<|Yo H 2 rfl rfl rfl (H.one 4 rfl)<|fun w2 H=>Z6.mk ?_
 refine ⟨v1,Value.slice a1 (args++List.replicate f.loc.length 0).length c1,?_⟩
 exact H.Z8 [1,5,5,5,5]<|fun H=>H.drop 5<|fun H=>H
theorem QC (H:Sat g w (Sl 2 1 ZJ va args::l)) (hl:args.length<=100000):xP 50 #[va] w (fun u w'=>Sat g w' (Sl 2 1 ZJ u args::Sl 2 1 ZJ va args::l)):=by
 refine Fc.of Tryz.func50 rfl k_d ?_
 rcases H.Sy 0 rfl with ⟨Mn,Mm⟩|⟨b1,o1,c1,V1⟩
 .subst Mn
  subst Mm
  refine Xn rfl<|cT rfl<|Z6.mk ?_
  replace H:=H.Ve (en:=ZJ) (s:=1) (2) (fun _=>rfl)
  exact H
 subst V1
 exact Xn rfl<|cF rfl<|ZZ H rfl rfl rfl rfl<|fun p1 w1 H=>H.Wr (n:=0) (en:=ZJ) (s:=1) 0 rfl [] rfl rfl (fun _=>rfl) rfl<|fun H=>Ug 8 H 0 rfl (H.DV (ok:=fun _=>True) 1 rfl (fun _ _=>trivial)) (fun y _=>rfl) rfl rfl rfl (by grind) (by grind)<|fun v1 w2 H=>Z6.mk<|H
theorem Ns {v v1:Value} {xs:xO} {a:Nat} (H:Sat g w (Sl 2 1 ZJ v xs::l)) (V:Vw v 1 xs.length a xs.length v1) (hl:xs.length<=100000):xP 50 #[v1] w (fun u w'=>Sat g w' (Sl 2 1 ZJ u (xs.drop a)::Sl 2 1 ZJ v xs::l)):=by
 refine Fc.of Tryz.func50 rfl k_d ?_
 have hle:=V.le
 obtain ⟨A,q,he,h0⟩:∃A q,v1=.slice A (xs.length-a) q/\(A=none->xs.drop a=[]):=by
  obtain ⟨ad,cap,hv,_,_,_,_,OL⟩:=V
  refine ⟨_,_,OL,fun hn=>?_⟩
  cases ad with
  | none =>
   rcases (H.off 0 rfl).1 with ⟨_,hx⟩|⟨_,_,_,_,h,_⟩
   .grind
   .grind
  | some p =>
   split at hn
   .grind
   .grind
 cases A with
 | none =>
  rw [h0 rfl]
  subst he
  replace H:=H.Ve (en:=ZJ) (s:=1) 2 (fun _=>rfl)
  exact Xn rfl<|cT rfl<|Z6.mk<|H
 | some p =>
  subst he
  refine Xn rfl<|cF rfl<|ZZ H rfl rfl rfl rfl<|fun p1 w1 H=>H.Wr (n:=0) (en:=ZJ) (s:=1) 0 rfl [] rfl rfl (fun _=>rfl) rfl<|fun H=>Ug 8 H 0 rfl (H.rdv (ok:=fun _=>True) 1 rfl V (fun _ _=>trivial)) (fun y _=>rfl) rfl rfl rfl (by grind) (by grind)<|fun v1 w2 H=>Z6.mk ?_
  refine H.cg (YC (Qa ?_) (YC rfl (rfl)))
  (simp;done)
theorem afq (H:Sat g w (Pt pr [yg cp,vw,vc,yh host] 148::Sl 79 4 XY vc cs::Sl 2 1 ZJ c.vs c.stk::l)) (hcs:cs=[c]) (hvl:c.vl.oneCell'=true) (hvs:c.vs.oneCell'=true) (hl:c.stk.length<=100000) :
  xP 112 #[yg pr] w (fun r w'=>∃Pd v',r=.tuple #[v',.bool true]/\Sat g w' (Pt pr [yg cp,vw,Pd,yh host] 148::Sl 79 4 XY Pd ([]:List CV)::Sl 2 1 ZJ v' c.stk::l)):=by
 refine Fc.of Tryz.func112 rfl k_d ?_
 have hn:cs.length=1:=by grind
 have hx:cs[cs.length-1]?=some c:=by grind
 have Qk:List.drop 0 (cs.take (cs.length-1))=([]:List CV):=by grind
 refine ZN H [] [yfp0,yfp1,yfp2,yfh3,yfp4,yfp5,yfp6,yfh7,yfp8,yfp9,yfp10,yfh11,yff12,yffr13] mixed k_d k_d<|fun w1 H=>yc rfl rfl<|yd 0 2 x9 rfl<|yc rfl rfl<|yd 0 2 x9 rfl ?_
 obtain ⟨a1,c1,V1⟩:=H.form 1 rfl
 refine tk (fun _ Z=>XQ V1 rfl yj)<|ZX yp ?_
 obtain ⟨b1,o1,E1⟩:=H.Y5 1 rfl ((cs.length)-1) yp
 refine tk (fun _ Z=>ZI E1 yp rfl rfl yj)<|tk (fun _ Z=>ZC (Z.el 1 rfl E1 hx) 0 rfl rfl rfl yj)<|ZV H rfl<|fun p1 w2 H=>Y2.mk (H.drop 0 (fun H=>H))<|ZG H 0 rfl rfl rfl (by simp only [yq9,yq8,H.one 2 rfl,H.one 3 rfl,hvs,hvl];rfl)<|fun w1 H=>Z9 rfl<|ye H 0 3 x9<|H.Z8 [3]<|fun H=>?_
 refine Z7.mk (Fc.imp (Rn.QC H yp) ?_)
 rintro v' w2 H
 refine ZN H [] [yfp0,yfp1,yfp2,yfp3,yfh4,yfp5,yfp6,yfp7,yfh8,yfp9,yfp10,yfp11,yfp12,yfp13,yffr14] mixed k_d k_d<|fun w3 H=>yc rfl rfl<|yd 3 2 x9 rfl<|yc rfl rfl<|yd 3 2 x9 rfl<|tk (fun _ Z=>XQ V1 rfl yj)<|ZX yp ?_
 obtain ⟨v1,V2⟩:=H.vw 4 rfl (0) (((cs.length)-1)) yp yp
 refine tk (fun _ Z=>Wp V2 rfl rfl (.inl yj) (.inr ⟨_,by first|rfl|(congr 2;omega)⟩) yj)<|yc rfl rfl<|Yo H 3 rfl rfl rfl (by simp only [Bool.and_true,H.one 0 rfl,H.one 1 rfl,H.one 4 rfl,Vw.one V2,hvs,hvl])<|fun w2 H=>Z9 rfl<|ye H 3 2 x9<|IC V2 rfl ?_
 replace H:=H.Jl 4 rfl V2
 simp only [List.set_cons_succ,List.set_cons_zero,Qk] at H
 refine cT (ZK yp)<|Z6.mk ?_
 refine ⟨v1,v',?_⟩
 refine ⟨rfl,?_⟩
 exact H.Z8 [0,4,4]<|fun H=>xU H [4,3]<|fun H=>H
theorem afr {up:List CV} (H:Sat g w (Pt pr [yg cp,vw,vc,yh host] 148::Sl 79 4 XY vc cs::Sl 2 1 ZJ c.vs c.stk::Sl 2 1 ZJ u.vs u.stk::l)) (hcs:cs=up++[u]++[c]) (hvl:c.vl.oneCell'=true) (hvs:c.vs.oneCell'=true) (hl:c.stk.length<=10000) (DT:u.stk.length<=10000) (hle:cs.length<=1000) :
  xP 112 #[yg pr] w (fun r w'=>∃Pd vs',r=.tuple #[.slice none 0 0,.bool false]/\Sat g w' (Pt pr [yg cp,vw,Pd,yh host] 148::Sl 79 4 XY Pd (up++[⟨u.fn,u.at_,u.vl,u.loc,vs',u.stk++c.stk⟩])::Sl 2 1 ZJ vs' (u.stk++c.stk)::l)):=by
 refine Fc.of Tryz.func112 rfl k_d ?_
 have hn:cs.length=up.length+2:=by grind
 have hx:cs[cs.length-1]?=some c:=by grind
 have hu0:(cs.take (cs.length-1)).length=up.length+1:=by grind
 have Qk:List.drop 0 (cs.take (cs.length-1))=up++[u]:=by grind
 refine ZN H [] [yfp0,yfp1,yfp2,yfh3,yfp4,yfp5,yfp6,yfh7,yfp8,yfp9,yfp10,yfh11,yff12,yffr13] mixed k_d k_d<|fun w1 H=>yc rfl rfl<|yd 0 2 x9 rfl<|yc rfl rfl<|yd 0 2 x9 rfl ?_
 obtain ⟨a1,c1,V1⟩:=H.form 1 rfl
 refine tk (fun _ Z=>XQ V1 rfl yj)<|ZX yp ?_
 obtain ⟨b1,o1,E1⟩:=H.Y5 1 rfl ((cs.length)-1) yp
 refine tk (fun _ Z=>ZI E1 yp rfl rfl yj)<|tk (fun _ Z=>ZC (Z.el 1 rfl E1 hx) 0 rfl rfl rfl yj)<|ZV H rfl<|fun p1 w2 H=>Y2.mk (H.drop 0 (fun H=>H))<|ZG H 0 rfl rfl rfl (by simp only [yq9,yq8,H.one 2 rfl,H.one 3 rfl,H.one 4 rfl,hvs,hvl];rfl)<|fun w1 H=>Z9 rfl<|ye H 0 3 x9<|H.Z8 [3]<|fun H=>?_
 refine Z7.mk (Fc.imp (Rn.QC H yp) ?_)
 rintro v' w2 H
 refine ZN H [] [yfp0,yfp1,yfp2,yfp3,yfh4,yfp5,yfp6,yfp7,yfh8,yfp9,yfp10,yfp11,yfp12,yfp13,yffr14] mixed k_d k_d<|fun w3 H=>yc rfl rfl<|yd 3 2 x9 rfl<|yc rfl rfl<|yd 3 2 x9 rfl<|tk (fun _ Z=>XQ V1 rfl yj)<|ZX yp ?_
 obtain ⟨v1,V2⟩:=H.vw 4 rfl (0) (((cs.length)-1)) yp yp
 refine tk (fun _ Z=>Wp V2 rfl rfl (.inl yj) (.inr ⟨_,by first|rfl|(congr 2;omega)⟩) yj)<|yc rfl rfl<|Yo H 3 rfl rfl rfl (by simp only [Bool.and_true,H.one 0 rfl,H.one 1 rfl,H.one 4 rfl,H.one 5 rfl,Vw.one V2,hvs,hvl])<|fun w2 H=>Z9 rfl<|ye H 3 2 x9<|IC V2 rfl ?_
 replace H:=H.Jl 4 rfl V2
 rw [Qk] at H
 simp only [List.set_cons_succ,List.set_cons_zero] at H
 have G8:cs.length-1-0-1=up.length:=by omega
 have hux:(up++[u])[cs.length-1-0-1]?=some u:=by grind
 have WA:∀z,(up++[u]).set (cs.length-1-0-1) z=up++[z]:=fun z=>by rw [G8];simp
 refine cF (Z5 yp)<|ZN H [] [yfp0,yfp1,yfp2,yfh3,yfp4,yfp5,yfp6,yfh7,yfp8,yfp9,yfp10,yfp11] mixed k_d k_d<|fun w3 H=>yc rfl rfl<|yd 3 2 x9 rfl<|yc rfl rfl<|yd 3 2 x9 rfl<|tk (fun _ Z=>IC V2 rfl yj)<|ZX yp ?_
 obtain ⟨b2,o2,E2⟩:=H.Y5 4 rfl ((cs.length-1-0)-1) (by grind)
 refine tk (fun _ Z=>ZI E2 yp rfl rfl yj)<|Z9 rfl<|xW (H.el 4 rfl E2 hux) 3 xV<|Ug 8 H 5 rfl (H.DV (ok:=fun _=>True) 0 rfl (fun _ _=>trivial)) (fun y _=>rfl) rfl rfl rfl yp yp<|fun v2 w2 H=>Z9 rfl<|Yl H 4 rfl E2 hux 3 (⟨u.fn,u.at_,u.vl,u.loc,_,u.stk++c.stk⟩) rfl (by simp only [Bool.and_true,H.one 0 rfl,H.one 1 rfl,H.one 4 rfl,H.one 5 rfl,Vw.one V2,hvs,hvl]) rfl rfl<|fun w3 H=>?_
 simp only [WA] at H
 refine Z6.mk ⟨v1,v2,rfl,?_⟩
 exact H.Z8 [5,5,5]<|fun H=>xU H [5,4,3]<|fun H=>H
end
end Rn
namespace Rn
open Go YY Go.RowKit
open YT Zl X6 YP Valid Mem
section
variable {g:Zz} {w:World} {l:List As} {m:Zj} {pr cp mp:Nat} {vw vc vt vg Sj:Value} {host f e:Int} {cs:List CV} {Zx s2:xO} {u:CV} {x:ZU} {i b o:Nat}
theorem Sn {n1 n2:Int} {q:Int × xO × Int} {s:xO} (h:(n1,s,n2)=q) (hq:q=(f,s2,e)):f=n1/\s2=s/\e=n2:=by grind
theorem ahh {n:Int} (h0:(m.ZA.length:Int)<=n) (h1:n<(m.ZA.length:Int)+m.funcs.length):∃(k:Nat) (F:Yr),n=m.ZA.length+k/\m.funcs[k]?=some F/\Zg m.d (n-Y8 m.d)=F.d:=by
 obtain ⟨k,hk⟩:=lqa (show 0<=n-m.ZA.length by omega)
 have Jq:k<m.funcs.length:=by omega
 refine ⟨k,m.funcs[k],by omega,laa Jq,?_⟩
 unfold Zg Y8
 show (m.funcs.map Yr.d).getD (n-(m.ZA.length:Int)).toNat _=_
 rw [hk,lia0,lha,lva,laa Jq];rfl
theorem afs (E:El vc 4 i b o) (c:CV) (hx:cs[i]?=some c) (H:Sat g w (Pt pr [yg cp,vw,vc,yh host] 148::Pt cp (yl m [yg mp,vt,vg]) 158::Sl 3 1 ZJ vt Zx::Sl 79 4 XY vc cs::Sl 2 1 ZJ c.vs c.stk::l)) (hm:XE g m) (P:VJ m.d) (ho:x.op=16\/x.op=17) (Q9:∀n∈Zx,-1<=n/\n<(m.ZA.length:Int)+m.funcs.length) (h1:x.op=17->1<=c.stk.length/\0<=x.a/\x.a<m.types.length) (TZ:∀v∈c.stk,XB v) (hlen:c.stk.length<=10000) (NC:Zx.length<=1000) (Ti:cs.length<=40) (hvl:c.vl.oneCell'=true) (hq:Zd m.d Zx x c.stk=(f,s2,e)) (he:e≠0):xP 163 #[yg pr,.pointer (some ⟨b,o,none⟩),.agg #[.int .u8 x.op,yh x.a,yh x.b,Sj]] w (fun r w'=>r=.agg #[yh 2,.slice none 0 0,yh e,yh 0,yh 0]/\Sat g w' (Pt pr [yg cp,vw,vc,yh host] 148::Pt cp (yl m [yg mp,vt,vg]) 158::Sl 3 1 ZJ vt Zx::l)):=by
 refine Fc.of Tryz.func163 rfl k_d ?_
 have ZP:=hm.types
 have Zu:=hm.ZA
 have ZT:=hm.funcs
 have hvs:=H.one 4 rfl
 have hni:m.ZA.length<=16:=P.ni
 have hnf:m.funcs.length<=16:=by have:=P.nf;rwa [show m.d.funcs.length=m.funcs.length from lea ..] at this
 refine ZL H<|fun p1 w1 H=>ZV H rfl<|fun p2 w2 H=>ZN H [] [yfp0,yfp1,yfp2,yfh3,yfh4,yfp5,yfp6,yfp7,yfh8,yffr9,yfp10,yfp11,yfp12,yfp13,yfp14,yfp15,yfp16] mixed k_d k_d<|fun w1 H=>yc rfl rfl<|yd 2 0 x9 rfl<|tk (fun _ Z=>ZC (Z.at 1 rfl) 0 rfl rfl rfl yj)<|yc rfl rfl<|tk (fun _ Z=>xW (Z.el 5 rfl E hx) 3 xV yj)<|H.Z8 [6,5,5]<|fun H=>?_
 refine Z7.mk (Fc.imp (Rn.OV H yp yp yp yp yp yp yp yp) ?_)
 rintro _ w2 ⟨f1,⟨Zt,⟨Tu,⟨e1,⟨rfl,⟨h2,H⟩⟩⟩⟩⟩⟩
 obtain ⟨rfl,rfl,rfl⟩:=Sn h2 hq
 refine Z9 rfl<|Yl H 6 rfl E hx 3 (⟨c.fn,c.at_,c.vl,c.loc,(Zt),s2⟩) rfl k_p rfl rfl<|fun w3 H=>cT (WE yo)<|Zn rfl rfl rfl<|ZG H 3 rfl rfl rfl rfl<|fun w2 H=>XM (H.at 3 rfl) 0 rfl rfl rfl<|Z6.mk ?_
 refine ⟨rfl,?_⟩
 exact H.Z8 [1,1,5]<|fun H=>xU H [6,5,4,3]<|fun H=>H
theorem aft (E:El vc 4 i b o) (c:CV) (hx:cs[i]?=some c) (H:Sat g w (Pt pr [yg cp,vw,vc,yh host] 148::Pt cp (yl m [yg mp,vt,vg]) 158::Sl 3 1 ZJ vt Zx::Sl 79 4 XY vc cs::Sl 2 1 ZJ c.vs c.stk::l)) (hm:XE g m) (P:VJ m.d) (ho:x.op=16\/x.op=17) (Q9:∀n∈Zx,-1<=n/\n<(m.ZA.length:Int)+m.funcs.length) (h1:x.op=17->1<=c.stk.length/\0<=x.a/\x.a<m.types.length) (TZ:∀v∈c.stk,XB v) (hlen:c.stk.length<=10000) (NC:Zx.length<=1000) (Ti:cs.length<=40) (hvl:c.vl.oneCell'=true) (hq:Zd m.d Zx x c.stk=(f,s2,0)) (hf:0<=f/\f<(m.ZA.length:Int)+m.funcs.length) (J3:(YO m.d f).Zh.length<=s2.length) (Pv:s2.length<=10000) (AV:(m.ZA.length:Int)<=f) (Ej:cs.length=40):xP 163 #[yg pr,.pointer (some ⟨b,o,none⟩),.agg #[.int .u8 x.op,yh x.a,yh x.b,Sj]] w (fun r w'=>r=.agg #[yh 2,.slice none 0 0,yh 26,yh 0,yh 0]/\Sat g w' (Pt pr [yg cp,vw,vc,yh host] 148::Pt cp (yl m [yg mp,vt,vg]) 158::Sl 3 1 ZJ vt Zx::l)):=by
 refine Fc.of Tryz.func163 rfl k_d ?_
 have ZP:=hm.types
 have Zu:=hm.ZA
 have ZT:=hm.funcs
 have hvs:=H.one 4 rfl
 have hni:m.ZA.length<=16:=P.ni
 have hnf:m.funcs.length<=16:=by have:=P.nf;rwa [show m.d.funcs.length=m.funcs.length from lea ..] at this
 have hty:∀t:Xx,t.d=YO m.d f->t.Zh.length=(YO m.d f).Zh.length:=fun t h=>by rw [<-h];rfl
 refine ZL H<|fun p1 w1 H=>ZV H rfl<|fun p2 w2 H=>ZN H [] [yfp0,yfp1,yfp2,yfh3,yfh4,yfp5,yfp6,yfp7,yfh8,yffr9,yfp10,yfp11,yfp12,yfp13,yfp14,yfp15,yfp16] mixed k_d k_d<|fun w1 H=>yc rfl rfl<|yd 2 0 x9 rfl<|tk (fun _ Z=>ZC (Z.at 1 rfl) 0 rfl rfl rfl yj)<|yc rfl rfl<|tk (fun _ Z=>xW (Z.el 5 rfl E hx) 3 xV yj)<|H.Z8 [6,5,5]<|fun H=>?_
 refine Z7.mk (Fc.imp (Rn.OV H yp yp yp yp yp yp yp yp) ?_)
 rintro _ w2 ⟨f1,⟨Zt,⟨Tu,⟨e1,⟨rfl,⟨h2,H⟩⟩⟩⟩⟩⟩
 obtain ⟨rfl,rfl,rfl⟩:=Sn h2 hq
 refine Z9 rfl<|Yl H 6 rfl E hx 3 (⟨c.fn,c.at_,c.vl,c.loc,(Zt),s2⟩) rfl k_p rfl rfl<|fun w3 H=>cF (XL yp)<|ZN H [] [yfp0,yfp1,yfp2,yfh3,yfp4,yfp5,yfp6,yfp7,yfh8,yfp9,yff10,yfp11,yfp12,yfp13,yfp14] mixed k_d k_d<|fun w2 H=>yc rfl rfl ?_
 have hx1:(cs.set i { fn:=c.fn,at_:=c.at_,vl:=c.vl,loc:=c.loc,vs:=Zt,stk:=s2 })[i]?=some _:=Wv hx
 refine tk (fun _ Z=>xW (Z.el 6 rfl E hx1) 3 xV yj) ?_
 obtain ⟨a1,c1,V1⟩:=H.form 2 rfl
 refine tk (fun _ Z=>XQ V1 rfl yj)<|yc rfl rfl<|yd 5 0 x9 rfl ?_
 refine Z7.mk (Fc.imp (Rn.NV H yp yp _ yp yp) ?_)
 rintro _ w3 ⟨t1,⟨rfl,⟨h3,⟨h4,⟨h5,⟨h6,⟨h7,H⟩⟩⟩⟩⟩⟩⟩
 have HT:=hty _ yo
 have N5:=WI.Zh (by assumption:WI g _)
 refine Y2.mk (H)<|tk (fun _ Z=>Ry rfl yj)<|tk (fun _ Z=>ZF N5 rfl yj)<|ZX yp<|Z9 rfl<|xW (H.el 6 rfl E hx1) 3 xV ?_
 obtain ⟨v1,V2⟩:=H.vw 2 rfl (((s2.length)-(t1.Zh.length))) ((s2).length) yp yp
 refine Wp V2 rfl rfl (.inr ⟨_,by first|rfl|(congr 2;omega)⟩) (.inl ⟨rfl,rfl⟩)<|H.Z8 [2]<|fun H=>?_
 refine Z7.mk (Fc.imp (Rn.Ns H V2 yp) ?_)
 rintro v' w4 H
 refine Z9 rfl<|ye H 6 0 x9<|Z9 rfl<|Z9 rfl<|ye H 2 1 x9<|ZF Zu rfl<|ZX yp<|Vt (Yc yp)<|Z9 rfl<|ye H 6 2 x9<|YN H 7 rfl rfl<|cT (ZK (by grind))<|Zn rfl rfl rfl<|ZG H 4 rfl rfl rfl rfl<|fun w5 H=>XM (H.at 4 rfl) 0 rfl rfl rfl<|Z6.mk ?_
 refine ⟨rfl,?_⟩
 exact H.Z8 [3,3,6]<|fun H=>xU H [7,6,5,4,3]<|fun H=>H
theorem afu (E:El vc 4 i b o) (c:CV) (hx:cs[i]?=some c) (H:Sat g w (Pt pr [yg cp,vw,vc,yh host] 148::Pt cp (yl m [yg mp,vt,vg]) 158::Sl 3 1 ZJ vt Zx::Sl 79 4 XY vc cs::Sl 2 1 ZJ c.vs c.stk::l)) (hm:XE g m) (P:VJ m.d) (ho:x.op=16\/x.op=17) (Q9:∀n∈Zx,-1<=n/\n<(m.ZA.length:Int)+m.funcs.length) (h1:x.op=17->1<=c.stk.length/\0<=x.a/\x.a<m.types.length) (TZ:∀v∈c.stk,XB v) (hlen:c.stk.length<=10000) (NC:Zx.length<=1000) (Ti:cs.length<=40) (hvl:c.vl.oneCell'=true) (hq:Zd m.d Zx x c.stk=(f,s2,0)) (hf:0<=f/\f<(m.ZA.length:Int)+m.funcs.length) (J3:(YO m.d f).Zh.length<=s2.length) (Pv:s2.length<=10000) (AV:f<m.ZA.length):xP 163 #[yg pr,.pointer (some ⟨b,o,none⟩),.agg #[.int .u8 x.op,yh x.a,yh x.b,Sj]] w (fun r w'=>∃vs' vv,r=.agg #[yh 4,vv,yh 0,yh f,yh 0]/\Sat g w' (Pt pr [yg cp,vw,vc,yh (f+1)] 148::Pt cp (yl m [yg mp,vt,vg]) 158::Sl 3 1 ZJ vt Zx::Sl 79 4 XY vc (cs.set i ⟨c.fn,c.at_,c.vl,c.loc,vs',s2.take (s2.length-(YO m.d f).Zh.length)⟩)::Sl 2 1 ZJ vs' (s2.take (s2.length-(YO m.d f).Zh.length))::Sl 2 1 ZJ vv (s2.drop (s2.length-(YO m.d f).Zh.length))::l)):=by
 refine Fc.of Tryz.func163 rfl k_d ?_
 have ZP:=hm.types
 have Zu:=hm.ZA
 have ZT:=hm.funcs
 have hvs:=H.one 4 rfl
 have hni:m.ZA.length<=16:=P.ni
 have hnf:m.funcs.length<=16:=by have:=P.nf;rwa [show m.d.funcs.length=m.funcs.length from lea ..] at this
 have hty:∀t:Xx,t.d=YO m.d f->t.Zh.length=(YO m.d f).Zh.length:=fun t h=>by rw [<-h];rfl
 refine ZL H<|fun p1 w1 H=>ZV H rfl<|fun p2 w2 H=>ZN H [] [yfp0,yfp1,yfp2,yfh3,yfh4,yfp5,yfp6,yfp7,yfh8,yffr9,yfp10,yfp11,yfp12,yfp13,yfp14,yfp15,yfp16] mixed k_d k_d<|fun w1 H=>yc rfl rfl<|yd 2 0 x9 rfl<|tk (fun _ Z=>ZC (Z.at 1 rfl) 0 rfl rfl rfl yj)<|yc rfl rfl<|tk (fun _ Z=>xW (Z.el 5 rfl E hx) 3 xV yj)<|H.Z8 [6,5,5]<|fun H=>?_
 refine Z7.mk (Fc.imp (Rn.OV H yp yp yp yp yp yp yp yp) ?_)
 rintro _ w2 ⟨f1,⟨Zt,⟨Tu,⟨e1,⟨rfl,⟨h2,H⟩⟩⟩⟩⟩⟩
 obtain ⟨rfl,rfl,rfl⟩:=Sn h2 hq
 refine Z9 rfl<|Yl H 6 rfl E hx 3 (⟨c.fn,c.at_,c.vl,c.loc,(Zt),s2.take (s2.length-(YO m.d f).Zh.length)⟩) rfl k_p rfl rfl<|fun w3 H=>cF (XL yp)<|ZN H [] [yfp0,yfp1,yfp2,yfh3,yfp4,yfp5,yfp6,yfp7,yfh8,yfp9,yff10,yfp11,yfp12,yfp13,yfp14] mixed k_d k_d<|fun w2 H=>yc rfl rfl ?_
 have hx1:(cs.set i { fn:=c.fn,at_:=c.at_,vl:=c.vl,loc:=c.loc,vs:=Zt,stk:=List.take (s2.length-(YO m.d f).Zh.length) s2 })[i]?=some _:=Wv hx
 refine tk (fun _ Z=>xW (Z.el 6 rfl E hx1) 3 xV yj) ?_
 obtain ⟨a1,c1,V1⟩:=H.form 2 rfl
 refine tk (fun _ Z=>XQ V1 rfl yj)<|yc rfl rfl<|yd 5 0 x9 rfl ?_
 refine Z7.mk (Fc.imp (Rn.NV H yp yp _ yp yp) ?_)
 rintro _ w3 ⟨t1,⟨rfl,⟨h3,⟨h4,⟨h5,⟨h6,⟨h7,H⟩⟩⟩⟩⟩⟩⟩
 have HT:=hty _ yo
 have N5:=WI.Zh (by assumption:WI g _)
 refine Y2.mk (H)<|tk (fun _ Z=>Ry rfl yj)<|tk (fun _ Z=>ZF N5 rfl yj)<|ZX yp<|Z9 rfl<|xW (H.el 6 rfl E hx1) 3 xV ?_
 obtain ⟨v1,V2⟩:=H.vw 2 rfl (((s2.length)-(t1.Zh.length))) ((s2).length) yp yp
 refine Wp V2 rfl rfl (.inr ⟨_,by first|rfl|(congr 2;omega)⟩) (.inl ⟨rfl,rfl⟩)<|H.Z8 [2]<|fun H=>?_
 refine Z7.mk (Fc.imp (Rn.Ns H V2 yp) ?_)
 rintro v' w4 H
 refine Z9 rfl<|ye H 6 0 x9<|Z9 rfl<|Z9 rfl<|ye H 2 1 x9<|ZF Zu rfl<|ZX yp<|XP (Yy yp)<|cF rfl<|Z9 rfl<|xW (H.el 7 rfl E hx1) 3 xV ?_
 obtain ⟨v2,V3⟩:=H.vw 1 rfl (0) (((s2.length)-(t1.Zh.length))) yp yp
 refine Wp V3 rfl rfl (.inl ⟨rfl,rfl⟩) (.inr ⟨_,by first|rfl|(congr 2;omega)⟩)<|Z9 rfl<|Yl H 7 rfl E hx1 3 (⟨c.fn,c.at_,c.vl,c.loc,(v2),s2.take (s2.length-(YO m.d f).Zh.length)⟩) rfl (by simp only [Bool.and_true,H.one 0 rfl,H.one 1 rfl,H.one 3 rfl,H.one 7 rfl,Vw.one V3,Vw.one V2,Z0.one N5,hvs,Z0.one ZT,Z0.one Zu,Z0.one ZP,hvl]) rfl rfl<|fun w5 H=>cT (Y9 yp)<|ZX yp<|Z9 rfl<|Yo H 6 rfl rfl rfl rfl<|fun w4 H=>?_
 obtain ⟨a2,c2,rfl⟩:=H.form 0 rfl
 refine Zn rfl rfl rfl<|ZG H 4 rfl rfl rfl rfl<|fun w5 H=>XM (H.at 4 rfl) 0 rfl rfl rfl ?_
 replace H:=H.Jl 1 rfl V3
 simp only [List.set_cons_succ,List.set_cons_zero,List.drop_zero,HT,List.set_set] at H
 refine Z6.mk ⟨v2,_,(by rw [HT]),?_⟩
 exact H.Z8 [0,1,7,4,4,7]<|fun H=>xU H [7,6]<|fun H=>H
theorem afv (E:El vc 4 i b o) (c:CV) (hx:cs[i]?=some c) (H:Sat g w (Pt pr [yg cp,vw,vc,yh host] 148::Pt cp (yl m [yg mp,vt,vg]) 158::Sl 3 1 ZJ vt Zx::Sl 79 4 XY vc cs::Sl 2 1 ZJ c.vs c.stk::l)) (hm:XE g m) (P:VJ m.d) (ho:x.op=16\/x.op=17) (Q9:∀n∈Zx,-1<=n/\n<(m.ZA.length:Int)+m.funcs.length) (h1:x.op=17->1<=c.stk.length/\0<=x.a/\x.a<m.types.length) (TZ:∀v∈c.stk,XB v) (hlen:c.stk.length<=10000) (NC:Zx.length<=1000) (Ti:cs.length<=40) (hvl:c.vl.oneCell'=true) (hq:Zd m.d Zx x c.stk=(f,s2,0)) (hf:0<=f/\f<(m.ZA.length:Int)+m.funcs.length) (J3:(YO m.d f).Zh.length<=s2.length) (Pv:s2.length<=10000) (k:Nat) (F:Yr) (Gv:f=m.ZA.length+k) (hF:m.funcs[k]?=some F) (BR:F.loc.length<=16) (h4:(YO m.d f).Zh.length<=4) (Ej:cs.length<40):xP 163 #[yg pr,.pointer (some ⟨b,o,none⟩),.agg #[.int .u8 x.op,yh x.a,yh x.b,Sj]] w (fun r w'=>∃Pd vs' Pw,r=.agg #[yh 0,.slice none 0 0,yh 0,yh 0,yh 0]/\Sat g w' (Pt pr [yg cp,vw,Pd,yh host] 148::Pt cp (yl m [yg mp,vt,vg]) 158::Sl 3 1 ZJ vt Zx::Sl 79 4 XY Pd (cs.set i ⟨c.fn,c.at_,c.vl,c.loc,vs',s2.take (s2.length-(YO m.d f).Zh.length)⟩++[⟨k,0,Pw,(s2.drop (s2.length-(YO m.d f).Zh.length))++List.replicate F.loc.length 0,.slice none 0 0,[]⟩])::Sl 2 1 ZJ vs' (s2.take (s2.length-(YO m.d f).Zh.length))::Sl 2 1 ZJ Pw ((s2.drop (s2.length-(YO m.d f).Zh.length))++List.replicate F.loc.length 0)::Sl 2 1 ZJ (.slice none 0 0) []::l)):=by
 refine Fc.of Tryz.func163 rfl k_d ?_
 have ZP:=hm.types
 have Zu:=hm.ZA
 have ZT:=hm.funcs
 have hvs:=H.one 4 rfl
 have hni:m.ZA.length<=16:=P.ni
 have hnf:m.funcs.length<=16:=by have:=P.nf;rwa [show m.d.funcs.length=m.funcs.length from lea ..] at this
 have hty:∀t:Xx,t.d=YO m.d f->t.Zh.length=(YO m.d f).Zh.length:=fun t h=>by rw [<-h];rfl
 refine ZL H<|fun p1 w1 H=>ZV H rfl<|fun p2 w2 H=>ZN H [] [yfp0,yfp1,yfp2,yfh3,yfh4,yfp5,yfp6,yfp7,yfh8,yffr9,yfp10,yfp11,yfp12,yfp13,yfp14,yfp15,yfp16] mixed k_d k_d<|fun w1 H=>yc rfl rfl<|yd 2 0 x9 rfl<|tk (fun _ Z=>ZC (Z.at 1 rfl) 0 rfl rfl rfl yj)<|yc rfl rfl<|tk (fun _ Z=>xW (Z.el 5 rfl E hx) 3 xV yj)<|H.Z8 [6,5,5]<|fun H=>?_
 refine Z7.mk (Fc.imp (Rn.OV H yp yp yp yp yp yp yp yp) ?_)
 rintro _ w2 ⟨f1,⟨Zt,⟨Tu,⟨e1,⟨rfl,⟨h2,H⟩⟩⟩⟩⟩⟩
 obtain ⟨rfl,rfl,rfl⟩:=Sn h2 hq
 refine Z9 rfl<|Yl H 6 rfl E hx 3 (⟨c.fn,c.at_,c.vl,c.loc,(Zt),s2.take (s2.length-(YO m.d f).Zh.length)⟩) rfl k_p rfl rfl<|fun w3 H=>cF (XL yp)<|ZN H [] [yfp0,yfp1,yfp2,yfh3,yfp4,yfp5,yfp6,yfp7,yfh8,yfp9,yff10,yfp11,yfp12,yfp13,yfp14] mixed k_d k_d<|fun w2 H=>yc rfl rfl ?_
 have hx1:(cs.set i { fn:=c.fn,at_:=c.at_,vl:=c.vl,loc:=c.loc,vs:=Zt,stk:=List.take (s2.length-(YO m.d f).Zh.length) s2 })[i]?=some _:=Wv hx
 refine tk (fun _ Z=>xW (Z.el 6 rfl E hx1) 3 xV yj) ?_
 obtain ⟨a1,c1,V1⟩:=H.form 2 rfl
 refine tk (fun _ Z=>XQ V1 rfl yj)<|yc rfl rfl<|yd 5 0 x9 rfl ?_
 refine Z7.mk (Fc.imp (Rn.NV H yp yp _ yp yp) ?_)
 rintro _ w3 ⟨t1,⟨rfl,⟨h3,⟨h5,⟨h6,⟨h7,⟨h8,H⟩⟩⟩⟩⟩⟩⟩
 have HT:=hty _ yo
 have N5:=WI.Zh (by assumption:WI g _)
 refine Y2.mk (H)<|tk (fun _ Z=>Ry rfl yj)<|tk (fun _ Z=>ZF N5 rfl yj)<|ZX yp<|Z9 rfl<|xW (H.el 6 rfl E hx1) 3 xV ?_
 obtain ⟨v1,V2⟩:=H.vw 2 rfl (((s2.length)-(t1.Zh.length))) ((s2).length) yp yp
 refine Wp V2 rfl rfl (.inr ⟨_,by first|rfl|(congr 2;omega)⟩) (.inl ⟨rfl,rfl⟩)<|H.Z8 [2]<|fun H=>?_
 refine Z7.mk (Fc.imp (Rn.Ns H V2 yp) ?_)
 rintro v' w4 H
 refine Z9 rfl<|ye H 6 0 x9<|Z9 rfl<|Z9 rfl<|ye H 2 1 x9<|ZF Zu rfl<|ZX yp<|Vt (Yc yp)<|Z9 rfl<|ye H 6 2 x9<|YN H 7 rfl rfl<|cF (Z5 (by grind))<|Z9 rfl<|xW (H.el 7 rfl E hx1) 3 xV ?_
 obtain ⟨v2,V3⟩:=H.vw 1 rfl (0) (((s2.length)-(t1.Zh.length))) yp yp
 refine Wp V3 rfl rfl (.inl ⟨rfl,rfl⟩) (.inr ⟨_,by first|rfl|(congr 2;omega)⟩)<|Z9 rfl<|Yl H 7 rfl E hx1 3 (⟨c.fn,c.at_,c.vl,c.loc,(v2),s2.take (s2.length-(YO m.d f).Zh.length)⟩) rfl (by simp only [Bool.and_true,H.one 0 rfl,H.one 1 rfl,H.one 3 rfl,H.one 7 rfl,Vw.one V3,Vw.one V2,Z0.one N5,hvs,Z0.one ZT,Z0.one Zu,Z0.one ZP,hvl]) rfl rfl<|fun w5 H=>cF (Zs yp) ?_
 replace H:=H.Jl 1 rfl V3
 simp only [List.set_cons_succ,List.set_cons_zero,List.drop_zero,HT,List.set_set] at H
 rw [show f-(m.ZA.length:Int)=(k:Int) by omega]
 refine H.Z8 [0,7,3,7]<|fun H=>?_
 refine Z7.mk (Fc.imp (Rn.afp H yp (k) _ hF yp ?_ ?_ ?_) ?_)
 .grind
 .grind
 .omega
 rintro Wu w4 ⟨FW,⟨TK,H⟩⟩
 refine Zn rfl rfl rfl<|ZG H 7 rfl rfl rfl rfl<|fun w6 H=>XM (H.at 7 rfl) 0 rfl rfl rfl ?_
 refine Z6.mk ⟨FW,v2,TK,rfl,?_⟩
 exact H.Z8 [4,4,5,5,6,6,6]<|fun H=>xU H [8,7]<|fun H=>H
end
end Rn
namespace Rn
open Go YY Go.RowKit
open YT Zl X6 YP Valid Mem
def fr (c:CV):List As:=[Sl 2 1 ZJ c.vl c.loc,Sl 2 1 ZJ c.vs c.stk]
def VI (cs:List CV):As:=Qx (cs.flatMap fr)
section
variable {g:Zz} {w:World} {l:List As} {m:Zj} {pr cp mp:Nat} {vw vc vt vg vp Sj vj:Value} {host f e:Int} {cs up:List CV} {Zx Zp s2:xO} {ps:List WN} {c u:CV} {x:ZU} {i b o:Nat} {ws:List Yg} {j:Yg}
theorem afw (H:Sat g w (VI (up++[c])::l)):Sat g w (Sl 2 1 ZJ c.vl c.loc::Sl 2 1 ZJ c.vs c.stk::VI up::l):=by
 have H:=H.unbox
 rw [lIa,lka] at H
 have H:=(H.box (l1:=up.flatMap fr))
 have H:Sat g w (VI up::Sl 2 1 ZJ c.vl c.loc::Sl 2 1 ZJ c.vs c.stk::l):=H
 exact H.Z8 [2,2] fun H=>H
theorem OT (H:Sat g w (Sl 2 1 ZJ c.vl c.loc::Sl 2 1 ZJ c.vs c.stk::VI up::l)):Sat g w (VI (up++[c])::l):=by
 refine H.Z8 [2]<|fun H=>?_
 have H:Sat g w (Qx (up.flatMap fr)::([Sl 2 1 ZJ c.vl c.loc,Sl 2 1 ZJ c.vs c.stk]++l)):=H
 have H:=H.unbox
 rw [<-lka] at H
 have H:=H.box
 show Sat g w (Qx ((up++[c]).flatMap fr)::l)
 rw [lIa]
 exact H
theorem Ye (hcs:cs=up++[c]):cs[up.length]?=some c:=by grind
theorem Yd (hcs:cs=up++[c]) (z:CV):cs.set up.length z=up++[z]:=by grind
theorem ama (H:Sat g w (Pt pr [yg cp,vw,vc,yh 0] 148::Pt cp (yl m [yg mp,vt,vg]) 158::Pt mp [vp,yh m.most] 221::Sl 223 256 Xm vp ps::Sl 3 1 ZJ vt Zx::Sl 2 1 ZJ vg Zp::Sl 79 4 XY vc cs::VI up::Sl 2 1 ZJ c.vl c.loc::Sl 2 1 ZJ c.vs c.stk::l)) (hcs:cs=up++[c]) (E:El vc 4 up.length b o) (TQ:0<=c.at_/\c.at_<=1000) (hlen:c.stk.length<=10000) (ho:x.op=0):xP 114 #[yg pr,.pointer (some ⟨b,o,none⟩),.agg #[.int .u8 x.op,yh x.a,yh x.b,Sj],vj] w (fun r w'=>r=.agg #[yh 2,.slice none 0 0,yh 20,yh 0,yh 0]/\Sat g w' (Pt pr [yg cp,vw,vc,yh 0] 148::Pt cp (yl m [yg mp,vt,vg]) 158::Pt mp [vp,yh m.most] 221::Sl 223 256 Xm vp ps::Sl 3 1 ZJ vt Zx::Sl 2 1 ZJ vg Zp::l)):=by
 refine Fc.of Tryz.func114 rfl k_d ?_
 have hx:=Ye hcs
 refine ZL H<|fun p1 w1 H=>ZV H rfl<|fun p2 w2 H=>Z9 rfl<|xW (H.el 8 rfl E hx) 1 xV<|ZX yp<|Z9 rfl<|Yl H 8 rfl E hx 1 (⟨c.fn,c.at_+1,c.vl,c.loc,c.vs,c.stk⟩) rfl rfl rfl rfl<|fun w1 H=>Z9 rfl<|ye H 1 0 x9<|bk<|cT (ZK yo)<|Zn rfl rfl rfl<|ZG H 0 rfl rfl rfl rfl<|fun w2 H=>XM (H.at 0 rfl) 0 rfl rfl rfl<|Z6.mk ?_
 refine ⟨rfl,?_⟩
 exact H.Z8 [7,7,7,7,7,7]<|fun H=>xU H [11,10,9,8,7,6]<|fun H=>H
theorem amb (H:Sat g w (Pt pr [yg cp,vw,vc,yh 0] 148::Pt cp (yl m [yg mp,vt,vg]) 158::Pt mp [vp,yh m.most] 221::Sl 223 256 Xm vp ps::Sl 3 1 ZJ vt Zx::Sl 2 1 ZJ vg Zp::Sl 79 4 XY vc cs::VI up::Sl 2 1 ZJ c.vl c.loc::Sl 2 1 ZJ c.vs c.stk::l)) (hcs:cs=up++[c]) (E:El vc 4 up.length b o) (TQ:0<=c.at_/\c.at_<=1000) (hlen:c.stk.length<=10000) (ho:x.op=1\/x.op=2\/x.op=3):xP 114 #[yg pr,.pointer (some ⟨b,o,none⟩),.agg #[.int .u8 x.op,yh x.a,yh x.b,Sj],vj] w (fun r w'=>r=.agg #[yh 0,.slice none 0 0,yh 0,yh 0,yh 0]/\Sat g w' (Pt pr [yg cp,vw,vc,yh 0] 148::Pt cp (yl m [yg mp,vt,vg]) 158::Pt mp [vp,yh m.most] 221::Sl 223 256 Xm vp ps::Sl 3 1 ZJ vt Zx::Sl 2 1 ZJ vg Zp::Sl 79 4 XY vc (up++[⟨c.fn,c.at_+1,c.vl,c.loc,c.vs,c.stk⟩])::VI up::Sl 2 1 ZJ c.vl c.loc::Sl 2 1 ZJ c.vs c.stk::l)):=by
 refine Fc.of Tryz.func114 rfl k_d ?_
 have hx:=Ye hcs
 have WA:=Yd hcs
 rcases ho with ho|ho|ho
 .refine ZL H<|fun p1 w1 H=>ZV H rfl<|fun p2 w2 H=>Z9 rfl<|xW (H.el 8 rfl E hx) 1 xV<|ZX yp<|Z9 rfl<|Yl H 8 rfl E hx 1 (⟨c.fn,c.at_+1,c.vl,c.loc,c.vs,c.stk⟩) rfl rfl rfl rfl<|fun w1 H=>Z9 rfl<|ye H 1 0 x9<|bk<|cF (Z5 yp)<|cT (ZK yo)<|cT (ZK yo)<|Zn rfl rfl rfl<|ZG H 0 rfl rfl rfl rfl<|fun w2 H=>XM (H.at 0 rfl) 0 rfl rfl rfl<|Z6.mk ?_
  refine ⟨rfl,?_⟩
  refine H.Z8 [11,11,11,11,11,11,11,11,11,11]<|fun H=>xU H [11,10]<|fun H=>?_
  refine H.cg (YC rfl (YC rfl (YC rfl (YC rfl (YC rfl (YC rfl (YC (Qa ?_) (YC rfl (YC rfl (YC rfl (rfl)))))))))))
  exact WA _
 .refine ZL H<|fun p1 w1 H=>ZV H rfl<|fun p2 w2 H=>Z9 rfl<|xW (H.el 8 rfl E hx) 1 xV<|ZX yp<|Z9 rfl<|Yl H 8 rfl E hx 1 (⟨c.fn,c.at_+1,c.vl,c.loc,c.vs,c.stk⟩) rfl rfl rfl rfl<|fun w1 H=>Z9 rfl<|ye H 1 0 x9<|bk<|cF (Z5 yp)<|cF (Z5 yp)<|cT (ZK yo)<|cT (ZK yo)<|Zn rfl rfl rfl<|ZG H 0 rfl rfl rfl rfl<|fun w2 H=>XM (H.at 0 rfl) 0 rfl rfl rfl<|Z6.mk ?_
  refine ⟨rfl,?_⟩
  refine H.Z8 [11,11,11,11,11,11,11,11,11,11]<|fun H=>xU H [11,10]<|fun H=>?_
  refine H.cg (YC rfl (YC rfl (YC rfl (YC rfl (YC rfl (YC rfl (YC (Qa ?_) (YC rfl (YC rfl (YC rfl (rfl)))))))))))
  exact WA _
 .refine ZL H<|fun p1 w1 H=>ZV H rfl<|fun p2 w2 H=>Z9 rfl<|xW (H.el 8 rfl E hx) 1 xV<|ZX yp<|Z9 rfl<|Yl H 8 rfl E hx 1 (⟨c.fn,c.at_+1,c.vl,c.loc,c.vs,c.stk⟩) rfl rfl rfl rfl<|fun w1 H=>Z9 rfl<|ye H 1 0 x9<|bk<|cF (Z5 yp)<|cF (Z5 yp)<|cF (Z5 yp)<|cT (ZK yo)<|Zn rfl rfl rfl<|ZG H 0 rfl rfl rfl rfl<|fun w2 H=>XM (H.at 0 rfl) 0 rfl rfl rfl<|Z6.mk ?_
  refine ⟨rfl,?_⟩
  refine H.Z8 [11,11,11,11,11,11,11,11,11,11]<|fun H=>xU H [11,10]<|fun H=>?_
  refine H.cg (YC rfl (YC rfl (YC rfl (YC rfl (YC rfl (YC rfl (YC (Qa ?_) (YC rfl (YC rfl (YC rfl (rfl)))))))))))
  exact WA _
theorem ajy (H:Sat g w (Pt pr [yg cp,vw,vc,yh 0] 148::Pt cp (yl m [yg mp,vt,vg]) 158::Pt mp [vp,yh m.most] 221::Sl 223 256 Xm vp ps::Sl 3 1 ZJ vt Zx::Sl 2 1 ZJ vg Zp::Sl 79 4 XY vc cs::VI up::Sl 2 1 ZJ c.vl c.loc::Sl 2 1 ZJ c.vs c.stk::l)) (hcs:cs=up++[c]) (E:El vc 4 up.length b o) (TQ:0<=c.at_/\c.at_<=1000) (hlen:c.stk.length<=10000) (hj:Z0 g Nx BY 3 vj ws) (hjn:0<=j.height) (zC:0<=j.keep) (Fg:ws.length<=100) (ho:x.op=12\/x.op=15) (hw:ws[0]?=some j) (hjf:j.height+j.keep<=c.stk.length):xP 114 #[yg pr,.pointer (some ⟨b,o,none⟩),.agg #[.int .u8 x.op,yh x.a,yh x.b,Sj],vj] w (fun r w'=>∃vs',r=.agg #[yh 0,.slice none 0 0,yh 0,yh 0,yh 0]/\Sat g w' (Pt pr [yg cp,vw,vc,yh 0] 148::Pt cp (yl m [yg mp,vt,vg]) 158::Pt mp [vp,yh m.most] 221::Sl 223 256 Xm vp ps::Sl 3 1 ZJ vt Zx::Sl 2 1 ZJ vg Zp::Sl 79 4 XY vc (up++[⟨c.fn,j.at_,c.vl,c.loc,vs',(c.stk.take j.height.toNat++c.stk.drop (c.stk.length-j.keep.toNat))⟩])::VI up::Sl 2 1 ZJ c.vl c.loc::Sl 2 1 ZJ vs' (c.stk.take j.height.toNat++c.stk.drop (c.stk.length-j.keep.toNat))::l)):=by
 refine Fc.of Tryz.func114 rfl k_d ?_
 have hx:=Ye hcs
 have WA:=Yd hcs
 rcases ho with ho|ho
 .refine ZL H<|fun p1 w1 H=>ZV H rfl<|fun p2 w2 H=>Z9 rfl<|xW (H.el 8 rfl E hx) 1 xV<|ZX yp<|Z9 rfl<|Yl H 8 rfl E hx 1 (⟨c.fn,c.at_+1,c.vl,c.loc,c.vs,c.stk⟩) rfl rfl rfl rfl<|fun w1 H=>Z9 rfl<|ye H 1 0 x9<|bk ?_
  simp only [WA] at H
  have hx1:(up++[(⟨c.fn,c.at_+1,c.vl,c.loc,c.vs,c.stk⟩:CV)])[up.length]?=some (⟨c.fn,c.at_+1,c.vl,c.loc,c.vs,c.stk⟩:CV):=Ye rfl
  clear hx
  have Wg:∀z,(up++[(⟨c.fn,c.at_+1,c.vl,c.loc,c.vs,c.stk⟩:CV)]).set up.length z=up++[z]:=Yd rfl
  refine cF (Z5 yp)<|cF (Z5 yp)<|cF (Z5 yp)<|cF (Z5 yp)<|cF (Z5 yp)<|cT (ZK yo)<|cT (ZK yo) ?_
  obtain ⟨b1,o1,E1,F1,ZH⟩:=Z0.Y5 hj hw
  refine ZI E1 rfl rfl rfl<|ZC (H.Yt F1) 0 rfl rfl rfl<|H.Z8 [11,9]<|fun H=>?_
  refine Z7.mk (Fc.imp (Rn.Lc E _ hx1 H _ yp yp yp ?_) ?_)
  .grind
  rintro v' w2 ⟨Zt,H⟩
  refine Zn rfl rfl rfl<|ZG H 2 rfl rfl rfl rfl<|fun w3 H=>XM (H.at 2 rfl) 0 rfl rfl rfl<|Z6.mk ?_
  refine ⟨Zt,?_⟩
  refine ⟨rfl,?_⟩
  refine H.Z8 [1,11,11,3,11,11,11,11,11,11]<|fun H=>xU H [11,10]<|fun H=>?_
  refine H.cg (YC rfl (YC rfl (YC rfl (YC rfl (YC rfl (YC rfl (YC (Qa ?_) (YC rfl (YC rfl (YC rfl (rfl)))))))))))
  exact Wg _
 .refine ZL H<|fun p1 w1 H=>ZV H rfl<|fun p2 w2 H=>Z9 rfl<|xW (H.el 8 rfl E hx) 1 xV<|ZX yp<|Z9 rfl<|Yl H 8 rfl E hx 1 (⟨c.fn,c.at_+1,c.vl,c.loc,c.vs,c.stk⟩) rfl rfl rfl rfl<|fun w1 H=>Z9 rfl<|ye H 1 0 x9<|bk ?_
  simp only [WA] at H
  have hx1:(up++[(⟨c.fn,c.at_+1,c.vl,c.loc,c.vs,c.stk⟩:CV)])[up.length]?=some (⟨c.fn,c.at_+1,c.vl,c.loc,c.vs,c.stk⟩:CV):=Ye rfl
  clear hx
  have Wg:∀z,(up++[(⟨c.fn,c.at_+1,c.vl,c.loc,c.vs,c.stk⟩:CV)]).set up.length z=up++[z]:=Yd rfl
  refine cF (Z5 yp)<|cF (Z5 yp)<|cF (Z5 yp)<|cF (Z5 yp)<|cF (Z5 yp)<|cF (Z5 yp)<|cT (ZK yo) ?_
  obtain ⟨b1,o1,E1,F1,ZH⟩:=Z0.Y5 hj hw
  refine ZI E1 rfl rfl rfl<|ZC (H.Yt F1) 0 rfl rfl rfl<|H.Z8 [11,9]<|fun H=>?_
  refine Z7.mk (Fc.imp (Rn.Lc E _ hx1 H _ yp yp yp ?_) ?_)
  .grind
  rintro v' w2 ⟨Zt,H⟩
  refine Zn rfl rfl rfl<|ZG H 2 rfl rfl rfl rfl<|fun w3 H=>XM (H.at 2 rfl) 0 rfl rfl rfl<|Z6.mk ?_
  refine ⟨Zt,?_⟩
  refine ⟨rfl,?_⟩
  refine H.Z8 [1,11,11,3,11,11,11,11,11,11]<|fun H=>xU H [11,10]<|fun H=>?_
  refine H.cg (YC rfl (YC rfl (YC rfl (YC rfl (YC rfl (YC rfl (YC (Qa ?_) (YC rfl (YC rfl (YC rfl (rfl)))))))))))
  exact Wg _
theorem aib (H:Sat g w (Pt pr [yg cp,vw,vc,yh 0] 148::Pt cp (yl m [yg mp,vt,vg]) 158::Pt mp [vp,yh m.most] 221::Sl 223 256 Xm vp ps::Sl 3 1 ZJ vt Zx::Sl 2 1 ZJ vg Zp::Sl 79 4 XY vc cs::VI up::Sl 2 1 ZJ c.vl c.loc::Sl 2 1 ZJ c.vs c.stk::l)) (hcs:cs=up++[c]) (E:El vc 4 up.length b o) (TQ:0<=c.at_/\c.at_<=1000) (hlen:c.stk.length<=10000) (hj:Z0 g Nx BY 3 vj ws) (hjn:0<=j.height) (zC:0<=j.keep) (Fg:ws.length<=100) (h1:1<=c.stk.length) (ho:(x.op=4/\top c.stk 0=0)\/(x.op=13/\top c.stk 0≠0)) (hw:ws[0]?=some j) (hjf:j.height+j.keep<=(low c.stk 1).length):xP 114 #[yg pr,.pointer (some ⟨b,o,none⟩),.agg #[.int .u8 x.op,yh x.a,yh x.b,Sj],vj] w (fun r w'=>∃vs',r=.agg #[yh 0,.slice none 0 0,yh 0,yh 0,yh 0]/\Sat g w' (Pt pr [yg cp,vw,vc,yh 0] 148::Pt cp (yl m [yg mp,vt,vg]) 158::Pt mp [vp,yh m.most] 221::Sl 223 256 Xm vp ps::Sl 3 1 ZJ vt Zx::Sl 2 1 ZJ vg Zp::Sl 79 4 XY vc (up++[⟨c.fn,j.at_,c.vl,c.loc,vs',((low c.stk 1).take j.height.toNat++(low c.stk 1).drop ((low c.stk 1).length-j.keep.toNat))⟩])::VI up::Sl 2 1 ZJ c.vl c.loc::Sl 2 1 ZJ vs' ((low c.stk 1).take j.height.toNat++(low c.stk 1).drop ((low c.stk 1).length-j.keep.toNat))::l)):=by
 refine Fc.of Tryz.func114 rfl k_d ?_
 have hx:=Ye hcs
 have WA:=Yd hcs
 have Qv:(low c.stk 1).length=c.stk.length-1:=O5
 rcases ho with ⟨ho,hz⟩|⟨ho,hz⟩
 .refine ZL H<|fun p1 w1 H=>ZV H rfl<|fun p2 w2 H=>Z9 rfl<|xW (H.el 8 rfl E hx) 1 xV<|ZX yp<|Z9 rfl<|Yl H 8 rfl E hx 1 (⟨c.fn,c.at_+1,c.vl,c.loc,c.vs,c.stk⟩) rfl rfl rfl rfl<|fun w1 H=>Z9 rfl<|ye H 1 0 x9<|bk ?_
  simp only [WA] at H
  have hx1:(up++[(⟨c.fn,c.at_+1,c.vl,c.loc,c.vs,c.stk⟩:CV)])[up.length]?=some (⟨c.fn,c.at_+1,c.vl,c.loc,c.vs,c.stk⟩:CV):=Ye rfl
  clear hx
  have Wg:∀z,(up++[(⟨c.fn,c.at_+1,c.vl,c.loc,c.vs,c.stk⟩:CV)]).set up.length z=up++[z]:=Yd rfl
  refine cF (Z5 yp)<|cF (Z5 yp)<|cF (Z5 yp)<|cF (Z5 yp)<|cT (ZK yo)<|H.Z8 [11,9]<|fun H=>?_
  refine Z7.mk (Fc.imp (Rn.OU E _ hx1 H yp ?_) ?_)
  .grind
  rintro _ w2 ⟨Zt,⟨t1,⟨rfl,⟨h2,H⟩⟩⟩⟩
  simp only [Wg] at H
  replace h2:t1=top c.stk 0:=h2
  clear hx1
  have RK:(up++[(⟨c.fn,c.at_+1,c.vl,c.loc,Zt,low c.stk 1⟩:CV)])[up.length]?=some (⟨c.fn,c.at_+1,c.vl,c.loc,Zt,low c.stk 1⟩:CV):=Ye rfl
  have Py:∀z,(up++[(⟨c.fn,c.at_+1,c.vl,c.loc,Zt,low c.stk 1⟩:CV)]).set up.length z=up++[z]:=Yd rfl
  refine cT (ZK yp) ?_
  obtain ⟨b1,o1,E1,F1,ZH⟩:=Z0.Y5 hj hw
  refine ZI E1 rfl rfl rfl<|ZC (H.Yt F1) 0 rfl rfl rfl ?_
  refine Z7.mk (Fc.imp (Rn.Lc E _ RK H _ yp yp yp ?_) ?_)
  .grind
  rintro v' w3 ⟨Vz,H⟩
  refine Zn rfl rfl rfl<|ZG H 2 rfl rfl rfl rfl<|fun w4 H=>XM (H.at 2 rfl) 0 rfl rfl rfl<|Z6.mk ?_
  refine ⟨Vz,?_⟩
  refine ⟨rfl,?_⟩
  refine H.Z8 [1,11,11,3,11,11,11,11,11,11]<|fun H=>xU H [11,10]<|fun H=>?_
  refine H.cg (YC rfl (YC rfl (YC rfl (YC rfl (YC rfl (YC rfl (YC (Qa ?_) (YC rfl (YC rfl (YC rfl (rfl)))))))))))
  exact Py _
 .refine ZL H<|fun p1 w1 H=>ZV H rfl<|fun p2 w2 H=>Z9 rfl<|xW (H.el 8 rfl E hx) 1 xV<|ZX yp<|Z9 rfl<|Yl H 8 rfl E hx 1 (⟨c.fn,c.at_+1,c.vl,c.loc,c.vs,c.stk⟩) rfl rfl rfl rfl<|fun w1 H=>Z9 rfl<|ye H 1 0 x9<|bk ?_
  simp only [WA] at H
  have hx1:(up++[(⟨c.fn,c.at_+1,c.vl,c.loc,c.vs,c.stk⟩:CV)])[up.length]?=some (⟨c.fn,c.at_+1,c.vl,c.loc,c.vs,c.stk⟩:CV):=Ye rfl
  clear hx
  have Wg:∀z,(up++[(⟨c.fn,c.at_+1,c.vl,c.loc,c.vs,c.stk⟩:CV)]).set up.length z=up++[z]:=Yd rfl
  refine cF (Z5 yp)<|cF (Z5 yp)<|cF (Z5 yp)<|cF (Z5 yp)<|cF (Z5 yp)<|cF (Z5 yp)<|cF (Z5 yp)<|cT (ZK yo)<|H.Z8 [11,9]<|fun H=>?_
  refine Z7.mk (Fc.imp (Rn.OU E _ hx1 H yp ?_) ?_)
  .grind
  rintro _ w2 ⟨Zt,⟨t1,⟨rfl,⟨h2,H⟩⟩⟩⟩
  simp only [Wg] at H
  replace h2:t1=top c.stk 0:=h2
  clear hx1
  have RK:(up++[(⟨c.fn,c.at_+1,c.vl,c.loc,Zt,low c.stk 1⟩:CV)])[up.length]?=some (⟨c.fn,c.at_+1,c.vl,c.loc,Zt,low c.stk 1⟩:CV):=Ye rfl
  have Py:∀z,(up++[(⟨c.fn,c.at_+1,c.vl,c.loc,Zt,low c.stk 1⟩:CV)]).set up.length z=up++[z]:=Yd rfl
  refine cT (WE yp) ?_
  obtain ⟨b1,o1,E1,F1,ZH⟩:=Z0.Y5 hj hw
  refine ZI E1 rfl rfl rfl<|ZC (H.Yt F1) 0 rfl rfl rfl ?_
  refine Z7.mk (Fc.imp (Rn.Lc E _ RK H _ yp yp yp ?_) ?_)
  .grind
  rintro v' w3 ⟨Vz,H⟩
  refine Zn rfl rfl rfl<|ZG H 2 rfl rfl rfl rfl<|fun w4 H=>XM (H.at 2 rfl) 0 rfl rfl rfl<|Z6.mk ?_
  refine ⟨Vz,?_⟩
  refine ⟨rfl,?_⟩
  refine H.Z8 [1,11,11,3,11,11,11,11,11,11]<|fun H=>xU H [11,10]<|fun H=>?_
  refine H.cg (YC rfl (YC rfl (YC rfl (YC rfl (YC rfl (YC rfl (YC (Qa ?_) (YC rfl (YC rfl (YC rfl (rfl)))))))))))
  exact Py _
theorem aic (H:Sat g w (Pt pr [yg cp,vw,vc,yh 0] 148::Pt cp (yl m [yg mp,vt,vg]) 158::Pt mp [vp,yh m.most] 221::Sl 223 256 Xm vp ps::Sl 3 1 ZJ vt Zx::Sl 2 1 ZJ vg Zp::Sl 79 4 XY vc cs::VI up::Sl 2 1 ZJ c.vl c.loc::Sl 2 1 ZJ c.vs c.stk::l)) (hcs:cs=up++[c]) (E:El vc 4 up.length b o) (TQ:0<=c.at_/\c.at_<=1000) (hlen:c.stk.length<=10000) (h1:1<=c.stk.length) (ho:(x.op=4/\top c.stk 0≠0)\/(x.op=13/\top c.stk 0=0)):xP 114 #[yg pr,.pointer (some ⟨b,o,none⟩),.agg #[.int .u8 x.op,yh x.a,yh x.b,Sj],vj] w (fun r w'=>∃vs',r=.agg #[yh 0,.slice none 0 0,yh 0,yh 0,yh 0]/\Sat g w' (Pt pr [yg cp,vw,vc,yh 0] 148::Pt cp (yl m [yg mp,vt,vg]) 158::Pt mp [vp,yh m.most] 221::Sl 223 256 Xm vp ps::Sl 3 1 ZJ vt Zx::Sl 2 1 ZJ vg Zp::Sl 79 4 XY vc (up++[⟨c.fn,c.at_+1,c.vl,c.loc,vs',(low c.stk 1)⟩])::VI up::Sl 2 1 ZJ c.vl c.loc::Sl 2 1 ZJ vs' (low c.stk 1)::l)):=by
 refine Fc.of Tryz.func114 rfl k_d ?_
 have hx:=Ye hcs
 have WA:=Yd hcs
 have Qv:(low c.stk 1).length=c.stk.length-1:=O5
 rcases ho with ⟨ho,hz⟩|⟨ho,hz⟩
 .refine ZL H<|fun p1 w1 H=>ZV H rfl<|fun p2 w2 H=>Z9 rfl<|xW (H.el 8 rfl E hx) 1 xV<|ZX yp<|Z9 rfl<|Yl H 8 rfl E hx 1 (⟨c.fn,c.at_+1,c.vl,c.loc,c.vs,c.stk⟩) rfl rfl rfl rfl<|fun w1 H=>Z9 rfl<|ye H 1 0 x9<|bk ?_
  simp only [WA] at H
  have hx1:(up++[(⟨c.fn,c.at_+1,c.vl,c.loc,c.vs,c.stk⟩:CV)])[up.length]?=some (⟨c.fn,c.at_+1,c.vl,c.loc,c.vs,c.stk⟩:CV):=Ye rfl
  clear hx
  have Wg:∀z,(up++[(⟨c.fn,c.at_+1,c.vl,c.loc,c.vs,c.stk⟩:CV)]).set up.length z=up++[z]:=Yd rfl
  refine cF (Z5 yp)<|cF (Z5 yp)<|cF (Z5 yp)<|cF (Z5 yp)<|cT (ZK yo)<|H.Z8 [11,9]<|fun H=>?_
  refine Z7.mk (Fc.imp (Rn.OU E _ hx1 H yp ?_) ?_)
  .grind
  rintro _ w2 ⟨Zt,⟨t1,⟨rfl,⟨h2,H⟩⟩⟩⟩
  simp only [Wg] at H
  replace h2:t1=top c.stk 0:=h2
  clear hx1
  have RK:(up++[(⟨c.fn,c.at_+1,c.vl,c.loc,Zt,low c.stk 1⟩:CV)])[up.length]?=some (⟨c.fn,c.at_+1,c.vl,c.loc,Zt,low c.stk 1⟩:CV):=Ye rfl
  have Py:∀z,(up++[(⟨c.fn,c.at_+1,c.vl,c.loc,Zt,low c.stk 1⟩:CV)]).set up.length z=up++[z]:=Yd rfl
  refine cF (Z5 yp)<|Zn rfl rfl rfl<|ZG H 2 rfl rfl rfl rfl<|fun w3 H=>XM (H.at 2 rfl) 0 rfl rfl rfl<|Z6.mk ?_
  refine ⟨Zt,?_⟩
  refine ⟨rfl,?_⟩
  exact H.Z8 [1,11,11,3,11,11,11,11,11,11]<|fun H=>xU H [11,10]<|fun H=>H
 .refine ZL H<|fun p1 w1 H=>ZV H rfl<|fun p2 w2 H=>Z9 rfl<|xW (H.el 8 rfl E hx) 1 xV<|ZX yp<|Z9 rfl<|Yl H 8 rfl E hx 1 (⟨c.fn,c.at_+1,c.vl,c.loc,c.vs,c.stk⟩) rfl rfl rfl rfl<|fun w1 H=>Z9 rfl<|ye H 1 0 x9<|bk ?_
  simp only [WA] at H
  have hx1:(up++[(⟨c.fn,c.at_+1,c.vl,c.loc,c.vs,c.stk⟩:CV)])[up.length]?=some (⟨c.fn,c.at_+1,c.vl,c.loc,c.vs,c.stk⟩:CV):=Ye rfl
  clear hx
  have Wg:∀z,(up++[(⟨c.fn,c.at_+1,c.vl,c.loc,c.vs,c.stk⟩:CV)]).set up.length z=up++[z]:=Yd rfl
  refine cF (Z5 yp)<|cF (Z5 yp)<|cF (Z5 yp)<|cF (Z5 yp)<|cF (Z5 yp)<|cF (Z5 yp)<|cF (Z5 yp)<|cT (ZK yo)<|H.Z8 [11,9]<|fun H=>?_
  refine Z7.mk (Fc.imp (Rn.OU E _ hx1 H yp ?_) ?_)
  .grind
  rintro _ w2 ⟨Zt,⟨t1,⟨rfl,⟨h2,H⟩⟩⟩⟩
  simp only [Wg] at H
  replace h2:t1=top c.stk 0:=h2
  clear hx1
  have RK:(up++[(⟨c.fn,c.at_+1,c.vl,c.loc,Zt,low c.stk 1⟩:CV)])[up.length]?=some (⟨c.fn,c.at_+1,c.vl,c.loc,Zt,low c.stk 1⟩:CV):=Ye rfl
  have Py:∀z,(up++[(⟨c.fn,c.at_+1,c.vl,c.loc,Zt,low c.stk 1⟩:CV)]).set up.length z=up++[z]:=Yd rfl
  refine cF (XL yp)<|Zn rfl rfl rfl<|ZG H 2 rfl rfl rfl rfl<|fun w3 H=>XM (H.at 2 rfl) 0 rfl rfl rfl<|Z6.mk ?_
  refine ⟨Zt,?_⟩
  refine ⟨rfl,?_⟩
  exact H.Z8 [1,11,11,3,11,11,11,11,11,11]<|fun H=>xU H [11,10]<|fun H=>H
theorem ajz (H:Sat g w (Pt pr [yg cp,vw,vc,yh 0] 148::Pt cp (yl m [yg mp,vt,vg]) 158::Pt mp [vp,yh m.most] 221::Sl 223 256 Xm vp ps::Sl 3 1 ZJ vt Zx::Sl 2 1 ZJ vg Zp::Sl 79 4 XY vc cs::VI up::Sl 2 1 ZJ c.vl c.loc::Sl 2 1 ZJ c.vs c.stk::l)) (hcs:cs=up++[c]) (E:El vc 4 up.length b o) (TQ:0<=c.at_/\c.at_<=1000) (hlen:c.stk.length<=10000) (hj:Z0 g Nx BY 3 vj ws) (hjn:0<=j.height) (zC:0<=j.keep) (Fg:ws.length<=100) (h1:1<=c.stk.length) (TZ:XB (top c.stk 0)) (ho:x.op=14) (hw0:1<=ws.length) (hw:ws[(min (top c.stk 0 % 4294967296) (ws.length-1)).toNat]?=some j) (hjf:j.height+j.keep<=(low c.stk 1).length):xP 114 #[yg pr,.pointer (some ⟨b,o,none⟩),.agg #[.int .u8 x.op,yh x.a,yh x.b,Sj],vj] w (fun r w'=>∃vs',r=.agg #[yh 0,.slice none 0 0,yh 0,yh 0,yh 0]/\Sat g w' (Pt pr [yg cp,vw,vc,yh 0] 148::Pt cp (yl m [yg mp,vt,vg]) 158::Pt mp [vp,yh m.most] 221::Sl 223 256 Xm vp ps::Sl 3 1 ZJ vt Zx::Sl 2 1 ZJ vg Zp::Sl 79 4 XY vc (up++[⟨c.fn,j.at_,c.vl,c.loc,vs',((low c.stk 1).take j.height.toNat++(low c.stk 1).drop ((low c.stk 1).length-j.keep.toNat))⟩])::VI up::Sl 2 1 ZJ c.vl c.loc::Sl 2 1 ZJ vs' ((low c.stk 1).take j.height.toNat++(low c.stk 1).drop ((low c.stk 1).length-j.keep.toNat))::l)):=by
 refine Fc.of Tryz.func114 rfl k_d ?_
 have hx:=Ye hcs
 have WA:=Yd hcs
 have Qv:(low c.stk 1).length=c.stk.length-1:=O5
 refine ZL H<|fun p1 w1 H=>ZV H rfl<|fun p2 w2 H=>Z9 rfl<|xW (H.el 8 rfl E hx) 1 xV<|ZX yp<|Z9 rfl<|Yl H 8 rfl E hx 1 (⟨c.fn,c.at_+1,c.vl,c.loc,c.vs,c.stk⟩) rfl rfl rfl rfl<|fun w1 H=>Z9 rfl<|ye H 1 0 x9<|bk ?_
 simp only [WA] at H
 have hx1:(up++[(⟨c.fn,c.at_+1,c.vl,c.loc,c.vs,c.stk⟩:CV)])[up.length]?=some (⟨c.fn,c.at_+1,c.vl,c.loc,c.vs,c.stk⟩:CV):=Ye rfl
 clear hx
 have Wg:∀z,(up++[(⟨c.fn,c.at_+1,c.vl,c.loc,c.vs,c.stk⟩:CV)]).set up.length z=up++[z]:=Yd rfl
 refine cF (Z5 yp)<|cF (Z5 yp)<|cF (Z5 yp)<|cF (Z5 yp)<|cF (Z5 yp)<|cF (Z5 yp)<|cF (Z5 yp)<|cF (Z5 yp)<|cT (ZK yo)<|H.Z8 [11,9]<|fun H=>?_
 refine Z7.mk (Fc.imp (Rn.OU E _ hx1 H yp ?_) ?_)
 .grind
 rintro _ w2 ⟨Zt,⟨t1,⟨rfl,⟨h2,H⟩⟩⟩⟩
 simp only [Wg] at H
 replace h2:t1=top c.stk 0:=h2
 clear hx1
 have RK:(up++[(⟨c.fn,c.at_+1,c.vl,c.loc,Zt,low c.stk 1⟩:CV)])[up.length]?=some (⟨c.fn,c.at_+1,c.vl,c.loc,Zt,low c.stk 1⟩:CV):=Ye rfl
 have Py:∀z,(up++[(⟨c.fn,c.at_+1,c.vl,c.loc,Zt,low c.stk 1⟩:CV)]).set up.length z=up++[z]:=Yd rfl
 have EY:ws[(min (t1 % 4294967296) (ws.length-1)).toNat]?=some j:=by grind
 have apL:XB t1:=by rw [h2];exact TZ
 refine Yk rfl rfl<|W9 yp rfl rfl<|ZF hj rfl<|ZX yp<|akd ?_
 obtain ⟨b1,o1,E1,F1,ZH⟩:=Z0.Y5 hj EY
 refine ZI E1 yp rfl rfl<|ZC (H.Yt F1) 0 rfl rfl rfl ?_
 refine Z7.mk (Fc.imp (Rn.Lc E _ RK H _ yp yp yp ?_) ?_)
 .grind
 rintro v' w3 ⟨Vz,H⟩
 refine Zn rfl rfl rfl<|ZG H 2 rfl rfl rfl rfl<|fun w4 H=>XM (H.at 2 rfl) 0 rfl rfl rfl<|Z6.mk ?_
 refine ⟨Vz,?_⟩
 refine ⟨rfl,?_⟩
 refine H.Z8 [1,11,11,3,11,11,11,11,11,11]<|fun H=>xU H [11,10]<|fun H=>?_
 refine H.cg (YC rfl (YC rfl (YC rfl (YC rfl (YC rfl (YC rfl (YC (Qa ?_) (YC rfl (YC rfl (YC rfl (rfl)))))))))))
 exact Py _
end
end Rn
namespace Rn
open Go YY Go.RowKit
open YT Zl X6 YP Valid Mem
section
variable {g:Zz} {w:World} {l:List As} {m:Zj} {pr cp mp:Nat} {vw vc vt vg vp Sj vj:Value} {host f e:Int} {cs up:List CV} {Zx Zp s2:xO} {ps:List WN} {c u:CV} {x:ZU} {i b o:Nat} {ws:List Yg} {j:Yg}
theorem ajA (H:Sat g w (Pt pr [yg cp,vw,vc,yh 0] 148::Pt cp (yl m [yg mp,vt,vg]) 158::Pt mp [vp,yh m.most] 221::Sl 223 256 Xm vp ps::Sl 3 1 ZJ vt Zx::Sl 2 1 ZJ vg Zp::Sl 79 4 XY vc cs::VI up::Sl 2 1 ZJ c.vl c.loc::Sl 2 1 ZJ c.vs c.stk::l)) (hcs:cs=up++[c]) (E:El vc 4 up.length b o) (TQ:0<=c.at_/\c.at_<=1000) (hlen:c.stk.length<=10000) (hm:XE g m) (P:VJ m.d) (ho:x.op=16\/x.op=17) (Q9:∀n∈Zx,-1<=n/\n<(m.ZA.length:Int)+m.funcs.length) (h1:x.op=17->1<=c.stk.length/\0<=x.a/\x.a<m.types.length) (TZ:∀v∈c.stk,XB v) (NC:Zx.length<=1000) (Ti:cs.length<=40) (hq:Zd m.d Zx x c.stk=(f,s2,e)) (he:e≠0):xP 114 #[yg pr,.pointer (some ⟨b,o,none⟩),.agg #[.int .u8 x.op,yh x.a,yh x.b,Sj],vj] w (fun r w'=>r=.agg #[yh 2,.slice none 0 0,yh e,yh 0,yh 0]/\Sat g w' (Pt pr [yg cp,vw,vc,yh 0] 148::Pt cp (yl m [yg mp,vt,vg]) 158::Pt mp [vp,yh m.most] 221::Sl 223 256 Xm vp ps::Sl 3 1 ZJ vt Zx::Sl 2 1 ZJ vg Zp::l)):=by
 refine Fc.of Tryz.func114 rfl k_d ?_
 have hx:=Ye hcs
 have WA:=Yd hcs
 have hvl:=H.one 8 rfl
 have CQ:up.length+1=cs.length:=by grind
 refine ZL H<|fun p1 w1 H=>ZV H rfl<|fun p2 w2 H=>Z9 rfl<|xW (H.el 8 rfl E hx) 1 xV<|ZX yp<|Z9 rfl<|Yl H 8 rfl E hx 1 (⟨c.fn,c.at_+1,c.vl,c.loc,c.vs,c.stk⟩) rfl rfl rfl rfl<|fun w1 H=>Z9 rfl<|ye H 1 0 x9<|bk ?_
 simp only [WA] at H
 have hx1:(up++[(⟨c.fn,c.at_+1,c.vl,c.loc,c.vs,c.stk⟩:CV)])[up.length]?=some (⟨c.fn,c.at_+1,c.vl,c.loc,c.vs,c.stk⟩:CV):=Ye rfl
 clear hx
 have Wg:∀z,(up++[(⟨c.fn,c.at_+1,c.vl,c.loc,c.vs,c.stk⟩:CV)]).set up.length z=up++[z]:=Yd rfl
 have Ei:(up++[(⟨c.fn,c.at_+1,c.vl,c.loc,c.vs,c.stk⟩:CV)]).length=cs.length:=by grind
 rcases ho with ho|ho
 .refine cF (Z5 yp)<|cF (Z5 yp)<|cF (Z5 yp)<|cF (Z5 yp)<|cF (Z5 yp)<|cF (Z5 yp)<|cF (Z5 yp)<|cF (Z5 yp)<|cF (Z5 yp)<|cT (ZK yo)<|cT (ZK yo)<|ZC (H.at 1 rfl) 0 rfl rfl rfl<|H.Z8 [11,9,8,6,6]<|fun H=>?_
  refine Z7.mk (Fc.imp (Rn.afs E _ hx1 H yp yp yp yp yp yp yp yp yp yp hq yp) ?_)
  rintro _ w2 ⟨rfl,H⟩
  refine ZG H 3 rfl rfl rfl rfl<|fun w3 H=>XM (H.at 3 rfl) 0 rfl rfl rfl<|Z6.mk ?_
  refine ⟨rfl,?_⟩
  exact H.Z8 [7,3,7,7,5,5]<|fun H=>xU H [9,8,7,6]<|fun H=>H
 .refine cF (Z5 yp)<|cF (Z5 yp)<|cF (Z5 yp)<|cF (Z5 yp)<|cF (Z5 yp)<|cF (Z5 yp)<|cF (Z5 yp)<|cF (Z5 yp)<|cF (Z5 yp)<|cF (Z5 yp)<|cT (ZK yo)<|ZC (H.at 1 rfl) 0 rfl rfl rfl<|H.Z8 [11,9,8,6,6]<|fun H=>?_
  refine Z7.mk (Fc.imp (Rn.afs E _ hx1 H yp yp yp yp yp yp yp yp yp yp hq yp) ?_)
  rintro _ w2 ⟨rfl,H⟩
  refine ZG H 3 rfl rfl rfl rfl<|fun w3 H=>XM (H.at 3 rfl) 0 rfl rfl rfl<|Z6.mk ?_
  refine ⟨rfl,?_⟩
  exact H.Z8 [7,3,7,7,5,5]<|fun H=>xU H [9,8,7,6]<|fun H=>H
theorem ajB (H:Sat g w (Pt pr [yg cp,vw,vc,yh 0] 148::Pt cp (yl m [yg mp,vt,vg]) 158::Pt mp [vp,yh m.most] 221::Sl 223 256 Xm vp ps::Sl 3 1 ZJ vt Zx::Sl 2 1 ZJ vg Zp::Sl 79 4 XY vc cs::VI up::Sl 2 1 ZJ c.vl c.loc::Sl 2 1 ZJ c.vs c.stk::l)) (hcs:cs=up++[c]) (E:El vc 4 up.length b o) (TQ:0<=c.at_/\c.at_<=1000) (hlen:c.stk.length<=10000) (hm:XE g m) (P:VJ m.d) (ho:x.op=16\/x.op=17) (Q9:∀n∈Zx,-1<=n/\n<(m.ZA.length:Int)+m.funcs.length) (h1:x.op=17->1<=c.stk.length/\0<=x.a/\x.a<m.types.length) (TZ:∀v∈c.stk,XB v) (NC:Zx.length<=1000) (Ti:cs.length<=40) (hq:Zd m.d Zx x c.stk=(f,s2,0)) (hf:0<=f/\f<(m.ZA.length:Int)+m.funcs.length) (J3:(YO m.d f).Zh.length<=s2.length) (Pv:s2.length<=10000) (AV:(m.ZA.length:Int)<=f) (Ej:cs.length=40):xP 114 #[yg pr,.pointer (some ⟨b,o,none⟩),.agg #[.int .u8 x.op,yh x.a,yh x.b,Sj],vj] w (fun r w'=>r=.agg #[yh 2,.slice none 0 0,yh 26,yh 0,yh 0]/\Sat g w' (Pt pr [yg cp,vw,vc,yh 0] 148::Pt cp (yl m [yg mp,vt,vg]) 158::Pt mp [vp,yh m.most] 221::Sl 223 256 Xm vp ps::Sl 3 1 ZJ vt Zx::Sl 2 1 ZJ vg Zp::l)):=by
 refine Fc.of Tryz.func114 rfl k_d ?_
 have hx:=Ye hcs
 have WA:=Yd hcs
 have hvl:=H.one 8 rfl
 have CQ:up.length+1=cs.length:=by grind
 refine ZL H<|fun p1 w1 H=>ZV H rfl<|fun p2 w2 H=>Z9 rfl<|xW (H.el 8 rfl E hx) 1 xV<|ZX yp<|Z9 rfl<|Yl H 8 rfl E hx 1 (⟨c.fn,c.at_+1,c.vl,c.loc,c.vs,c.stk⟩) rfl rfl rfl rfl<|fun w1 H=>Z9 rfl<|ye H 1 0 x9<|bk ?_
 simp only [WA] at H
 have hx1:(up++[(⟨c.fn,c.at_+1,c.vl,c.loc,c.vs,c.stk⟩:CV)])[up.length]?=some (⟨c.fn,c.at_+1,c.vl,c.loc,c.vs,c.stk⟩:CV):=Ye rfl
 clear hx
 have Wg:∀z,(up++[(⟨c.fn,c.at_+1,c.vl,c.loc,c.vs,c.stk⟩:CV)]).set up.length z=up++[z]:=Yd rfl
 have Ei:(up++[(⟨c.fn,c.at_+1,c.vl,c.loc,c.vs,c.stk⟩:CV)]).length=cs.length:=by grind
 rcases ho with ho|ho
 .refine cF (Z5 yp)<|cF (Z5 yp)<|cF (Z5 yp)<|cF (Z5 yp)<|cF (Z5 yp)<|cF (Z5 yp)<|cF (Z5 yp)<|cF (Z5 yp)<|cF (Z5 yp)<|cT (ZK yo)<|cT (ZK yo)<|ZC (H.at 1 rfl) 0 rfl rfl rfl<|H.Z8 [11,9,8,6,6]<|fun H=>?_
  refine Z7.mk (Fc.imp (Rn.aft E _ hx1 H yp yp yp yp yp yp yp yp yp yp hq yp yp yp yp yp) ?_)
  rintro _ w2 ⟨rfl,H⟩
  refine ZG H 3 rfl rfl rfl rfl<|fun w3 H=>XM (H.at 3 rfl) 0 rfl rfl rfl<|Z6.mk ?_
  refine ⟨rfl,?_⟩
  exact H.Z8 [7,3,7,7,5,5]<|fun H=>xU H [9,8,7,6]<|fun H=>H
 .refine cF (Z5 yp)<|cF (Z5 yp)<|cF (Z5 yp)<|cF (Z5 yp)<|cF (Z5 yp)<|cF (Z5 yp)<|cF (Z5 yp)<|cF (Z5 yp)<|cF (Z5 yp)<|cF (Z5 yp)<|cT (ZK yo)<|ZC (H.at 1 rfl) 0 rfl rfl rfl<|H.Z8 [11,9,8,6,6]<|fun H=>?_
  refine Z7.mk (Fc.imp (Rn.aft E _ hx1 H yp yp yp yp yp yp yp yp yp yp hq yp yp yp yp yp) ?_)
  rintro _ w2 ⟨rfl,H⟩
  refine ZG H 3 rfl rfl rfl rfl<|fun w3 H=>XM (H.at 3 rfl) 0 rfl rfl rfl<|Z6.mk ?_
  refine ⟨rfl,?_⟩
  exact H.Z8 [7,3,7,7,5,5]<|fun H=>xU H [9,8,7,6]<|fun H=>H
theorem ajC (H:Sat g w (Pt pr [yg cp,vw,vc,yh 0] 148::Pt cp (yl m [yg mp,vt,vg]) 158::Pt mp [vp,yh m.most] 221::Sl 223 256 Xm vp ps::Sl 3 1 ZJ vt Zx::Sl 2 1 ZJ vg Zp::Sl 79 4 XY vc cs::VI up::Sl 2 1 ZJ c.vl c.loc::Sl 2 1 ZJ c.vs c.stk::l)) (hcs:cs=up++[c]) (E:El vc 4 up.length b o) (TQ:0<=c.at_/\c.at_<=1000) (hlen:c.stk.length<=10000) (hm:XE g m) (P:VJ m.d) (ho:x.op=16\/x.op=17) (Q9:∀n∈Zx,-1<=n/\n<(m.ZA.length:Int)+m.funcs.length) (h1:x.op=17->1<=c.stk.length/\0<=x.a/\x.a<m.types.length) (TZ:∀v∈c.stk,XB v) (NC:Zx.length<=1000) (Ti:cs.length<=40) (hq:Zd m.d Zx x c.stk=(f,s2,0)) (hf:0<=f/\f<(m.ZA.length:Int)+m.funcs.length) (J3:(YO m.d f).Zh.length<=s2.length) (Pv:s2.length<=10000) (AV:f<m.ZA.length):xP 114 #[yg pr,.pointer (some ⟨b,o,none⟩),.agg #[.int .u8 x.op,yh x.a,yh x.b,Sj],vj] w (fun r w'=>∃vs' vv,r=.agg #[yh 4,vv,yh 0,yh f,yh 0]/\Sat g w' (Pt pr [yg cp,vw,vc,yh (f+1)] 148::Pt cp (yl m [yg mp,vt,vg]) 158::Pt mp [vp,yh m.most] 221::Sl 223 256 Xm vp ps::Sl 3 1 ZJ vt Zx::Sl 2 1 ZJ vg Zp::Sl 79 4 XY vc (up++[⟨c.fn,c.at_+1,c.vl,c.loc,vs',s2.take (s2.length-(YO m.d f).Zh.length)⟩])::VI up::Sl 2 1 ZJ c.vl c.loc::Sl 2 1 ZJ vs' (s2.take (s2.length-(YO m.d f).Zh.length))::Sl 2 1 ZJ vv (s2.drop (s2.length-(YO m.d f).Zh.length))::l)):=by
 refine Fc.of Tryz.func114 rfl k_d ?_
 have hx:=Ye hcs
 have WA:=Yd hcs
 have hvl:=H.one 8 rfl
 have CQ:up.length+1=cs.length:=by grind
 refine ZL H<|fun p1 w1 H=>ZV H rfl<|fun p2 w2 H=>Z9 rfl<|xW (H.el 8 rfl E hx) 1 xV<|ZX yp<|Z9 rfl<|Yl H 8 rfl E hx 1 (⟨c.fn,c.at_+1,c.vl,c.loc,c.vs,c.stk⟩) rfl rfl rfl rfl<|fun w1 H=>Z9 rfl<|ye H 1 0 x9<|bk ?_
 simp only [WA] at H
 have hx1:(up++[(⟨c.fn,c.at_+1,c.vl,c.loc,c.vs,c.stk⟩:CV)])[up.length]?=some (⟨c.fn,c.at_+1,c.vl,c.loc,c.vs,c.stk⟩:CV):=Ye rfl
 clear hx
 have Wg:∀z,(up++[(⟨c.fn,c.at_+1,c.vl,c.loc,c.vs,c.stk⟩:CV)]).set up.length z=up++[z]:=Yd rfl
 have Ei:(up++[(⟨c.fn,c.at_+1,c.vl,c.loc,c.vs,c.stk⟩:CV)]).length=cs.length:=by grind
 rcases ho with ho|ho
 .refine cF (Z5 yp)<|cF (Z5 yp)<|cF (Z5 yp)<|cF (Z5 yp)<|cF (Z5 yp)<|cF (Z5 yp)<|cF (Z5 yp)<|cF (Z5 yp)<|cF (Z5 yp)<|cT (ZK yo)<|cT (ZK yo)<|ZC (H.at 1 rfl) 0 rfl rfl rfl<|H.Z8 [11,9,8,6,6]<|fun H=>?_
  refine Z7.mk (Fc.imp (Rn.afu E _ hx1 H yp yp yp yp yp yp yp yp yp yp hq yp yp yp yp) ?_)
  rintro _ w2 ⟨Zt,⟨zW,⟨rfl,H⟩⟩⟩
  refine ZG H 6 rfl rfl rfl (by simp only [yq9,yq8,H.one 2 rfl,H.one 3 rfl,H.one 4 rfl,H.one 5 rfl,H.one 9 rfl,H.one 10 rfl,H.one 12 rfl,hvl];rfl)<|fun w3 H=>XM (H.at 6 rfl) 0 rfl rfl rfl<|Z6.mk ?_
  refine ⟨Zt,zW,?_⟩
  refine ⟨rfl,?_⟩
  refine H.Z8 [5,5,12,12,7,12,8,12,12,10,10]<|fun H=>xU H [12,11]<|fun H=>?_
  refine H.cg (YC rfl (YC rfl (YC rfl (YC rfl (YC rfl (YC rfl (YC (Qa ?_) (YC rfl (YC rfl (YC rfl (YC rfl (rfl))))))))))))
  exact Wg _
 .refine cF (Z5 yp)<|cF (Z5 yp)<|cF (Z5 yp)<|cF (Z5 yp)<|cF (Z5 yp)<|cF (Z5 yp)<|cF (Z5 yp)<|cF (Z5 yp)<|cF (Z5 yp)<|cF (Z5 yp)<|cT (ZK yo)<|ZC (H.at 1 rfl) 0 rfl rfl rfl<|H.Z8 [11,9,8,6,6]<|fun H=>?_
  refine Z7.mk (Fc.imp (Rn.afu E _ hx1 H yp yp yp yp yp yp yp yp yp yp hq yp yp yp yp) ?_)
  rintro _ w2 ⟨Zt,⟨zW,⟨rfl,H⟩⟩⟩
  refine ZG H 6 rfl rfl rfl (by simp only [yq9,yq8,H.one 2 rfl,H.one 3 rfl,H.one 4 rfl,H.one 5 rfl,H.one 9 rfl,H.one 10 rfl,H.one 12 rfl,hvl];rfl)<|fun w3 H=>XM (H.at 6 rfl) 0 rfl rfl rfl<|Z6.mk ?_
  refine ⟨Zt,zW,?_⟩
  refine ⟨rfl,?_⟩
  refine H.Z8 [5,5,12,12,7,12,8,12,12,10,10]<|fun H=>xU H [12,11]<|fun H=>?_
  refine H.cg (YC rfl (YC rfl (YC rfl (YC rfl (YC rfl (YC rfl (YC (Qa ?_) (YC rfl (YC rfl (YC rfl (YC rfl (rfl))))))))))))
  exact Wg _
theorem ajD (H:Sat g w (Pt pr [yg cp,vw,vc,yh 0] 148::Pt cp (yl m [yg mp,vt,vg]) 158::Pt mp [vp,yh m.most] 221::Sl 223 256 Xm vp ps::Sl 3 1 ZJ vt Zx::Sl 2 1 ZJ vg Zp::Sl 79 4 XY vc cs::VI up::Sl 2 1 ZJ c.vl c.loc::Sl 2 1 ZJ c.vs c.stk::l)) (hcs:cs=up++[c]) (E:El vc 4 up.length b o) (TQ:0<=c.at_/\c.at_<=1000) (hlen:c.stk.length<=10000) (hm:XE g m) (P:VJ m.d) (ho:x.op=16\/x.op=17) (Q9:∀n∈Zx,-1<=n/\n<(m.ZA.length:Int)+m.funcs.length) (h1:x.op=17->1<=c.stk.length/\0<=x.a/\x.a<m.types.length) (TZ:∀v∈c.stk,XB v) (NC:Zx.length<=1000) (Ti:cs.length<=40) (hq:Zd m.d Zx x c.stk=(f,s2,0)) (hf:0<=f/\f<(m.ZA.length:Int)+m.funcs.length) (J3:(YO m.d f).Zh.length<=s2.length) (Pv:s2.length<=10000) (k:Nat) (F:Yr) (Gv:f=m.ZA.length+k) (hF:m.funcs[k]?=some F) (BR:F.loc.length<=16) (h4:(YO m.d f).Zh.length<=4) (Ej:cs.length<40):xP 114 #[yg pr,.pointer (some ⟨b,o,none⟩),.agg #[.int .u8 x.op,yh x.a,yh x.b,Sj],vj] w (fun r w'=>∃Pd vs' Pw,r=.agg #[yh 0,.slice none 0 0,yh 0,yh 0,yh 0]/\Sat g w' (Pt pr [yg cp,vw,Pd,yh 0] 148::Pt cp (yl m [yg mp,vt,vg]) 158::Pt mp [vp,yh m.most] 221::Sl 223 256 Xm vp ps::Sl 3 1 ZJ vt Zx::Sl 2 1 ZJ vg Zp::Sl 79 4 XY Pd (up++[⟨c.fn,c.at_+1,c.vl,c.loc,vs',s2.take (s2.length-(YO m.d f).Zh.length)⟩]++[⟨k,0,Pw,s2.drop (s2.length-(YO m.d f).Zh.length)++List.replicate F.loc.length 0,.slice none 0 0,[]⟩])::VI up::Sl 2 1 ZJ c.vl c.loc::Sl 2 1 ZJ vs' (s2.take (s2.length-(YO m.d f).Zh.length))::Sl 2 1 ZJ Pw (s2.drop (s2.length-(YO m.d f).Zh.length)++List.replicate F.loc.length 0)::Sl 2 1 ZJ (.slice none 0 0) []::l)):=by
 refine Fc.of Tryz.func114 rfl k_d ?_
 have hx:=Ye hcs
 have WA:=Yd hcs
 have hvl:=H.one 8 rfl
 have CQ:up.length+1=cs.length:=by grind
 refine ZL H<|fun p1 w1 H=>ZV H rfl<|fun p2 w2 H=>Z9 rfl<|xW (H.el 8 rfl E hx) 1 xV<|ZX yp<|Z9 rfl<|Yl H 8 rfl E hx 1 (⟨c.fn,c.at_+1,c.vl,c.loc,c.vs,c.stk⟩) rfl rfl rfl rfl<|fun w1 H=>Z9 rfl<|ye H 1 0 x9<|bk ?_
 simp only [WA] at H
 have hx1:(up++[(⟨c.fn,c.at_+1,c.vl,c.loc,c.vs,c.stk⟩:CV)])[up.length]?=some (⟨c.fn,c.at_+1,c.vl,c.loc,c.vs,c.stk⟩:CV):=Ye rfl
 clear hx
 have Wg:∀z,(up++[(⟨c.fn,c.at_+1,c.vl,c.loc,c.vs,c.stk⟩:CV)]).set up.length z=up++[z]:=Yd rfl
 have Ei:(up++[(⟨c.fn,c.at_+1,c.vl,c.loc,c.vs,c.stk⟩:CV)]).length=cs.length:=by grind
 rcases ho with ho|ho
 .refine cF (Z5 yp)<|cF (Z5 yp)<|cF (Z5 yp)<|cF (Z5 yp)<|cF (Z5 yp)<|cF (Z5 yp)<|cF (Z5 yp)<|cF (Z5 yp)<|cF (Z5 yp)<|cT (ZK yo)<|cT (ZK yo)<|ZC (H.at 1 rfl) 0 rfl rfl rfl<|H.Z8 [11,9,8,6,6]<|fun H=>?_
  refine Z7.mk (Fc.imp (Rn.afv E _ hx1 H yp yp yp yp yp yp yp yp yp yp hq yp yp yp (k) _ Gv hF yp yp yp) ?_)
  rintro _ w2 ⟨FW,⟨Zt,⟨TK,⟨rfl,H⟩⟩⟩⟩
  refine ZG H 7 rfl rfl rfl rfl<|fun w3 H=>XM (H.at 7 rfl) 0 rfl rfl rfl ?_
  simp only [Wg] at H
  refine Z6.mk ⟨FW,Zt,TK,rfl,?_⟩
  exact H.Z8 [6,6,6,13,13,8,13,9,13,13,11,11]<|fun H=>xU H [13,12]<|fun H=>H
 .refine cF (Z5 yp)<|cF (Z5 yp)<|cF (Z5 yp)<|cF (Z5 yp)<|cF (Z5 yp)<|cF (Z5 yp)<|cF (Z5 yp)<|cF (Z5 yp)<|cF (Z5 yp)<|cF (Z5 yp)<|cT (ZK yo)<|ZC (H.at 1 rfl) 0 rfl rfl rfl<|H.Z8 [11,9,8,6,6]<|fun H=>?_
  refine Z7.mk (Fc.imp (Rn.afv E _ hx1 H yp yp yp yp yp yp yp yp yp yp hq yp yp yp (k) _ Gv hF yp yp yp) ?_)
  rintro _ w2 ⟨FW,⟨Zt,⟨TK,⟨rfl,H⟩⟩⟩⟩
  refine ZG H 7 rfl rfl rfl rfl<|fun w3 H=>XM (H.at 7 rfl) 0 rfl rfl rfl ?_
  simp only [Wg] at H
  refine Z6.mk ⟨FW,Zt,TK,rfl,?_⟩
  exact H.Z8 [6,6,6,13,13,8,13,9,13,13,11,11]<|fun H=>xU H [13,12]<|fun H=>H
theorem ajE (H:Sat g w (Pt pr [yg cp,vw,vc,yh 0] 148::Pt cp (yl m [yg mp,vt,vg]) 158::Pt mp [vp,yh m.most] 221::Sl 223 256 Xm vp ps::Sl 3 1 ZJ vt Zx::Sl 2 1 ZJ vg Zp::Sl 79 4 XY vc cs::VI up::Sl 2 1 ZJ c.vl c.loc::Sl 2 1 ZJ c.vs c.stk::l)) (hcs:cs=up++[c]) (E:El vc 4 up.length b o) (TQ:0<=c.at_/\c.at_<=1000) (hlen:c.stk.length<=10000) (hD:F9 x ⟨flat ps,Zx,Zp⟩ c.loc c.stk) (hT:Fold.JI g) (CT:18<=x.op) (hop:x.op<=255) (hmo:ps.length<=m.most/\m.most<=8):xP 114 #[yg pr,.pointer (some ⟨b,o,none⟩),.agg #[.int .u8 x.op,yh x.a,yh x.b,Sj],vj] w (fun r w'=>∃e vs' Tv ps' Xa loc' YW,r=(if e≠0 then .agg #[yh 2,.slice none 0 0,yh e,yh 0,yh 0] else .agg #[yh 0,.slice none 0 0,yh 0,yh 0,yh 0])/\NP (WB m.most x ⟨flat ps,Zx,Zp⟩ c.loc c.stk) e (flat ps') Xa loc' YW/\ps'.length<=8/\Sat g w' (Pt pr [yg cp,vw,vc,yh 0] 148::Pt cp (yl m [yg mp,vt,vg]) 158::Pt mp [Tv,yh m.most] 221::Sl 223 256 Xm Tv ps'::Sl 3 1 ZJ vt Zx::Sl 2 1 ZJ vg Xa::Sl 79 4 XY vc (up++[⟨c.fn,c.at_+1,c.vl,loc',vs',YW⟩])::VI up::Sl 2 1 ZJ c.vl loc'::Sl 2 1 ZJ vs' YW::l)):=by
 refine Fc.of Tryz.func114 rfl k_d ?_
 have hx:=Ye hcs
 have WA:=Yd hcs
 have hvl:=H.one 8 rfl
 refine ZL H<|fun p1 w1 H=>ZV H rfl<|fun p2 w2 H=>Z9 rfl<|xW (H.el 8 rfl E hx) 1 xV<|ZX yp<|Z9 rfl<|Yl H 8 rfl E hx 1 (⟨c.fn,c.at_+1,c.vl,c.loc,c.vs,c.stk⟩) rfl rfl rfl rfl<|fun w1 H=>Z9 rfl<|ye H 1 0 x9<|bk ?_
 simp only [WA] at H
 have hx1:(up++[(⟨c.fn,c.at_+1,c.vl,c.loc,c.vs,c.stk⟩:CV)])[up.length]?=some (⟨c.fn,c.at_+1,c.vl,c.loc,c.vs,c.stk⟩:CV):=Ye rfl
 clear hx
 have Wg:∀z,(up++[(⟨c.fn,c.at_+1,c.vl,c.loc,c.vs,c.stk⟩:CV)]).set up.length z=up++[z]:=Yd rfl
 have Ei:(up++[(⟨c.fn,c.at_+1,c.vl,c.loc,c.vs,c.stk⟩:CV)]).length=cs.length:=by grind
 refine cF (Z5 yp)<|cF (Z5 yp)<|cF (Z5 yp)<|cF (Z5 yp)<|cF (Z5 yp)<|cF (Z5 yp)<|cF (Z5 yp)<|cF (Z5 yp)<|cF (Z5 yp)<|cF (Z5 yp)<|cF (Z5 yp)<|ZN H [] [yfp0,yfp1,yfp2,yfh3,yfh4,yfp5,yfp6,yfp7,yfh8,yfp9,yfp10,yfp11,yfh12,yffr13,yfp14,yfp15,yfp16,yfp17,yfp18] mixed k_d k_d<|fun w2 H=>yc rfl rfl<|yd 2 0 x9 rfl<|tk (fun _ Z=>ZC (Z.at 1 rfl) 0 rfl rfl rfl yj)<|yc rfl rfl<|tk (fun _ Z=>xW (Z.el 8 rfl E hx1) 2 xV yj)<|yc rfl rfl<|tk (fun _ Z=>xW (Z.el 8 rfl E hx1) 3 xV yj)<|H.Z8 [11,11,9,9,9,9,9]<|fun H=>?_
 refine Z7.mk (Fc.imp (Rn.do_ H yp yp yp yp yp) ?_)
 rintro _ w1 ⟨e1,⟨Zt,⟨CP,⟨P8,⟨I6,⟨Lb,⟨Tu,⟨rfl,⟨h1,⟨h2,H⟩⟩⟩⟩⟩⟩⟩⟩⟩⟩
 refine Z9 rfl<|Yl H 10 rfl E hx1 3 (⟨c.fn,c.at_+1,c.vl,Lb,(Zt),Tu⟩) rfl (by simp only [Bool.and_true,H.one 2 rfl,H.one 3 rfl,H.one 4 rfl,H.one 5 rfl,H.one 6 rfl,H.one 10 rfl,hvl]) rfl rfl<|fun w3 H=>?_
 refine cI (fun c1=>?_) (fun c1=>?_)
 focus
  replace c1:=YG (c1)
  refine Zn rfl rfl rfl<|ZG H 7 rfl rfl rfl rfl<|fun w1 H=>XM (H.at 7 rfl) 0 rfl rfl rfl ?_
 rotate_left 1
 focus
  replace c1:=YF (c1)
  refine Zn rfl rfl rfl<|ZG H 7 rfl rfl rfl rfl<|fun w1 H=>XM (H.at 7 rfl) 0 rfl rfl rfl ?_
 rotate_left 1
 .simp only [Wg] at H
  refine Z6.mk ⟨e1,Zt,CP,P8,I6,Lb,Tu,(if_pos yo).symm,by assumption,by assumption,?_⟩
  exact H.Z8 [6,6,11,11,8,8,8,8,8,11]<|fun H=>xU H [11,10]<|fun H=>H
 .simp only [Wg] at H
  refine Z6.mk ⟨e1,Zt,CP,P8,I6,Lb,Tu,(if_neg yp).symm,by assumption,by assumption,?_⟩
  exact H.Z8 [6,6,11,11,8,8,8,8,8,11]<|fun H=>xU H [11,10]<|fun H=>H
end
end Rn
end Go.Proofs.YtakpnepblgfknaaGreatDoor
