/- Texts of this claim, one behind the other. -/
import Derived.Test.YtakpnepblgfknaaGreatDoorP9
import Derived.Test.YtakpnepblgfknaaGreatDoorP8
import Derived.Test.YtakpnepblgfknaaGreatDoorP7
import Derived.Test.YtakpnepblgfknaaGreatDoorP3
set_option maxRecDepth 100000
set_option maxHeartbeats 4000000
set_option linter.unusedVariables false
set_option linter.unusedSimpArgs false
set_option linter.defProp false
namespace Go.Proofs.YtakpnepblgfknaaGreatDoor
namespace Rn
open Go YX Go.RowKit
open YT Zl X9 YO Valid Mem
section
variable {g:Zy} {w:World} {l:List As} {m:Zg} {cp mp:Nat} {vp vt vg vl vs SS:Value} {ps:List WO} {Zr Zj loc stk:List Int} {x:ZT}
theorem adu {ps:List WO} {n:Nat}:flat (ps++List.replicate n zp)=flat ps++List.replicate (256 * n) 0:=by
 unfold flat
 rw [lIa]
 congr 1
 induction n with
 | zero=>rfl
 | succ n ih =>
  rw [lFb,lNa,ih,show 256 * (n+1)=256+256 * n by omega,←List.replicate_append_replicate];rfl
theorem bt2 {s:List Int} (h:3≤s.length):∃t a b c,s=t++[a]++[b]++[c]:=by
 obtain ⟨t,c,rfl⟩:=OR (show 1≤s.length by omega)
 rw [lca,lEa] at h
 obtain ⟨t,b,rfl⟩:=OR (show 1≤t.length by omega)
 rw [lca,lEa] at h
 obtain ⟨t,a,rfl⟩:=OR (show 1≤t.length by omega)
 exact ⟨t,a,b,c,rfl⟩
theorem aor {d:List Int→C9} {e:Int} {mm:List UInt8} {gl s':List Int} (h:∀loc,Nh (d loc) e mm gl loc s'):Nh (d loc) e mm gl loc s':=h loc
theorem anE {I:SY} {s':List Int} {e e1 e2:Int} {s1 s2:List Int} {c:Prop} [Decidable c] (h:(s',e)=(if c then (s1,e1) else (s2,e2))):Nh (if c then ⟨I,loc,s1,e1⟩ else ⟨I,loc,s2,e2⟩) e I.mem I.Zj loc s':=by
 by_cases hc:c
 ·rw [if_pos hc] at h ⊢
  injection h with h1 h2
  exact ⟨h2,rfl,rfl,rfl,fun _=>h1⟩
 ·rw [if_neg hc] at h ⊢
  injection h with h1 h2
  exact ⟨h2,rfl,rfl,rfl,fun _=>h1⟩
theorem gr0 {e a most:Int} {ps':List WO} (h1:1≤stk.length) (h:most-(ps.length:Int)<a % 4294967296) (he:e=-1) (hp:ps'=ps):Nh (if most-(ps.length:Int)<a % 4294967296 then ⟨⟨flat ps,Zr,Zj⟩,loc,low stk 1++[-1],0⟩ else ⟨⟨flat ps++List.replicate (256 * (a % 4294967296).toNat) 0,Zr,Zj⟩,loc,low stk 1++[(ps.length:Int)],0⟩) 0 (flat ps') Zj loc (stk.set (stk.length-1) e):=by
 rw [if_pos h,he,hp]
 exact ⟨rfl,rfl,rfl,rfl,fun _=>Oc h1⟩
theorem gr1 {e a most:Int} {ps':List WO} (h1:1≤stk.length) (h:¬most-(ps.length:Int)<a % 4294967296) (he:e=ps.length) (hp:ps'=ps++List.replicate (a % 4294967296).toNat zp):Nh (if most-(ps.length:Int)<a % 4294967296 then ⟨⟨flat ps,Zr,Zj⟩,loc,low stk 1++[-1],0⟩ else ⟨⟨flat ps++List.replicate (256 * (a % 4294967296).toNat) 0,Zr,Zj⟩,loc,low stk 1++[(ps.length:Int)],0⟩) 0 (flat ps') Zj loc (stk.set (stk.length-1) e):=by
 rw [if_neg h,he,hp,adu]
 exact ⟨rfl,rfl,rfl,rfl,fun _=>Oc h1⟩
theorem alv (H:Sat g w (Pt cp (AY m [AV mp,vt,vg]) 158::Pt mp [vp,AW m.most] 221::Sl 223 256 Xk vp ps::Sl 3 1 ZG vt Zr::Sl 2 1 ZG vg Zj::Sl 2 1 ZG vl loc::Sl 2 1 ZG vs stk::l)) (ho:x.op=26) (h1:1≤stk.length) (hlen:stk.length≤100000) (hp:ps.length≤8):Fc Tryz.prog 160 #[AV cp,.agg #[.int .u8 x.op,AW x.a,AW x.b,SS],vl,vs] w (fun r w'=>∃e vs' TV ps' W6 loc' Xb,r=.tuple #[vs',AW e]∧Nh (VV m.most x ⟨flat ps,Zr,Zj⟩ loc stk) e (flat ps') W6 loc' Xb∧ps'.length≤8∧Sat g w' (Pt cp (AY m [AV mp,vt,vg]) 158::Pt mp [TV,AW m.most] 221::Sl 223 256 Xk TV ps'::Sl 3 1 ZG vt Zr::Sl 2 1 ZG vg W6::Sl 2 1 ZG vl loc'::Sl 2 1 ZG vs' Xb::l)):=by
 refine Fc.of Tryz.func160 rfl k_d ?_
 have hd:VV m.most x ⟨flat ps,Zr,Zj⟩ loc stk=⟨⟨flat ps,Zr,Zj⟩,loc,low stk 1,0⟩:=by grind [VV]
 rw [hd]
 clear hd
 refine ZI H<|fun p1 w1 H=>YJ H 7 rfl rfl<|ZW A8<|bk<|Z9 rfl<|Z5 (H.at 0 rfl) 0 rfl rfl rfl<|cT (ZJ A7)<|NQ H 7 rfl 0 ((stk.length)-1) rfl rfl A8 A8 (.inl ⟨rfl,rfl⟩) (.inr ⟨_,by first|rfl|(congr 2;omega)⟩)<|fun v1=>?_
 intro H
 refine Z6.mk ?_
 refine ⟨0,v1,vp,ps,Zj,loc,List.drop 0 (List.take (stk.length-1) stk),?_⟩
 refine ⟨rfl,?_⟩
 refine ⟨?_,?_⟩
 ·exact ⟨rfl,rfl,rfl,rfl,fun _=>J9⟩
 refine ⟨A8,?_⟩
 refine H.Z8 [7,7,7,7,7,7,7]<|fun H=>H.drop 7<|fun H=>?_
 exact H
theorem alw (H:Sat g w (Pt cp (AY m [AV mp,vt,vg]) 158::Pt mp [vp,AW m.most] 221::Sl 223 256 Xk vp ps::Sl 3 1 ZG vt Zr::Sl 2 1 ZG vg Zj::Sl 2 1 ZG vl loc::Sl 2 1 ZG vs stk::l)) (ho:x.op=27) (h1:3≤stk.length) (hlen:stk.length≤100000) (hp:ps.length≤8):Fc Tryz.prog 160 #[AV cp,.agg #[.int .u8 x.op,AW x.a,AW x.b,SS],vl,vs] w (fun r w'=>∃e vs' TV ps' W6 loc' Xb,r=.tuple #[vs',AW e]∧Nh (VV m.most x ⟨flat ps,Zr,Zj⟩ loc stk) e (flat ps') W6 loc' Xb∧ps'.length≤8∧Sat g w' (Pt cp (AY m [AV mp,vt,vg]) 158::Pt mp [TV,AW m.most] 221::Sl 223 256 Xk TV ps'::Sl 3 1 ZG vt Zr::Sl 2 1 ZG vg W6::Sl 2 1 ZG vl loc'::Sl 2 1 ZG vs' Xb::l)):=by
 refine Fc.of Tryz.func160 rfl k_d ?_
 obtain ⟨t,a,b,c,hs⟩:=bt2 h1
 have hl:stk.length=t.length+3:=by grind
 have hc:stk[stk.length-1]?=some c:=by grind
 have hb:stk[stk.length-1-1]?=some b:=by grind
 have ha:stk[stk.length-1-2]?=some a:=by grind
 have r1:List.drop 0 (List.take (stk.length-1-1) stk)=t++[a]:=by
  rw [hl,hs];simp
  rw [show t++[a,b,c]=(t++[a])++[b,c] by simp,lxa AZ,lta AZ]
 have r2:List.drop 0 (List.take (stk.length-1-1) (stk.set (stk.length-1-2) b))=t++[b]:=by
  rw [hl,hs];simp
  rw [show t++[b,b,c]=(t++[b])++[b,c] by simp,lxa AZ,lta AZ]
 have hd:VV m.most x ⟨flat ps,Zr,Zj⟩ loc stk=⟨⟨flat ps,Zr,Zj⟩,loc,if c=0 then t++[b] else t++[a],0⟩:=by
  unfold VV
  rw [if_neg A8,if_pos ho,hs,UF,ali,Hx AZ,UF,Nq,Nq,Kg]
 rw [hd]
 clear hd
 refine ZI H<|fun p1 w1 H=>YJ H 7 rfl rfl<|ZW A8<|bk<|Z9 rfl<|Z5 (H.at 0 rfl) 0 rfl rfl rfl<|cF (Z4 A8)<|Z9 rfl<|Z5 (H.at 0 rfl) 0 rfl rfl rfl<|cT (ZJ A7) ?_
 obtain ⟨b1,o1,E1⟩:=H.Zc 7 rfl ((stk.length)-1) A8
 refine ZK E1 A8 rfl rfl<|Z5 (H.el 7 rfl E1 hc) 0 rfl rfl rfl ?_
 refine cI (fun c1=>?_) (fun c1=>?_)
 ·replace c1:=ZQ (c1)
  refine ZW A8<|ZW A8 ?_
  obtain ⟨b2,o2,E2⟩:=H.Zc 7 rfl (((stk.length)-1)-1) A8
  refine ZK E2 A8 rfl rfl<|Z5 (H.el 7 rfl E2 hb) 0 rfl rfl rfl ?_
  obtain ⟨b3,o3,E3⟩:=H.Zc 7 rfl (((stk.length)-1)-2) A8
  refine ZK E3 A8 rfl rfl<|Yz H 7 rfl E3 ha 0 (b) rfl rfl rfl rfl<|fun w2 H=>ZW A8<|NQ H 7 rfl 0 (((stk.length)-1)-1) rfl rfl (by grind) (by grind) (.inl ⟨rfl,rfl⟩) (.inr ⟨_,by first|rfl|(congr 2;(first|omega|(simp only [List.length_append,List.length_set,List.length_cons,List.length_nil];omega)|(simp;omega)|(simp;done)))⟩)<|fun v1=>?_
  intro H
  refine Z6.mk ?_
  refine ⟨0,v1,vp,ps,Zj,loc,List.drop 0 (List.take (stk.length-1-1) (stk.set (stk.length-1-2) b)),?_⟩
  refine ⟨rfl,?_⟩
  refine ⟨?_,?_⟩
  ·exact ⟨rfl,rfl,rfl,rfl,fun _=>by rw [if_pos A7];exact r2⟩
  refine ⟨A8,?_⟩
  refine H.Z8 [7,7,7,7,7,7,7]<|fun H=>H.drop 7<|fun H=>?_
  exact H
 replace c1:=ZP (c1)
 refine ZW A8<|NQ H 7 rfl 0 (((stk.length)-1)-1) rfl rfl A8 A8 (.inl ⟨rfl,rfl⟩) (.inr ⟨_,by first|rfl|(congr 2;omega)⟩)<|fun v1=>?_
 intro H
 refine Z6.mk ?_
 refine ⟨0,v1,vp,ps,Zj,loc,List.drop 0 (List.take (stk.length-1-1) stk),?_⟩
 refine ⟨rfl,?_⟩
 refine ⟨?_,?_⟩
 ·exact ⟨rfl,rfl,rfl,rfl,fun _=>by rw [if_neg A7];exact r1⟩
 refine ⟨A8,?_⟩
 refine H.Z8 [7,7,7,7,7,7,7]<|fun H=>H.drop 7<|fun H=>?_
 exact H
theorem alx (H:Sat g w (Pt cp (AY m [AV mp,vt,vg]) 158::Pt mp [vp,AW m.most] 221::Sl 223 256 Xk vp ps::Sl 3 1 ZG vt Zr::Sl 2 1 ZG vg Zj::Sl 2 1 ZG vl loc::Sl 2 1 ZG vs stk::l)) (ho:x.op=32) (hb:0≤x.a∧x.a<loc.length) (hlen:stk.length≤100000) (hp:ps.length≤8):Fc Tryz.prog 160 #[AV cp,.agg #[.int .u8 x.op,AW x.a,AW x.b,SS],vl,vs] w (fun r w'=>∃e vs' TV ps' W6 loc' Xb,r=.tuple #[vs',AW e]∧Nh (VV m.most x ⟨flat ps,Zr,Zj⟩ loc stk) e (flat ps') W6 loc' Xb∧ps'.length≤8∧Sat g w' (Pt cp (AY m [AV mp,vt,vg]) 158::Pt mp [TV,AW m.most] 221::Sl 223 256 Xk TV ps'::Sl 3 1 ZG vt Zr::Sl 2 1 ZG vg W6::Sl 2 1 ZG vl loc'::Sl 2 1 ZG vs' Xb::l)):=by
 refine Fc.of Tryz.func160 rfl k_d ?_
 obtain ⟨i,hi⟩:=lra hb.1
 rw [hi] at hb ⊢
 obtain ⟨y,hy⟩:∃y,loc[i]?=some y:=⟨_,laa A8⟩
 have hd:VV m.most x ⟨flat ps,Zr,Zj⟩ loc stk=⟨⟨flat ps,Zr,Zj⟩,loc,stk++[y],0⟩:=by grind [VV]
 rw [hd]
 clear hd
 refine ZI H<|fun p1 w1 H=>YJ H 7 rfl rfl<|ZW A8<|bk<|Z9 rfl<|Z5 (H.at 0 rfl) 0 rfl rfl rfl<|cF (Z4 A8)<|Z9 rfl<|Z5 (H.at 0 rfl) 0 rfl rfl rfl<|cF (Z4 A8)<|Z9 rfl<|Z5 (H.at 0 rfl) 0 rfl rfl rfl<|cT (ZJ A7)<|Z9 rfl<|Z5 (H.at 0 rfl) 1 rfl rfl rfl ?_
 obtain ⟨b1,o1,E1⟩:=H.Zc 6 rfl (i) A8
 refine ZK E1 rfl rfl rfl<|Z5 (H.el 6 rfl E1 hy) 0 rfl rfl rfl<|ZZ H rfl rfl rfl rfl<|fun p2 w2 H=>Wv (ys:=[_]) 8 H 8 rfl (H.at 0 rfl) rfl (fun y _=>rfl) rfl rfl rfl A8 A8<|fun v1=>?_
 intro w1 H
 refine Z6.mk ?_
 refine ⟨0,v1,vp,ps,Zj,loc,stk++[y],?_⟩
 refine ⟨rfl,?_⟩
 refine ⟨?_,?_⟩
 ·exact k_w
 refine ⟨A8,?_⟩
 refine H.Z8 [8,8,8,8,8,8,8]<|fun H=>H.drop 8<|fun H=>H.drop 7<|fun H=>?_
 exact H
theorem aly (H:Sat g w (Pt cp (AY m [AV mp,vt,vg]) 158::Pt mp [vp,AW m.most] 221::Sl 223 256 Xk vp ps::Sl 3 1 ZG vt Zr::Sl 2 1 ZG vg Zj::Sl 2 1 ZG vl loc::Sl 2 1 ZG vs stk::l)) (ho:x.op=33∨x.op=34) (hb:0≤x.a∧x.a<loc.length) (h1:1≤stk.length) (hlen:stk.length≤100000) (hp:ps.length≤8):Fc Tryz.prog 160 #[AV cp,.agg #[.int .u8 x.op,AW x.a,AW x.b,SS],vl,vs] w (fun r w'=>∃e vs' TV ps' W6 loc' Xb,r=.tuple #[vs',AW e]∧Nh (VV m.most x ⟨flat ps,Zr,Zj⟩ loc stk) e (flat ps') W6 loc' Xb∧ps'.length≤8∧Sat g w' (Pt cp (AY m [AV mp,vt,vg]) 158::Pt mp [TV,AW m.most] 221::Sl 223 256 Xk TV ps'::Sl 3 1 ZG vt Zr::Sl 2 1 ZG vg W6::Sl 2 1 ZG vl loc'::Sl 2 1 ZG vs' Xb::l)):=by
 refine Fc.of Tryz.func160 rfl k_d ?_
 obtain ⟨a,ha,It,Ib⟩:=Fl (s:=stk) A8
 obtain ⟨i,hi⟩:=lra hb.1
 rw [hi] at hb ⊢
 obtain ⟨y,hy⟩:∃y,loc[i]?=some y:=⟨_,laa A8⟩
 have hd:VV m.most x ⟨flat ps,Zr,Zj⟩ loc stk=⟨⟨flat ps,Zr,Zj⟩,loc.set i a,if x.op=33 then low stk 1 else stk,0⟩:=by grind [VV]
 rw [hd]
 clear hd
 rcases ho with ho|ho
 ·rw [if_pos ho]
  refine ZI H<|fun p1 w1 H=>YJ H 7 rfl rfl<|ZW A8<|bk<|Z9 rfl<|Z5 (H.at 0 rfl) 0 rfl rfl rfl<|cF (Z4 A8)<|Z9 rfl<|Z5 (H.at 0 rfl) 0 rfl rfl rfl<|cF (Z4 A8)<|Z9 rfl<|Z5 (H.at 0 rfl) 0 rfl rfl rfl<|cF (Z4 A8)<|Z9 rfl<|Z5 (H.at 0 rfl) 0 rfl rfl rfl<|cT (ZJ A7)<|ZN H [] [AUp0,AUp1,AUh2,AUp3,AUp4,AUp5,AUh6,AUp7,AUfr8] mixed k_d k_d<|fun w2 H=>tk (fun _ Z=>Z9 rfl AX)<|tk (fun _ Z=>Z5 (Z.at 0 rfl) 1 rfl rfl rfl AX) ?_
  obtain ⟨b1,o1,E1⟩:=H.Zc 7 rfl ((stk.length)-1) A8
  refine tk (fun _ Z=>ZK E1 A8 rfl rfl AX)<|tk (fun _ Z=>Z5 (Z.el 7 rfl E1 ha) 0 rfl rfl rfl AX) ?_
  obtain ⟨b2,o2,E2⟩:=H.Zc 6 rfl (i) A8
  refine tk (fun _ Z=>ZK E2 rfl rfl rfl AX)<|Yz H 6 rfl E2 hy 0 (a) rfl rfl rfl rfl<|fun w1 H=>NQ H 7 rfl 0 ((stk.length)-1) rfl rfl A8 A8 (.inl ⟨rfl,rfl⟩) (.inr ⟨_,by first|rfl|(congr 2;omega)⟩)<|fun v1=>?_
  intro H
  refine Z6.mk ?_
  refine ⟨0,v1,vp,ps,Zj,loc.set i a,List.drop 0 (List.take (stk.length-1) stk),?_⟩
  refine ⟨rfl,?_⟩
  refine ⟨?_,?_⟩
  ·exact ⟨rfl,rfl,rfl,rfl,fun _=>J9⟩
  refine ⟨A8,?_⟩
  refine H.Z8 [7,7,7,7,7,7,7]<|fun H=>H.drop 7<|fun H=>?_
  exact H
 ·rw [if_neg A8]
  refine ZI H<|fun p1 w1 H=>YJ H 7 rfl rfl<|ZW A8<|bk<|Z9 rfl<|Z5 (H.at 0 rfl) 0 rfl rfl rfl<|cF (Z4 A8)<|Z9 rfl<|Z5 (H.at 0 rfl) 0 rfl rfl rfl<|cF (Z4 A8)<|Z9 rfl<|Z5 (H.at 0 rfl) 0 rfl rfl rfl<|cF (Z4 A8)<|Z9 rfl<|Z5 (H.at 0 rfl) 0 rfl rfl rfl<|cF (Z4 A8)<|Z9 rfl<|Z5 (H.at 0 rfl) 0 rfl rfl rfl<|cT (ZJ A7)<|ZN H [] [AUp0,AUp1,AUh2,AUp3,AUp4,AUp5,AUh6,AUp7,AUfr8] mixed k_d k_d<|fun w2 H=>tk (fun _ Z=>Z9 rfl AX)<|tk (fun _ Z=>Z5 (Z.at 0 rfl) 1 rfl rfl rfl AX) ?_
  obtain ⟨b1,o1,E1⟩:=H.Zc 7 rfl ((stk.length)-1) A8
  refine tk (fun _ Z=>ZK E1 A8 rfl rfl AX)<|tk (fun _ Z=>Z5 (Z.el 7 rfl E1 ha) 0 rfl rfl rfl AX) ?_
  obtain ⟨b2,o2,E2⟩:=H.Zc 6 rfl (i) A8
  refine tk (fun _ Z=>ZK E2 rfl rfl rfl AX)<|Yz H 6 rfl E2 hy 0 (a) rfl rfl rfl rfl<|fun w1 H=>Z6.mk ?_
  refine ⟨0,vs,vp,ps,Zj,loc.set i a,stk,?_⟩
  refine ⟨rfl,?_⟩
  refine ⟨?_,?_⟩
  ·exact k_w
  refine ⟨A8,?_⟩
  refine H.Z8 [7,7,7,7,7,7,7]<|fun H=>H.drop 7<|fun H=>?_
  exact H
theorem alz (H:Sat g w (Pt cp (AY m [AV mp,vt,vg]) 158::Pt mp [vp,AW m.most] 221::Sl 223 256 Xk vp ps::Sl 3 1 ZG vt Zr::Sl 2 1 ZG vg Zj::Sl 2 1 ZG vl loc::Sl 2 1 ZG vs stk::l)) (ho:x.op=35) (hb:0≤x.a∧x.a<Zj.length) (hlen:stk.length≤100000) (hp:ps.length≤8):Fc Tryz.prog 160 #[AV cp,.agg #[.int .u8 x.op,AW x.a,AW x.b,SS],vl,vs] w (fun r w'=>∃e vs' TV ps' W6 loc' Xb,r=.tuple #[vs',AW e]∧Nh (VV m.most x ⟨flat ps,Zr,Zj⟩ loc stk) e (flat ps') W6 loc' Xb∧ps'.length≤8∧Sat g w' (Pt cp (AY m [AV mp,vt,vg]) 158::Pt mp [TV,AW m.most] 221::Sl 223 256 Xk TV ps'::Sl 3 1 ZG vt Zr::Sl 2 1 ZG vg W6::Sl 2 1 ZG vl loc'::Sl 2 1 ZG vs' Xb::l)):=by
 refine Fc.of Tryz.func160 rfl k_d ?_
 obtain ⟨i,hi⟩:=lra hb.1
 rw [hi] at hb ⊢
 obtain ⟨y,hy⟩:∃y,Zj[i]?=some y:=⟨_,laa A8⟩
 have hd:VV m.most x ⟨flat ps,Zr,Zj⟩ loc stk=⟨⟨flat ps,Zr,Zj⟩,loc,stk++[y],0⟩:=by grind [VV]
 rw [hd]
 clear hd
 refine ZI H<|fun p1 w1 H=>YJ H 7 rfl rfl<|ZW A8<|bk<|Z9 rfl<|Z5 (H.at 0 rfl) 0 rfl rfl rfl<|cF (Z4 A8)<|Z9 rfl<|Z5 (H.at 0 rfl) 0 rfl rfl rfl<|cF (Z4 A8)<|Z9 rfl<|Z5 (H.at 0 rfl) 0 rfl rfl rfl<|cF (Z4 A8)<|Z9 rfl<|Z5 (H.at 0 rfl) 0 rfl rfl rfl<|cF (Z4 A8)<|Z9 rfl<|Z5 (H.at 0 rfl) 0 rfl rfl rfl<|cF (Z4 A8)<|Z9 rfl<|Z5 (H.at 0 rfl) 0 rfl rfl rfl<|cT (ZJ A7)<|ZN H [] [AUp0,AUp1,AUp2,AUp3,AUh4,AUp5,AUh6,AUp7,AUh8,AUfr9,AUfr10,AUp11,AUp12] mixed k_d k_d<|fun w2 H=>tk (fun _ Z=>Z9 rfl AX)<|tk (fun _ Z=>Z5 (Z.at 1 rfl) 13 rfl rfl rfl AX)<|tk (fun _ Z=>Z9 rfl AX)<|tk (fun _ Z=>Z5 (Z.at 0 rfl) 1 rfl rfl rfl AX) ?_
 obtain ⟨b1,o1,E1⟩:=H.Zc 5 rfl (i) A8
 refine tk (fun _ Z=>ZK E1 rfl rfl rfl AX)<|tk (fun _ Z=>Z5 (Z.el 5 rfl E1 hy) 0 rfl rfl rfl AX)<|ZZ H rfl rfl rfl rfl<|fun p2 w1 H=>Wv (ys:=[_]) 8 H 8 rfl (H.at 0 rfl) rfl (fun y _=>rfl) rfl rfl rfl A8 A8<|fun v1=>?_
 intro w2 H
 refine Z6.mk ?_
 refine ⟨0,v1,vp,ps,Zj,loc,stk++[y],?_⟩
 refine ⟨rfl,?_⟩
 refine ⟨?_,?_⟩
 ·exact k_w
 refine ⟨A8,?_⟩
 refine H.Z8 [8,8,8,8,8,8,8]<|fun H=>H.drop 8<|fun H=>H.drop 7<|fun H=>?_
 exact H
theorem alA (H:Sat g w (Pt cp (AY m [AV mp,vt,vg]) 158::Pt mp [vp,AW m.most] 221::Sl 223 256 Xk vp ps::Sl 3 1 ZG vt Zr::Sl 2 1 ZG vg Zj::Sl 2 1 ZG vl loc::Sl 2 1 ZG vs stk::l)) (ho:x.op=36) (hb:0≤x.a∧x.a<Zj.length) (h1:1≤stk.length) (hlen:stk.length≤100000) (hp:ps.length≤8):Fc Tryz.prog 160 #[AV cp,.agg #[.int .u8 x.op,AW x.a,AW x.b,SS],vl,vs] w (fun r w'=>∃e vs' TV ps' W6 loc' Xb,r=.tuple #[vs',AW e]∧Nh (VV m.most x ⟨flat ps,Zr,Zj⟩ loc stk) e (flat ps') W6 loc' Xb∧ps'.length≤8∧Sat g w' (Pt cp (AY m [AV mp,vt,vg]) 158::Pt mp [TV,AW m.most] 221::Sl 223 256 Xk TV ps'::Sl 3 1 ZG vt Zr::Sl 2 1 ZG vg W6::Sl 2 1 ZG vl loc'::Sl 2 1 ZG vs' Xb::l)):=by
 refine Fc.of Tryz.func160 rfl k_d ?_
 obtain ⟨a,ha,It,Ib⟩:=Fl (s:=stk) A8
 obtain ⟨i,hi⟩:=lra hb.1
 rw [hi] at hb ⊢
 obtain ⟨y,hy⟩:∃y,Zj[i]?=some y:=⟨_,laa A8⟩
 have hd:VV m.most x ⟨flat ps,Zr,Zj⟩ loc stk=⟨⟨flat ps,Zr,Zj.set i a⟩,loc,low stk 1,0⟩:=by grind [VV]
 rw [hd]
 clear hd
 refine ZI H<|fun p1 w1 H=>YJ H 7 rfl rfl<|ZW A8<|bk<|Z9 rfl<|Z5 (H.at 0 rfl) 0 rfl rfl rfl<|cF (Z4 A8)<|Z9 rfl<|Z5 (H.at 0 rfl) 0 rfl rfl rfl<|cF (Z4 A8)<|Z9 rfl<|Z5 (H.at 0 rfl) 0 rfl rfl rfl<|cF (Z4 A8)<|Z9 rfl<|Z5 (H.at 0 rfl) 0 rfl rfl rfl<|cF (Z4 A8)<|Z9 rfl<|Z5 (H.at 0 rfl) 0 rfl rfl rfl<|cF (Z4 A8)<|Z9 rfl<|Z5 (H.at 0 rfl) 0 rfl rfl rfl<|cF (Z4 A8)<|Z9 rfl<|Z5 (H.at 0 rfl) 0 rfl rfl rfl<|cT (ZJ A7)<|ZN H [] [AUp0,AUp1,AUp2,AUh3,AUp4,AUh5,AUp6,AUp7,AUp8,AUh9,AUp10,AUfr11] mixed k_d k_d<|fun w2 H=>tk (fun _ Z=>Z9 rfl AX)<|tk (fun _ Z=>Z5 (Z.at 1 rfl) 13 rfl rfl rfl AX)<|tk (fun _ Z=>Z9 rfl AX)<|tk (fun _ Z=>Z5 (Z.at 0 rfl) 1 rfl rfl rfl AX) ?_
 obtain ⟨b1,o1,E1⟩:=H.Zc 7 rfl ((stk.length)-1) A8
 refine tk (fun _ Z=>ZK E1 A8 rfl rfl AX)<|tk (fun _ Z=>Z5 (Z.el 7 rfl E1 ha) 0 rfl rfl rfl AX) ?_
 obtain ⟨b2,o2,E2⟩:=H.Zc 5 rfl (i) A8
 refine tk (fun _ Z=>ZK E2 rfl rfl rfl AX)<|Yz H 5 rfl E2 hy 0 (a) rfl rfl rfl rfl<|fun w1 H=>NQ H 7 rfl 0 ((stk.length)-1) rfl rfl A8 A8 (.inl ⟨rfl,rfl⟩) (.inr ⟨_,by first|rfl|(congr 2;omega)⟩)<|fun v1=>?_
 intro H
 refine Z6.mk ?_
 refine ⟨0,v1,vp,ps,Zj.set i a,loc,List.drop 0 (List.take (stk.length-1) stk),?_⟩
 refine ⟨rfl,?_⟩
 refine ⟨?_,?_⟩
 ·exact ⟨rfl,rfl,rfl,rfl,fun _=>J9⟩
 refine ⟨A8,?_⟩
 refine H.Z8 [7,7,7,7,7,7,7]<|fun H=>H.drop 7<|fun H=>?_
 exact H
theorem alB (H:Sat g w (Pt cp (AY m [AV mp,vt,vg]) 158::Pt mp [vp,AW m.most] 221::Sl 223 256 Xk vp ps::Sl 3 1 ZG vt Zr::Sl 2 1 ZG vg Zj::Sl 2 1 ZG vl loc::Sl 2 1 ZG vs stk::l)) (ho:x.op=65∨x.op=66) (hlen:stk.length≤100000) (hp:ps.length≤8):Fc Tryz.prog 160 #[AV cp,.agg #[.int .u8 x.op,AW x.a,AW x.b,SS],vl,vs] w (fun r w'=>∃e vs' TV ps' W6 loc' Xb,r=.tuple #[vs',AW e]∧Nh (VV m.most x ⟨flat ps,Zr,Zj⟩ loc stk) e (flat ps') W6 loc' Xb∧ps'.length≤8∧Sat g w' (Pt cp (AY m [AV mp,vt,vg]) 158::Pt mp [TV,AW m.most] 221::Sl 223 256 Xk TV ps'::Sl 3 1 ZG vt Zr::Sl 2 1 ZG vg W6::Sl 2 1 ZG vl loc'::Sl 2 1 ZG vs' Xb::l)):=by
 refine Fc.of Tryz.func160 rfl k_d ?_
 have hd:VV m.most x ⟨flat ps,Zr,Zj⟩ loc stk=⟨⟨flat ps,Zr,Zj⟩,loc,stk++[x.a],0⟩:=by grind [VV]
 rw [hd]
 clear hd
 rcases ho with ho|ho
 ·refine ZI H<|fun p1 w1 H=>YJ H 7 rfl rfl<|ZW A8<|bk<|Z9 rfl<|Z5 (H.at 0 rfl) 0 rfl rfl rfl<|cF (Z4 A8)<|Z9 rfl<|Z5 (H.at 0 rfl) 0 rfl rfl rfl<|cF (Z4 A8)<|Z9 rfl<|Z5 (H.at 0 rfl) 0 rfl rfl rfl<|cF (Z4 A8)<|Z9 rfl<|Z5 (H.at 0 rfl) 0 rfl rfl rfl<|cF (Z4 A8)<|Z9 rfl<|Z5 (H.at 0 rfl) 0 rfl rfl rfl<|cF (Z4 A8)<|Z9 rfl<|Z5 (H.at 0 rfl) 0 rfl rfl rfl<|cF (Z4 A8)<|Z9 rfl<|Z5 (H.at 0 rfl) 0 rfl rfl rfl<|cF (Z4 A8)<|Z9 rfl<|Z5 (H.at 0 rfl) 0 rfl rfl rfl<|cT (ZJ A7)<|cT (ZJ A7)<|Z9 rfl<|Z5 (H.at 0 rfl) 1 rfl rfl rfl<|ZZ H rfl rfl rfl rfl<|fun p2 w2 H=>Wv (ys:=[_]) 8 H 8 rfl (H.at 0 rfl) rfl (fun y _=>rfl) rfl rfl rfl A8 A8<|fun v1=>?_
  intro w1 H
  refine Z6.mk ?_
  refine ⟨0,v1,vp,ps,Zj,loc,stk++[x.a],?_⟩
  refine ⟨rfl,?_⟩
  refine ⟨?_,?_⟩
  ·exact k_w
  refine ⟨A8,?_⟩
  refine H.Z8 [8,8,8,8,8,8,8]<|fun H=>H.drop 8<|fun H=>H.drop 7<|fun H=>?_
  exact H
 ·refine ZI H<|fun p1 w1 H=>YJ H 7 rfl rfl<|ZW A8<|bk<|Z9 rfl<|Z5 (H.at 0 rfl) 0 rfl rfl rfl<|cF (Z4 A8)<|Z9 rfl<|Z5 (H.at 0 rfl) 0 rfl rfl rfl<|cF (Z4 A8)<|Z9 rfl<|Z5 (H.at 0 rfl) 0 rfl rfl rfl<|cF (Z4 A8)<|Z9 rfl<|Z5 (H.at 0 rfl) 0 rfl rfl rfl<|cF (Z4 A8)<|Z9 rfl<|Z5 (H.at 0 rfl) 0 rfl rfl rfl<|cF (Z4 A8)<|Z9 rfl<|Z5 (H.at 0 rfl) 0 rfl rfl rfl<|cF (Z4 A8)<|Z9 rfl<|Z5 (H.at 0 rfl) 0 rfl rfl rfl<|cF (Z4 A8)<|Z9 rfl<|Z5 (H.at 0 rfl) 0 rfl rfl rfl<|cF (Z4 A8)<|Z9 rfl<|Z5 (H.at 0 rfl) 0 rfl rfl rfl<|cT (ZJ A7)<|Z9 rfl<|Z5 (H.at 0 rfl) 1 rfl rfl rfl<|ZZ H rfl rfl rfl rfl<|fun p2 w2 H=>Wv (ys:=[_]) 8 H 8 rfl (H.at 0 rfl) rfl (fun y _=>rfl) rfl rfl rfl A8 A8<|fun v1=>?_
  intro w1 H
  refine Z6.mk ?_
  refine ⟨0,v1,vp,ps,Zj,loc,stk++[x.a],?_⟩
  refine ⟨rfl,?_⟩
  refine ⟨?_,?_⟩
  ·exact k_w
  refine ⟨A8,?_⟩
  refine H.Z8 [8,8,8,8,8,8,8]<|fun H=>H.drop 8<|fun H=>H.drop 7<|fun H=>?_
  exact H
theorem alC (H:Sat g w (Pt cp (AY m [AV mp,vt,vg]) 158::Pt mp [vp,AW m.most] 221::Sl 223 256 Xk vp ps::Sl 3 1 ZG vt Zr::Sl 2 1 ZG vg Zj::Sl 2 1 ZG vl loc::Sl 2 1 ZG vs stk::l)) (ho:x.op=63) (hlen:stk.length≤100000) (hp:ps.length≤8):Fc Tryz.prog 160 #[AV cp,.agg #[.int .u8 x.op,AW x.a,AW x.b,SS],vl,vs] w (fun r w'=>∃e vs' TV ps' W6 loc' Xb,r=.tuple #[vs',AW e]∧Nh (VV m.most x ⟨flat ps,Zr,Zj⟩ loc stk) e (flat ps') W6 loc' Xb∧ps'.length≤8∧Sat g w' (Pt cp (AY m [AV mp,vt,vg]) 158::Pt mp [TV,AW m.most] 221::Sl 223 256 Xk TV ps'::Sl 3 1 ZG vt Zr::Sl 2 1 ZG vg W6::Sl 2 1 ZG vl loc'::Sl 2 1 ZG vs' Xb::l)):=by
 refine Fc.of Tryz.func160 rfl k_d ?_
 have hd:VV m.most x ⟨flat ps,Zr,Zj⟩ loc stk=⟨⟨flat ps,Zr,Zj⟩,loc,stk++[(ps.length:Int)],0⟩:=by
  unfold VV
  rw [if_neg A8,if_neg A8,if_neg A8,if_neg A8,if_neg A8,if_neg A8,if_neg A8,if_neg A8,if_pos ho,TW]
 rw [hd]
 clear hd
 refine ZI H<|fun p1 w1 H=>YJ H 7 rfl rfl<|ZW A8<|bk<|Z9 rfl<|Z5 (H.at 0 rfl) 0 rfl rfl rfl<|cF (Z4 A8)<|Z9 rfl<|Z5 (H.at 0 rfl) 0 rfl rfl rfl<|cF (Z4 A8)<|Z9 rfl<|Z5 (H.at 0 rfl) 0 rfl rfl rfl<|cF (Z4 A8)<|Z9 rfl<|Z5 (H.at 0 rfl) 0 rfl rfl rfl<|cF (Z4 A8)<|Z9 rfl<|Z5 (H.at 0 rfl) 0 rfl rfl rfl<|cF (Z4 A8)<|Z9 rfl<|Z5 (H.at 0 rfl) 0 rfl rfl rfl<|cF (Z4 A8)<|Z9 rfl<|Z5 (H.at 0 rfl) 0 rfl rfl rfl<|cF (Z4 A8)<|Z9 rfl<|Z5 (H.at 0 rfl) 0 rfl rfl rfl<|cF (Z4 A8)<|Z9 rfl<|Z5 (H.at 0 rfl) 0 rfl rfl rfl<|cF (Z4 A8)<|Z9 rfl<|Z5 (H.at 0 rfl) 0 rfl rfl rfl<|cT (ZJ A7)<|Z9 rfl<|Z5 (H.at 1 rfl) 11 rfl rfl rfl<|H.Z8 [3,3]<|fun H=>?_
 refine Z7.mk (Fc.imp (Mem.size H) ?_)
 clear H
 rintro _ w2 ⟨rfl,H⟩
 refine ZZ H rfl rfl rfl rfl<|fun p2 w3 H=>Wv (ys:=[_]) 8 H 8 rfl (H.at 0 rfl) rfl (fun y _=>rfl) rfl rfl rfl A8 A8<|fun v1=>?_
 intro w2 H
 refine Z6.mk ?_
 refine ⟨0,v1,vp,ps,Zj,loc,stk++[(↑ps.length:Int)],?_⟩
 refine ⟨rfl,?_⟩
 refine ⟨?_,?_⟩
 ·exact k_w
 refine ⟨A8,?_⟩
 refine H.Z8 [8,8,8,8,6,6,8]<|fun H=>H.drop 8<|fun H=>H.drop 7<|fun H=>?_
 exact H
theorem alD (H:Sat g w (Pt cp (AY m [AV mp,vt,vg]) 158::Pt mp [vp,AW m.most] 221::Sl 223 256 Xk vp ps::Sl 3 1 ZG vt Zr::Sl 2 1 ZG vg Zj::Sl 2 1 ZG vl loc::Sl 2 1 ZG vs stk::l)) (ho:x.op=64) (h1:1≤stk.length) (TZ:∀v∈stk,Xz v) (hm:ps.length≤m.most∧m.most≤8) (hlen:stk.length≤100000) (hp:ps.length≤8):Fc Tryz.prog 160 #[AV cp,.agg #[.int .u8 x.op,AW x.a,AW x.b,SS],vl,vs] w (fun r w'=>∃e vs' TV ps' W6 loc' Xb,r=.tuple #[vs',AW e]∧Nh (VV m.most x ⟨flat ps,Zr,Zj⟩ loc stk) e (flat ps') W6 loc' Xb∧ps'.length≤8∧Sat g w' (Pt cp (AY m [AV mp,vt,vg]) 158::Pt mp [TV,AW m.most] 221::Sl 223 256 Xk TV ps'::Sl 3 1 ZG vt Zr::Sl 2 1 ZG vg W6::Sl 2 1 ZG vl loc'::Sl 2 1 ZG vs' Xb::l)):=by
 refine Fc.of Tryz.func160 rfl k_d ?_
 obtain ⟨a,ha,It,Ib⟩:=Fl (s:=stk) A8
 have FV:=TZ a Ib
 have hd:VV m.most x ⟨flat ps,Zr,Zj⟩ loc stk=(if m.most-(ps.length:Int)<a % 4294967296 then ⟨⟨flat ps,Zr,Zj⟩,loc,low stk 1++[-1],0⟩ else ⟨⟨flat ps++List.replicate (256 * (a % 4294967296).toNat) 0,Zr,Zj⟩,loc,low stk 1++[(ps.length:Int)],0⟩):=by
  unfold VV
  rw [if_neg A8,if_neg A8,if_neg A8,if_neg A8,if_neg A8,if_neg A8,if_neg A8,if_neg A8,if_neg A8,if_pos ho,It,TW]
 rw [hd]
 clear hd
 refine ZI H<|fun p1 w1 H=>YJ H 7 rfl rfl<|ZW A8<|bk<|Z9 rfl<|Z5 (H.at 0 rfl) 0 rfl rfl rfl<|cF (Z4 k_h)<|Z9 rfl<|Z5 (H.at 0 rfl) 0 rfl rfl rfl<|cF (Z4 k_h)<|Z9 rfl<|Z5 (H.at 0 rfl) 0 rfl rfl rfl<|cF (Z4 k_h)<|Z9 rfl<|Z5 (H.at 0 rfl) 0 rfl rfl rfl<|cF (Z4 k_h)<|Z9 rfl<|Z5 (H.at 0 rfl) 0 rfl rfl rfl<|cF (Z4 k_h)<|Z9 rfl<|Z5 (H.at 0 rfl) 0 rfl rfl rfl<|cF (Z4 k_h)<|Z9 rfl<|Z5 (H.at 0 rfl) 0 rfl rfl rfl<|cF (Z4 k_h)<|Z9 rfl<|Z5 (H.at 0 rfl) 0 rfl rfl rfl<|cF (Z4 k_h)<|Z9 rfl<|Z5 (H.at 0 rfl) 0 rfl rfl rfl<|cF (Z4 k_h)<|Z9 rfl<|Z5 (H.at 0 rfl) 0 rfl rfl rfl<|cF (Z4 k_h)<|Z9 rfl<|Z5 (H.at 0 rfl) 0 rfl rfl rfl<|cT (ZJ k_h)<|ZN H [] [AUp0,AUp1,AUp2,AUp3,AUp4,AUh5,AUp6,AUp7,AUp8,AUh9,AUfr10,AUp11,AUfr12] mixed k_d k_d<|fun w2 H=>tk (fun _ Z=>Z9 rfl AX)<|tk (fun _ Z=>Z5 (Z.at 1 rfl) 11 rfl rfl rfl AX) ?_
 obtain ⟨b1,o1,E1⟩:=H.Zc 7 rfl ((stk.length)-1) A8
 refine tk (fun _ Z=>ZK E1 A8 rfl rfl AX)<|tk (fun _ Z=>Z5 (Z.el 7 rfl E1 ha) 0 rfl rfl rfl AX)<|H.Z8 [3,3]<|fun H=>?_
 refine Z7.mk (Fc.imp (Mem.grow H _ ?_ ?_ ?_) ?_)
 ·exact k_h
 ·exact k_h
 ·exact k_h
 clear H
 rintro _ w1 ⟨e1,⟨v'1,⟨OB,⟨rfl,⟨(⟨h2,⟨h3,h4⟩⟩|⟨h5,⟨h6,h7⟩⟩),H⟩⟩⟩⟩⟩
 ·refine tk (fun _ Z=>ZK E1 A8 rfl rfl AX)<|Yz H 7 rfl E1 ha 0 (e1) rfl rfl rfl rfl<|fun w3 H=>Z6.mk ?_
  refine ⟨0,vs,v'1,OB,Zj,loc,stk.set (stk.length-1) e1,?_⟩
  refine ⟨rfl,?_⟩
  refine ⟨?_,?_⟩
  ·exact gr0 h1 A8 A7 A7
  refine ⟨?_,?_⟩
  ·exact k_h
  refine H.Z8 [7,7,7,7,5,5,7]<|fun H=>H.drop 7<|fun H=>?_
  exact H
 refine tk (fun _ Z=>ZK E1 A8 rfl rfl AX)<|Yz H 7 rfl E1 ha 0 (e1) rfl rfl rfl rfl<|fun w3 H=>Z6.mk ?_
 refine ⟨0,vs,v'1,OB,Zj,loc,stk.set (stk.length-1) e1,?_⟩
 refine ⟨rfl,?_⟩
 refine ⟨?_,?_⟩
 ·exact gr1 h1 A8 A7 A7
 refine ⟨?_,?_⟩
 ·exact k_h
 refine H.Z8 [7,7,7,7,5,5,7]<|fun H=>H.drop 7<|fun H=>?_
 exact H
theorem alE (H:Sat g w (Pt cp (AY m [AV mp,vt,vg]) 158::Pt mp [vp,AW m.most] 221::Sl 223 256 Xk vp ps::Sl 3 1 ZG vt Zr::Sl 2 1 ZG vg Zj::Sl 2 1 ZG vl loc::Sl 2 1 ZG vs stk::l)) (ho:36<x.op∧x.op≤255) (hw:0<wid x.op) (TZ:∀v∈stk,Xz v) (hn:U4 x.op≤stk.length) (hb:0≤x.b∧x.b≤4294967295) (hlen:stk.length≤100000) (hp:ps.length≤8):Fc Tryz.prog 160 #[AV cp,.agg #[.int .u8 x.op,AW x.a,AW x.b,SS],vl,vs] w (fun r w'=>∃e vs' TV ps' W6 loc' Xb,r=.tuple #[vs',AW e]∧Nh (VV m.most x ⟨flat ps,Zr,Zj⟩ loc stk) e (flat ps') W6 loc' Xb∧ps'.length≤8∧Sat g w' (Pt cp (AY m [AV mp,vt,vg]) 158::Pt mp [TV,AW m.most] 221::Sl 223 256 Xk TV ps'::Sl 3 1 ZG vt Zr::Sl 2 1 ZG vg W6::Sl 2 1 ZG vl loc'::Sl 2 1 ZG vs' Xb::l)):=by
 refine Fc.of Tryz.func160 rfl k_d ?_
 have GH:=RK hw
 have Dl:=RM x.op
 have hd:VV m.most x ⟨flat ps,Zr,Zj⟩ loc stk=_:=rfl
 rw [hd]
 clear hd
 refine ZI H<|fun p1 w1 H=>YJ H 7 rfl rfl<|ZW A8<|bk<|Z9 rfl<|Z5 (H.at 0 rfl) 0 rfl rfl rfl<|cF (Z4 A8)<|Z9 rfl<|Z5 (H.at 0 rfl) 0 rfl rfl rfl<|cF (Z4 A8)<|Z9 rfl<|Z5 (H.at 0 rfl) 0 rfl rfl rfl<|cF (Z4 A8)<|Z9 rfl<|Z5 (H.at 0 rfl) 0 rfl rfl rfl<|cF (Z4 A8)<|Z9 rfl<|Z5 (H.at 0 rfl) 0 rfl rfl rfl<|cF (Z4 A8)<|Z9 rfl<|Z5 (H.at 0 rfl) 0 rfl rfl rfl<|cF (Z4 A8)<|Z9 rfl<|Z5 (H.at 0 rfl) 0 rfl rfl rfl<|cF (Z4 A8)<|Z9 rfl<|Z5 (H.at 0 rfl) 0 rfl rfl rfl<|cF (Z4 A8)<|Z9 rfl<|Z5 (H.at 0 rfl) 0 rfl rfl rfl<|cF (Z4 A8)<|Z9 rfl<|Z5 (H.at 0 rfl) 0 rfl rfl rfl<|cF (Z4 A8)<|Z9 rfl<|Z5 (H.at 0 rfl) 0 rfl rfl rfl<|cF (Z4 A8)<|Z9 rfl<|Z5 (H.at 0 rfl) 0 rfl rfl rfl ?_
 refine Z7.mk (Fc.imp (YT.LD _ _) ?_)
 rintro _ _ ⟨⟨r1,⟨rfl,h1⟩⟩,rfl⟩
 refine cT (Zk A8)<|ZD (H.at 0 rfl) 0 rfl rfl rfl<|H.Z8 [7,6,6,6,6,6]<|fun H=>?_
 refine Z7.mk (Fc.imp (Rn.alu H A8 A8 A8 A8 A8 A8 A8) ?_)
 clear H
 rintro _ w2 ⟨e1,⟨Zt,⟨OB,⟨RF,⟨rfl,⟨h2,⟨h3,H⟩⟩⟩⟩⟩⟩⟩
 refine Z6.mk ?_
 refine ⟨e1,Zt,vp,OB,Zj,loc,RF,?_⟩
 refine ⟨rfl,?_⟩
 refine ⟨?_,?_⟩
 ·grind
 refine ⟨A8,?_⟩
 refine H.Z8 [5,7,6,6,6,6,6]<|fun H=>H.drop 7<|fun H=>?_
 exact H
theorem alF (H:Sat g w (Pt cp (AY m [AV mp,vt,vg]) 158::Pt mp [vp,AW m.most] 221::Sl 223 256 Xk vp ps::Sl 3 1 ZG vt Zr::Sl 2 1 ZG vg Zj::Sl 2 1 ZG vl loc::Sl 2 1 ZG vs stk::l)) (ho:36<x.op∧x.op≤255) (hw:¬0<wid x.op) (hq:(Xn x.op).2.2=true) (c1:x.op≠63∧x.op≠64∧x.op≠65∧x.op≠66) (TZ:∀v∈stk,Xz v) (hn:U4 x.op≤stk.length) (hT:Fold.Iu g) (hlen:stk.length≤100000) (hp:ps.length≤8):Fc Tryz.prog 160 #[AV cp,.agg #[.int .u8 x.op,AW x.a,AW x.b,SS],vl,vs] w (fun r w'=>∃e vs' TV ps' W6 loc' Xb,r=.tuple #[vs',AW e]∧Nh (VV m.most x ⟨flat ps,Zr,Zj⟩ loc stk) e (flat ps') W6 loc' Xb∧ps'.length≤8∧Sat g w' (Pt cp (AY m [AV mp,vt,vg]) 158::Pt mp [TV,AW m.most] 221::Sl 223 256 Xk TV ps'::Sl 3 1 ZG vt Zr::Sl 2 1 ZG vg W6::Sl 2 1 ZG vl loc'::Sl 2 1 ZG vs' Xb::l)):=by
 refine Fc.of Tryz.func160 rfl k_d ?_
 have Dl:=RM x.op
 obtain ⟨n1,n2,n3⟩:=acV hq hw c1.1 c1.2.1 c1.2.2.1 c1.2.2.2
 have hnn:(Xn x.op).1.length=1∨(Xn x.op).1.length=2:=by
  rw [n2]
  by_cases h:(X3 x.op).1.length=1
  ·omega
  ·exact .inr (acU (a:=0) (b:=0) n1 h).2.2.2
 unfold U4 at hn
 rw [if_neg A8,if_neg A8,if_pos A8] at hn
 have hd:VV m.most x ⟨flat ps,Zr,Zj⟩ loc stk=(if (Xn x.op).1.length=1 then ⟨⟨flat ps,Zr,Zj⟩,loc,low stk 1++[(Xy.Vc x.op (top stk 0)).1],(Xy.Vc x.op (top stk 0)).2⟩ else ⟨⟨flat ps,Zr,Zj⟩,loc,low stk 2++[(Xy.Vd x.op (top stk 1) (top stk 0)).1],(Xy.Vd x.op (top stk 1) (top stk 0)).2⟩):=by grind [VV]
 rw [hd]
 clear hd
 refine ZI H<|fun p1 w1 H=>YJ H 7 rfl rfl<|ZW A8<|bk<|Z9 rfl<|Z5 (H.at 0 rfl) 0 rfl rfl rfl<|cF (Z4 A8)<|Z9 rfl<|Z5 (H.at 0 rfl) 0 rfl rfl rfl<|cF (Z4 A8)<|Z9 rfl<|Z5 (H.at 0 rfl) 0 rfl rfl rfl<|cF (Z4 A8)<|Z9 rfl<|Z5 (H.at 0 rfl) 0 rfl rfl rfl<|cF (Z4 A8)<|Z9 rfl<|Z5 (H.at 0 rfl) 0 rfl rfl rfl<|cF (Z4 A8)<|Z9 rfl<|Z5 (H.at 0 rfl) 0 rfl rfl rfl<|cF (Z4 A8)<|Z9 rfl<|Z5 (H.at 0 rfl) 0 rfl rfl rfl<|cF (Z4 A8)<|Z9 rfl<|Z5 (H.at 0 rfl) 0 rfl rfl rfl<|cF (Z4 A8)<|Z9 rfl<|Z5 (H.at 0 rfl) 0 rfl rfl rfl<|cF (Z4 A8)<|Z9 rfl<|Z5 (H.at 0 rfl) 0 rfl rfl rfl<|cF (Z4 A8)<|Z9 rfl<|Z5 (H.at 0 rfl) 0 rfl rfl rfl<|cF (Z4 A8)<|Z9 rfl<|Z5 (H.at 0 rfl) 0 rfl rfl rfl ?_
 refine Z7.mk (Fc.imp (YT.LD _ _) ?_)
 rintro _ _ ⟨⟨r1,⟨rfl,h1⟩⟩,rfl⟩
 refine cF (Zs A8)<|Z9 rfl<|Z5 (H.at 0 rfl) 0 rfl rfl rfl<|H.Z8 [7]<|fun H=>?_
 refine Z7.mk (Fc.imp (Rn.agX H A8 _ A8 A8 A8 A8 A8) ?_)
 clear H
 rintro _ w2 ⟨Zt,⟨RF,⟨e1,⟨rfl,⟨h2,H⟩⟩⟩⟩⟩
 refine Z6.mk ?_
 refine ⟨e1,Zt,vp,ps,Zj,loc,RF,?_⟩
 refine ⟨rfl,?_⟩
 refine ⟨?_,?_⟩
 ·exact anE A7
 refine ⟨A8,?_⟩
 refine H.Z8 [0,7,7,7,7,7,7]<|fun H=>H.drop 7<|fun H=>?_
 exact H
end
end Rn
namespace XB
open Go YX Go.RowKit
open YT Zl X9 YO Valid
section
variable {g:Zy} {w:World} {l:List As} {m:Zg}
theorem within (H:Sat g w l) (a many all:Int) (ha:-2147483648≤a∧a≤2147483647) (hm:0≤many∧many≤1000000) (hl:0≤all∧all≤1000000):Fc Tryz.prog 43 #[AW a,AW many,AW all] w (fun r w'=>∃b,r=.bool b∧(b=true↔(0≤a∧a+many≤all))∧Sat g w' l):=by
 refine Fc.of Tryz.func43 rfl k_d<|Yt rfl rfl<|W2 A8 rfl rfl<|ZW A8<|Z6.mk ?_
 exact ⟨_,rfl,by simp [YS];omega,H⟩
end
end XB
namespace XB
open Go YX Go.RowKit
open YT Zl X9 YO Valid
section
variable {g:Zy} {w:World} {l:List As} {m:Zg}
theorem afc {l:List Int} {i:Nat} (h:l=List.replicate i (-1)):l++[-1]=List.replicate (i+1) (-1):=by
 rw [h,List.replicate_succ']
theorem afd {l:List Int} {xs:List (Int × Bool × Int)} {i:Nat} {x:Int × Bool × Int} (h:l=(xs.take i).map (·.2.2)) (hx:xs[i]?=some x):l++[x.2.2]=(xs.take (i+1)).map (·.2.2):=by grind [List.take_add_one]
theorem ahV {x:SA} (h:Gm x.d=0):(-2147483648≤x.pl∧x.pl≤2147483647)∧x.fs.length≤16:=by
 unfold Gm at h
 obtain ⟨h1,h2⟩:=Zm.1 h
 have h3:=(VY.1 h2).1
 unfold O3 at h1
 by_cases hq:-2147483648≤x.d.1∧x.d.1≤2147483647
 ·exact ⟨hq,by have:x.d.2.length=x.fs.length:=rfl;omega⟩
 ·omega
theorem alG {x:Int × List UInt8} (h:MD x=0):(-2147483648≤x.1∧x.1≤2147483647)∧x.2.length≤64:=by
 unfold MD at h
 obtain ⟨h1,h2⟩:=Zm.1 h
 unfold O3 at h1
 unfold Mn at h2
 refine ⟨A8,?_⟩
 ·omega
theorem alH (H:Sat g w l) (hT:O4 g) (hm:XZ g m):Fc Tryz.prog 14 #[.agg (AY m []).toArray] w (fun r w'=>∃(g':Zy) (mem:List UInt8) (ts gs:List Int) (vt vg:Value) (e:Int),r=.tuple #[.agg #[.string (bs mem),vt,vg],AW e]∧Ext g g'∧Z0 g' ZG WQ 1 vt ts∧Z0 g' ZG WQ 1 vg gs∧F7 m mem ts gs e∧Sat g' w' l):=by
 refine Fc.of Tryz.func14 rfl k_d ?_
 have ZR:=hm.types
 have ZX:=hm.funcs
 have Zh:=hm.globals
 have Zx:=hm.ZA
 have XK:=hm.Wd
 have XW:=hm.elems
 have VX:=hm.data
 by_cases h0:W7 m.d=0
 ·obtain ⟨Bw,hI,Cu⟩:=US (Xm h0).1
  have P:=Vf Bw
  have ac1:=P.table
  have ac2:=P.pages
  have aji:=P.most
  have adv:=P.globals
  have amd:=P.elems
  have anF:=P.data
  obtain ⟨tb,htb⟩:=lra ac1.1
  obtain ⟨pg,hpg⟩:=lra ac2.1
  refine ZI H<|fun p1 w1 H=>ZU H rfl<|fun p2 w2 H=>ZD (H.at 1 rfl) 0 rfl rfl rfl ?_
  refine Z7.mk (Fc.imp (Valid.Sw H A8 A8) ?_)
  clear H
  rintro _ w1 ⟨e1,⟨rfl,⟨h1,H⟩⟩⟩
  refine cF (XU A8)<|Z9 rfl<|Z5 (H.at 1 rfl) 9 rfl rfl rfl<|ZC XW rfl ?_
  refine Y3.rule (α:=Nat) (0) (fun x_=>[(24,AW x_)]) (fun x_ w_=>(x_≤m.elems.length)∧(AI (fun x:SA=>F8 x.pl x.fs.length m.table) m.elems x_)∧Sat g w_ ((Pt p2 [.string (bs []),.slice none 0 0,.slice none 0 0] 34::Pt p1 (AY m []) 30::l))) (fun x_=>m.elems.length-x_) ?_ ?_ ?_
  ·exact k_a
  ·try simp only
   refine ⟨A8,?_⟩
   refine ⟨?_,?_⟩
   ·exact AI.zero
   exact H
  clear H
  rintro i f_ w_ ⟨hi,hA,H⟩
  try simp only at hi hA H ⊢
  rcases lpa i m.elems.length with hlt|hge
  ·obtain ⟨x,hx⟩:∃x,m.elems[i]?=some x:=⟨_,laa hlt⟩
   have IU:=lda hx
   have Mk:=Z0.all XW x IU
   have QO:=Mk.fs
   have IV:=ahV (P.Js x IU)
   refine cT (Zk A8)<|bk ?_
   obtain ⟨b1,o1,E1,F1,ZL⟩:=Z0.Zc XW hx
   have PU:=ZL.pl
   have Vh:=ZL.fs
   refine ZK E1 rfl rfl rfl<|ZD (H.Yu F1) 0 rfl rfl rfl<|ZU H rfl<|fun p3 w3 H=>ZE H 0 rfl rfl rfl (by simp only [List.all_cons,List.all_nil,Z0.one Vh,Z0.one QO,Z0.one VX,Z0.one XW,Z0.one XK,Z0.one Zx,Z0.one Zh,Z0.one ZX,Z0.one ZR];rfl)<|fun w4 H=>Z9 rfl<|Z5 (H.at 0 rfl) 0 rfl rfl rfl<|Z9 rfl<|Z5 (H.at 0 rfl) 1 rfl rfl rfl<|ZC Vh rfl<|Z9 rfl<|Z5 (H.at 2 rfl) 3 rfl rfl rfl ?_
   refine Z7.mk (Fc.imp (XB.within H _ _ _ A8 A8 A8) ?_)
   clear H
   rintro _ w3 ⟨b2,⟨rfl,⟨h2,H⟩⟩⟩
   refine cI (fun c1=>?_) (fun c1=>?_)
   ·replace c1:=QY h2 (Sp (c1))
    refine Zi rfl rfl rfl<|ZE H 1 rfl rfl rfl rfl<|fun w5 H=>Xt (H.at 1 rfl) 0 rfl rfl rfl<|Z6.mk ?_
    exact ⟨g,[],[],[],_,_,_,rfl,Ext.refl _,Z0.NM _ _ _ _,Z0.NM _ _ _ _,mk2 A8 hA hx A8,((H.del 0).del 0).del 0⟩
   replace c1:=h2.1 (So (c1))
   refine ZW A8 ?_
   refine W5.mk (i+1) (Zu rfl A8 (ZV)) ?_ ?_
   ·refine ⟨A8,?_⟩
    refine ⟨?_,?_⟩
    ·exact hA.step hx (Kh.2 A8)
    refine H.Z8 [2,2]<|fun H=>H.drop 2<|fun H=>?_
    exact H
   omega
  ·have hE:=hA.fin hge
   refine cF (Zs A8)<|Z9 rfl<|Z5 (H.at 1 rfl) 4 rfl rfl rfl<|ZW A8<|SD (en:=Tm) (s:=1) H ((0:UInt8)) ((m.pages * 256).toNat) ((m.pages * 256).toNat) 1 rfl rfl rfl (fun _=>rfl) A8 A8 A8 A8 A8<|fun v1=>?_
   intro w3 H
   refine Z9 rfl<|Z5 (H.at 2 rfl) 10 rfl rfl rfl<|ZC VX rfl ?_
   rw [show (m.pages * 256).toNat=256 * m.pages.toNat by omega] at H
   refine Y3.rule (α:=Nat × List UInt8) (0,List.replicate (256 * m.pages.toNat) 0) (fun x_=>[(46,AW x_.1)]) (fun x_ w_=>(x_.1≤m.data.length)∧(AI (fun x:Int × List UInt8=>F8 x.1 x.2.length (m.pages * 256)) m.data x_.1)∧(LM (256 * m.pages.toNat) m.data x_.1 x_.2)∧Sat g w_ ((Sl 5 1 Tm v1 x_.2::Pt p2 [.string (bs []),.slice none 0 0,.slice none 0 0] 34::Pt p1 (AY m []) 30::l))) (fun x_=>m.data.length-x_.1) ?_ ?_ ?_
   ·exact k_a
   ·try simp only
    refine ⟨A8,?_⟩
    refine ⟨?_,?_⟩
    ·exact AI.zero
    refine ⟨?_,?_⟩
    ·exact LM.zero
    exact H
   clear H
   rintro ⟨i2,cur⟩ f_ w_ ⟨hi2,hB,hL,H⟩
   try simp only at hi2 hB hL H ⊢
   have Ug:=hL.len
   rcases lpa i2 m.data.length with Oz|Mz
   ·obtain ⟨x,hx⟩:∃x,m.data[i2]?=some x:=⟨_,laa Oz⟩
    have IU:=lda hx
    have Mk:=Z0.all VX x IU
    have IV:=alG (P.akS x IU)
    refine cT (Zk A8)<|bk ?_
    obtain ⟨b1,o1,E1,F1,ZL⟩:=Z0.Zc VX hx
    have PU:=ZL.pl
    have ach:=ZL.bytes
    refine ZK E1 rfl rfl rfl<|ZD (H.Yu F1) 0 rfl rfl rfl<|ZU H rfl<|fun p3 w4 H=>ZE H 0 rfl rfl rfl rfl<|fun w5 H=>Z9 rfl<|Z5 (H.at 0 rfl) 0 rfl rfl rfl<|Z9 rfl<|Z5 (H.at 0 rfl) 1 rfl rfl rfl<|XL rfl<|YJ H 1 rfl rfl ?_
    refine Z7.mk (Fc.imp (XB.within H _ _ _ A8 A8 A8) ?_)
    clear H
    rintro _ w4 ⟨b2,⟨rfl,⟨h2,H⟩⟩⟩
    refine cI (fun c1=>?_) (fun c1=>?_)
    ·replace c1:=QY h2 (Sp (c1))
     refine Zi rfl rfl rfl<|ZE H 2 rfl rfl rfl rfl<|fun w6 H=>Xt (H.at 2 rfl) 0 rfl rfl rfl<|Z6.mk ?_
     exact ⟨g,[],[],[],_,_,_,rfl,Ext.refl _,Z0.NM _ _ _ _,Z0.NM _ _ _ _,mk3 A8 hE hB hx A8,(((H.del 0).del 0).del 0).del 0⟩
    replace c1:=h2.1 (So (c1))
    refine ZN H [] [AUp0,AUp1,AUh2,AUp3,AUp4,AUh5,AUfr6] mixed k_d k_d<|fun w6 H=>tk (fun _ Z=>Z9 rfl AX)<|tk (fun _ Z=>Z5 (Z.at 0 rfl) 0 rfl rfl rfl AX) ?_
    obtain ⟨v2,V1⟩:=H.vw 1 rfl ((x.fst).toNat) ((cur).length) A8 A8
    refine tk (fun _ Z=>VL V1 rfl rfl (.inr ⟨_,by first|rfl|(congr 2;omega)⟩) (.inl AX) AX)<|tk (fun _ Z=>Z9 rfl AX)<|tk (fun _ Z=>Z5 (Z.at 0 rfl) 1 rfl rfl rfl AX)<|agl H 1 rfl V1 A8 rfl rfl<|fun w9 H=>ZW A8 ?_
    refine W5.mk ((i2+1,List.take x.fst.toNat cur++x.snd++List.drop (x.fst.toNat+x.snd.length) cur)) (Zu rfl A8 (ZV)) ?_ ?_
    ·refine ⟨A8,?_⟩
     refine ⟨?_,?_⟩
     ·exact hB.step hx (Kh.2 A8)
     refine ⟨?_,?_⟩
     ·exact hL.step hx A8
     refine H.Z8 [3,3,3]<|fun H=>H.drop 3<|fun H=>?_
     exact H
    omega
   ·have hD:=hB.fin Mz
    have hmem:=hL.fin Mz
    refine cF (Zs A8)<|ZU H rfl<|fun p3 w4 H=>Z9 rfl<|Z5 (H.at 3 rfl) 3 rfl rfl rfl ?_
    replace H:=H.U0 (en:=ZG) (s:=1) 3 (fun _=>rfl)
    have aos:m.table.toNat=tb:=by omega
    refine Y3.rule (α:=Nat × Value × List Int) (0,.slice none 0 0,[]) (fun x_=>[(70,AW x_.1)]) (fun x_ w_=>(x_.1≤tb)∧(x_.2.2=List.replicate x_.1 (-1))∧Sat g w_ ((Sl 3 1 ZG x_.2.1 x_.2.2::Pt p3 [.string (bs []),x_.2.1,.slice none 0 0] 34::Sl 5 1 Tm v1 cur::Pt p2 [.string (bs []),.slice none 0 0,.slice none 0 0] 34::Pt p1 (AY m []) 30::l))) (fun x_=>tb-x_.1) ?_ ?_ ?_
    ·exact k_a
    ·try simp only
     refine ⟨A8,?_⟩
     refine ⟨?_,?_⟩
     ·simp
     exact H
    clear H
    rintro ⟨i3,vt,tc⟩ f_ w_ ⟨Di,MN,H⟩
    try simp only at Di MN H ⊢
    have Mo:tc.length=i3:=by grind
    rcases lpa i3 tb with akY|akZ
    ·refine cT (Zk A8)<|bk<|Z9 rfl<|Z5 (H.at 1 rfl) 1 rfl rfl rfl<|ZZ H rfl rfl rfl rfl<|fun p4 w5 H=>Wv (ys:=[_]) 8 H 1 rfl (H.at 0 rfl) rfl (fun y _=>rfl) rfl rfl rfl A8 A8<|fun v2=>?_
     intro w6 H
     refine Z9 rfl<|XD H 2 rfl rfl rfl (H.one 1 rfl)<|fun w5 H=>ZW A8 ?_
     refine W5.mk ((i3+1,v2,tc++[-1])) (Zu rfl A8 (ZV)) ?_ ?_
     ·refine ⟨A8,?_⟩
      refine ⟨?_,?_⟩
      ·exact afc MN
      refine H.Z8 [5,5,5,5,5]<|fun H=>H.drop 5<|fun H=>?_
      exact H
     omega
    ·have anG:i3=m.table.toNat:=by omega
     have hLT:LT m.table.toNat m.elems 0 tc:=by
      rw [MN,anG];exact LT.zero
     refine cF (Zs A8)<|Z9 rfl<|Z5 (H.at 4 rfl) 9 rfl rfl rfl<|ZC XW rfl ?_
     refine Y3.rule (α:=Nat × List Int) (0,tc) (fun x_=>[(81,AW x_.1)]) (fun x_ w_=>(x_.1≤m.elems.length)∧(LT m.table.toNat m.elems x_.1 x_.2)∧Sat g w_ ((Sl 3 1 ZG vt x_.2::Pt p3 [.string (bs []),vt,.slice none 0 0] 34::Sl 5 1 Tm v1 cur::Pt p2 [.string (bs []),.slice none 0 0,.slice none 0 0] 34::Pt p1 (AY m []) 30::l))) (fun x_=>m.elems.length-x_.1) ?_ ?_ ?_
     ·exact k_a
     ·grind
     clear H
     rintro ⟨i4,tu⟩ f_ w_ ⟨hi4,hJ,H⟩
     try simp only at hi4 hJ H ⊢
     have aot:=hJ.len
     rcases lpa i4 m.elems.length with anH|alI
     ·obtain ⟨x,hx⟩:∃x,m.elems[i4]?=some x:=⟨_,laa anH⟩
      have IU:=lda hx
      have Mk:=Z0.all XW x IU
      have QO:=Mk.fs
      have IV:=ahV (P.Js x IU)
      have aoa:=Kh.1 (Vi.1 hE x IU)
      refine cT (Zk A8)<|bk ?_
      obtain ⟨b1,o1,E1,F1,ZL⟩:=Z0.Zc XW hx
      have PU:=ZL.pl
      have Vh:=ZL.fs
      refine ZK E1 rfl rfl rfl<|ZD (H.Yu F1) 0 rfl rfl rfl<|ZU H rfl<|fun p4 w5 H=>ZE H 0 rfl rfl rfl (by simp only [List.all_cons,List.all_nil,H.one 1 rfl,H.one 3 rfl,Z0.one Vh,Z0.one QO,Z0.one VX,Z0.one XW,Z0.one XK,Z0.one Zx,Z0.one Zh,Z0.one ZX,Z0.one ZR];rfl)<|fun w6 H=>ZN H [] [AUp0,AUh1,AUp2,AUh3,AUp4,AUp5,AUh6,AUfr7] mixed k_d k_d<|fun w5 H=>tk (fun _ Z=>Z9 rfl AX)<|tk (fun _ Z=>Z5 (Z.at 2 rfl) 1 rfl rfl rfl AX)<|tk (fun _ Z=>Z9 rfl AX)<|tk (fun _ Z=>Z5 (Z.at 0 rfl) 0 rfl rfl rfl AX) ?_
      obtain ⟨v2,V1⟩:=H.vw 1 rfl ((x.pl).toNat) ((tu).length) A8 A8
      refine tk (fun _ Z=>VL V1 rfl rfl (.inr ⟨_,by first|rfl|(congr 2;omega)⟩) (.inl AX) AX)<|tk (fun _ Z=>Z9 rfl AX)<|tk (fun _ Z=>Z5 (Z.at 0 rfl) 1 rfl rfl rfl AX)<|agm H 1 rfl V1 (H.rd QO) A8 (fun y _=>rfl) rfl rfl<|fun w9 H=>ZW A8 ?_
      refine W5.mk ((i4+1,List.take x.pl.toNat tu++x.fs++List.drop (x.pl.toNat+x.fs.length) tu)) (Zu rfl A8 (ZV)) ?_ ?_
      ·refine ⟨A8,?_⟩
       refine ⟨?_,?_⟩
       ·exact hJ.step hx A8 (Z0.all QO)
       refine H.Z8 [5,5,5,5,5]<|fun H=>H.drop 5<|fun H=>?_
       exact H
      omega
     ·have Q6:=hJ.fin alI
      refine cF (Zs A8)<|Z9 rfl<|Z5 (H.at 4 rfl) 6 rfl rfl rfl<|ZC Zh rfl ?_
      replace H:=H.U0 (en:=ZG) (s:=1) 2 (fun _=>rfl)
      refine Y3.rule (α:=Nat × Value × List Int) (0,.slice none 0 0,[]) (fun x_=>[(97,AW x_.1)]) (fun x_ w_=>(x_.1≤m.globals.length)∧(x_.2.2=(m.globals.take x_.1).map (·.2.2))∧Sat g w_ ((Sl 2 1 ZG x_.2.1 x_.2.2::Sl 3 1 ZG vt tu::Pt p3 [.string (bs []),vt,x_.2.1] 34::Sl 5 1 Tm v1 cur::Pt p2 [.string (bs []),.slice none 0 0,.slice none 0 0] 34::Pt p1 (AY m []) 30::l))) (fun x_=>m.globals.length-x_.1) ?_ ?_ ?_
      ·exact k_a
      ·grind
      clear H
      rintro ⟨i5,vg,gc⟩ f_ w_ ⟨hi5,hG,H⟩
      try simp only at hi5 hG H ⊢
      have BB:gc.length=i5:=by grind
      rcases lpa i5 m.globals.length with alJ|anI
      ·obtain ⟨x,hx⟩:∃x,m.globals[i5]?=some x:=⟨_,laa alJ⟩
       have Mk:=Z0.all Zh x (lda hx)
       have aob:=Mk.start
       refine cT (Zk A8)<|bk ?_
       obtain ⟨b1,o1,E1,F1,ZL⟩:=Z0.Zc Zh hx
       have Rl:=ZL.kind
       have Sz:=ZL.start
       refine ZK E1 rfl rfl rfl<|ZD (H.Yu F1) 0 rfl rfl rfl<|ZU H rfl<|fun p4 w5 H=>ZE H 0 rfl rfl rfl rfl<|fun w6 H=>Z9 rfl<|Z5 (H.at 3 rfl) 2 rfl rfl rfl<|Z9 rfl<|Z5 (H.at 0 rfl) 2 rfl rfl rfl<|ZZ H rfl rfl rfl rfl<|fun p5 w5 H=>Wv (ys:=[_]) 8 H 2 rfl (H.at 0 rfl) rfl (fun y _=>rfl) rfl rfl rfl A8 A8<|fun v2=>?_
       intro w6 H
       refine Z9 rfl<|XD H 4 rfl rfl rfl (H.one 2 rfl)<|fun w5 H=>ZW A8 ?_
       refine W5.mk ((i5+1,v2,gc++[x.snd.snd])) (Zu rfl A8 (ZV)) ?_ ?_
       ·refine ⟨A8,?_⟩
        refine ⟨?_,?_⟩
        ·exact afd hG hx
        refine H.Z8 [7,7,7,7,7,7]<|fun H=>H.drop 7<|fun H=>H.drop 6<|fun H=>?_
        exact H
       omega
      ·have DG:gc=m.globals.map (·.2.2):=by grind
       have hgo:∀y∈gc,Xz y:=fun y hy=>by
        rw [DG] at hy
        obtain ⟨z,hz,rfl⟩:=lVa.1 hy
        exact (Z0.all Zh z hz).start
       refine cF (Zs A8)<|SE H 3 rfl rfl rfl rfl<|Z9 rfl<|XD H 2 rfl rfl rfl rfl<|fun w5 H=>ZD (H.at 2 rfl) 0 rfl rfl rfl<|ZE H 4 rfl rfl rfl (by simp only [List.all_cons,List.all_nil,H.one 0 rfl,H.one 1 rfl,H.one 3 rfl,Z0.one VX,Z0.one XW,Z0.one XK,Z0.one Zx,Z0.one Zh,Z0.one ZX,Z0.one ZR];rfl)<|fun w6 H=>Xt (H.at 4 rfl) 0 rfl rfl rfl<|H.UL 0 WQ rfl hgo<|fun g1 e1 Bv=>?_
       intro H
       refine H.UL 0 WQ rfl hJ.ok<|fun g2 e2 htF=>?_
       intro H
       replace Bv:=Bv.ext e2
       have E:=e1.trans e2
       refine Z6.mk ?_
       exact ⟨g2,_,_,_,_,_,_,rfl,E,htF,Bv,mk4 h0.symm hE hD hmem Q6 DG,(((H.del 0).del 0).del 0).del 0⟩
 ·refine ZI H<|fun p1 w1 H=>ZU H rfl<|fun p2 w2 H=>ZD (H.at 1 rfl) 0 rfl rfl rfl ?_
  refine Z7.mk (Fc.imp (Valid.Sw H A8 A8) ?_)
  clear H
  rintro _ w1 ⟨e1,⟨rfl,⟨h1,H⟩⟩⟩
  refine cT (VD A8)<|Zi rfl rfl rfl<|ZE H 0 rfl rfl rfl rfl<|fun w3 H=>Xt (H.at 0 rfl) 0 rfl rfl rfl<|Z6.mk ?_
  exact ⟨g,[],[],[],_,_,_,rfl,Ext.refl _,Z0.NM _ _ _ _,Z0.NM _ _ _ _,mk1 A7 A8,(H.del 0).del 0⟩
end
end XB
namespace XB
open Go YX Go.RowKit
open YT Zl X9 YO Valid
section
variable {g:Zy} {w:World} {l:List As} {m:Zg}
theorem Hi (H:Sat g w l) (k a:Int):Fc Tryz.prog 48 #[.int .u8 k,AW a] w (fun v w'=>∃r,v=AW r∧r=Se k a∧Sat g w' l):=by
 refine Fc.of Tryz.func48 rfl k_d ?_
 refine cI (fun h=>?_) (fun h=>?_)
 ·have h:=ZQ h
  refine Zq rfl rfl<|Zq rfl rfl ?_
  exact Z6.mk ⟨_,rfl,by unfold Se;rw [if_pos h],H⟩
 have h:=ZP h
 exact Z6.mk ⟨_,rfl,by unfold Se;rw [if_neg h],H⟩
end
end XB
namespace Rn
open Go YX Go.RowKit
open YT Zl X9 YO Valid Mem
section
variable {g:Zy} {w:World} {l:List As} {m:Zg} {cp mp:Nat} {vp vt vg vl vs SS:Value} {ps:List WO} {Zr Zj loc stk:List Int} {x:ZT}
theorem do_ (H:Sat g w (Pt cp (AY m [AV mp,vt,vg]) 158::Pt mp [vp,AW m.most] 221::Sl 223 256 Xk vp ps::Sl 3 1 ZG vt Zr::Sl 2 1 ZG vg Zj::Sl 2 1 ZG vl loc::Sl 2 1 ZG vs stk::l)) (hD:Hu x ⟨flat ps,Zr,Zj⟩ loc stk) (hT:Fold.Iu g) (hop:x.op≤255) (hm:ps.length≤m.most∧m.most≤8) (hlen:stk.length≤100000):Fc Tryz.prog 160 #[AV cp,.agg #[.int .u8 x.op,AW x.a,AW x.b,SS],vl,vs] w (fun r w'=>∃e vs' TV ps' W6 loc' Xb,r=.tuple #[vs',AW e]∧Nh (VV m.most x ⟨flat ps,Zr,Zj⟩ loc stk) e (flat ps') W6 loc' Xb∧ps'.length≤8∧Sat g w' (Pt cp (AY m [AV mp,vt,vg]) 158::Pt mp [TV,AW m.most] 221::Sl 223 256 Xk TV ps'::Sl 3 1 ZG vt Zr::Sl 2 1 ZG vg W6::Sl 2 1 ZG vl loc'::Sl 2 1 ZG vs' Xb::l)):=by
 have hp:ps.length≤8:=by omega
 have hn:=hD.need
 have n1:x.op=26∨x.op=33∨x.op=34∨x.op=36→1≤stk.length:=fun h=>by unfold U4 at hn;rw [if_pos h] at hn;exact hn
 rcases hD.op with h|h|h|⟨MA,hq⟩
 ·exact alv H h (n1 (.inl h)) hlen hp
 ·exact alw H h (by unfold U4 at hn;rw [if_neg A8,if_pos h] at hn;exact hn) hlen hp
 ·by_cases h2:x.op=32
  ·exact alx H h2 (hD.loc h.1 A8) hlen hp
  by_cases h3:x.op=33∨x.op=34
  ·exact aly H h3 (hD.loc h.1 A8) (n1 A8) hlen hp
  by_cases h5:x.op=35
  ·exact alz H h5 (hD.Zj (.inl h5)) hlen hp
  ·exact alA H A8 (hD.Zj A8) (n1 A8) hlen hp
 ·by_cases h5:x.op=65∨x.op=66
  ·exact alB H h5 hlen hp
  by_cases h3:x.op=63
  ·exact alC H h3 hlen hp
  by_cases h4:x.op=64
  ·have h1:1≤stk.length:=by
    unfold U4 at hn
    rw [if_neg A8,if_neg A8,if_pos A8,h4,show Xn 64=([127],[127],true) by decide] at hn;exact hn
   exact alD H h4 h1 hD.Ie hm hlen hp
  by_cases hw:0<wid x.op
  ·exact alE H ⟨MA,hop⟩ hw hD.Ie hn (hD.off hw) hlen hp
  ·exact alF H ⟨MA,hop⟩ hw hq ⟨h3,h4,by omega,by omega⟩ hD.Ie hn hT hlen hp
theorem ahW (P:Us m.d) {n:Int} (h0:0≤n) (h1:n<(m.ZA.length:Int)+m.funcs.length):∃(i:Nat) (t:XC),m.types[i]?=some t∧t.d=YU m.d n ∧
  (n<m.ZA.length→∃y,m.ZA[n.toNat]?=some y∧y.2=i)∧(¬n<m.ZA.length→∃f,m.funcs[n.toNat-m.ZA.length]?=some f∧f.ty=i):=by
 have hfl:m.d.funcs.length=m.funcs.length:=lea ..
 have hil:m.d.ZA.length=m.ZA.length:=rfl
 have Mo:m.d.types.length=m.types.length:=lea ..
 by_cases h:n<m.ZA.length
 ·have hi:n.toNat<m.ZA.length:=by omega
  have hm:=P.imp _ (lsb0 (show n.toNat<m.d.ZA.length from hi))
  have hm:0≤m.ZA[n.toNat].2∧m.ZA[n.toNat].2<m.d.types.length:=hm
  obtain ⟨i,C1⟩:=lra hm.1
  have hit:i<m.types.length:=by omega
  refine ⟨i,m.types[i],laa hit,?_,fun _=>⟨_,laa hi,C1⟩,fun h'=>absurd h h'⟩
  obtain ⟨t,e1,e2,_⟩:=Oi P h0 (show n<Y1 m.d from h)
  rw [e2]
  unfold Xr QE at e1
  rw [if_neg A8] at e1
  have Ft:(ZB m.d).ZA.length=m.ZA.length:=lea ..
  rw [Ft,if_pos h] at e1
  have e3:(ZB m.d).ZA[n.toNat]?=some m.ZA[n.toNat].2:=by
   show (m.ZA.map (·.2))[_]?=_
   rw [lAa,laa hi];rfl
  rw [e3,C1] at e1
  have e1:(m.types.map XC.d)[i]?=some t:=e1
  rw [lAa,laa hit] at e1
  exact Option.some.inj e1
 ·have hi:n.toNat-m.ZA.length<m.funcs.length:=by omega
  have hmem:m.funcs[n.toNat-m.ZA.length].d∈m.d.funcs:=lVa.2 ⟨_,lsb0 hi,rfl⟩
  have hm:=(P.fn _ hmem).ty
  have hm:0≤m.funcs[n.toNat-m.ZA.length].ty∧m.funcs[n.toNat-m.ZA.length].ty<m.d.types.length:=hm
  obtain ⟨i,C1⟩:=lra hm.1
  have hit:i<m.types.length:=by omega
  refine ⟨i,m.types[i],laa hit,?_,fun h'=>absurd h' h,fun _=>⟨_,laa hi,C1⟩⟩
  obtain ⟨_,e2⟩:=PF P (n:=n-Y1 m.d) (by grind [Y1]) (by grind [Y1])
  rw [show Y1 m.d+(n-Y1 m.d)=n by omega] at e2
  rw [e2]
  have e3:W4 m.d (n-Y1 m.d)=m.funcs[n.toNat-m.ZA.length].d:=by
   unfold W4 Y1
   rw [show (n-(m.d.ZA.length:Int)).toNat=n.toNat-m.ZA.length by omega]
   show (m.funcs.map YF.d).getD _ _=_
   rw [lka,lAa,laa hi];rfl
  rw [e3]
  unfold Rh
  show _=(m.types.map XC.d).getD m.funcs[n.toNat-m.ZA.length].ty.toNat _
  rw [C1,lja,lka,lAa,laa hit];rfl
theorem alK (H:Sat g w l) (u v:Value) (xs ys:List Int) (hx:Z0 g YI U8 1 u xs) (hy:Z0 g YI U8 1 v ys) (hl:xs.length≤1000) :
  Fc Tryz.prog 166 #[u,v] w (fun r w'=>∃b,r=.bool b∧(b=true↔xs=ys)∧Sat g w' l):=by
 refine Fc.of Tryz.func166 rfl k_d<|ZC hx rfl<|ZC hy rfl ?_
 refine cI (fun c1=>?_) (fun c1=>?_)
 ·replace c1:=Yn (c1)
  refine Z6.mk ?_
  exact ⟨false,rfl,⟨nofun,fun h=>absurd (congrArg List.length h) A8⟩,H⟩
 replace c1:=Ym (c1)
 refine ZC hx rfl ?_
 refine Y3.rule (α:=Nat) (0) (fun x_=>[(13,AW x_)]) (fun x_ w_=>(x_≤xs.length)∧(∀q,q<x_→xs[q]?=ys[q]?)∧Sat g w_ (l)) (fun x_=>xs.length-x_) ?_ ?_ ?_
 ·exact k_a
 ·grind
 clear H
 rintro i f_ w_ ⟨hi,he,H⟩
 try simp only at hi he H ⊢
 refine cI (fun c2=>?_) (fun c2=>?_)
 ·replace c2:=YL (c2)
  refine bk<|ZN H [] [AUp0,AUp1,AUp2,AUh3,AUp4,AUp5,AUp6,AUh7,AUp8] mixed k_d k_d<|fun w1 H=>?_
  obtain ⟨x1,hx1⟩:∃x,(xs)[(i)]?=some x:=⟨_,laa A8⟩
  obtain ⟨b1,o1,E1,F1,ZL⟩:=Z0.Zc hx hx1
  refine tk (fun _ Z=>ZK E1 rfl rfl rfl AX)<|tk (fun _ Z=>Z5 (Z.Yu F1) 0 rfl rfl rfl AX) ?_
  obtain ⟨x2,Sn⟩:∃x,(ys)[(i)]?=some x:=⟨_,laa A8⟩
  obtain ⟨b2,o2,E2,F2,YW⟩:=Z0.Zc hy Sn
  refine tk (fun _ Z=>ZK E2 rfl rfl rfl AX)<|tk (fun _ Z=>Z5 (Z.Yu F2) 0 rfl rfl rfl AX) ?_
  refine cI (fun c3=>?_) (fun c3=>?_)
  ·replace c3:=Yn (c3)
   refine Z6.mk ?_
   exact ⟨false,rfl,⟨nofun,fun h=>absurd (by subst h;exact Option.some.inj (hx1.symm.trans Sn)) A7⟩,H⟩
  replace c3:=Ym (c3)
  refine ZW A8 ?_
  refine W5.mk (i+1) (Zu rfl A8 (ZV)) ?_ ?_
  ·grind
  omega
 replace c2:=YK (c2)
 refine Z6.mk ?_
 exact ⟨true,rfl,⟨fun _=>Ref.JH A8 A8 he,fun _=>rfl⟩,H⟩
theorem ahX (H:Sat g w l) (a b:XC) (ha:Wu g a) (hb:Wu g b) (h1:a.Ze.length≤1000) (h2:a.out.length≤1000) :
  Fc Tryz.prog 120 #[.agg #[a.vi,a.vo],.agg #[b.vi,b.vo]] w (fun r w'=>∃q,r=.bool q∧(q=true↔a.Ze=b.Ze∧a.out=b.out)∧Sat g w' l):=by
 refine Fc.of Tryz.func120 rfl k_d ?_
 have ajj:=ha.Ze
 have ajk:=ha.out
 have ajl:=hb.Ze
 have ajm:=hb.out
 refine ZI H<|fun p1 w1 H=>ZI H<|fun p2 w2 H=>Z9 rfl<|Z5 (H.at 1 rfl) 0 rfl rfl rfl<|Z9 rfl<|Z5 (H.at 0 rfl) 0 rfl rfl rfl ?_
 refine Z7.mk (Fc.imp (Rn.alK H _ _ _ _ ajj ajl ?_) ?_)
 ·grind
 clear H
 rintro _ w1 ⟨b1,⟨rfl,⟨h3,H⟩⟩⟩
 refine br (fun c1=>?_) (fun c1=>?_)
 ·replace c1:=h3.1 (c1)
  refine Z9 rfl<|Z5 (H.at 1 rfl) 1 rfl rfl rfl<|Z9 rfl<|Z5 (H.at 0 rfl) 1 rfl rfl rfl ?_
  refine Z7.mk (Fc.imp (Rn.alK H _ _ _ _ ajk ajm ?_) ?_)
  ·grind
  clear H
  rintro _ w3 ⟨b2,⟨rfl,⟨h4,H⟩⟩⟩
  refine Z6.mk ?_
  refine ⟨b2,?_⟩
  refine ⟨?_,?_⟩
  ·grind
  refine ⟨?_,?_⟩
  ·grind
  refine H.drop 1<|fun H=>H.drop 0<|fun H=>?_
  exact H
 replace c1:=QY h3 (c1)
 refine Z6.mk ?_
 refine ⟨false,?_⟩
 refine ⟨?_,?_⟩
 ·grind
 refine ⟨?_,?_⟩
 ·grind
 refine H.drop 1<|fun H=>H.drop 0<|fun H=>?_
 exact H
theorem Ma (H:Sat g w (Pt cp (AY m [AV mp,vt,vg]) 158::l)) (hm:XZ g m) (P:Us m.d) (n:Int) (h0:0≤n) (h1:n<(m.ZA.length:Int)+m.funcs.length) :
  Fc Tryz.prog 75 #[AV cp,AW n] w (fun r w'=>∃t:XC,r=.agg #[t.vi,t.vo]∧t∈m.types∧Wu g t∧t.d=YU m.d n∧t.Ze.length≤4∧t.out.length≤1∧Sat g w' (Pt cp (AY m [AV mp,vt,vg]) 158::l)):=by
 refine Fc.of Tryz.func75 rfl k_d ?_
 have ZR:=hm.types
 have Zx:=hm.ZA
 have ZX:=hm.funcs
 obtain ⟨i,t,k1,k2,k3,k4⟩:=ahW P h0 h1
 have Oj:=lda k1
 have hto:=Z0.all ZR t Oj
 have K5:t.Ze.length≤4:=(P.sig t.d (lVa.2 ⟨t,Oj,rfl⟩)).1
 have anJ:t.out.length≤1:=(P.sig t.d (lVa.2 ⟨t,Oj,rfl⟩)).2
 have hni:=P.ni
 have hnf:=P.nf
 have hfl:m.d.funcs.length=m.funcs.length:=lea ..
 have hil:m.d.ZA.length=m.ZA.length:=rfl
 obtain ⟨k,rfl⟩:=lra h0
 rw [lja] at k3 k4
 by_cases h:(k:Int)<m.ZA.length
 ·obtain ⟨y,q1,q2⟩:=k3 h
  have hlt:=(lba.1 k1).1
  have Bu:0≤y.2∧y.2<m.types.length:=by omega
  have Eh:m.types[y.2.toNat]?=some t:=by grind
  refine ZU H rfl<|fun p1 w1 H=>Z9 rfl<|Z9 rfl<|Z5 (H.at 1 rfl) 1 rfl rfl rfl<|ZC Zx rfl<|cT (Zk A7)<|ZN H [] [AUp0,AUp1,AUp2,AUp3,AUh4,AUp5,AUp6,AUp7,AUp8,AUh9,AUp10,AUp11,AUp12,AUh13,AUp14,AUh15,AUfr16] mixed k_d k_d<|fun w2 H=>tk (fun _ Z=>Z9 rfl AX)<|tk (fun _ Z=>Z9 rfl AX)<|tk (fun _ Z=>Z5 (Z.at 1 rfl) 0 rfl rfl rfl AX)<|tk (fun _ Z=>Z9 rfl AX)<|tk (fun _ Z=>Z9 rfl AX)<|tk (fun _ Z=>Z5 (Z.at 1 rfl) 1 rfl rfl rfl AX) ?_
  obtain ⟨b1,o1,E1,F1,ZL⟩:=Z0.Zc Zx q1
  have VA:=ZL.name
  have Yk:=ZL.ty
  refine tk (fun _ Z=>ZK E1 rfl rfl rfl AX)<|tk (fun _ Z=>Z9 rfl AX)<|tk (fun _ Z=>Z5 (Z.Yu F1) 1 rfl rfl rfl AX) ?_
  obtain ⟨b2,o2,E2,F2,YW⟩:=Z0.Zc ZR Eh
  have Yc:=YW.Ze
  have YB:=YW.out
  refine tk (fun _ Z=>ZK E2 A8 rfl rfl AX)<|tk (fun _ Z=>ZD (Z.Yu F2) 0 rfl rfl rfl AX)<|ZE H 0 rfl rfl rfl (by grind [Z0.one])<|fun w1 H=>Xt (H.at 0 rfl) 0 rfl rfl rfl<|Z6.mk ?_
  refine ⟨t,?_⟩
  refine ⟨rfl,?_⟩
  refine ⟨A8,?_⟩
  refine ⟨A8,?_⟩
  refine ⟨A8,?_⟩
  refine ⟨A8,?_⟩
  refine ⟨A8,?_⟩
  refine H.Z8 [1]<|fun H=>H.drop 1<|fun H=>?_
  exact H
 ·obtain ⟨f,q1,q2⟩:=k4 h
  have hlt:=(lba.1 k1).1
  have Bu:0≤f.ty∧f.ty<m.types.length:=by omega
  have Eh:m.types[f.ty.toNat]?=some t:=by grind
  refine ZU H rfl<|fun p1 w1 H=>Z9 rfl<|Z9 rfl<|Z5 (H.at 1 rfl) 1 rfl rfl rfl<|ZC Zx rfl<|cF (Zs A8)<|ZN H [] [AUp0,AUp1,AUp2,AUp3,AUh4,AUp5,AUp6,AUp7,AUp8,AUh9,AUp10,AUp11,AUp12,AUp13,AUp14,AUh15,AUp16,AUp17,AUp18,AUp19,AUh20,AUp21,AUh22,AUfr23] mixed k_d k_d<|fun w2 H=>tk (fun _ Z=>Z9 rfl AX)<|tk (fun _ Z=>Z9 rfl AX)<|tk (fun _ Z=>Z5 (Z.at 1 rfl) 0 rfl rfl rfl AX)<|tk (fun _ Z=>Z9 rfl AX)<|tk (fun _ Z=>Z9 rfl AX)<|tk (fun _ Z=>Z5 (Z.at 1 rfl) 2 rfl rfl rfl AX)<|tk (fun _ Z=>Z9 rfl AX)<|tk (fun _ Z=>Z9 rfl AX)<|tk (fun _ Z=>Z5 (Z.at 1 rfl) 1 rfl rfl rfl AX)<|tk (fun _ Z=>ZC Zx rfl AX)<|ZW A8 ?_
  obtain ⟨b1,o1,E1,F1,ZL⟩:=Z0.Zc ZX q1
  have Yk:=ZL.ty
  have Zv:=ZL.loc
  have ZH:=ZL.body
  refine tk (fun _ Z=>ZK E1 A8 rfl rfl AX)<|tk (fun _ Z=>Z9 rfl AX)<|tk (fun _ Z=>Z5 (Z.Yu F1) 0 rfl rfl rfl AX) ?_
  obtain ⟨b2,o2,E2,F2,YW⟩:=Z0.Zc ZR Eh
  have Yc:=YW.Ze
  have YB:=YW.out
  refine tk (fun _ Z=>ZK E2 A8 rfl rfl AX)<|tk (fun _ Z=>ZD (Z.Yu F2) 0 rfl rfl rfl AX)<|ZE H 0 rfl rfl rfl (by grind [Z0.one])<|fun w1 H=>Xt (H.at 0 rfl) 0 rfl rfl rfl<|Z6.mk ?_
  refine ⟨t,?_⟩
  refine ⟨rfl,?_⟩
  refine ⟨A8,?_⟩
  refine ⟨A8,?_⟩
  refine ⟨A8,?_⟩
  refine ⟨A8,?_⟩
  refine ⟨A8,?_⟩
  refine H.Z8 [1]<|fun H=>H.drop 1<|fun H=>?_
  exact H
theorem ce0 {t tx:XC} {D:XO} {f:Int} (h:t.d=D) (hc:¬(t.Ze=tx.Ze∧t.out=tx.out)):((0:Int),List.drop 0 (List.take (stk.length-1) stk),(25:Int))=if D.Ze≠tx.d.Ze∨D.out≠tx.d.out then (0,low stk 1,25) else (f,low stk 1,0):=by
 subst h
 rw [J9,if_pos]
 refine Decidable.by_contra fun hn=>hc ⟨Decidable.by_contra fun h1=>hn (.inl h1),Decidable.by_contra fun h2=>hn (.inr h2)⟩
theorem ce1 {t tx:XC} {D:XO} {f:Int} (h:t.d=D) (hc:t.Ze=tx.Ze∧t.out=tx.out):(f,List.drop 0 (List.take (stk.length-1) stk),(0:Int))=if D.Ze≠tx.d.Ze∨D.out≠tx.d.out then (0,low stk 1,25) else (f,low stk 1,0):=by
 subst h
 rw [J9,if_neg]
 rintro (h|h)
 ·exact h hc.1
 ·exact h hc.2
theorem Ob (H:Sat g w (Pt cp (AY m [AV mp,vt,vg]) 158::Sl 3 1 ZG vt Zr::Sl 2 1 ZG vs stk::l)) (hm:XZ g m) (P:Us m.d) (ho:x.op=16∨x.op=17) (Q6:∀n∈Zr,-1≤n∧n<(m.ZA.length:Int)+m.funcs.length) (h1:x.op=17→1≤stk.length∧0≤x.a∧x.a<m.types.length)
  (TZ:∀v∈stk,Xz v) (hlen:stk.length≤100000) (Mo:Zr.length≤1000) :
  Fc Tryz.prog 196 #[AV cp,.agg #[.int .u8 x.op,AW x.a,AW x.b,SS],vs] w (fun r w'=>∃f vs' Xb e,r=.tuple #[AW f,vs',AW e]∧(f,Xb,e)=YY m.d Zr x stk∧Sat g w' (Pt cp (AY m [AV mp,vt,vg]) 158::Sl 3 1 ZG vt Zr::Sl 2 1 ZG vs' Xb::l)):=by
 refine Fc.of Tryz.func196 rfl k_d ?_
 have ZR:=hm.types
 have Zx:=hm.ZA
 have ZX:=hm.funcs
 unfold YY
 rcases ho with ho|ho
 ·rw [if_pos ho]
  refine ZI H<|fun p1 w1 H=>Z9 rfl<|Z5 (H.at 0 rfl) 0 rfl rfl rfl<|cT (ZJ A7)<|Z9 rfl<|Z5 (H.at 0 rfl) 1 rfl rfl rfl<|Z6.mk ?_
  refine ⟨x.a,vs,stk,0,?_⟩
  refine ⟨rfl,?_⟩
  refine ⟨rfl,?_⟩
  refine H.Z8 [3,3,3]<|fun H=>H.drop 3<|fun H=>?_
  exact H
 ·rw [if_neg A8]
  obtain ⟨h1,h2,h3⟩:=h1 ho
  obtain ⟨a,ha,It,Ib⟩:=Fl (s:=stk) A8
  have FV:=TZ a Ib
  rw [It]
  have hN0:0≤a % 4294967296:=by omega
  have Bt:m.types[x.a.toNat]?=some m.types[x.a.toNat]:=laa A8
  have Mk:=Z0.all ZR _ (lda Bt)
  have TH:m.d.types.getD x.a.toNat sz=m.types[x.a.toNat].d:=by
   show (m.types.map XC.d).getD _ _=_
   rw [lka,lAa,Bt];rfl
  rw [TH]
  generalize m.types[x.a.toNat]=tx at *
  by_cases hNl:(a % 4294967296).toNat<Zr.length
  ·obtain ⟨f,C0⟩:∃f,Zr[(a % 4294967296).toNat]?=some f:=⟨_,laa hNl⟩
   have hNb:=Q6 f (lda C0)
   rw [ae9 C0]
   by_cases hf:f<0
   ·rw [if_pos (.inr hf)]
    refine ZI H<|fun p1 w1 H=>Z9 rfl<|Z5 (H.at 0 rfl) 0 rfl rfl rfl<|cF (Z4 A8)<|YJ H 3 rfl rfl<|ZW A8 ?_
    obtain ⟨b1,o1,E1⟩:=H.Zc 3 rfl ((stk.length)-1) A8
    refine ZK E1 A8 rfl rfl<|Z5 (H.el 3 rfl E1 ha) 0 rfl rfl rfl<|Yt rfl rfl<|W2 A8 rfl rfl<|YJ H 3 rfl rfl<|ZW A8<|NQ H 3 rfl 0 ((stk.length)-1) rfl rfl A8 A8 (.inl ⟨rfl,rfl⟩) (.inr ⟨_,by first|rfl|(congr 2;omega)⟩)<|fun v1=>?_
    intro H
    refine Z9 rfl<|Z5 (H.at 1 rfl) 12 rfl rfl rfl<|YJ H 2 rfl rfl<|XM (YH A8)<|Z9 rfl<|Z5 (H.at 1 rfl) 12 rfl rfl rfl ?_
    obtain ⟨b2,o2,E2⟩:=H.Zc 2 rfl (a % 4294967296).toNat A8
    refine ZK E2 A8 rfl rfl<|Z5 (H.el 2 rfl E2 C0) 0 rfl rfl rfl<|cT (Zk A7)<|Z6.mk ?_
    refine ⟨0,v1,List.drop 0 (List.take (stk.length-1) stk),24,?_⟩
    refine ⟨rfl,?_⟩
    refine ⟨rfl,?_⟩
    refine H.Z8 [3,3,3]<|fun H=>H.drop 3<|fun H=>?_
    exact H
   ·rw [if_neg A8]
    refine ZI H<|fun p1 w1 H=>Z9 rfl<|Z5 (H.at 0 rfl) 0 rfl rfl rfl<|cF (Z4 A8)<|YJ H 3 rfl rfl<|ZW A8 ?_
    obtain ⟨b1,o1,E1⟩:=H.Zc 3 rfl ((stk.length)-1) A8
    refine ZK E1 A8 rfl rfl<|Z5 (H.el 3 rfl E1 ha) 0 rfl rfl rfl<|Yt rfl rfl<|W2 A8 rfl rfl<|YJ H 3 rfl rfl<|ZW A8<|NQ H 3 rfl 0 ((stk.length)-1) rfl rfl A8 A8 (.inl ⟨rfl,rfl⟩) (.inr ⟨_,by first|rfl|(congr 2;omega)⟩)<|fun v1=>?_
    intro H
    refine Z9 rfl<|Z5 (H.at 1 rfl) 12 rfl rfl rfl<|YJ H 2 rfl rfl<|XM (YH A8)<|Z9 rfl<|Z5 (H.at 1 rfl) 12 rfl rfl rfl ?_
    obtain ⟨b2,o2,E2⟩:=H.Zc 2 rfl (a % 4294967296).toNat A8
    refine ZK E2 A8 rfl rfl<|Z5 (H.el 2 rfl E2 C0) 0 rfl rfl rfl<|cF (Zs A8)<|Z9 rfl<|Z5 (H.at 1 rfl) 12 rfl rfl rfl<|ZK E2 A8 rfl rfl<|Z5 (H.el 2 rfl E2 C0) 0 rfl rfl rfl<|ZN H [] [AUp0,AUp1,AUp3,AUp4,AUp5,AUp6,AUh7,AUp8,AUh9,AUp10,AUh11,AUf2,AUfr12,AUp13] mixed k_d k_d<|fun w2 H=>tk (fun _ Z=>Z9 rfl AX)<|tk (fun _ Z=>Z9 rfl AX)<|tk (fun _ Z=>Z5 (Z.at 1 rfl) 0 rfl rfl rfl AX)<|tk (fun _ Z=>Z9 rfl AX)<|tk (fun _ Z=>Z5 (Z.at 0 rfl) 1 rfl rfl rfl AX) ?_
    obtain ⟨b3,o3,E3,F1,ZL⟩:=Z0.Zc ZR Bt
    have PW:=ZL.Ze
    have PV:=ZL.out
    refine tk (fun _ Z=>ZK E3 A8 rfl rfl AX)<|tk (fun _ Z=>ZD (Z.Yu F1) 0 rfl rfl rfl AX)<|H.Z8 [1]<|fun H=>?_
    refine Z7.mk (Fc.imp (Rn.Ma H A8 A8 _ A8 A8) ?_)
    clear H
    rintro _ w1 ⟨t1,⟨rfl,⟨h4,⟨h5,⟨h6,⟨h7,⟨h8,H⟩⟩⟩⟩⟩⟩⟩
    refine H.Z8 [3,3,2,3]<|fun H=>Y9.mk (H) ?_
    refine Z7.mk (Fc.imp (Rn.ahX H _ _ A8 A8 A8 A8) ?_)
    clear H
    rintro _ w3 ⟨q1,⟨rfl,⟨h9,H⟩⟩⟩
    refine cI (fun c1=>?_) (fun c1=>?_)
    ·replace c1:=QY h9 (Sp (c1))
     refine Z6.mk ?_
     refine ⟨0,v1,List.drop 0 (List.take (stk.length-1) stk),25,?_⟩
     refine ⟨rfl,?_⟩
     refine ⟨?_,?_⟩
     ·exact ce0 A7 A7
     refine H.Z8 [3,3,3]<|fun H=>H.drop 3<|fun H=>?_
     exact H
    replace c1:=h9.1 (So (c1))
    refine Z6.mk ?_
    refine ⟨f,v1,List.drop 0 (List.take (stk.length-1) stk),0,?_⟩
    refine ⟨rfl,?_⟩
    refine ⟨?_,?_⟩
    ·exact ce1 A7 A7
    refine H.Z8 [3,3,3]<|fun H=>H.drop 3<|fun H=>?_
    exact H
  ·rw [if_pos (.inl A8)]
   refine ZI H<|fun p1 w1 H=>Z9 rfl<|Z5 (H.at 0 rfl) 0 rfl rfl rfl<|cF (Z4 A8)<|YJ H 3 rfl rfl<|ZW A8 ?_
   obtain ⟨b1,o1,E1⟩:=H.Zc 3 rfl ((stk.length)-1) A8
   refine ZK E1 A8 rfl rfl<|Z5 (H.el 3 rfl E1 ha) 0 rfl rfl rfl<|Yt rfl rfl<|W2 A8 rfl rfl<|YJ H 3 rfl rfl<|ZW A8<|NQ H 3 rfl 0 ((stk.length)-1) rfl rfl A8 A8 (.inl ⟨rfl,rfl⟩) (.inr ⟨_,by first|rfl|(congr 2;omega)⟩)<|fun v1=>?_
   intro H
   refine Z9 rfl<|Z5 (H.at 1 rfl) 12 rfl rfl rfl<|YJ H 2 rfl rfl<|Va (Yl A8)<|cT rfl<|Z6.mk ?_
   refine ⟨0,v1,List.drop 0 (List.take (stk.length-1) stk),24,?_⟩
   refine ⟨rfl,?_⟩
   refine ⟨rfl,?_⟩
   refine H.Z8 [3,3,3]<|fun H=>H.drop 3<|fun H=>?_
   exact H
end
end Rn
namespace Rn
open Go YX Go.RowKit
open YT Zl X9 YO Valid Mem
structure CV where
 fn:Int
 at_:Int
 vl:Value
 loc:List Int
 vs:Value
 stk:List Int
def Yj (c:CV):List Value:=[.int .i64 c.fn,.int .i64 c.at_,c.vl,c.vs]
def CV.d (c:CV):YV:=⟨c.fn,c.at_,c.loc,c.stk⟩
section
variable {g:Zy} {w:World} {l:List As} {vc:Value} {cs:List CV} {i b o:Nat}
theorem J8 (E:El vc 4 i b o) (c:CV) (hx:cs[i]?=some c) (H:Sat g w (Sl 79 4 Yj vc cs::Sl 2 1 ZG c.vs c.stk::l)) (h1:1≤c.stk.length) (hlen:c.stk.length≤100000) :
  Fc Tryz.prog 162 #[.pointer (some ⟨b,o,none⟩)] w (fun r w'=>∃vs' t,r=AW t∧t=top c.stk 0∧Sat g w' (Sl 79 4 Yj vc (cs.set i ⟨c.fn,c.at_,c.vl,c.loc,vs',low c.stk 1⟩)::Sl 2 1 ZG vs' (low c.stk 1)::l)):=by
 refine Fc.of Tryz.func162 rfl k_d ?_
 obtain ⟨a,ha,It,Ib⟩:=Fl (s:=c.stk) A8
 rw [It]
 have hst:=H.one 1 rfl
 refine ZN H [] [AUp0,AUp1,AUp2,AUh3,AUp4,AUp5,AUp6,AUh7,AUp8,AUp9,AUp10,AUh11,AUp12] mixed k_d k_d<|fun w1 H=>tk (fun _ Z=>Z9 rfl AX)<|tk (fun _ Z=>Z5 (Z.el 0 rfl E hx) 3 rfl rfl rfl AX)<|tk (fun _ Z=>Z9 rfl AX)<|tk (fun _ Z=>Z5 (Z.el 0 rfl E hx) 3 rfl rfl rfl AX) ?_
 obtain ⟨a1,c1,V1⟩:=H.form 1 rfl
 refine tk (fun _ Z=>XQ V1 rfl AX)<|ZW A8 ?_
 obtain ⟨b1,o1,E1⟩:=H.Zc 1 rfl ((c.stk.length)-1) A8
 refine tk (fun _ Z=>ZK E1 A8 rfl rfl AX)<|tk (fun _ Z=>Z5 (Z.el 1 rfl E1 ha) 0 rfl rfl rfl AX)<|ZN H [] [AUp0,AUp1,AUp2,AUp3,AUh4,AUp5,AUp6,AUp7,AUh8,AUp9,AUp10,AUp11,AUp12,AUp13,AUfr14] mixed k_d k_d<|fun w2 H=>tk (fun _ Z=>Z9 rfl AX)<|tk (fun _ Z=>Z5 (Z.el 0 rfl E hx) 3 rfl rfl rfl AX)<|tk (fun _ Z=>Z9 rfl AX)<|tk (fun _ Z=>Z5 (Z.el 0 rfl E hx) 3 rfl rfl rfl AX)<|tk (fun _ Z=>XQ V1 rfl AX)<|ZW A8 ?_
 obtain ⟨v1,V2⟩:=H.vw 1 rfl (0) (((c.stk.length)-1)) A8 A8
 refine tk (fun _ Z=>VL V2 rfl rfl (.inl AX) (.inr ⟨_,by first|rfl|(congr 2;omega)⟩) AX)<|tk (fun _ Z=>Z9 rfl AX)<|Yz H 0 rfl E hx 3 (⟨c.fn,c.at_,c.vl,c.loc,(v1),low c.stk 1⟩) rfl (by simp only [Bool.and_true,H.one 0 rfl,H.one 1 rfl,Vw.one V2,hst]) rfl rfl<|fun w1 H=>Z6.mk ?_
 refine ⟨v1,a,?_⟩
 refine ⟨?_,?_⟩
 ·simp
 refine ⟨A8,?_⟩
 exact H.HR 1 rfl V2
theorem L9 (E:El vc 4 i b o) (c:CV) (hx:cs[i]?=some c) (H:Sat g w (Sl 79 4 Yj vc cs::Sl 2 1 ZG c.vs c.stk::l)) (j:XS) (h0:0≤j.height) (h1:0≤j.keep) (hf:j.height+j.keep≤c.stk.length) (hlen:c.stk.length≤100000) :
  Fc Tryz.prog 113 #[.pointer (some ⟨b,o,none⟩),.agg #[AW j.at_,AW j.keep,AW j.height]] w (fun r w'=>∃vs',Sat g w' (Sl 79 4 Yj vc (cs.set i ⟨c.fn,j.at_,c.vl,c.loc,vs',c.stk.take j.height.toNat++c.stk.drop (c.stk.length-j.keep.toNat)⟩)::Sl 2 1 ZG vs' (c.stk.take j.height.toNat++c.stk.drop (c.stk.length-j.keep.toNat))::l)):=by
 refine Fc.of Tryz.func113 rfl k_d ?_
 have hst:=H.one 1 rfl
 obtain ⟨kk,hkk⟩:=lra h1
 obtain ⟨hh,hhh⟩:=lra h0
 rw [hkk,hhh,lja,lja]
 refine ZI H<|fun p1 w1 H=>ZN H [] [AUp0,AUp1,AUp2,AUh3,AUp4,AUp5,AUp6,AUh7,AUp8,AUp9,AUh10,AUp11,AUp12,AUp13] mixed k_d k_d<|fun w2 H=>tk (fun _ Z=>Z9 rfl AX)<|tk (fun _ Z=>Z5 (Z.el 1 rfl E hx) 3 rfl rfl rfl AX)<|tk (fun _ Z=>Z9 rfl AX)<|tk (fun _ Z=>Z5 (Z.el 1 rfl E hx) 3 rfl rfl rfl AX) ?_
 obtain ⟨a1,c1,V1⟩:=H.form 2 rfl
 refine tk (fun _ Z=>XQ V1 rfl AX)<|tk (fun _ Z=>Z9 rfl AX)<|tk (fun _ Z=>Z5 (Z.at 0 rfl) 1 rfl rfl rfl AX)<|ZW A8 ?_
 obtain ⟨v1,V2⟩:=H.vw 2 rfl (((c.stk.length)-(kk))) ((c.stk).length) A8 A8
 refine tk (fun _ Z=>VL V2 rfl rfl (.inr ⟨_,by first|rfl|(congr 2;omega)⟩) (.inl AX) AX)<|ZN H [] [AUp0,AUp1,AUp2,AUp3,AUh4,AUp5,AUh6,AUp7,AUp8,AUfr9,AUp10,AUp11,AUfr12] mixed k_d k_d<|fun w1 H=>tk (fun _ Z=>Z9 rfl AX)<|tk (fun _ Z=>Z5 (Z.el 1 rfl E hx) 3 rfl rfl rfl AX)<|tk (fun _ Z=>Z9 rfl AX)<|tk (fun _ Z=>Z5 (Z.at 0 rfl) 2 rfl rfl rfl AX) ?_
 obtain ⟨v2,V3⟩:=H.vw 2 rfl (0) ((hh)) A8 A8
 refine tk (fun _ Z=>VL V3 rfl rfl (.inl AX) (.inr ⟨_,by first|rfl|(congr 2;omega)⟩) AX)<|akv 8 H 2 rfl V3 V2 (fun y _=>rfl) rfl rfl rfl A8 A8<|fun v3=>?_
 intro w2 H
 refine tk (fun _ Z=>Z9 rfl AX)<|Yz H 1 rfl E hx 3 (⟨c.fn,c.at_,c.vl,c.loc,(v3),c.stk.take hh++c.stk.drop (c.stk.length-kk)⟩) rfl (by simp only [Bool.and_true,H.one 1 rfl,H.one 2 rfl,Vw.one V3,Vw.one V2,hst]) rfl rfl<|fun w1 H=>Z9 rfl<|Z5 (H.at 0 rfl) 0 rfl rfl rfl<|Z9 rfl ?_
 have hx1:(cs.set i { fn:=c.fn,at_:=c.at_,vl:=c.vl,loc:=c.loc,vs:=v3,stk:=List.take hh c.stk++List.drop (c.stk.length-kk) c.stk })[i]?=some _:=WH hx
 refine Yz H 1 rfl E hx1 1 (⟨c.fn,j.at_,c.vl,c.loc,_,c.stk.take hh++c.stk.drop (c.stk.length-kk)⟩) rfl rfl rfl rfl<|fun w2 H=>Z6.mk ?_
 refine ⟨v3,?_⟩
 refine H.Z8 [2,2]<|fun H=>H.drop 2<|fun H=>?_
 refine H.cg (YM (QG ?_) (YM rfl (rfl)))
 (simp;done)
end
end Rn
namespace Rn
open Go YX Go.RowKit
open YT Zl X9 YO Valid Mem
section
variable {g:Zy} {w:World} {l:List As} {m:Zg} {pr cp mp:Nat} {vw vc vt vg va:Value} {host:Int} {cs:List CV} {args:List Int} {c u:CV}
theorem afe (H:Sat g w (Pt pr [AV cp,vw,vc,AW host] 148::Pt cp (AY m [AV mp,vt,vg]) 158::Sl 79 4 Yj vc cs::Sl 2 1 ZG va args::l)) (hm:XZ g m) (n:Nat) (f:YF) (hf:m.funcs[n]?=some f) (h1:f.loc.length≤16) (h2:args.length≤16) (h3:cs.length≤100) (hnf:m.funcs.length≤16) :
  Fc Tryz.prog 79 #[AV pr,AW n,va] w (fun r w'=>∃PT Ik,Sat g w' (Pt pr [AV cp,vw,PT,AW host] 148::Pt cp (AY m [AV mp,vt,vg]) 158::Sl 79 4 Yj PT (cs++[⟨n,0,Ik,args++List.replicate f.loc.length 0,.slice none 0 0,[]⟩])::Sl 2 1 ZG Ik (args++List.replicate f.loc.length 0)::Sl 2 1 ZG (.slice none 0 0) []::l)):=by
 refine Fc.of Tryz.func79 rfl k_d ?_
 have ZX:=hm.funcs
 have hfo:=Z0.all ZX f (lda hf)
 have agY:=hfo.loc
 replace H:=H.U0 (en:=ZG) (s:=1) 2 (fun _=>rfl)
 refine Z9 rfl<|Z5 (H.at 1 rfl) 0 rfl rfl rfl<|Z9 rfl<|Z9 rfl<|Z5 (H.at 2 rfl) 2 rfl rfl rfl ?_
 obtain ⟨b1,o1,E1,F1,ZL⟩:=Z0.Zc ZX hf
 have Yk:=ZL.ty
 have Zv:=ZL.loc
 have ZH:=ZL.body
 refine ZK E1 rfl rfl rfl<|Z9 rfl<|Z5 (H.Yu F1) 1 rfl rfl rfl<|ZC Zv rfl<|amN (zx:=(0:Int)) 8 H 4 rfl rfl rfl rfl rfl rfl rfl A8 A8<|fun v1=>?_
 intro w1 H
 refine Z9 rfl<|Z5 (H.at 1 rfl) 2 rfl rfl rfl ?_
 obtain ⟨a1,c1,rfl⟩:=H.form 4 rfl
 refine Zi rfl rfl rfl<|ZZ H rfl rfl rfl rfl<|fun p1 w2 H=>Wv (ys:=[⟨n,0,_,args++List.replicate f.loc.length 0,.slice none 0 0,[]⟩]) 64 H 4 rfl (H.at 0 rfl) rfl (fun y hy=>by rw [lsa.1 hy];simp only [Rn.Yj,List.all_cons,List.all_nil,H.one 1 rfl,H.one 4 rfl,H.one 5 rfl,Z0.one ZH,Z0.one Zv,Z0.one agY,Z0.one ZX];rfl) rfl rfl rfl A8 A8<|fun v1=>?_
 intro w1 H
 refine Z9 rfl<|XD H 2 rfl rfl rfl (H.one 4 rfl)<|fun w2 H=>Z6.mk ?_
 refine ⟨v1,Value.slice a1 (args++List.replicate f.loc.length 0).length c1,?_⟩
 refine H.Z8 [1,5,5,5,5]<|fun H=>H.drop 5<|fun H=>?_
 exact H
theorem Pz (H:Sat g w (Sl 2 1 ZG va args::l)) (hl:args.length≤100000):Fc Tryz.prog 50 #[va] w (fun u w'=>Sat g w' (Sl 2 1 ZG u args::Sl 2 1 ZG va args::l)):=by
 refine Fc.of Tryz.func50 rfl k_d ?_
 rcases H.Tc 0 rfl with ⟨Ng,Nf⟩|⟨b1,o1,c1,V1⟩
 ·subst Ng
  subst Nf
  refine XE rfl<|cT rfl<|Z6.mk ?_
  replace H:=H.U0 (en:=ZG) (s:=1) (2) (fun _=>rfl)
  exact H
 subst V1
 refine XE rfl<|cF rfl<|ZZ H rfl rfl rfl rfl<|fun p1 w1 H=>H.WG (n:=0) (en:=ZG) (s:=1) 0 rfl [] rfl rfl (fun _=>rfl) rfl<|fun H=>UM 8 H 0 rfl (H.EV (ok:=fun _=>True) 1 rfl (fun _ _=>trivial)) (fun y _=>rfl) rfl rfl rfl (by grind) (by grind)<|fun v1=>?_
 intro w2 H
 refine Z6.mk ?_
 exact H
theorem K4 {v v1:Value} {xs:List Int} {a:Nat} (H:Sat g w (Sl 2 1 ZG v xs::l)) (V:Vw v 1 xs.length a xs.length v1) (hl:xs.length≤100000):Fc Tryz.prog 50 #[v1] w (fun u w'=>Sat g w' (Sl 2 1 ZG u (xs.drop a)::Sl 2 1 ZG v xs::l)):=by
 refine Fc.of Tryz.func50 rfl k_d ?_
 have hle:=V.le
 obtain ⟨A,q,he,h0⟩:∃A q,v1=.slice A (xs.length-a) q∧(A=none→xs.drop a=[]):=by
  obtain ⟨ad,cap,hv,_,_,_,_,Lr⟩:=V
  refine ⟨_,_,Lr,fun hn=>?_⟩
  cases ad with
  | none =>
   rcases (H.off 0 rfl).1 with ⟨_,hx⟩|⟨_,_,_,_,h,_⟩
   ·grind
   ·grind
  | some p =>
   split at hn
   ·grind
   ·grind
 cases A with
 | none =>
  rw [h0 rfl]
  subst he
  replace H:=H.U0 (en:=ZG) (s:=1) 2 (fun _=>rfl)
  refine XE rfl<|cT rfl<|Z6.mk ?_
  exact H
 | some p =>
  subst he
  refine XE rfl<|cF rfl<|ZZ H rfl rfl rfl rfl<|fun p1 w1 H=>H.WG (n:=0) (en:=ZG) (s:=1) 0 rfl [] rfl rfl (fun _=>rfl) rfl<|fun H=>UM 8 H 0 rfl (H.rdv (ok:=fun _=>True) 1 rfl V (fun _ _=>trivial)) (fun y _=>rfl) rfl rfl rfl (by grind) (by grind)<|fun v1=>?_
  intro w2 H
  refine Z6.mk ?_
  refine H.cg (YM (QG ?_) (YM rfl (rfl)))
  (simp;done)
theorem aff (H:Sat g w (Pt pr [AV cp,vw,vc,AW host] 148::Sl 79 4 Yj vc cs::Sl 2 1 ZG c.vs c.stk::l)) (hcs:cs=[c]) (hvl:c.vl.oneCell'=true) (hvs:c.vs.oneCell'=true) (hl:c.stk.length≤100000) :
  Fc Tryz.prog 112 #[AV pr] w (fun r w'=>∃PT v',r=.tuple #[v',.bool true]∧Sat g w' (Pt pr [AV cp,vw,PT,AW host] 148::Sl 79 4 Yj PT ([]:List CV)::Sl 2 1 ZG v' c.stk::l)):=by
 refine Fc.of Tryz.func112 rfl k_d ?_
 have hn:cs.length=1:=by grind
 have hx:cs[cs.length-1]?=some c:=by grind
 have QN:List.drop 0 (cs.take (cs.length-1))=([]:List CV):=by grind
 refine ZN H [] [AUp0,AUp1,AUp2,AUh3,AUp4,AUp5,AUp6,AUh7,AUp8,AUp9,AUp10,AUh11,AUf12,AUfr13] mixed k_d k_d<|fun w1 H=>tk (fun _ Z=>Z9 rfl AX)<|tk (fun _ Z=>Z5 (Z.at 0 rfl) 2 rfl rfl rfl AX)<|tk (fun _ Z=>Z9 rfl AX)<|tk (fun _ Z=>Z5 (Z.at 0 rfl) 2 rfl rfl rfl AX) ?_
 obtain ⟨a1,c1,V1⟩:=H.form 1 rfl
 refine tk (fun _ Z=>XQ V1 rfl AX)<|ZW A8 ?_
 obtain ⟨b1,o1,E1⟩:=H.Zc 1 rfl ((cs.length)-1) A8
 refine tk (fun _ Z=>ZK E1 A8 rfl rfl AX)<|tk (fun _ Z=>ZD (Z.el 1 rfl E1 hx) 0 rfl rfl rfl AX)<|ZU H rfl<|fun p1 w2 H=>Y9.mk (H.drop 0 (fun H=>H))<|ZE H 0 rfl rfl rfl (by simp only [List.all_cons,List.all_nil,H.one 2 rfl,H.one 3 rfl,hvs,hvl];rfl)<|fun w1 H=>Z9 rfl<|Z5 (H.at 0 rfl) 3 rfl rfl rfl<|H.Z8 [3]<|fun H=>?_
 refine Z7.mk (Fc.imp (Rn.Pz H A8) ?_)
 clear H
 rintro v' w2 H
 refine ZN H [] [AUp0,AUp1,AUp2,AUp3,AUh4,AUp5,AUp6,AUp7,AUh8,AUp9,AUp10,AUp11,AUp12,AUp13,AUfr14] mixed k_d k_d<|fun w3 H=>tk (fun _ Z=>Z9 rfl AX)<|tk (fun _ Z=>Z5 (Z.at 3 rfl) 2 rfl rfl rfl AX)<|tk (fun _ Z=>Z9 rfl AX)<|tk (fun _ Z=>Z5 (Z.at 3 rfl) 2 rfl rfl rfl AX)<|tk (fun _ Z=>XQ V1 rfl AX)<|ZW A8 ?_
 obtain ⟨v1,V2⟩:=H.vw 4 rfl (0) (((cs.length)-1)) A8 A8
 refine tk (fun _ Z=>VL V2 rfl rfl (.inl AX) (.inr ⟨_,by first|rfl|(congr 2;omega)⟩) AX)<|tk (fun _ Z=>Z9 rfl AX)<|XD H 3 rfl rfl rfl (by simp only [Bool.and_true,H.one 0 rfl,H.one 1 rfl,H.one 4 rfl,Vw.one V2,hvs,hvl])<|fun w2 H=>Z9 rfl<|Z5 (H.at 3 rfl) 2 rfl rfl rfl<|JL V2 rfl ?_
 replace H:=H.HR 4 rfl V2
 simp only [List.set_cons_succ,List.set_cons_zero,QN] at H
 refine cT (ZJ A8)<|Z6.mk ?_
 refine ⟨v1,v',?_⟩
 refine ⟨rfl,?_⟩
 refine H.Z8 [0,4,4]<|fun H=>H.drop 4<|fun H=>H.drop 3<|fun H=>?_
 exact H
theorem afg {up:List CV} (H:Sat g w (Pt pr [AV cp,vw,vc,AW host] 148::Sl 79 4 Yj vc cs::Sl 2 1 ZG c.vs c.stk::Sl 2 1 ZG u.vs u.stk::l)) (hcs:cs=up++[u]++[c]) (hvl:c.vl.oneCell'=true) (hvs:c.vs.oneCell'=true) (hl:c.stk.length≤10000) (ER:u.stk.length≤10000) (hle:cs.length≤1000) :
  Fc Tryz.prog 112 #[AV pr] w (fun r w'=>∃PT vs',r=.tuple #[.slice none 0 0,.bool false]∧Sat g w' (Pt pr [AV cp,vw,PT,AW host] 148::Sl 79 4 Yj PT (up++[⟨u.fn,u.at_,u.vl,u.loc,vs',u.stk++c.stk⟩])::Sl 2 1 ZG vs' (u.stk++c.stk)::l)):=by
 refine Fc.of Tryz.func112 rfl k_d ?_
 have hn:cs.length=up.length+2:=by grind
 have hx:cs[cs.length-1]?=some c:=by grind
 have hu0:(cs.take (cs.length-1)).length=up.length+1:=by grind
 have QN:List.drop 0 (cs.take (cs.length-1))=up++[u]:=by grind
 refine ZN H [] [AUp0,AUp1,AUp2,AUh3,AUp4,AUp5,AUp6,AUh7,AUp8,AUp9,AUp10,AUh11,AUf12,AUfr13] mixed k_d k_d<|fun w1 H=>tk (fun _ Z=>Z9 rfl AX)<|tk (fun _ Z=>Z5 (Z.at 0 rfl) 2 rfl rfl rfl AX)<|tk (fun _ Z=>Z9 rfl AX)<|tk (fun _ Z=>Z5 (Z.at 0 rfl) 2 rfl rfl rfl AX) ?_
 obtain ⟨a1,c1,V1⟩:=H.form 1 rfl
 refine tk (fun _ Z=>XQ V1 rfl AX)<|ZW A8 ?_
 obtain ⟨b1,o1,E1⟩:=H.Zc 1 rfl ((cs.length)-1) A8
 refine tk (fun _ Z=>ZK E1 A8 rfl rfl AX)<|tk (fun _ Z=>ZD (Z.el 1 rfl E1 hx) 0 rfl rfl rfl AX)<|ZU H rfl<|fun p1 w2 H=>Y9.mk (H.drop 0 (fun H=>H))<|ZE H 0 rfl rfl rfl (by simp only [List.all_cons,List.all_nil,H.one 2 rfl,H.one 3 rfl,H.one 4 rfl,hvs,hvl];rfl)<|fun w1 H=>Z9 rfl<|Z5 (H.at 0 rfl) 3 rfl rfl rfl<|H.Z8 [3]<|fun H=>?_
 refine Z7.mk (Fc.imp (Rn.Pz H A8) ?_)
 clear H
 rintro v' w2 H
 refine ZN H [] [AUp0,AUp1,AUp2,AUp3,AUh4,AUp5,AUp6,AUp7,AUh8,AUp9,AUp10,AUp11,AUp12,AUp13,AUfr14] mixed k_d k_d<|fun w3 H=>tk (fun _ Z=>Z9 rfl AX)<|tk (fun _ Z=>Z5 (Z.at 3 rfl) 2 rfl rfl rfl AX)<|tk (fun _ Z=>Z9 rfl AX)<|tk (fun _ Z=>Z5 (Z.at 3 rfl) 2 rfl rfl rfl AX)<|tk (fun _ Z=>XQ V1 rfl AX)<|ZW A8 ?_
 obtain ⟨v1,V2⟩:=H.vw 4 rfl (0) (((cs.length)-1)) A8 A8
 refine tk (fun _ Z=>VL V2 rfl rfl (.inl AX) (.inr ⟨_,by first|rfl|(congr 2;omega)⟩) AX)<|tk (fun _ Z=>Z9 rfl AX)<|XD H 3 rfl rfl rfl (by simp only [Bool.and_true,H.one 0 rfl,H.one 1 rfl,H.one 4 rfl,H.one 5 rfl,Vw.one V2,hvs,hvl])<|fun w2 H=>Z9 rfl<|Z5 (H.at 3 rfl) 2 rfl rfl rfl<|JL V2 rfl ?_
 replace H:=H.HR 4 rfl V2
 rw [QN] at H
 simp only [List.set_cons_succ,List.set_cons_zero] at H
 have Gb:cs.length-1-0-1=up.length:=by omega
 have hux:(up++[u])[cs.length-1-0-1]?=some u:=by grind
 have WK:∀z,(up++[u]).set (cs.length-1-0-1) z=up++[z]:=fun z=>by rw [Gb];simp
 refine cF (Z4 A8)<|ZN H [] [AUp0,AUp1,AUp2,AUh3,AUp4,AUp5,AUp6,AUh7,AUp8,AUp9,AUp10,AUp11] mixed k_d k_d<|fun w3 H=>tk (fun _ Z=>Z9 rfl AX)<|tk (fun _ Z=>Z5 (Z.at 3 rfl) 2 rfl rfl rfl AX)<|tk (fun _ Z=>Z9 rfl AX)<|tk (fun _ Z=>Z5 (Z.at 3 rfl) 2 rfl rfl rfl AX)<|tk (fun _ Z=>JL V2 rfl AX)<|ZW A8 ?_
 obtain ⟨b2,o2,E2⟩:=H.Zc 4 rfl ((cs.length-1-0)-1) (by grind)
 refine tk (fun _ Z=>ZK E2 A8 rfl rfl AX)<|Z9 rfl<|Z5 (H.el 4 rfl E2 hux) 3 rfl rfl rfl<|UM 8 H 5 rfl (H.EV (ok:=fun _=>True) 0 rfl (fun _ _=>trivial)) (fun y _=>rfl) rfl rfl rfl A8 A8<|fun v2=>?_
 intro w2 H
 refine Z9 rfl<|Yz H 4 rfl E2 hux 3 (⟨u.fn,u.at_,u.vl,u.loc,_,u.stk++c.stk⟩) rfl (by simp only [Bool.and_true,H.one 0 rfl,H.one 1 rfl,H.one 4 rfl,H.one 5 rfl,Vw.one V2,hvs,hvl]) rfl rfl<|fun w3 H=>?_
 simp only [WK] at H
 refine Z6.mk ⟨v1,v2,rfl,?_⟩
 refine H.Z8 [5,5,5]<|fun H=>H.drop 5<|fun H=>H.drop 4<|fun H=>H.drop 3<|fun H=>?_
 exact H
end
end Rn
namespace Rn
open Go YX Go.RowKit
open YT Zl X9 YO Valid Mem
section
variable {g:Zy} {w:World} {l:List As} {m:Zg} {pr cp mp:Nat} {vw vc vt vg SS:Value} {host f e:Int} {cs:List CV} {Zr s2:List Int} {u:CV} {x:ZT} {i b o:Nat}
theorem Re {n1 n2:Int} {q:Int × List Int × Int} {s:List Int} (h:(n1,s,n2)=q) (hq:q=(f,s2,e)):f=n1∧s2=s∧e=n2:=by grind
theorem agZ {n:Int} (h0:(m.ZA.length:Int)≤n) (h1:n<(m.ZA.length:Int)+m.funcs.length):∃(k:Nat) (F:YF),n=m.ZA.length+k∧m.funcs[k]?=some F∧W4 m.d (n-Y1 m.d)=F.d:=by
 obtain ⟨k,hk⟩:=lra (show 0≤n-m.ZA.length by omega)
 have IY:k<m.funcs.length:=by omega
 refine ⟨k,m.funcs[k],by omega,laa IY,?_⟩
 unfold W4 Y1
 show (m.funcs.map YF.d).getD (n-(m.ZA.length:Int)).toNat _=_
 rw [hk,lja,lka,lAa,laa IY];rfl
theorem afh (E:El vc 4 i b o) (c:CV) (hx:cs[i]?=some c) (H:Sat g w (Pt pr [AV cp,vw,vc,AW host] 148::Pt cp (AY m [AV mp,vt,vg]) 158::Sl 3 1 ZG vt Zr::Sl 79 4 Yj vc cs::Sl 2 1 ZG c.vs c.stk::l)) (hm:XZ g m) (P:Us m.d) (ho:x.op=16∨x.op=17) (Q6:∀n∈Zr,-1≤n∧n<(m.ZA.length:Int)+m.funcs.length) (h1:x.op=17→1≤c.stk.length∧0≤x.a∧x.a<m.types.length) (TZ:∀v∈c.stk,Xz v) (hlen:c.stk.length≤10000) (Mo:Zr.length≤1000) (Ug:cs.length≤40) (hvl:c.vl.oneCell'=true) (hq:YY m.d Zr x c.stk=(f,s2,e)) (he:e≠0):Fc Tryz.prog 163 #[AV pr,.pointer (some ⟨b,o,none⟩),.agg #[.int .u8 x.op,AW x.a,AW x.b,SS]] w (fun r w'=>r=.agg #[AW 2,.slice none 0 0,AW e,AW 0,AW 0]∧Sat g w' (Pt pr [AV cp,vw,vc,AW host] 148::Pt cp (AY m [AV mp,vt,vg]) 158::Sl 3 1 ZG vt Zr::l)):=by
 refine Fc.of Tryz.func163 rfl k_d ?_
 have ZR:=hm.types
 have Zx:=hm.ZA
 have ZX:=hm.funcs
 have hvs:=H.one 4 rfl
 have hni:m.ZA.length≤16:=P.ni
 have hnf:m.funcs.length≤16:=by have:=P.nf;rwa [show m.d.funcs.length=m.funcs.length from lea ..] at this
 refine ZI H<|fun p1 w1 H=>ZU H rfl<|fun p2 w2 H=>ZN H [] [AUp0,AUp1,AUp2,AUh3,AUh4,AUp5,AUp6,AUp7,AUh8,AUfr9,AUp10,AUp11,AUp12,AUp13,AUp14,AUp15,AUp16] mixed k_d k_d<|fun w1 H=>tk (fun _ Z=>Z9 rfl AX)<|tk (fun _ Z=>Z5 (Z.at 2 rfl) 0 rfl rfl rfl AX)<|tk (fun _ Z=>ZD (Z.at 1 rfl) 0 rfl rfl rfl AX)<|tk (fun _ Z=>Z9 rfl AX)<|tk (fun _ Z=>Z5 (Z.el 5 rfl E hx) 3 rfl rfl rfl AX)<|H.Z8 [6,5,5]<|fun H=>?_
 refine Z7.mk (Fc.imp (Rn.Ob H A8 A8 A8 A8 A8 A8 A8 A8) ?_)
 clear H
 rintro _ w2 ⟨f1,⟨Zt,⟨RF,⟨e1,⟨rfl,⟨h2,H⟩⟩⟩⟩⟩⟩
 obtain ⟨rfl,rfl,rfl⟩:=Re h2 hq
 refine Z9 rfl<|Yz H 6 rfl E hx 3 (⟨c.fn,c.at_,c.vl,c.loc,(Zt),s2⟩) rfl k_p rfl rfl<|fun w3 H=>cT (VD A7)<|Zi rfl rfl rfl<|ZE H 3 rfl rfl rfl rfl<|fun w2 H=>Xt (H.at 3 rfl) 0 rfl rfl rfl<|Z6.mk ?_
 refine ⟨rfl,?_⟩
 refine H.Z8 [1,1,5]<|fun H=>H.drop 6<|fun H=>H.drop 5<|fun H=>H.drop 4<|fun H=>H.drop 3<|fun H=>?_
 exact H
theorem afi (E:El vc 4 i b o) (c:CV) (hx:cs[i]?=some c) (H:Sat g w (Pt pr [AV cp,vw,vc,AW host] 148::Pt cp (AY m [AV mp,vt,vg]) 158::Sl 3 1 ZG vt Zr::Sl 79 4 Yj vc cs::Sl 2 1 ZG c.vs c.stk::l)) (hm:XZ g m) (P:Us m.d) (ho:x.op=16∨x.op=17) (Q6:∀n∈Zr,-1≤n∧n<(m.ZA.length:Int)+m.funcs.length) (h1:x.op=17→1≤c.stk.length∧0≤x.a∧x.a<m.types.length) (TZ:∀v∈c.stk,Xz v) (hlen:c.stk.length≤10000) (Mo:Zr.length≤1000) (Ug:cs.length≤40) (hvl:c.vl.oneCell'=true) (hq:YY m.d Zr x c.stk=(f,s2,0)) (hf:0≤f∧f<(m.ZA.length:Int)+m.funcs.length) (K5:(YU m.d f).Ze.length≤s2.length) (IC:s2.length≤10000) (Bs:(m.ZA.length:Int)≤f) (Br:cs.length=40):Fc Tryz.prog 163 #[AV pr,.pointer (some ⟨b,o,none⟩),.agg #[.int .u8 x.op,AW x.a,AW x.b,SS]] w (fun r w'=>r=.agg #[AW 2,.slice none 0 0,AW 26,AW 0,AW 0]∧Sat g w' (Pt pr [AV cp,vw,vc,AW host] 148::Pt cp (AY m [AV mp,vt,vg]) 158::Sl 3 1 ZG vt Zr::l)):=by
 refine Fc.of Tryz.func163 rfl k_d ?_
 have ZR:=hm.types
 have Zx:=hm.ZA
 have ZX:=hm.funcs
 have hvs:=H.one 4 rfl
 have hni:m.ZA.length≤16:=P.ni
 have hnf:m.funcs.length≤16:=by have:=P.nf;rwa [show m.d.funcs.length=m.funcs.length from lea ..] at this
 have hty:∀t:XC,t.d=YU m.d f→t.Ze.length=(YU m.d f).Ze.length:=fun t h=>by rw [←h];rfl
 refine ZI H<|fun p1 w1 H=>ZU H rfl<|fun p2 w2 H=>ZN H [] [AUp0,AUp1,AUp2,AUh3,AUh4,AUp5,AUp6,AUp7,AUh8,AUfr9,AUp10,AUp11,AUp12,AUp13,AUp14,AUp15,AUp16] mixed k_d k_d<|fun w1 H=>tk (fun _ Z=>Z9 rfl AX)<|tk (fun _ Z=>Z5 (Z.at 2 rfl) 0 rfl rfl rfl AX)<|tk (fun _ Z=>ZD (Z.at 1 rfl) 0 rfl rfl rfl AX)<|tk (fun _ Z=>Z9 rfl AX)<|tk (fun _ Z=>Z5 (Z.el 5 rfl E hx) 3 rfl rfl rfl AX)<|H.Z8 [6,5,5]<|fun H=>?_
 refine Z7.mk (Fc.imp (Rn.Ob H A8 A8 A8 A8 A8 A8 A8 A8) ?_)
 clear H
 rintro _ w2 ⟨f1,⟨Zt,⟨RF,⟨e1,⟨rfl,⟨h2,H⟩⟩⟩⟩⟩⟩
 obtain ⟨rfl,rfl,rfl⟩:=Re h2 hq
 refine Z9 rfl<|Yz H 6 rfl E hx 3 (⟨c.fn,c.at_,c.vl,c.loc,(Zt),s2⟩) rfl k_p rfl rfl<|fun w3 H=>cF (XU A8)<|ZN H [] [AUp0,AUp1,AUp2,AUh3,AUp4,AUp5,AUp6,AUp7,AUh8,AUp9,AUf10,AUp11,AUp12,AUp13,AUp14] mixed k_d k_d<|fun w2 H=>tk (fun _ Z=>Z9 rfl AX) ?_
 have hx1:(cs.set i { fn:=c.fn,at_:=c.at_,vl:=c.vl,loc:=c.loc,vs:=Zt,stk:=s2 })[i]?=some _:=WH hx
 refine tk (fun _ Z=>Z5 (Z.el 6 rfl E hx1) 3 rfl rfl rfl AX) ?_
 obtain ⟨a1,c1,V1⟩:=H.form 2 rfl
 refine tk (fun _ Z=>XQ V1 rfl AX)<|tk (fun _ Z=>Z9 rfl AX)<|tk (fun _ Z=>Z5 (Z.at 5 rfl) 0 rfl rfl rfl AX) ?_
 refine Z7.mk (Fc.imp (Rn.Ma H A8 A8 _ A8 A8) ?_)
 clear H
 rintro _ w3 ⟨t1,⟨rfl,⟨h3,⟨h4,⟨h5,⟨h6,⟨h7,H⟩⟩⟩⟩⟩⟩⟩
 have Hh:=hty _ A7
 have Jf:=Wu.Ze (by assumption:Wu g _)
 refine Y9.mk (H)<|tk (fun _ Z=>Ui rfl AX)<|tk (fun _ Z=>ZC Jf rfl AX)<|ZW A8<|Z9 rfl<|Z5 (H.el 6 rfl E hx1) 3 rfl rfl rfl ?_
 obtain ⟨v1,V2⟩:=H.vw 2 rfl (((s2.length)-(t1.Ze.length))) ((s2).length) A8 A8
 refine VL V2 rfl rfl (.inr ⟨_,by first|rfl|(congr 2;omega)⟩) (.inl ⟨rfl,rfl⟩)<|H.Z8 [2]<|fun H=>?_
 refine Z7.mk (Fc.imp (Rn.K4 H V2 A8) ?_)
 clear H
 rintro v' w4 H
 refine Z9 rfl<|Z5 (H.at 6 rfl) 0 rfl rfl rfl<|Z9 rfl<|Z9 rfl<|Z5 (H.at 2 rfl) 1 rfl rfl rfl<|ZC Zx rfl<|ZW A8<|Va (Yl A8)<|Z9 rfl<|Z5 (H.at 6 rfl) 2 rfl rfl rfl<|YJ H 7 rfl rfl<|cT (ZJ (by grind))<|Zi rfl rfl rfl<|ZE H 4 rfl rfl rfl rfl<|fun w5 H=>Xt (H.at 4 rfl) 0 rfl rfl rfl<|Z6.mk ?_
 refine ⟨rfl,?_⟩
 refine H.Z8 [3,3,6]<|fun H=>H.drop 7<|fun H=>H.drop 6<|fun H=>H.drop 5<|fun H=>H.drop 4<|fun H=>H.drop 3<|fun H=>?_
 exact H
theorem afj (E:El vc 4 i b o) (c:CV) (hx:cs[i]?=some c) (H:Sat g w (Pt pr [AV cp,vw,vc,AW host] 148::Pt cp (AY m [AV mp,vt,vg]) 158::Sl 3 1 ZG vt Zr::Sl 79 4 Yj vc cs::Sl 2 1 ZG c.vs c.stk::l)) (hm:XZ g m) (P:Us m.d) (ho:x.op=16∨x.op=17) (Q6:∀n∈Zr,-1≤n∧n<(m.ZA.length:Int)+m.funcs.length) (h1:x.op=17→1≤c.stk.length∧0≤x.a∧x.a<m.types.length) (TZ:∀v∈c.stk,Xz v) (hlen:c.stk.length≤10000) (Mo:Zr.length≤1000) (Ug:cs.length≤40) (hvl:c.vl.oneCell'=true) (hq:YY m.d Zr x c.stk=(f,s2,0)) (hf:0≤f∧f<(m.ZA.length:Int)+m.funcs.length) (K5:(YU m.d f).Ze.length≤s2.length) (IC:s2.length≤10000) (Bs:f<m.ZA.length):Fc Tryz.prog 163 #[AV pr,.pointer (some ⟨b,o,none⟩),.agg #[.int .u8 x.op,AW x.a,AW x.b,SS]] w (fun r w'=>∃vs' vv,r=.agg #[AW 4,vv,AW 0,AW f,AW 0]∧Sat g w' (Pt pr [AV cp,vw,vc,AW (f+1)] 148::Pt cp (AY m [AV mp,vt,vg]) 158::Sl 3 1 ZG vt Zr::Sl 79 4 Yj vc (cs.set i ⟨c.fn,c.at_,c.vl,c.loc,vs',s2.take (s2.length-(YU m.d f).Ze.length)⟩)::Sl 2 1 ZG vs' (s2.take (s2.length-(YU m.d f).Ze.length))::Sl 2 1 ZG vv (s2.drop (s2.length-(YU m.d f).Ze.length))::l)):=by
 refine Fc.of Tryz.func163 rfl k_d ?_
 have ZR:=hm.types
 have Zx:=hm.ZA
 have ZX:=hm.funcs
 have hvs:=H.one 4 rfl
 have hni:m.ZA.length≤16:=P.ni
 have hnf:m.funcs.length≤16:=by have:=P.nf;rwa [show m.d.funcs.length=m.funcs.length from lea ..] at this
 have hty:∀t:XC,t.d=YU m.d f→t.Ze.length=(YU m.d f).Ze.length:=fun t h=>by rw [←h];rfl
 refine ZI H<|fun p1 w1 H=>ZU H rfl<|fun p2 w2 H=>ZN H [] [AUp0,AUp1,AUp2,AUh3,AUh4,AUp5,AUp6,AUp7,AUh8,AUfr9,AUp10,AUp11,AUp12,AUp13,AUp14,AUp15,AUp16] mixed k_d k_d<|fun w1 H=>tk (fun _ Z=>Z9 rfl AX)<|tk (fun _ Z=>Z5 (Z.at 2 rfl) 0 rfl rfl rfl AX)<|tk (fun _ Z=>ZD (Z.at 1 rfl) 0 rfl rfl rfl AX)<|tk (fun _ Z=>Z9 rfl AX)<|tk (fun _ Z=>Z5 (Z.el 5 rfl E hx) 3 rfl rfl rfl AX)<|H.Z8 [6,5,5]<|fun H=>?_
 refine Z7.mk (Fc.imp (Rn.Ob H A8 A8 A8 A8 A8 A8 A8 A8) ?_)
 clear H
 rintro _ w2 ⟨f1,⟨Zt,⟨RF,⟨e1,⟨rfl,⟨h2,H⟩⟩⟩⟩⟩⟩
 obtain ⟨rfl,rfl,rfl⟩:=Re h2 hq
 refine Z9 rfl<|Yz H 6 rfl E hx 3 (⟨c.fn,c.at_,c.vl,c.loc,(Zt),s2.take (s2.length-(YU m.d f).Ze.length)⟩) rfl k_p rfl rfl<|fun w3 H=>cF (XU A8)<|ZN H [] [AUp0,AUp1,AUp2,AUh3,AUp4,AUp5,AUp6,AUp7,AUh8,AUp9,AUf10,AUp11,AUp12,AUp13,AUp14] mixed k_d k_d<|fun w2 H=>tk (fun _ Z=>Z9 rfl AX) ?_
 have hx1:(cs.set i { fn:=c.fn,at_:=c.at_,vl:=c.vl,loc:=c.loc,vs:=Zt,stk:=List.take (s2.length-(YU m.d f).Ze.length) s2 })[i]?=some _:=WH hx
 refine tk (fun _ Z=>Z5 (Z.el 6 rfl E hx1) 3 rfl rfl rfl AX) ?_
 obtain ⟨a1,c1,V1⟩:=H.form 2 rfl
 refine tk (fun _ Z=>XQ V1 rfl AX)<|tk (fun _ Z=>Z9 rfl AX)<|tk (fun _ Z=>Z5 (Z.at 5 rfl) 0 rfl rfl rfl AX) ?_
 refine Z7.mk (Fc.imp (Rn.Ma H A8 A8 _ A8 A8) ?_)
 clear H
 rintro _ w3 ⟨t1,⟨rfl,⟨h3,⟨h4,⟨h5,⟨h6,⟨h7,H⟩⟩⟩⟩⟩⟩⟩
 have Hh:=hty _ A7
 have Jf:=Wu.Ze (by assumption:Wu g _)
 refine Y9.mk (H)<|tk (fun _ Z=>Ui rfl AX)<|tk (fun _ Z=>ZC Jf rfl AX)<|ZW A8<|Z9 rfl<|Z5 (H.el 6 rfl E hx1) 3 rfl rfl rfl ?_
 obtain ⟨v1,V2⟩:=H.vw 2 rfl (((s2.length)-(t1.Ze.length))) ((s2).length) A8 A8
 refine VL V2 rfl rfl (.inr ⟨_,by first|rfl|(congr 2;omega)⟩) (.inl ⟨rfl,rfl⟩)<|H.Z8 [2]<|fun H=>?_
 refine Z7.mk (Fc.imp (Rn.K4 H V2 A8) ?_)
 clear H
 rintro v' w4 H
 refine Z9 rfl<|Z5 (H.at 6 rfl) 0 rfl rfl rfl<|Z9 rfl<|Z9 rfl<|Z5 (H.at 2 rfl) 1 rfl rfl rfl<|ZC Zx rfl<|ZW A8<|XM (YH A8)<|cF rfl<|Z9 rfl<|Z5 (H.el 7 rfl E hx1) 3 rfl rfl rfl ?_
 obtain ⟨v2,V3⟩:=H.vw 1 rfl (0) (((s2.length)-(t1.Ze.length))) A8 A8
 refine VL V3 rfl rfl (.inl ⟨rfl,rfl⟩) (.inr ⟨_,by first|rfl|(congr 2;omega)⟩)<|Z9 rfl<|Yz H 7 rfl E hx1 3 (⟨c.fn,c.at_,c.vl,c.loc,(v2),s2.take (s2.length-(YU m.d f).Ze.length)⟩) rfl (by simp only [Bool.and_true,H.one 0 rfl,H.one 1 rfl,H.one 3 rfl,H.one 7 rfl,Vw.one V3,Vw.one V2,Z0.one Jf,hvs,Z0.one ZX,Z0.one Zx,Z0.one ZR,hvl]) rfl rfl<|fun w5 H=>cT (Zk A8)<|ZW A8<|Z9 rfl<|XD H 6 rfl rfl rfl rfl<|fun w4 H=>?_
 obtain ⟨a2,c2,rfl⟩:=H.form 0 rfl
 refine Zi rfl rfl rfl<|ZE H 4 rfl rfl rfl rfl<|fun w5 H=>Xt (H.at 4 rfl) 0 rfl rfl rfl ?_
 replace H:=H.HR 1 rfl V3
 simp only [List.set_cons_succ,List.set_cons_zero,List.drop_zero,Hh,List.set_set] at H
 refine Z6.mk ⟨v2,_,(by rw [Hh]),?_⟩
 refine H.Z8 [0,1,7,4,4,7]<|fun H=>H.drop 7<|fun H=>H.drop 6<|fun H=>?_
 exact H
theorem afk (E:El vc 4 i b o) (c:CV) (hx:cs[i]?=some c) (H:Sat g w (Pt pr [AV cp,vw,vc,AW host] 148::Pt cp (AY m [AV mp,vt,vg]) 158::Sl 3 1 ZG vt Zr::Sl 79 4 Yj vc cs::Sl 2 1 ZG c.vs c.stk::l)) (hm:XZ g m) (P:Us m.d) (ho:x.op=16∨x.op=17) (Q6:∀n∈Zr,-1≤n∧n<(m.ZA.length:Int)+m.funcs.length) (h1:x.op=17→1≤c.stk.length∧0≤x.a∧x.a<m.types.length) (TZ:∀v∈c.stk,Xz v) (hlen:c.stk.length≤10000) (Mo:Zr.length≤1000) (Ug:cs.length≤40) (hvl:c.vl.oneCell'=true) (hq:YY m.d Zr x c.stk=(f,s2,0)) (hf:0≤f∧f<(m.ZA.length:Int)+m.funcs.length) (K5:(YU m.d f).Ze.length≤s2.length) (IC:s2.length≤10000) (k:Nat) (F:YF) (GK:f=m.ZA.length+k) (hF:m.funcs[k]?=some F) (DF:F.loc.length≤16) (h4:(YU m.d f).Ze.length≤4) (Br:cs.length<40):Fc Tryz.prog 163 #[AV pr,.pointer (some ⟨b,o,none⟩),.agg #[.int .u8 x.op,AW x.a,AW x.b,SS]] w (fun r w'=>∃PT vs' Ik,r=.agg #[AW 0,.slice none 0 0,AW 0,AW 0,AW 0]∧Sat g w' (Pt pr [AV cp,vw,PT,AW host] 148::Pt cp (AY m [AV mp,vt,vg]) 158::Sl 3 1 ZG vt Zr::Sl 79 4 Yj PT (cs.set i ⟨c.fn,c.at_,c.vl,c.loc,vs',s2.take (s2.length-(YU m.d f).Ze.length)⟩++[⟨k,0,Ik,(s2.drop (s2.length-(YU m.d f).Ze.length))++List.replicate F.loc.length 0,.slice none 0 0,[]⟩])::Sl 2 1 ZG vs' (s2.take (s2.length-(YU m.d f).Ze.length))::Sl 2 1 ZG Ik ((s2.drop (s2.length-(YU m.d f).Ze.length))++List.replicate F.loc.length 0)::Sl 2 1 ZG (.slice none 0 0) []::l)):=by
 refine Fc.of Tryz.func163 rfl k_d ?_
 have ZR:=hm.types
 have Zx:=hm.ZA
 have ZX:=hm.funcs
 have hvs:=H.one 4 rfl
 have hni:m.ZA.length≤16:=P.ni
 have hnf:m.funcs.length≤16:=by have:=P.nf;rwa [show m.d.funcs.length=m.funcs.length from lea ..] at this
 have hty:∀t:XC,t.d=YU m.d f→t.Ze.length=(YU m.d f).Ze.length:=fun t h=>by rw [←h];rfl
 refine ZI H<|fun p1 w1 H=>ZU H rfl<|fun p2 w2 H=>ZN H [] [AUp0,AUp1,AUp2,AUh3,AUh4,AUp5,AUp6,AUp7,AUh8,AUfr9,AUp10,AUp11,AUp12,AUp13,AUp14,AUp15,AUp16] mixed k_d k_d<|fun w1 H=>tk (fun _ Z=>Z9 rfl AX)<|tk (fun _ Z=>Z5 (Z.at 2 rfl) 0 rfl rfl rfl AX)<|tk (fun _ Z=>ZD (Z.at 1 rfl) 0 rfl rfl rfl AX)<|tk (fun _ Z=>Z9 rfl AX)<|tk (fun _ Z=>Z5 (Z.el 5 rfl E hx) 3 rfl rfl rfl AX)<|H.Z8 [6,5,5]<|fun H=>?_
 refine Z7.mk (Fc.imp (Rn.Ob H A8 A8 A8 A8 A8 A8 A8 A8) ?_)
 clear H
 rintro _ w2 ⟨f1,⟨Zt,⟨RF,⟨e1,⟨rfl,⟨h2,H⟩⟩⟩⟩⟩⟩
 obtain ⟨rfl,rfl,rfl⟩:=Re h2 hq
 refine Z9 rfl<|Yz H 6 rfl E hx 3 (⟨c.fn,c.at_,c.vl,c.loc,(Zt),s2.take (s2.length-(YU m.d f).Ze.length)⟩) rfl k_p rfl rfl<|fun w3 H=>cF (XU A8)<|ZN H [] [AUp0,AUp1,AUp2,AUh3,AUp4,AUp5,AUp6,AUp7,AUh8,AUp9,AUf10,AUp11,AUp12,AUp13,AUp14] mixed k_d k_d<|fun w2 H=>tk (fun _ Z=>Z9 rfl AX) ?_
 have hx1:(cs.set i { fn:=c.fn,at_:=c.at_,vl:=c.vl,loc:=c.loc,vs:=Zt,stk:=List.take (s2.length-(YU m.d f).Ze.length) s2 })[i]?=some _:=WH hx
 refine tk (fun _ Z=>Z5 (Z.el 6 rfl E hx1) 3 rfl rfl rfl AX) ?_
 obtain ⟨a1,c1,V1⟩:=H.form 2 rfl
 refine tk (fun _ Z=>XQ V1 rfl AX)<|tk (fun _ Z=>Z9 rfl AX)<|tk (fun _ Z=>Z5 (Z.at 5 rfl) 0 rfl rfl rfl AX) ?_
 refine Z7.mk (Fc.imp (Rn.Ma H A8 A8 _ A8 A8) ?_)
 clear H
 rintro _ w3 ⟨t1,⟨rfl,⟨h3,⟨h5,⟨h6,⟨h7,⟨h8,H⟩⟩⟩⟩⟩⟩⟩
 have Hh:=hty _ A7
 have Jf:=Wu.Ze (by assumption:Wu g _)
 refine Y9.mk (H)<|tk (fun _ Z=>Ui rfl AX)<|tk (fun _ Z=>ZC Jf rfl AX)<|ZW A8<|Z9 rfl<|Z5 (H.el 6 rfl E hx1) 3 rfl rfl rfl ?_
 obtain ⟨v1,V2⟩:=H.vw 2 rfl (((s2.length)-(t1.Ze.length))) ((s2).length) A8 A8
 refine VL V2 rfl rfl (.inr ⟨_,by first|rfl|(congr 2;omega)⟩) (.inl ⟨rfl,rfl⟩)<|H.Z8 [2]<|fun H=>?_
 refine Z7.mk (Fc.imp (Rn.K4 H V2 A8) ?_)
 clear H
 rintro v' w4 H
 refine Z9 rfl<|Z5 (H.at 6 rfl) 0 rfl rfl rfl<|Z9 rfl<|Z9 rfl<|Z5 (H.at 2 rfl) 1 rfl rfl rfl<|ZC Zx rfl<|ZW A8<|Va (Yl A8)<|Z9 rfl<|Z5 (H.at 6 rfl) 2 rfl rfl rfl<|YJ H 7 rfl rfl<|cF (Z4 (by grind))<|Z9 rfl<|Z5 (H.el 7 rfl E hx1) 3 rfl rfl rfl ?_
 obtain ⟨v2,V3⟩:=H.vw 1 rfl (0) (((s2.length)-(t1.Ze.length))) A8 A8
 refine VL V3 rfl rfl (.inl ⟨rfl,rfl⟩) (.inr ⟨_,by first|rfl|(congr 2;omega)⟩)<|Z9 rfl<|Yz H 7 rfl E hx1 3 (⟨c.fn,c.at_,c.vl,c.loc,(v2),s2.take (s2.length-(YU m.d f).Ze.length)⟩) rfl (by simp only [Bool.and_true,H.one 0 rfl,H.one 1 rfl,H.one 3 rfl,H.one 7 rfl,Vw.one V3,Vw.one V2,Z0.one Jf,hvs,Z0.one ZX,Z0.one Zx,Z0.one ZR,hvl]) rfl rfl<|fun w5 H=>cF (Zs A8) ?_
 replace H:=H.HR 1 rfl V3
 simp only [List.set_cons_succ,List.set_cons_zero,List.drop_zero,Hh,List.set_set] at H
 rw [show f-(m.ZA.length:Int)=(k:Int) by omega]
 refine H.Z8 [0,7,3,7]<|fun H=>?_
 refine Z7.mk (Fc.imp (Rn.afe H A8 (k) _ hF A8 ?_ ?_ ?_) ?_)
 ·grind
 ·grind
 ·omega
 clear H
 rintro UI w4 ⟨Hg,⟨T8,H⟩⟩
 refine Zi rfl rfl rfl<|ZE H 7 rfl rfl rfl rfl<|fun w6 H=>Xt (H.at 7 rfl) 0 rfl rfl rfl ?_
 refine Z6.mk ⟨Hg,v2,T8,rfl,?_⟩
 refine H.Z8 [4,4,5,5,6,6,6]<|fun H=>H.drop 8<|fun H=>H.drop 7<|fun H=>?_
 exact H
end
end Rn
namespace Rn
open Go YX Go.RowKit
open YT Zl X9 YO Valid Mem
def fr (c:CV):List As:=[Sl 2 1 ZG c.vl c.loc,Sl 2 1 ZG c.vs c.stk]
def Wj (cs:List CV):As:=Q3 (cs.flatMap fr)
section
variable {g:Zy} {w:World} {l:List As} {m:Zg} {pr cp mp:Nat} {vw vc vt vg vp SS vj:Value} {host f e:Int} {cs up:List CV} {Zr Zj s2:List Int} {ps:List WO} {c u:CV} {x:ZT} {i b o:Nat} {ws:List XS} {j:XS}
theorem Je (H:Sat g w (Wj (up++[c])::l)):Sat g w (Sl 2 1 ZG c.vl c.loc::Sl 2 1 ZG c.vs c.stk::Wj up::l):=by
 have H:=H.unbox
 rw [lIa,lia0] at H
 have H:=(H.box (l1:=up.flatMap fr))
 have H:Sat g w (Wj up::Sl 2 1 ZG c.vl c.loc::Sl 2 1 ZG c.vs c.stk::l):=H
 exact H.Z8 [2,2] fun H=>H
theorem Py (H:Sat g w (Sl 2 1 ZG c.vl c.loc::Sl 2 1 ZG c.vs c.stk::Wj up::l)):Sat g w (Wj (up++[c])::l):=by
 refine H.Z8 [2]<|fun H=>?_
 have H:Sat g w (Q3 (up.flatMap fr)::([Sl 2 1 ZG c.vl c.loc,Sl 2 1 ZG c.vs c.stk]++l)):=H
 have H:=H.unbox
 rw [←lia0] at H
 have H:=H.box
 show Sat g w (Q3 ((up++[c]).flatMap fr)::l)
 rw [lIa]
 exact H
theorem Yr (hcs:cs=up++[c]):cs[up.length]?=some c:=by grind
theorem Yq (hcs:cs=up++[c]) (z:CV):cs.set up.length z=up++[z]:=by grind
theorem alL (H:Sat g w (Pt pr [AV cp,vw,vc,AW 0] 148::Pt cp (AY m [AV mp,vt,vg]) 158::Pt mp [vp,AW m.most] 221::Sl 223 256 Xk vp ps::Sl 3 1 ZG vt Zr::Sl 2 1 ZG vg Zj::Sl 79 4 Yj vc cs::Wj up::Sl 2 1 ZG c.vl c.loc::Sl 2 1 ZG c.vs c.stk::l)) (hcs:cs=up++[c]) (E:El vc 4 up.length b o) (Uh:0≤c.at_∧c.at_≤1000) (hlen:c.stk.length≤10000) (ho:x.op=0):Fc Tryz.prog 114 #[AV pr,.pointer (some ⟨b,o,none⟩),.agg #[.int .u8 x.op,AW x.a,AW x.b,SS],vj] w (fun r w'=>r=.agg #[AW 2,.slice none 0 0,AW 20,AW 0,AW 0]∧Sat g w' (Pt pr [AV cp,vw,vc,AW 0] 148::Pt cp (AY m [AV mp,vt,vg]) 158::Pt mp [vp,AW m.most] 221::Sl 223 256 Xk vp ps::Sl 3 1 ZG vt Zr::Sl 2 1 ZG vg Zj::l)):=by
 refine Fc.of Tryz.func114 rfl k_d ?_
 have hx:=Yr hcs
 refine ZI H<|fun p1 w1 H=>ZU H rfl<|fun p2 w2 H=>Z9 rfl<|Z5 (H.el 8 rfl E hx) 1 rfl rfl rfl<|ZW A8<|Z9 rfl<|Yz H 8 rfl E hx 1 (⟨c.fn,c.at_+1,c.vl,c.loc,c.vs,c.stk⟩) rfl rfl rfl rfl<|fun w1 H=>Z9 rfl<|Z5 (H.at 1 rfl) 0 rfl rfl rfl<|bk<|cT (ZJ A7)<|Zi rfl rfl rfl<|ZE H 0 rfl rfl rfl rfl<|fun w2 H=>Xt (H.at 0 rfl) 0 rfl rfl rfl<|Z6.mk ?_
 refine ⟨rfl,?_⟩
 refine H.Z8 [7,7,7,7,7,7]<|fun H=>H.drop 11<|fun H=>H.drop 10<|fun H=>H.drop 9<|fun H=>H.drop 8<|fun H=>H.drop 7<|fun H=>H.drop 6<|fun H=>?_
 exact H
theorem alM (H:Sat g w (Pt pr [AV cp,vw,vc,AW 0] 148::Pt cp (AY m [AV mp,vt,vg]) 158::Pt mp [vp,AW m.most] 221::Sl 223 256 Xk vp ps::Sl 3 1 ZG vt Zr::Sl 2 1 ZG vg Zj::Sl 79 4 Yj vc cs::Wj up::Sl 2 1 ZG c.vl c.loc::Sl 2 1 ZG c.vs c.stk::l)) (hcs:cs=up++[c]) (E:El vc 4 up.length b o) (Uh:0≤c.at_∧c.at_≤1000) (hlen:c.stk.length≤10000) (ho:x.op=1∨x.op=2∨x.op=3):Fc Tryz.prog 114 #[AV pr,.pointer (some ⟨b,o,none⟩),.agg #[.int .u8 x.op,AW x.a,AW x.b,SS],vj] w (fun r w'=>r=.agg #[AW 0,.slice none 0 0,AW 0,AW 0,AW 0]∧Sat g w' (Pt pr [AV cp,vw,vc,AW 0] 148::Pt cp (AY m [AV mp,vt,vg]) 158::Pt mp [vp,AW m.most] 221::Sl 223 256 Xk vp ps::Sl 3 1 ZG vt Zr::Sl 2 1 ZG vg Zj::Sl 79 4 Yj vc (up++[⟨c.fn,c.at_+1,c.vl,c.loc,c.vs,c.stk⟩])::Wj up::Sl 2 1 ZG c.vl c.loc::Sl 2 1 ZG c.vs c.stk::l)):=by
 refine Fc.of Tryz.func114 rfl k_d ?_
 have hx:=Yr hcs
 have WK:=Yq hcs
 rcases ho with ho|ho|ho
 ·refine ZI H<|fun p1 w1 H=>ZU H rfl<|fun p2 w2 H=>Z9 rfl<|Z5 (H.el 8 rfl E hx) 1 rfl rfl rfl<|ZW A8<|Z9 rfl<|Yz H 8 rfl E hx 1 (⟨c.fn,c.at_+1,c.vl,c.loc,c.vs,c.stk⟩) rfl rfl rfl rfl<|fun w1 H=>Z9 rfl<|Z5 (H.at 1 rfl) 0 rfl rfl rfl<|bk<|cF (Z4 A8)<|cT (ZJ A7)<|cT (ZJ A7)<|Zi rfl rfl rfl<|ZE H 0 rfl rfl rfl rfl<|fun w2 H=>Xt (H.at 0 rfl) 0 rfl rfl rfl<|Z6.mk ?_
  refine ⟨rfl,?_⟩
  refine H.Z8 [11,11,11,11,11,11,11,11,11,11]<|fun H=>H.drop 11<|fun H=>H.drop 10<|fun H=>?_
  refine H.cg (YM rfl (YM rfl (YM rfl (YM rfl (YM rfl (YM rfl (YM (QG ?_) (YM rfl (YM rfl (YM rfl (rfl)))))))))))
  exact WK _
 ·refine ZI H<|fun p1 w1 H=>ZU H rfl<|fun p2 w2 H=>Z9 rfl<|Z5 (H.el 8 rfl E hx) 1 rfl rfl rfl<|ZW A8<|Z9 rfl<|Yz H 8 rfl E hx 1 (⟨c.fn,c.at_+1,c.vl,c.loc,c.vs,c.stk⟩) rfl rfl rfl rfl<|fun w1 H=>Z9 rfl<|Z5 (H.at 1 rfl) 0 rfl rfl rfl<|bk<|cF (Z4 A8)<|cF (Z4 A8)<|cT (ZJ A7)<|cT (ZJ A7)<|Zi rfl rfl rfl<|ZE H 0 rfl rfl rfl rfl<|fun w2 H=>Xt (H.at 0 rfl) 0 rfl rfl rfl<|Z6.mk ?_
  refine ⟨rfl,?_⟩
  refine H.Z8 [11,11,11,11,11,11,11,11,11,11]<|fun H=>H.drop 11<|fun H=>H.drop 10<|fun H=>?_
  refine H.cg (YM rfl (YM rfl (YM rfl (YM rfl (YM rfl (YM rfl (YM (QG ?_) (YM rfl (YM rfl (YM rfl (rfl)))))))))))
  exact WK _
 ·refine ZI H<|fun p1 w1 H=>ZU H rfl<|fun p2 w2 H=>Z9 rfl<|Z5 (H.el 8 rfl E hx) 1 rfl rfl rfl<|ZW A8<|Z9 rfl<|Yz H 8 rfl E hx 1 (⟨c.fn,c.at_+1,c.vl,c.loc,c.vs,c.stk⟩) rfl rfl rfl rfl<|fun w1 H=>Z9 rfl<|Z5 (H.at 1 rfl) 0 rfl rfl rfl<|bk<|cF (Z4 A8)<|cF (Z4 A8)<|cF (Z4 A8)<|cT (ZJ A7)<|Zi rfl rfl rfl<|ZE H 0 rfl rfl rfl rfl<|fun w2 H=>Xt (H.at 0 rfl) 0 rfl rfl rfl<|Z6.mk ?_
  refine ⟨rfl,?_⟩
  refine H.Z8 [11,11,11,11,11,11,11,11,11,11]<|fun H=>H.drop 11<|fun H=>H.drop 10<|fun H=>?_
  refine H.cg (YM rfl (YM rfl (YM rfl (YM rfl (YM rfl (YM rfl (YM (QG ?_) (YM rfl (YM rfl (YM rfl (rfl)))))))))))
  exact WK _
theorem ajn (H:Sat g w (Pt pr [AV cp,vw,vc,AW 0] 148::Pt cp (AY m [AV mp,vt,vg]) 158::Pt mp [vp,AW m.most] 221::Sl 223 256 Xk vp ps::Sl 3 1 ZG vt Zr::Sl 2 1 ZG vg Zj::Sl 79 4 Yj vc cs::Wj up::Sl 2 1 ZG c.vl c.loc::Sl 2 1 ZG c.vs c.stk::l)) (hcs:cs=up++[c]) (E:El vc 4 up.length b o) (Uh:0≤c.at_∧c.at_≤1000) (hlen:c.stk.length≤10000) (hj:Z0 g Oe DN 3 vj ws) (hjn:0≤j.height) (BV:0≤j.keep) (GH:ws.length≤100) (ho:x.op=12∨x.op=15) (hw:ws[0]?=some j) (hjf:j.height+j.keep≤c.stk.length):Fc Tryz.prog 114 #[AV pr,.pointer (some ⟨b,o,none⟩),.agg #[.int .u8 x.op,AW x.a,AW x.b,SS],vj] w (fun r w'=>∃vs',r=.agg #[AW 0,.slice none 0 0,AW 0,AW 0,AW 0]∧Sat g w' (Pt pr [AV cp,vw,vc,AW 0] 148::Pt cp (AY m [AV mp,vt,vg]) 158::Pt mp [vp,AW m.most] 221::Sl 223 256 Xk vp ps::Sl 3 1 ZG vt Zr::Sl 2 1 ZG vg Zj::Sl 79 4 Yj vc (up++[⟨c.fn,j.at_,c.vl,c.loc,vs',(c.stk.take j.height.toNat++c.stk.drop (c.stk.length-j.keep.toNat))⟩])::Wj up::Sl 2 1 ZG c.vl c.loc::Sl 2 1 ZG vs' (c.stk.take j.height.toNat++c.stk.drop (c.stk.length-j.keep.toNat))::l)):=by
 refine Fc.of Tryz.func114 rfl k_d ?_
 have hx:=Yr hcs
 have WK:=Yq hcs
 rcases ho with ho|ho
 ·refine ZI H<|fun p1 w1 H=>ZU H rfl<|fun p2 w2 H=>Z9 rfl<|Z5 (H.el 8 rfl E hx) 1 rfl rfl rfl<|ZW A8<|Z9 rfl<|Yz H 8 rfl E hx 1 (⟨c.fn,c.at_+1,c.vl,c.loc,c.vs,c.stk⟩) rfl rfl rfl rfl<|fun w1 H=>Z9 rfl<|Z5 (H.at 1 rfl) 0 rfl rfl rfl<|bk ?_
  simp only [WK] at H
  have hx1:(up++[(⟨c.fn,c.at_+1,c.vl,c.loc,c.vs,c.stk⟩:CV)])[up.length]?=some (⟨c.fn,c.at_+1,c.vl,c.loc,c.vs,c.stk⟩:CV):=Yr rfl
  clear hx
  have Ww:∀z,(up++[(⟨c.fn,c.at_+1,c.vl,c.loc,c.vs,c.stk⟩:CV)]).set up.length z=up++[z]:=Yq rfl
  refine cF (Z4 A8)<|cF (Z4 A8)<|cF (Z4 A8)<|cF (Z4 A8)<|cF (Z4 A8)<|cT (ZJ A7)<|cT (ZJ A7) ?_
  obtain ⟨b1,o1,E1,F1,ZL⟩:=Z0.Zc hj hw
  refine ZK E1 rfl rfl rfl<|ZD (H.Yu F1) 0 rfl rfl rfl<|H.Z8 [11,9]<|fun H=>?_
  refine Z7.mk (Fc.imp (Rn.L9 E _ hx1 H _ A8 A8 A8 ?_) ?_)
  ·grind
  clear H
  rintro v' w2 ⟨Zt,H⟩
  refine Zi rfl rfl rfl<|ZE H 2 rfl rfl rfl rfl<|fun w3 H=>Xt (H.at 2 rfl) 0 rfl rfl rfl<|Z6.mk ?_
  refine ⟨Zt,?_⟩
  refine ⟨rfl,?_⟩
  refine H.Z8 [1,11,11,3,11,11,11,11,11,11]<|fun H=>H.drop 11<|fun H=>H.drop 10<|fun H=>?_
  refine H.cg (YM rfl (YM rfl (YM rfl (YM rfl (YM rfl (YM rfl (YM (QG ?_) (YM rfl (YM rfl (YM rfl (rfl)))))))))))
  exact Ww _
 ·refine ZI H<|fun p1 w1 H=>ZU H rfl<|fun p2 w2 H=>Z9 rfl<|Z5 (H.el 8 rfl E hx) 1 rfl rfl rfl<|ZW A8<|Z9 rfl<|Yz H 8 rfl E hx 1 (⟨c.fn,c.at_+1,c.vl,c.loc,c.vs,c.stk⟩) rfl rfl rfl rfl<|fun w1 H=>Z9 rfl<|Z5 (H.at 1 rfl) 0 rfl rfl rfl<|bk ?_
  simp only [WK] at H
  have hx1:(up++[(⟨c.fn,c.at_+1,c.vl,c.loc,c.vs,c.stk⟩:CV)])[up.length]?=some (⟨c.fn,c.at_+1,c.vl,c.loc,c.vs,c.stk⟩:CV):=Yr rfl
  clear hx
  have Ww:∀z,(up++[(⟨c.fn,c.at_+1,c.vl,c.loc,c.vs,c.stk⟩:CV)]).set up.length z=up++[z]:=Yq rfl
  refine cF (Z4 A8)<|cF (Z4 A8)<|cF (Z4 A8)<|cF (Z4 A8)<|cF (Z4 A8)<|cF (Z4 A8)<|cT (ZJ A7) ?_
  obtain ⟨b1,o1,E1,F1,ZL⟩:=Z0.Zc hj hw
  refine ZK E1 rfl rfl rfl<|ZD (H.Yu F1) 0 rfl rfl rfl<|H.Z8 [11,9]<|fun H=>?_
  refine Z7.mk (Fc.imp (Rn.L9 E _ hx1 H _ A8 A8 A8 ?_) ?_)
  ·grind
  clear H
  rintro v' w2 ⟨Zt,H⟩
  refine Zi rfl rfl rfl<|ZE H 2 rfl rfl rfl rfl<|fun w3 H=>Xt (H.at 2 rfl) 0 rfl rfl rfl<|Z6.mk ?_
  refine ⟨Zt,?_⟩
  refine ⟨rfl,?_⟩
  refine H.Z8 [1,11,11,3,11,11,11,11,11,11]<|fun H=>H.drop 11<|fun H=>H.drop 10<|fun H=>?_
  refine H.cg (YM rfl (YM rfl (YM rfl (YM rfl (YM rfl (YM rfl (YM (QG ?_) (YM rfl (YM rfl (YM rfl (rfl)))))))))))
  exact Ww _
theorem ahY (H:Sat g w (Pt pr [AV cp,vw,vc,AW 0] 148::Pt cp (AY m [AV mp,vt,vg]) 158::Pt mp [vp,AW m.most] 221::Sl 223 256 Xk vp ps::Sl 3 1 ZG vt Zr::Sl 2 1 ZG vg Zj::Sl 79 4 Yj vc cs::Wj up::Sl 2 1 ZG c.vl c.loc::Sl 2 1 ZG c.vs c.stk::l)) (hcs:cs=up++[c]) (E:El vc 4 up.length b o) (Uh:0≤c.at_∧c.at_≤1000) (hlen:c.stk.length≤10000) (hj:Z0 g Oe DN 3 vj ws) (hjn:0≤j.height) (BV:0≤j.keep) (GH:ws.length≤100) (h1:1≤c.stk.length) (ho:(x.op=4∧top c.stk 0=0)∨(x.op=13∧top c.stk 0≠0)) (hw:ws[0]?=some j) (hjf:j.height+j.keep≤(low c.stk 1).length):Fc Tryz.prog 114 #[AV pr,.pointer (some ⟨b,o,none⟩),.agg #[.int .u8 x.op,AW x.a,AW x.b,SS],vj] w (fun r w'=>∃vs',r=.agg #[AW 0,.slice none 0 0,AW 0,AW 0,AW 0]∧Sat g w' (Pt pr [AV cp,vw,vc,AW 0] 148::Pt cp (AY m [AV mp,vt,vg]) 158::Pt mp [vp,AW m.most] 221::Sl 223 256 Xk vp ps::Sl 3 1 ZG vt Zr::Sl 2 1 ZG vg Zj::Sl 79 4 Yj vc (up++[⟨c.fn,j.at_,c.vl,c.loc,vs',((low c.stk 1).take j.height.toNat++(low c.stk 1).drop ((low c.stk 1).length-j.keep.toNat))⟩])::Wj up::Sl 2 1 ZG c.vl c.loc::Sl 2 1 ZG vs' ((low c.stk 1).take j.height.toNat++(low c.stk 1).drop ((low c.stk 1).length-j.keep.toNat))::l)):=by
 refine Fc.of Tryz.func114 rfl k_d ?_
 have hx:=Yr hcs
 have WK:=Yq hcs
 have Q7:(low c.stk 1).length=c.stk.length-1:=Od
 rcases ho with ⟨ho,hz⟩|⟨ho,hz⟩
 ·refine ZI H<|fun p1 w1 H=>ZU H rfl<|fun p2 w2 H=>Z9 rfl<|Z5 (H.el 8 rfl E hx) 1 rfl rfl rfl<|ZW A8<|Z9 rfl<|Yz H 8 rfl E hx 1 (⟨c.fn,c.at_+1,c.vl,c.loc,c.vs,c.stk⟩) rfl rfl rfl rfl<|fun w1 H=>Z9 rfl<|Z5 (H.at 1 rfl) 0 rfl rfl rfl<|bk ?_
  simp only [WK] at H
  have hx1:(up++[(⟨c.fn,c.at_+1,c.vl,c.loc,c.vs,c.stk⟩:CV)])[up.length]?=some (⟨c.fn,c.at_+1,c.vl,c.loc,c.vs,c.stk⟩:CV):=Yr rfl
  clear hx
  have Ww:∀z,(up++[(⟨c.fn,c.at_+1,c.vl,c.loc,c.vs,c.stk⟩:CV)]).set up.length z=up++[z]:=Yq rfl
  refine cF (Z4 A8)<|cF (Z4 A8)<|cF (Z4 A8)<|cF (Z4 A8)<|cT (ZJ A7)<|H.Z8 [11,9]<|fun H=>?_
  refine Z7.mk (Fc.imp (Rn.J8 E _ hx1 H A8 ?_) ?_)
  ·grind
  clear H
  rintro _ w2 ⟨Zt,⟨t1,⟨rfl,⟨h2,H⟩⟩⟩⟩
  simp only [Ww] at H
  replace h2:t1=top c.stk 0:=h2
  clear hx1
  have Sn:(up++[(⟨c.fn,c.at_+1,c.vl,c.loc,Zt,low c.stk 1⟩:CV)])[up.length]?=some (⟨c.fn,c.at_+1,c.vl,c.loc,Zt,low c.stk 1⟩:CV):=Yr rfl
  have Qb:∀z,(up++[(⟨c.fn,c.at_+1,c.vl,c.loc,Zt,low c.stk 1⟩:CV)]).set up.length z=up++[z]:=Yq rfl
  refine cT (ZJ A8) ?_
  obtain ⟨b1,o1,E1,F1,ZL⟩:=Z0.Zc hj hw
  refine ZK E1 rfl rfl rfl<|ZD (H.Yu F1) 0 rfl rfl rfl ?_
  refine Z7.mk (Fc.imp (Rn.L9 E _ Sn H _ A8 A8 A8 ?_) ?_)
  ·grind
  clear H
  rintro v' w3 ⟨VW,H⟩
  refine Zi rfl rfl rfl<|ZE H 2 rfl rfl rfl rfl<|fun w4 H=>Xt (H.at 2 rfl) 0 rfl rfl rfl<|Z6.mk ?_
  refine ⟨VW,?_⟩
  refine ⟨rfl,?_⟩
  refine H.Z8 [1,11,11,3,11,11,11,11,11,11]<|fun H=>H.drop 11<|fun H=>H.drop 10<|fun H=>?_
  refine H.cg (YM rfl (YM rfl (YM rfl (YM rfl (YM rfl (YM rfl (YM (QG ?_) (YM rfl (YM rfl (YM rfl (rfl)))))))))))
  exact Qb _
 ·refine ZI H<|fun p1 w1 H=>ZU H rfl<|fun p2 w2 H=>Z9 rfl<|Z5 (H.el 8 rfl E hx) 1 rfl rfl rfl<|ZW A8<|Z9 rfl<|Yz H 8 rfl E hx 1 (⟨c.fn,c.at_+1,c.vl,c.loc,c.vs,c.stk⟩) rfl rfl rfl rfl<|fun w1 H=>Z9 rfl<|Z5 (H.at 1 rfl) 0 rfl rfl rfl<|bk ?_
  simp only [WK] at H
  have hx1:(up++[(⟨c.fn,c.at_+1,c.vl,c.loc,c.vs,c.stk⟩:CV)])[up.length]?=some (⟨c.fn,c.at_+1,c.vl,c.loc,c.vs,c.stk⟩:CV):=Yr rfl
  clear hx
  have Ww:∀z,(up++[(⟨c.fn,c.at_+1,c.vl,c.loc,c.vs,c.stk⟩:CV)]).set up.length z=up++[z]:=Yq rfl
  refine cF (Z4 A8)<|cF (Z4 A8)<|cF (Z4 A8)<|cF (Z4 A8)<|cF (Z4 A8)<|cF (Z4 A8)<|cF (Z4 A8)<|cT (ZJ A7)<|H.Z8 [11,9]<|fun H=>?_
  refine Z7.mk (Fc.imp (Rn.J8 E _ hx1 H A8 ?_) ?_)
  ·grind
  clear H
  rintro _ w2 ⟨Zt,⟨t1,⟨rfl,⟨h2,H⟩⟩⟩⟩
  simp only [Ww] at H
  replace h2:t1=top c.stk 0:=h2
  clear hx1
  have Sn:(up++[(⟨c.fn,c.at_+1,c.vl,c.loc,Zt,low c.stk 1⟩:CV)])[up.length]?=some (⟨c.fn,c.at_+1,c.vl,c.loc,Zt,low c.stk 1⟩:CV):=Yr rfl
  have Qb:∀z,(up++[(⟨c.fn,c.at_+1,c.vl,c.loc,Zt,low c.stk 1⟩:CV)]).set up.length z=up++[z]:=Yq rfl
  refine cT (VD A8) ?_
  obtain ⟨b1,o1,E1,F1,ZL⟩:=Z0.Zc hj hw
  refine ZK E1 rfl rfl rfl<|ZD (H.Yu F1) 0 rfl rfl rfl ?_
  refine Z7.mk (Fc.imp (Rn.L9 E _ Sn H _ A8 A8 A8 ?_) ?_)
  ·grind
  clear H
  rintro v' w3 ⟨VW,H⟩
  refine Zi rfl rfl rfl<|ZE H 2 rfl rfl rfl rfl<|fun w4 H=>Xt (H.at 2 rfl) 0 rfl rfl rfl<|Z6.mk ?_
  refine ⟨VW,?_⟩
  refine ⟨rfl,?_⟩
  refine H.Z8 [1,11,11,3,11,11,11,11,11,11]<|fun H=>H.drop 11<|fun H=>H.drop 10<|fun H=>?_
  refine H.cg (YM rfl (YM rfl (YM rfl (YM rfl (YM rfl (YM rfl (YM (QG ?_) (YM rfl (YM rfl (YM rfl (rfl)))))))))))
  exact Qb _
theorem ahZ (H:Sat g w (Pt pr [AV cp,vw,vc,AW 0] 148::Pt cp (AY m [AV mp,vt,vg]) 158::Pt mp [vp,AW m.most] 221::Sl 223 256 Xk vp ps::Sl 3 1 ZG vt Zr::Sl 2 1 ZG vg Zj::Sl 79 4 Yj vc cs::Wj up::Sl 2 1 ZG c.vl c.loc::Sl 2 1 ZG c.vs c.stk::l)) (hcs:cs=up++[c]) (E:El vc 4 up.length b o) (Uh:0≤c.at_∧c.at_≤1000) (hlen:c.stk.length≤10000) (h1:1≤c.stk.length) (ho:(x.op=4∧top c.stk 0≠0)∨(x.op=13∧top c.stk 0=0)):Fc Tryz.prog 114 #[AV pr,.pointer (some ⟨b,o,none⟩),.agg #[.int .u8 x.op,AW x.a,AW x.b,SS],vj] w (fun r w'=>∃vs',r=.agg #[AW 0,.slice none 0 0,AW 0,AW 0,AW 0]∧Sat g w' (Pt pr [AV cp,vw,vc,AW 0] 148::Pt cp (AY m [AV mp,vt,vg]) 158::Pt mp [vp,AW m.most] 221::Sl 223 256 Xk vp ps::Sl 3 1 ZG vt Zr::Sl 2 1 ZG vg Zj::Sl 79 4 Yj vc (up++[⟨c.fn,c.at_+1,c.vl,c.loc,vs',(low c.stk 1)⟩])::Wj up::Sl 2 1 ZG c.vl c.loc::Sl 2 1 ZG vs' (low c.stk 1)::l)):=by
 refine Fc.of Tryz.func114 rfl k_d ?_
 have hx:=Yr hcs
 have WK:=Yq hcs
 have Q7:(low c.stk 1).length=c.stk.length-1:=Od
 rcases ho with ⟨ho,hz⟩|⟨ho,hz⟩
 ·refine ZI H<|fun p1 w1 H=>ZU H rfl<|fun p2 w2 H=>Z9 rfl<|Z5 (H.el 8 rfl E hx) 1 rfl rfl rfl<|ZW A8<|Z9 rfl<|Yz H 8 rfl E hx 1 (⟨c.fn,c.at_+1,c.vl,c.loc,c.vs,c.stk⟩) rfl rfl rfl rfl<|fun w1 H=>Z9 rfl<|Z5 (H.at 1 rfl) 0 rfl rfl rfl<|bk ?_
  simp only [WK] at H
  have hx1:(up++[(⟨c.fn,c.at_+1,c.vl,c.loc,c.vs,c.stk⟩:CV)])[up.length]?=some (⟨c.fn,c.at_+1,c.vl,c.loc,c.vs,c.stk⟩:CV):=Yr rfl
  clear hx
  have Ww:∀z,(up++[(⟨c.fn,c.at_+1,c.vl,c.loc,c.vs,c.stk⟩:CV)]).set up.length z=up++[z]:=Yq rfl
  refine cF (Z4 A8)<|cF (Z4 A8)<|cF (Z4 A8)<|cF (Z4 A8)<|cT (ZJ A7)<|H.Z8 [11,9]<|fun H=>?_
  refine Z7.mk (Fc.imp (Rn.J8 E _ hx1 H A8 ?_) ?_)
  ·grind
  clear H
  rintro _ w2 ⟨Zt,⟨t1,⟨rfl,⟨h2,H⟩⟩⟩⟩
  simp only [Ww] at H
  replace h2:t1=top c.stk 0:=h2
  clear hx1
  have Sn:(up++[(⟨c.fn,c.at_+1,c.vl,c.loc,Zt,low c.stk 1⟩:CV)])[up.length]?=some (⟨c.fn,c.at_+1,c.vl,c.loc,Zt,low c.stk 1⟩:CV):=Yr rfl
  have Qb:∀z,(up++[(⟨c.fn,c.at_+1,c.vl,c.loc,Zt,low c.stk 1⟩:CV)]).set up.length z=up++[z]:=Yq rfl
  refine cF (Z4 A8)<|Zi rfl rfl rfl<|ZE H 2 rfl rfl rfl rfl<|fun w3 H=>Xt (H.at 2 rfl) 0 rfl rfl rfl<|Z6.mk ?_
  refine ⟨Zt,?_⟩
  refine ⟨rfl,?_⟩
  refine H.Z8 [1,11,11,3,11,11,11,11,11,11]<|fun H=>H.drop 11<|fun H=>H.drop 10<|fun H=>?_
  exact H
 ·refine ZI H<|fun p1 w1 H=>ZU H rfl<|fun p2 w2 H=>Z9 rfl<|Z5 (H.el 8 rfl E hx) 1 rfl rfl rfl<|ZW A8<|Z9 rfl<|Yz H 8 rfl E hx 1 (⟨c.fn,c.at_+1,c.vl,c.loc,c.vs,c.stk⟩) rfl rfl rfl rfl<|fun w1 H=>Z9 rfl<|Z5 (H.at 1 rfl) 0 rfl rfl rfl<|bk ?_
  simp only [WK] at H
  have hx1:(up++[(⟨c.fn,c.at_+1,c.vl,c.loc,c.vs,c.stk⟩:CV)])[up.length]?=some (⟨c.fn,c.at_+1,c.vl,c.loc,c.vs,c.stk⟩:CV):=Yr rfl
  clear hx
  have Ww:∀z,(up++[(⟨c.fn,c.at_+1,c.vl,c.loc,c.vs,c.stk⟩:CV)]).set up.length z=up++[z]:=Yq rfl
  refine cF (Z4 A8)<|cF (Z4 A8)<|cF (Z4 A8)<|cF (Z4 A8)<|cF (Z4 A8)<|cF (Z4 A8)<|cF (Z4 A8)<|cT (ZJ A7)<|H.Z8 [11,9]<|fun H=>?_
  refine Z7.mk (Fc.imp (Rn.J8 E _ hx1 H A8 ?_) ?_)
  ·grind
  clear H
  rintro _ w2 ⟨Zt,⟨t1,⟨rfl,⟨h2,H⟩⟩⟩⟩
  simp only [Ww] at H
  replace h2:t1=top c.stk 0:=h2
  clear hx1
  have Sn:(up++[(⟨c.fn,c.at_+1,c.vl,c.loc,Zt,low c.stk 1⟩:CV)])[up.length]?=some (⟨c.fn,c.at_+1,c.vl,c.loc,Zt,low c.stk 1⟩:CV):=Yr rfl
  have Qb:∀z,(up++[(⟨c.fn,c.at_+1,c.vl,c.loc,Zt,low c.stk 1⟩:CV)]).set up.length z=up++[z]:=Yq rfl
  refine cF (XU A8)<|Zi rfl rfl rfl<|ZE H 2 rfl rfl rfl rfl<|fun w3 H=>Xt (H.at 2 rfl) 0 rfl rfl rfl<|Z6.mk ?_
  refine ⟨Zt,?_⟩
  refine ⟨rfl,?_⟩
  refine H.Z8 [1,11,11,3,11,11,11,11,11,11]<|fun H=>H.drop 11<|fun H=>H.drop 10<|fun H=>?_
  exact H
theorem ajo (H:Sat g w (Pt pr [AV cp,vw,vc,AW 0] 148::Pt cp (AY m [AV mp,vt,vg]) 158::Pt mp [vp,AW m.most] 221::Sl 223 256 Xk vp ps::Sl 3 1 ZG vt Zr::Sl 2 1 ZG vg Zj::Sl 79 4 Yj vc cs::Wj up::Sl 2 1 ZG c.vl c.loc::Sl 2 1 ZG c.vs c.stk::l)) (hcs:cs=up++[c]) (E:El vc 4 up.length b o) (Uh:0≤c.at_∧c.at_≤1000) (hlen:c.stk.length≤10000) (hj:Z0 g Oe DN 3 vj ws) (hjn:0≤j.height) (BV:0≤j.keep) (GH:ws.length≤100) (h1:1≤c.stk.length) (TZ:Xz (top c.stk 0)) (ho:x.op=14) (hw0:1≤ws.length) (hw:ws[(min (top c.stk 0 % 4294967296) (ws.length-1)).toNat]?=some j) (hjf:j.height+j.keep≤(low c.stk 1).length):Fc Tryz.prog 114 #[AV pr,.pointer (some ⟨b,o,none⟩),.agg #[.int .u8 x.op,AW x.a,AW x.b,SS],vj] w (fun r w'=>∃vs',r=.agg #[AW 0,.slice none 0 0,AW 0,AW 0,AW 0]∧Sat g w' (Pt pr [AV cp,vw,vc,AW 0] 148::Pt cp (AY m [AV mp,vt,vg]) 158::Pt mp [vp,AW m.most] 221::Sl 223 256 Xk vp ps::Sl 3 1 ZG vt Zr::Sl 2 1 ZG vg Zj::Sl 79 4 Yj vc (up++[⟨c.fn,j.at_,c.vl,c.loc,vs',((low c.stk 1).take j.height.toNat++(low c.stk 1).drop ((low c.stk 1).length-j.keep.toNat))⟩])::Wj up::Sl 2 1 ZG c.vl c.loc::Sl 2 1 ZG vs' ((low c.stk 1).take j.height.toNat++(low c.stk 1).drop ((low c.stk 1).length-j.keep.toNat))::l)):=by
 refine Fc.of Tryz.func114 rfl k_d ?_
 have hx:=Yr hcs
 have WK:=Yq hcs
 have Q7:(low c.stk 1).length=c.stk.length-1:=Od
 refine ZI H<|fun p1 w1 H=>ZU H rfl<|fun p2 w2 H=>Z9 rfl<|Z5 (H.el 8 rfl E hx) 1 rfl rfl rfl<|ZW A8<|Z9 rfl<|Yz H 8 rfl E hx 1 (⟨c.fn,c.at_+1,c.vl,c.loc,c.vs,c.stk⟩) rfl rfl rfl rfl<|fun w1 H=>Z9 rfl<|Z5 (H.at 1 rfl) 0 rfl rfl rfl<|bk ?_
 simp only [WK] at H
 have hx1:(up++[(⟨c.fn,c.at_+1,c.vl,c.loc,c.vs,c.stk⟩:CV)])[up.length]?=some (⟨c.fn,c.at_+1,c.vl,c.loc,c.vs,c.stk⟩:CV):=Yr rfl
 clear hx
 have Ww:∀z,(up++[(⟨c.fn,c.at_+1,c.vl,c.loc,c.vs,c.stk⟩:CV)]).set up.length z=up++[z]:=Yq rfl
 refine cF (Z4 A8)<|cF (Z4 A8)<|cF (Z4 A8)<|cF (Z4 A8)<|cF (Z4 A8)<|cF (Z4 A8)<|cF (Z4 A8)<|cF (Z4 A8)<|cT (ZJ A7)<|H.Z8 [11,9]<|fun H=>?_
 refine Z7.mk (Fc.imp (Rn.J8 E _ hx1 H A8 ?_) ?_)
 ·grind
 clear H
 rintro _ w2 ⟨Zt,⟨t1,⟨rfl,⟨h2,H⟩⟩⟩⟩
 simp only [Ww] at H
 replace h2:t1=top c.stk 0:=h2
 clear hx1
 have Sn:(up++[(⟨c.fn,c.at_+1,c.vl,c.loc,Zt,low c.stk 1⟩:CV)])[up.length]?=some (⟨c.fn,c.at_+1,c.vl,c.loc,Zt,low c.stk 1⟩:CV):=Yr rfl
 have Qb:∀z,(up++[(⟨c.fn,c.at_+1,c.vl,c.loc,Zt,low c.stk 1⟩:CV)]).set up.length z=up++[z]:=Yq rfl
 have GB:ws[(min (t1 % 4294967296) (ws.length-1)).toNat]?=some j:=by grind
 have aou:Xz t1:=by rw [h2];exact TZ
 refine Yt rfl rfl<|W2 A8 rfl rfl<|ZC hj rfl<|ZW A8<|ajW ?_
 obtain ⟨b1,o1,E1,F1,ZL⟩:=Z0.Zc hj GB
 refine ZK E1 A8 rfl rfl<|ZD (H.Yu F1) 0 rfl rfl rfl ?_
 refine Z7.mk (Fc.imp (Rn.L9 E _ Sn H _ A8 A8 A8 ?_) ?_)
 ·grind
 clear H
 rintro v' w3 ⟨VW,H⟩
 refine Zi rfl rfl rfl<|ZE H 2 rfl rfl rfl rfl<|fun w4 H=>Xt (H.at 2 rfl) 0 rfl rfl rfl<|Z6.mk ?_
 refine ⟨VW,?_⟩
 refine ⟨rfl,?_⟩
 refine H.Z8 [1,11,11,3,11,11,11,11,11,11]<|fun H=>H.drop 11<|fun H=>H.drop 10<|fun H=>?_
 refine H.cg (YM rfl (YM rfl (YM rfl (YM rfl (YM rfl (YM rfl (YM (QG ?_) (YM rfl (YM rfl (YM rfl (rfl)))))))))))
 exact Qb _
end
end Rn
namespace Rn
open Go YX Go.RowKit
open YT Zl X9 YO Valid Mem
section
variable {g:Zy} {w:World} {l:List As} {m:Zg} {pr cp mp:Nat} {vw vc vt vg vp SS vj:Value} {host f e:Int} {cs up:List CV} {Zr Zj s2:List Int} {ps:List WO} {c u:CV} {x:ZT} {i b o:Nat} {ws:List XS} {j:XS}
theorem ajp (H:Sat g w (Pt pr [AV cp,vw,vc,AW 0] 148::Pt cp (AY m [AV mp,vt,vg]) 158::Pt mp [vp,AW m.most] 221::Sl 223 256 Xk vp ps::Sl 3 1 ZG vt Zr::Sl 2 1 ZG vg Zj::Sl 79 4 Yj vc cs::Wj up::Sl 2 1 ZG c.vl c.loc::Sl 2 1 ZG c.vs c.stk::l)) (hcs:cs=up++[c]) (E:El vc 4 up.length b o) (Uh:0≤c.at_∧c.at_≤1000) (hlen:c.stk.length≤10000) (hm:XZ g m) (P:Us m.d) (ho:x.op=16∨x.op=17) (Q6:∀n∈Zr,-1≤n∧n<(m.ZA.length:Int)+m.funcs.length) (h1:x.op=17→1≤c.stk.length∧0≤x.a∧x.a<m.types.length) (TZ:∀v∈c.stk,Xz v) (Mo:Zr.length≤1000) (Ug:cs.length≤40) (hq:YY m.d Zr x c.stk=(f,s2,e)) (he:e≠0):Fc Tryz.prog 114 #[AV pr,.pointer (some ⟨b,o,none⟩),.agg #[.int .u8 x.op,AW x.a,AW x.b,SS],vj] w (fun r w'=>r=.agg #[AW 2,.slice none 0 0,AW e,AW 0,AW 0]∧Sat g w' (Pt pr [AV cp,vw,vc,AW 0] 148::Pt cp (AY m [AV mp,vt,vg]) 158::Pt mp [vp,AW m.most] 221::Sl 223 256 Xk vp ps::Sl 3 1 ZG vt Zr::Sl 2 1 ZG vg Zj::l)):=by
 refine Fc.of Tryz.func114 rfl k_d ?_
 have hx:=Yr hcs
 have WK:=Yq hcs
 have hvl:=H.one 8 rfl
 have Eg:up.length+1=cs.length:=by grind
 refine ZI H<|fun p1 w1 H=>ZU H rfl<|fun p2 w2 H=>Z9 rfl<|Z5 (H.el 8 rfl E hx) 1 rfl rfl rfl<|ZW A8<|Z9 rfl<|Yz H 8 rfl E hx 1 (⟨c.fn,c.at_+1,c.vl,c.loc,c.vs,c.stk⟩) rfl rfl rfl rfl<|fun w1 H=>Z9 rfl<|Z5 (H.at 1 rfl) 0 rfl rfl rfl<|bk ?_
 simp only [WK] at H
 have hx1:(up++[(⟨c.fn,c.at_+1,c.vl,c.loc,c.vs,c.stk⟩:CV)])[up.length]?=some (⟨c.fn,c.at_+1,c.vl,c.loc,c.vs,c.stk⟩:CV):=Yr rfl
 clear hx
 have Ww:∀z,(up++[(⟨c.fn,c.at_+1,c.vl,c.loc,c.vs,c.stk⟩:CV)]).set up.length z=up++[z]:=Yq rfl
 have FU:(up++[(⟨c.fn,c.at_+1,c.vl,c.loc,c.vs,c.stk⟩:CV)]).length=cs.length:=by grind
 rcases ho with ho|ho
 ·refine cF (Z4 A8)<|cF (Z4 A8)<|cF (Z4 A8)<|cF (Z4 A8)<|cF (Z4 A8)<|cF (Z4 A8)<|cF (Z4 A8)<|cF (Z4 A8)<|cF (Z4 A8)<|cT (ZJ A7)<|cT (ZJ A7)<|ZD (H.at 1 rfl) 0 rfl rfl rfl<|H.Z8 [11,9,8,6,6]<|fun H=>?_
  refine Z7.mk (Fc.imp (Rn.afh E _ hx1 H A8 A8 A8 A8 A8 A8 A8 A8 A8 A8 hq A8) ?_)
  clear H
  rintro _ w2 ⟨rfl,H⟩
  refine ZE H 3 rfl rfl rfl rfl<|fun w3 H=>Xt (H.at 3 rfl) 0 rfl rfl rfl<|Z6.mk ?_
  refine ⟨rfl,?_⟩
  refine H.Z8 [7,3,7,7,5,5]<|fun H=>H.drop 9<|fun H=>H.drop 8<|fun H=>H.drop 7<|fun H=>H.drop 6<|fun H=>?_
  exact H
 ·refine cF (Z4 A8)<|cF (Z4 A8)<|cF (Z4 A8)<|cF (Z4 A8)<|cF (Z4 A8)<|cF (Z4 A8)<|cF (Z4 A8)<|cF (Z4 A8)<|cF (Z4 A8)<|cF (Z4 A8)<|cT (ZJ A7)<|ZD (H.at 1 rfl) 0 rfl rfl rfl<|H.Z8 [11,9,8,6,6]<|fun H=>?_
  refine Z7.mk (Fc.imp (Rn.afh E _ hx1 H A8 A8 A8 A8 A8 A8 A8 A8 A8 A8 hq A8) ?_)
  clear H
  rintro _ w2 ⟨rfl,H⟩
  refine ZE H 3 rfl rfl rfl rfl<|fun w3 H=>Xt (H.at 3 rfl) 0 rfl rfl rfl<|Z6.mk ?_
  refine ⟨rfl,?_⟩
  refine H.Z8 [7,3,7,7,5,5]<|fun H=>H.drop 9<|fun H=>H.drop 8<|fun H=>H.drop 7<|fun H=>H.drop 6<|fun H=>?_
  exact H
theorem ajq (H:Sat g w (Pt pr [AV cp,vw,vc,AW 0] 148::Pt cp (AY m [AV mp,vt,vg]) 158::Pt mp [vp,AW m.most] 221::Sl 223 256 Xk vp ps::Sl 3 1 ZG vt Zr::Sl 2 1 ZG vg Zj::Sl 79 4 Yj vc cs::Wj up::Sl 2 1 ZG c.vl c.loc::Sl 2 1 ZG c.vs c.stk::l)) (hcs:cs=up++[c]) (E:El vc 4 up.length b o) (Uh:0≤c.at_∧c.at_≤1000) (hlen:c.stk.length≤10000) (hm:XZ g m) (P:Us m.d) (ho:x.op=16∨x.op=17) (Q6:∀n∈Zr,-1≤n∧n<(m.ZA.length:Int)+m.funcs.length) (h1:x.op=17→1≤c.stk.length∧0≤x.a∧x.a<m.types.length) (TZ:∀v∈c.stk,Xz v) (Mo:Zr.length≤1000) (Ug:cs.length≤40) (hq:YY m.d Zr x c.stk=(f,s2,0)) (hf:0≤f∧f<(m.ZA.length:Int)+m.funcs.length) (K5:(YU m.d f).Ze.length≤s2.length) (IC:s2.length≤10000) (Bs:(m.ZA.length:Int)≤f) (Br:cs.length=40):Fc Tryz.prog 114 #[AV pr,.pointer (some ⟨b,o,none⟩),.agg #[.int .u8 x.op,AW x.a,AW x.b,SS],vj] w (fun r w'=>r=.agg #[AW 2,.slice none 0 0,AW 26,AW 0,AW 0]∧Sat g w' (Pt pr [AV cp,vw,vc,AW 0] 148::Pt cp (AY m [AV mp,vt,vg]) 158::Pt mp [vp,AW m.most] 221::Sl 223 256 Xk vp ps::Sl 3 1 ZG vt Zr::Sl 2 1 ZG vg Zj::l)):=by
 refine Fc.of Tryz.func114 rfl k_d ?_
 have hx:=Yr hcs
 have WK:=Yq hcs
 have hvl:=H.one 8 rfl
 have Eg:up.length+1=cs.length:=by grind
 refine ZI H<|fun p1 w1 H=>ZU H rfl<|fun p2 w2 H=>Z9 rfl<|Z5 (H.el 8 rfl E hx) 1 rfl rfl rfl<|ZW A8<|Z9 rfl<|Yz H 8 rfl E hx 1 (⟨c.fn,c.at_+1,c.vl,c.loc,c.vs,c.stk⟩) rfl rfl rfl rfl<|fun w1 H=>Z9 rfl<|Z5 (H.at 1 rfl) 0 rfl rfl rfl<|bk ?_
 simp only [WK] at H
 have hx1:(up++[(⟨c.fn,c.at_+1,c.vl,c.loc,c.vs,c.stk⟩:CV)])[up.length]?=some (⟨c.fn,c.at_+1,c.vl,c.loc,c.vs,c.stk⟩:CV):=Yr rfl
 clear hx
 have Ww:∀z,(up++[(⟨c.fn,c.at_+1,c.vl,c.loc,c.vs,c.stk⟩:CV)]).set up.length z=up++[z]:=Yq rfl
 have FU:(up++[(⟨c.fn,c.at_+1,c.vl,c.loc,c.vs,c.stk⟩:CV)]).length=cs.length:=by grind
 rcases ho with ho|ho
 ·refine cF (Z4 A8)<|cF (Z4 A8)<|cF (Z4 A8)<|cF (Z4 A8)<|cF (Z4 A8)<|cF (Z4 A8)<|cF (Z4 A8)<|cF (Z4 A8)<|cF (Z4 A8)<|cT (ZJ A7)<|cT (ZJ A7)<|ZD (H.at 1 rfl) 0 rfl rfl rfl<|H.Z8 [11,9,8,6,6]<|fun H=>?_
  refine Z7.mk (Fc.imp (Rn.afi E _ hx1 H A8 A8 A8 A8 A8 A8 A8 A8 A8 A8 hq A8 A8 A8 A8 A8) ?_)
  clear H
  rintro _ w2 ⟨rfl,H⟩
  refine ZE H 3 rfl rfl rfl rfl<|fun w3 H=>Xt (H.at 3 rfl) 0 rfl rfl rfl<|Z6.mk ?_
  refine ⟨rfl,?_⟩
  refine H.Z8 [7,3,7,7,5,5]<|fun H=>H.drop 9<|fun H=>H.drop 8<|fun H=>H.drop 7<|fun H=>H.drop 6<|fun H=>?_
  exact H
 ·refine cF (Z4 A8)<|cF (Z4 A8)<|cF (Z4 A8)<|cF (Z4 A8)<|cF (Z4 A8)<|cF (Z4 A8)<|cF (Z4 A8)<|cF (Z4 A8)<|cF (Z4 A8)<|cF (Z4 A8)<|cT (ZJ A7)<|ZD (H.at 1 rfl) 0 rfl rfl rfl<|H.Z8 [11,9,8,6,6]<|fun H=>?_
  refine Z7.mk (Fc.imp (Rn.afi E _ hx1 H A8 A8 A8 A8 A8 A8 A8 A8 A8 A8 hq A8 A8 A8 A8 A8) ?_)
  clear H
  rintro _ w2 ⟨rfl,H⟩
  refine ZE H 3 rfl rfl rfl rfl<|fun w3 H=>Xt (H.at 3 rfl) 0 rfl rfl rfl<|Z6.mk ?_
  refine ⟨rfl,?_⟩
  refine H.Z8 [7,3,7,7,5,5]<|fun H=>H.drop 9<|fun H=>H.drop 8<|fun H=>H.drop 7<|fun H=>H.drop 6<|fun H=>?_
  exact H
theorem ajr (H:Sat g w (Pt pr [AV cp,vw,vc,AW 0] 148::Pt cp (AY m [AV mp,vt,vg]) 158::Pt mp [vp,AW m.most] 221::Sl 223 256 Xk vp ps::Sl 3 1 ZG vt Zr::Sl 2 1 ZG vg Zj::Sl 79 4 Yj vc cs::Wj up::Sl 2 1 ZG c.vl c.loc::Sl 2 1 ZG c.vs c.stk::l)) (hcs:cs=up++[c]) (E:El vc 4 up.length b o) (Uh:0≤c.at_∧c.at_≤1000) (hlen:c.stk.length≤10000) (hm:XZ g m) (P:Us m.d) (ho:x.op=16∨x.op=17) (Q6:∀n∈Zr,-1≤n∧n<(m.ZA.length:Int)+m.funcs.length) (h1:x.op=17→1≤c.stk.length∧0≤x.a∧x.a<m.types.length) (TZ:∀v∈c.stk,Xz v) (Mo:Zr.length≤1000) (Ug:cs.length≤40) (hq:YY m.d Zr x c.stk=(f,s2,0)) (hf:0≤f∧f<(m.ZA.length:Int)+m.funcs.length) (K5:(YU m.d f).Ze.length≤s2.length) (IC:s2.length≤10000) (Bs:f<m.ZA.length):Fc Tryz.prog 114 #[AV pr,.pointer (some ⟨b,o,none⟩),.agg #[.int .u8 x.op,AW x.a,AW x.b,SS],vj] w (fun r w'=>∃vs' vv,r=.agg #[AW 4,vv,AW 0,AW f,AW 0]∧Sat g w' (Pt pr [AV cp,vw,vc,AW (f+1)] 148::Pt cp (AY m [AV mp,vt,vg]) 158::Pt mp [vp,AW m.most] 221::Sl 223 256 Xk vp ps::Sl 3 1 ZG vt Zr::Sl 2 1 ZG vg Zj::Sl 79 4 Yj vc (up++[⟨c.fn,c.at_+1,c.vl,c.loc,vs',s2.take (s2.length-(YU m.d f).Ze.length)⟩])::Wj up::Sl 2 1 ZG c.vl c.loc::Sl 2 1 ZG vs' (s2.take (s2.length-(YU m.d f).Ze.length))::Sl 2 1 ZG vv (s2.drop (s2.length-(YU m.d f).Ze.length))::l)):=by
 refine Fc.of Tryz.func114 rfl k_d ?_
 have hx:=Yr hcs
 have WK:=Yq hcs
 have hvl:=H.one 8 rfl
 have Eg:up.length+1=cs.length:=by grind
 refine ZI H<|fun p1 w1 H=>ZU H rfl<|fun p2 w2 H=>Z9 rfl<|Z5 (H.el 8 rfl E hx) 1 rfl rfl rfl<|ZW A8<|Z9 rfl<|Yz H 8 rfl E hx 1 (⟨c.fn,c.at_+1,c.vl,c.loc,c.vs,c.stk⟩) rfl rfl rfl rfl<|fun w1 H=>Z9 rfl<|Z5 (H.at 1 rfl) 0 rfl rfl rfl<|bk ?_
 simp only [WK] at H
 have hx1:(up++[(⟨c.fn,c.at_+1,c.vl,c.loc,c.vs,c.stk⟩:CV)])[up.length]?=some (⟨c.fn,c.at_+1,c.vl,c.loc,c.vs,c.stk⟩:CV):=Yr rfl
 clear hx
 have Ww:∀z,(up++[(⟨c.fn,c.at_+1,c.vl,c.loc,c.vs,c.stk⟩:CV)]).set up.length z=up++[z]:=Yq rfl
 have FU:(up++[(⟨c.fn,c.at_+1,c.vl,c.loc,c.vs,c.stk⟩:CV)]).length=cs.length:=by grind
 rcases ho with ho|ho
 ·refine cF (Z4 A8)<|cF (Z4 A8)<|cF (Z4 A8)<|cF (Z4 A8)<|cF (Z4 A8)<|cF (Z4 A8)<|cF (Z4 A8)<|cF (Z4 A8)<|cF (Z4 A8)<|cT (ZJ A7)<|cT (ZJ A7)<|ZD (H.at 1 rfl) 0 rfl rfl rfl<|H.Z8 [11,9,8,6,6]<|fun H=>?_
  refine Z7.mk (Fc.imp (Rn.afj E _ hx1 H A8 A8 A8 A8 A8 A8 A8 A8 A8 A8 hq A8 A8 A8 A8) ?_)
  clear H
  rintro _ w2 ⟨Zt,⟨Bq,⟨rfl,H⟩⟩⟩
  refine ZE H 6 rfl rfl rfl (by simp only [List.all_cons,List.all_nil,H.one 2 rfl,H.one 3 rfl,H.one 4 rfl,H.one 5 rfl,H.one 9 rfl,H.one 10 rfl,H.one 12 rfl,hvl];rfl)<|fun w3 H=>Xt (H.at 6 rfl) 0 rfl rfl rfl<|Z6.mk ?_
  refine ⟨Zt,Bq,?_⟩
  refine ⟨rfl,?_⟩
  refine H.Z8 [5,5,12,12,7,12,8,12,12,10,10]<|fun H=>H.drop 12<|fun H=>H.drop 11<|fun H=>?_
  refine H.cg (YM rfl (YM rfl (YM rfl (YM rfl (YM rfl (YM rfl (YM (QG ?_) (YM rfl (YM rfl (YM rfl (YM rfl (rfl))))))))))))
  exact Ww _
 ·refine cF (Z4 A8)<|cF (Z4 A8)<|cF (Z4 A8)<|cF (Z4 A8)<|cF (Z4 A8)<|cF (Z4 A8)<|cF (Z4 A8)<|cF (Z4 A8)<|cF (Z4 A8)<|cF (Z4 A8)<|cT (ZJ A7)<|ZD (H.at 1 rfl) 0 rfl rfl rfl<|H.Z8 [11,9,8,6,6]<|fun H=>?_
  refine Z7.mk (Fc.imp (Rn.afj E _ hx1 H A8 A8 A8 A8 A8 A8 A8 A8 A8 A8 hq A8 A8 A8 A8) ?_)
  clear H
  rintro _ w2 ⟨Zt,⟨Bq,⟨rfl,H⟩⟩⟩
  refine ZE H 6 rfl rfl rfl (by simp only [List.all_cons,List.all_nil,H.one 2 rfl,H.one 3 rfl,H.one 4 rfl,H.one 5 rfl,H.one 9 rfl,H.one 10 rfl,H.one 12 rfl,hvl];rfl)<|fun w3 H=>Xt (H.at 6 rfl) 0 rfl rfl rfl<|Z6.mk ?_
  refine ⟨Zt,Bq,?_⟩
  refine ⟨rfl,?_⟩
  refine H.Z8 [5,5,12,12,7,12,8,12,12,10,10]<|fun H=>H.drop 12<|fun H=>H.drop 11<|fun H=>?_
  refine H.cg (YM rfl (YM rfl (YM rfl (YM rfl (YM rfl (YM rfl (YM (QG ?_) (YM rfl (YM rfl (YM rfl (YM rfl (rfl))))))))))))
  exact Ww _
theorem ajs (H:Sat g w (Pt pr [AV cp,vw,vc,AW 0] 148::Pt cp (AY m [AV mp,vt,vg]) 158::Pt mp [vp,AW m.most] 221::Sl 223 256 Xk vp ps::Sl 3 1 ZG vt Zr::Sl 2 1 ZG vg Zj::Sl 79 4 Yj vc cs::Wj up::Sl 2 1 ZG c.vl c.loc::Sl 2 1 ZG c.vs c.stk::l)) (hcs:cs=up++[c]) (E:El vc 4 up.length b o) (Uh:0≤c.at_∧c.at_≤1000) (hlen:c.stk.length≤10000) (hm:XZ g m) (P:Us m.d) (ho:x.op=16∨x.op=17) (Q6:∀n∈Zr,-1≤n∧n<(m.ZA.length:Int)+m.funcs.length) (h1:x.op=17→1≤c.stk.length∧0≤x.a∧x.a<m.types.length) (TZ:∀v∈c.stk,Xz v) (Mo:Zr.length≤1000) (Ug:cs.length≤40) (hq:YY m.d Zr x c.stk=(f,s2,0)) (hf:0≤f∧f<(m.ZA.length:Int)+m.funcs.length) (K5:(YU m.d f).Ze.length≤s2.length) (IC:s2.length≤10000) (k:Nat) (F:YF) (GK:f=m.ZA.length+k) (hF:m.funcs[k]?=some F) (DF:F.loc.length≤16) (h4:(YU m.d f).Ze.length≤4) (Br:cs.length<40):Fc Tryz.prog 114 #[AV pr,.pointer (some ⟨b,o,none⟩),.agg #[.int .u8 x.op,AW x.a,AW x.b,SS],vj] w (fun r w'=>∃PT vs' Ik,r=.agg #[AW 0,.slice none 0 0,AW 0,AW 0,AW 0]∧Sat g w' (Pt pr [AV cp,vw,PT,AW 0] 148::Pt cp (AY m [AV mp,vt,vg]) 158::Pt mp [vp,AW m.most] 221::Sl 223 256 Xk vp ps::Sl 3 1 ZG vt Zr::Sl 2 1 ZG vg Zj::Sl 79 4 Yj PT (up++[⟨c.fn,c.at_+1,c.vl,c.loc,vs',s2.take (s2.length-(YU m.d f).Ze.length)⟩]++[⟨k,0,Ik,s2.drop (s2.length-(YU m.d f).Ze.length)++List.replicate F.loc.length 0,.slice none 0 0,[]⟩])::Wj up::Sl 2 1 ZG c.vl c.loc::Sl 2 1 ZG vs' (s2.take (s2.length-(YU m.d f).Ze.length))::Sl 2 1 ZG Ik (s2.drop (s2.length-(YU m.d f).Ze.length)++List.replicate F.loc.length 0)::Sl 2 1 ZG (.slice none 0 0) []::l)):=by
 refine Fc.of Tryz.func114 rfl k_d ?_
 have hx:=Yr hcs
 have WK:=Yq hcs
 have hvl:=H.one 8 rfl
 have Eg:up.length+1=cs.length:=by grind
 refine ZI H<|fun p1 w1 H=>ZU H rfl<|fun p2 w2 H=>Z9 rfl<|Z5 (H.el 8 rfl E hx) 1 rfl rfl rfl<|ZW A8<|Z9 rfl<|Yz H 8 rfl E hx 1 (⟨c.fn,c.at_+1,c.vl,c.loc,c.vs,c.stk⟩) rfl rfl rfl rfl<|fun w1 H=>Z9 rfl<|Z5 (H.at 1 rfl) 0 rfl rfl rfl<|bk ?_
 simp only [WK] at H
 have hx1:(up++[(⟨c.fn,c.at_+1,c.vl,c.loc,c.vs,c.stk⟩:CV)])[up.length]?=some (⟨c.fn,c.at_+1,c.vl,c.loc,c.vs,c.stk⟩:CV):=Yr rfl
 clear hx
 have Ww:∀z,(up++[(⟨c.fn,c.at_+1,c.vl,c.loc,c.vs,c.stk⟩:CV)]).set up.length z=up++[z]:=Yq rfl
 have FU:(up++[(⟨c.fn,c.at_+1,c.vl,c.loc,c.vs,c.stk⟩:CV)]).length=cs.length:=by grind
 rcases ho with ho|ho
 ·refine cF (Z4 A8)<|cF (Z4 A8)<|cF (Z4 A8)<|cF (Z4 A8)<|cF (Z4 A8)<|cF (Z4 A8)<|cF (Z4 A8)<|cF (Z4 A8)<|cF (Z4 A8)<|cT (ZJ A7)<|cT (ZJ A7)<|ZD (H.at 1 rfl) 0 rfl rfl rfl<|H.Z8 [11,9,8,6,6]<|fun H=>?_
  refine Z7.mk (Fc.imp (Rn.afk E _ hx1 H A8 A8 A8 A8 A8 A8 A8 A8 A8 A8 hq A8 A8 A8 (k) _ GK hF A8 A8 A8) ?_)
  clear H
  rintro _ w2 ⟨Hg,⟨Zt,⟨T8,⟨rfl,H⟩⟩⟩⟩
  refine ZE H 7 rfl rfl rfl rfl<|fun w3 H=>Xt (H.at 7 rfl) 0 rfl rfl rfl ?_
  simp only [Ww] at H
  refine Z6.mk ⟨Hg,Zt,T8,rfl,?_⟩
  refine H.Z8 [6,6,6,13,13,8,13,9,13,13,11,11]<|fun H=>H.drop 13<|fun H=>H.drop 12<|fun H=>?_
  exact H
 ·refine cF (Z4 A8)<|cF (Z4 A8)<|cF (Z4 A8)<|cF (Z4 A8)<|cF (Z4 A8)<|cF (Z4 A8)<|cF (Z4 A8)<|cF (Z4 A8)<|cF (Z4 A8)<|cF (Z4 A8)<|cT (ZJ A7)<|ZD (H.at 1 rfl) 0 rfl rfl rfl<|H.Z8 [11,9,8,6,6]<|fun H=>?_
  refine Z7.mk (Fc.imp (Rn.afk E _ hx1 H A8 A8 A8 A8 A8 A8 A8 A8 A8 A8 hq A8 A8 A8 (k) _ GK hF A8 A8 A8) ?_)
  clear H
  rintro _ w2 ⟨Hg,⟨Zt,⟨T8,⟨rfl,H⟩⟩⟩⟩
  refine ZE H 7 rfl rfl rfl rfl<|fun w3 H=>Xt (H.at 7 rfl) 0 rfl rfl rfl ?_
  simp only [Ww] at H
  refine Z6.mk ⟨Hg,Zt,T8,rfl,?_⟩
  refine H.Z8 [6,6,6,13,13,8,13,9,13,13,11,11]<|fun H=>H.drop 13<|fun H=>H.drop 12<|fun H=>?_
  exact H
theorem ajt (H:Sat g w (Pt pr [AV cp,vw,vc,AW 0] 148::Pt cp (AY m [AV mp,vt,vg]) 158::Pt mp [vp,AW m.most] 221::Sl 223 256 Xk vp ps::Sl 3 1 ZG vt Zr::Sl 2 1 ZG vg Zj::Sl 79 4 Yj vc cs::Wj up::Sl 2 1 ZG c.vl c.loc::Sl 2 1 ZG c.vs c.stk::l)) (hcs:cs=up++[c]) (E:El vc 4 up.length b o) (Uh:0≤c.at_∧c.at_≤1000) (hlen:c.stk.length≤10000) (hD:Hu x ⟨flat ps,Zr,Zj⟩ c.loc c.stk) (hT:Fold.Iu g) (C4:18≤x.op) (hop:x.op≤255) (hmo:ps.length≤m.most∧m.most≤8):Fc Tryz.prog 114 #[AV pr,.pointer (some ⟨b,o,none⟩),.agg #[.int .u8 x.op,AW x.a,AW x.b,SS],vj] w (fun r w'=>∃e vs' TV ps' W6 loc' Xb,r=(if e≠0 then .agg #[AW 2,.slice none 0 0,AW e,AW 0,AW 0] else .agg #[AW 0,.slice none 0 0,AW 0,AW 0,AW 0])∧Nh (VV m.most x ⟨flat ps,Zr,Zj⟩ c.loc c.stk) e (flat ps') W6 loc' Xb∧ps'.length≤8∧Sat g w' (Pt pr [AV cp,vw,vc,AW 0] 148::Pt cp (AY m [AV mp,vt,vg]) 158::Pt mp [TV,AW m.most] 221::Sl 223 256 Xk TV ps'::Sl 3 1 ZG vt Zr::Sl 2 1 ZG vg W6::Sl 79 4 Yj vc (up++[⟨c.fn,c.at_+1,c.vl,loc',vs',Xb⟩])::Wj up::Sl 2 1 ZG c.vl loc'::Sl 2 1 ZG vs' Xb::l)):=by
 refine Fc.of Tryz.func114 rfl k_d ?_
 have hx:=Yr hcs
 have WK:=Yq hcs
 have hvl:=H.one 8 rfl
 refine ZI H<|fun p1 w1 H=>ZU H rfl<|fun p2 w2 H=>Z9 rfl<|Z5 (H.el 8 rfl E hx) 1 rfl rfl rfl<|ZW A8<|Z9 rfl<|Yz H 8 rfl E hx 1 (⟨c.fn,c.at_+1,c.vl,c.loc,c.vs,c.stk⟩) rfl rfl rfl rfl<|fun w1 H=>Z9 rfl<|Z5 (H.at 1 rfl) 0 rfl rfl rfl<|bk ?_
 simp only [WK] at H
 have hx1:(up++[(⟨c.fn,c.at_+1,c.vl,c.loc,c.vs,c.stk⟩:CV)])[up.length]?=some (⟨c.fn,c.at_+1,c.vl,c.loc,c.vs,c.stk⟩:CV):=Yr rfl
 clear hx
 have Ww:∀z,(up++[(⟨c.fn,c.at_+1,c.vl,c.loc,c.vs,c.stk⟩:CV)]).set up.length z=up++[z]:=Yq rfl
 have FU:(up++[(⟨c.fn,c.at_+1,c.vl,c.loc,c.vs,c.stk⟩:CV)]).length=cs.length:=by grind
 refine cF (Z4 A8)<|cF (Z4 A8)<|cF (Z4 A8)<|cF (Z4 A8)<|cF (Z4 A8)<|cF (Z4 A8)<|cF (Z4 A8)<|cF (Z4 A8)<|cF (Z4 A8)<|cF (Z4 A8)<|cF (Z4 A8)<|ZN H [] [AUp0,AUp1,AUp2,AUh3,AUh4,AUp5,AUp6,AUp7,AUh8,AUp9,AUp10,AUp11,AUh12,AUfr13,AUp14,AUp15,AUp16,AUp17,AUp18] mixed k_d k_d<|fun w2 H=>tk (fun _ Z=>Z9 rfl AX)<|tk (fun _ Z=>Z5 (Z.at 2 rfl) 0 rfl rfl rfl AX)<|tk (fun _ Z=>ZD (Z.at 1 rfl) 0 rfl rfl rfl AX)<|tk (fun _ Z=>Z9 rfl AX)<|tk (fun _ Z=>Z5 (Z.el 8 rfl E hx1) 2 rfl rfl rfl AX)<|tk (fun _ Z=>Z9 rfl AX)<|tk (fun _ Z=>Z5 (Z.el 8 rfl E hx1) 3 rfl rfl rfl AX)<|H.Z8 [11,11,9,9,9,9,9]<|fun H=>?_
 refine Z7.mk (Fc.imp (Rn.do_ H A8 A8 A8 A8 A8) ?_)
 clear H
 rintro _ w1 ⟨e1,⟨Zt,⟨alN,⟨OB,⟨ah0,⟨Hf,⟨RF,⟨rfl,⟨h1,⟨h2,H⟩⟩⟩⟩⟩⟩⟩⟩⟩⟩
 refine Z9 rfl<|Yz H 10 rfl E hx1 3 (⟨c.fn,c.at_+1,c.vl,Hf,(Zt),RF⟩) rfl (by simp only [Bool.and_true,H.one 2 rfl,H.one 3 rfl,H.one 4 rfl,H.one 5 rfl,H.one 6 rfl,H.one 10 rfl,hvl]) rfl rfl<|fun w3 H=>?_
 refine cI (fun c1=>?_) (fun c1=>?_)
 focus
  replace c1:=Yn (c1)
  refine Zi rfl rfl rfl<|ZE H 7 rfl rfl rfl rfl<|fun w1 H=>Xt (H.at 7 rfl) 0 rfl rfl rfl ?_
 rotate_left 1
 focus
  replace c1:=Ym (c1)
  refine Zi rfl rfl rfl<|ZE H 7 rfl rfl rfl rfl<|fun w1 H=>Xt (H.at 7 rfl) 0 rfl rfl rfl ?_
 rotate_left 1
 ·simp only [Ww] at H
  refine Z6.mk ⟨e1,Zt,alN,OB,ah0,Hf,RF,(if_pos A7).symm,by assumption,by assumption,?_⟩
  refine H.Z8 [6,6,11,11,8,8,8,8,8,11]<|fun H=>H.drop 11<|fun H=>H.drop 10<|fun H=>?_
  exact H
 ·simp only [Ww] at H
  refine Z6.mk ⟨e1,Zt,alN,OB,ah0,Hf,RF,(if_neg A8).symm,by assumption,by assumption,?_⟩
  refine H.Z8 [6,6,11,11,8,8,8,8,8,11]<|fun H=>H.drop 11<|fun H=>H.drop 10<|fun H=>?_
  exact H
end
end Rn
end Go.Proofs.YtakpnepblgfknaaGreatDoor
