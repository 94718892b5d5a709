/- Texts of this claim, one behind the other. -/
import Derived.Test.YtakpnepblgfknaaGreatDoorB9
import Derived.Test.YtakpnepblgfknaaGreatDoorB8
import Derived.Test.YtakpnepblgfknaaGreatDoorB7
import Derived.Test.YtakpnepblgfknaaGreatDoorB3
set_option maxRecDepth 100000
set_option maxHeartbeats 4000000
set_option linter.unusedVariables false
set_option linter.unusedSimpArgs false
set_option linter.defProp false
namespace Go.Proofs.YtakpnepblgfknaaGreatDoor
namespace Rn
open Go YW Go.RowKit
open YU Zm X7 YN Valid Mem
section
variable {g:Zy} {w:World} {l:List As} {m:Zg} {cp mp:Nat} {vp vt vg vl vs SH:Value} {ps:List WM} {Zr Zk loc stk:List Int} {x:ZT}
theorem adC {ps:List WM} {n:Nat}:flat (ps++List.replicate n zp)=flat ps++List.replicate (256 * n) 0:=by
 unfold flat
 rw [lIa]
 congr 1
 induction n with
 | zero=>rfl
 | succ n ih =>
  rw [lFb,lNa,ih,show 256 * (n+1)=256+256 * n by omega,←List.replicate_append_replicate];rfl
theorem bt2 {s:List Int} (h:3≤s.length):∃t a b c,s=t++[a]++[b]++[c]:=by
 obtain ⟨t,c,rfl⟩:=OH (show 1≤s.length by omega)
 rw [lca,lFa] at h
 obtain ⟨t,b,rfl⟩:=OH (show 1≤t.length by omega)
 rw [lca,lFa] at h
 obtain ⟨t,a,rfl⟩:=OH (show 1≤t.length by omega)
 exact ⟨t,a,b,c,rfl⟩
theorem aoH {d:List Int→CR} {e:Int} {mm:List UInt8} {gl s':List Int} (h:∀loc,M3 (d loc) e mm gl loc s'):M3 (d loc) e mm gl loc s':=h loc
theorem anN {I:Sk} {s':List Int} {e e1 e2:Int} {s1 s2:List Int} {c:Prop} [Decidable c] (h:(s',e)=(if c then (s1,e1) else (s2,e2))):M3 (if c then ⟨I,loc,s1,e1⟩ else ⟨I,loc,s2,e2⟩) e I.mem I.Zk loc s':=by
 by_cases hc:c
 ·rw [if_pos hc] at h ⊢
  injection h with h1 h2
  exact ⟨h2,rfl,rfl,rfl,fun _=>h1⟩
 ·rw [if_neg hc] at h ⊢
  injection h with h1 h2
  exact ⟨h2,rfl,rfl,rfl,fun _=>h1⟩
theorem gr0 {e a most:Int} {ps':List WM} (h1:1≤stk.length) (h:most-(ps.length:Int)<a % 4294967296) (he:e=-1) (hp:ps'=ps):M3 (if most-(ps.length:Int)<a % 4294967296 then ⟨⟨flat ps,Zr,Zk⟩,loc,low stk 1++[-1],0⟩ else ⟨⟨flat ps++List.replicate (256 * (a % 4294967296).toNat) 0,Zr,Zk⟩,loc,low stk 1++[(ps.length:Int)],0⟩) 0 (flat ps') Zk loc (stk.set (stk.length-1) e):=by
 rw [if_pos h,he,hp]
 exact ⟨rfl,rfl,rfl,rfl,fun _=>NY h1⟩
theorem gr1 {e a most:Int} {ps':List WM} (h1:1≤stk.length) (h:¬most-(ps.length:Int)<a % 4294967296) (he:e=ps.length) (hp:ps'=ps++List.replicate (a % 4294967296).toNat zp):M3 (if most-(ps.length:Int)<a % 4294967296 then ⟨⟨flat ps,Zr,Zk⟩,loc,low stk 1++[-1],0⟩ else ⟨⟨flat ps++List.replicate (256 * (a % 4294967296).toNat) 0,Zr,Zk⟩,loc,low stk 1++[(ps.length:Int)],0⟩) 0 (flat ps') Zk loc (stk.set (stk.length-1) e):=by
 rw [if_neg h,he,hp,adC]
 exact ⟨rfl,rfl,rfl,rfl,fun _=>NY h1⟩
theorem alE (H:Sat g w (Pt cp (AE m [AA mp,vt,vg]) 158::Pt mp [vp,AB m.most] 221::Sl 223 256 Xg vp ps::Sl 3 1 ZE vt Zr::Sl 2 1 ZE vg Zk::Sl 2 1 ZE vl loc::Sl 2 1 ZE vs stk::l)) (ho:x.op=26) (h1:1≤stk.length) (hlen:stk.length≤100000) (hp:ps.length≤8):Fc Tryz.prog 160 #[AA cp,.agg #[.int .u8 x.op,AB x.a,AB x.b,SH],vl,vs] w (fun r w'=>∃e vs' TO ps' W3 loc' W8,r=.tuple #[vs',AB e]∧M3 (VR m.most x ⟨flat ps,Zr,Zk⟩ loc stk) e (flat ps') W3 loc' W8∧ps'.length≤8∧Sat g w' (Pt cp (AE m [AA mp,vt,vg]) 158::Pt mp [TO,AB m.most] 221::Sl 223 256 Xg TO ps'::Sl 3 1 ZE vt Zr::Sl 2 1 ZE vg W3::Sl 2 1 ZE vl loc'::Sl 2 1 ZE vs' W8::l)):=by
 refine Fc.of Tryz.func160 rfl k_d ?_
 have hd:VR m.most x ⟨flat ps,Zr,Zk⟩ loc stk=⟨⟨flat ps,Zr,Zk⟩,loc,low stk 1,0⟩:=by grind [VR]
 rw [hd]
 clear hd
 refine ZJ H<|fun p1 w1 H=>YO H 7 rfl rfl<|ZY AH<|bk<|Z9 rfl<|Z5 (H.at 0 rfl) 0 rfl rfl rfl<|cT (ZI AG)<|NB H 7 rfl 0 ((stk.length)-1) rfl rfl AH AH (.inl ⟨rfl,rfl⟩) (.inr ⟨_,by first|rfl|(congr 2;omega)⟩)<|fun v1=>?_
 intro H
 refine Z6.mk ?_
 refine ⟨0,v1,vp,ps,Zk,loc,List.drop 0 (List.take (stk.length-1) stk),?_⟩
 refine ⟨rfl,?_⟩
 refine ⟨?_,?_⟩
 ·exact ⟨rfl,rfl,rfl,rfl,fun _=>J3⟩
 refine ⟨AH,?_⟩
 refine H.Z8 [7,7,7,7,7,7,7]<|fun H=>H.drop 7<|fun H=>?_
 exact H
theorem alF (H:Sat g w (Pt cp (AE m [AA mp,vt,vg]) 158::Pt mp [vp,AB m.most] 221::Sl 223 256 Xg vp ps::Sl 3 1 ZE vt Zr::Sl 2 1 ZE vg Zk::Sl 2 1 ZE vl loc::Sl 2 1 ZE vs stk::l)) (ho:x.op=27) (h1:3≤stk.length) (hlen:stk.length≤100000) (hp:ps.length≤8):Fc Tryz.prog 160 #[AA cp,.agg #[.int .u8 x.op,AB x.a,AB x.b,SH],vl,vs] w (fun r w'=>∃e vs' TO ps' W3 loc' W8,r=.tuple #[vs',AB e]∧M3 (VR m.most x ⟨flat ps,Zr,Zk⟩ loc stk) e (flat ps') W3 loc' W8∧ps'.length≤8∧Sat g w' (Pt cp (AE m [AA mp,vt,vg]) 158::Pt mp [TO,AB m.most] 221::Sl 223 256 Xg TO ps'::Sl 3 1 ZE vt Zr::Sl 2 1 ZE vg W3::Sl 2 1 ZE vl loc'::Sl 2 1 ZE vs' W8::l)):=by
 refine Fc.of Tryz.func160 rfl k_d ?_
 obtain ⟨t,a,b,c,hs⟩:=bt2 h1
 have hl:stk.length=t.length+3:=by grind
 have hc:stk[stk.length-1]?=some c:=by grind
 have hb:stk[stk.length-1-1]?=some b:=by grind
 have ha:stk[stk.length-1-2]?=some a:=by grind
 have r1:List.drop 0 (List.take (stk.length-1-1) stk)=t++[a]:=by
  rw [hl,hs];simp
  rw [show t++[a,b,c]=(t++[a])++[b,c] by simp,lxa AF,lta AF]
 have r2:List.drop 0 (List.take (stk.length-1-1) (stk.set (stk.length-1-2) b))=t++[b]:=by
  rw [hl,hs];simp
  rw [show t++[b,b,c]=(t++[b])++[b,c] by simp,lxa AF,lta AF]
 have hd:VR m.most x ⟨flat ps,Zr,Zk⟩ loc stk=⟨⟨flat ps,Zr,Zk⟩,loc,if c=0 then t++[b] else t++[a],0⟩:=by
  unfold VR
  rw [if_neg AH,if_pos ho,hs,UB,als,Hj AF,UB,Nb,Nb,J8]
 rw [hd]
 clear hd
 refine ZJ H<|fun p1 w1 H=>YO H 7 rfl rfl<|ZY AH<|bk<|Z9 rfl<|Z5 (H.at 0 rfl) 0 rfl rfl rfl<|cF (Z4 AH)<|Z9 rfl<|Z5 (H.at 0 rfl) 0 rfl rfl rfl<|cT (ZI AG) ?_
 obtain ⟨b1,o1,E1⟩:=H.Zf 7 rfl ((stk.length)-1) AH
 refine ZK E1 AH rfl rfl<|Z5 (H.el 7 rfl E1 hc) 0 rfl rfl rfl ?_
 refine cI (fun c1=>?_) (fun c1=>?_)
 ·replace c1:=ZR (c1)
  refine ZY AH<|ZY AH ?_
  obtain ⟨b2,o2,E2⟩:=H.Zf 7 rfl (((stk.length)-1)-1) AH
  refine ZK E2 AH rfl rfl<|Z5 (H.el 7 rfl E2 hb) 0 rfl rfl rfl ?_
  obtain ⟨b3,o3,E3⟩:=H.Zf 7 rfl (((stk.length)-1)-2) AH
  refine ZK E3 AH rfl rfl<|Yz H 7 rfl E3 ha 0 (b) rfl rfl rfl rfl<|fun w2 H=>ZY AH<|NB H 7 rfl 0 (((stk.length)-1)-1) rfl rfl (by grind) (by grind) (.inl ⟨rfl,rfl⟩) (.inr ⟨_,by first|rfl|(congr 2;(first|omega|(simp only [List.length_append,List.length_set,List.length_cons,List.length_nil];omega)|(simp;omega)|(simp;done)))⟩)<|fun v1=>?_
  intro H
  refine Z6.mk ?_
  refine ⟨0,v1,vp,ps,Zk,loc,List.drop 0 (List.take (stk.length-1-1) (stk.set (stk.length-1-2) b)),?_⟩
  refine ⟨rfl,?_⟩
  refine ⟨?_,?_⟩
  ·exact ⟨rfl,rfl,rfl,rfl,fun _=>by rw [if_pos AG];exact r2⟩
  refine ⟨AH,?_⟩
  refine H.Z8 [7,7,7,7,7,7,7]<|fun H=>H.drop 7<|fun H=>?_
  exact H
 replace c1:=ZQ (c1)
 refine ZY AH<|NB H 7 rfl 0 (((stk.length)-1)-1) rfl rfl AH AH (.inl ⟨rfl,rfl⟩) (.inr ⟨_,by first|rfl|(congr 2;omega)⟩)<|fun v1=>?_
 intro H
 refine Z6.mk ?_
 refine ⟨0,v1,vp,ps,Zk,loc,List.drop 0 (List.take (stk.length-1-1) stk),?_⟩
 refine ⟨rfl,?_⟩
 refine ⟨?_,?_⟩
 ·exact ⟨rfl,rfl,rfl,rfl,fun _=>by rw [if_neg AG];exact r1⟩
 refine ⟨AH,?_⟩
 refine H.Z8 [7,7,7,7,7,7,7]<|fun H=>H.drop 7<|fun H=>?_
 exact H
theorem alG (H:Sat g w (Pt cp (AE m [AA mp,vt,vg]) 158::Pt mp [vp,AB m.most] 221::Sl 223 256 Xg vp ps::Sl 3 1 ZE vt Zr::Sl 2 1 ZE vg Zk::Sl 2 1 ZE vl loc::Sl 2 1 ZE vs stk::l)) (ho:x.op=32) (hb:0≤x.a∧x.a<loc.length) (hlen:stk.length≤100000) (hp:ps.length≤8):Fc Tryz.prog 160 #[AA cp,.agg #[.int .u8 x.op,AB x.a,AB x.b,SH],vl,vs] w (fun r w'=>∃e vs' TO ps' W3 loc' W8,r=.tuple #[vs',AB e]∧M3 (VR m.most x ⟨flat ps,Zr,Zk⟩ loc stk) e (flat ps') W3 loc' W8∧ps'.length≤8∧Sat g w' (Pt cp (AE m [AA mp,vt,vg]) 158::Pt mp [TO,AB m.most] 221::Sl 223 256 Xg TO ps'::Sl 3 1 ZE vt Zr::Sl 2 1 ZE vg W3::Sl 2 1 ZE vl loc'::Sl 2 1 ZE vs' W8::l)):=by
 refine Fc.of Tryz.func160 rfl k_d ?_
 obtain ⟨i,hi⟩:=lsa hb.1
 rw [hi] at hb ⊢
 obtain ⟨y,hy⟩:∃y,loc[i]?=some y:=⟨_,laa AH⟩
 have hd:VR m.most x ⟨flat ps,Zr,Zk⟩ loc stk=⟨⟨flat ps,Zr,Zk⟩,loc,stk++[y],0⟩:=by grind [VR]
 rw [hd]
 clear hd
 refine ZJ H<|fun p1 w1 H=>YO H 7 rfl rfl<|ZY AH<|bk<|Z9 rfl<|Z5 (H.at 0 rfl) 0 rfl rfl rfl<|cF (Z4 AH)<|Z9 rfl<|Z5 (H.at 0 rfl) 0 rfl rfl rfl<|cF (Z4 AH)<|Z9 rfl<|Z5 (H.at 0 rfl) 0 rfl rfl rfl<|cT (ZI AG)<|Z9 rfl<|Z5 (H.at 0 rfl) 1 rfl rfl rfl ?_
 obtain ⟨b1,o1,E1⟩:=H.Zf 6 rfl (i) AH
 refine ZK E1 rfl rfl rfl<|Z5 (H.el 6 rfl E1 hy) 0 rfl rfl rfl<|ZZ H rfl rfl rfl rfl<|fun p2 w2 H=>Wr (ys:=[_]) 8 H 8 rfl (H.at 0 rfl) rfl (fun y _=>rfl) rfl rfl rfl AH AH<|fun v1=>?_
 intro w1 H
 refine Z6.mk ?_
 refine ⟨0,v1,vp,ps,Zk,loc,stk++[y],?_⟩
 refine ⟨rfl,?_⟩
 refine ⟨?_,?_⟩
 ·exact k_w
 refine ⟨AH,?_⟩
 refine H.Z8 [8,8,8,8,8,8,8]<|fun H=>H.drop 8<|fun H=>H.drop 7<|fun H=>?_
 exact H
theorem alH (H:Sat g w (Pt cp (AE m [AA mp,vt,vg]) 158::Pt mp [vp,AB m.most] 221::Sl 223 256 Xg vp ps::Sl 3 1 ZE vt Zr::Sl 2 1 ZE vg Zk::Sl 2 1 ZE vl loc::Sl 2 1 ZE vs stk::l)) (ho:x.op=33∨x.op=34) (hb:0≤x.a∧x.a<loc.length) (h1:1≤stk.length) (hlen:stk.length≤100000) (hp:ps.length≤8):Fc Tryz.prog 160 #[AA cp,.agg #[.int .u8 x.op,AB x.a,AB x.b,SH],vl,vs] w (fun r w'=>∃e vs' TO ps' W3 loc' W8,r=.tuple #[vs',AB e]∧M3 (VR m.most x ⟨flat ps,Zr,Zk⟩ loc stk) e (flat ps') W3 loc' W8∧ps'.length≤8∧Sat g w' (Pt cp (AE m [AA mp,vt,vg]) 158::Pt mp [TO,AB m.most] 221::Sl 223 256 Xg TO ps'::Sl 3 1 ZE vt Zr::Sl 2 1 ZE vg W3::Sl 2 1 ZE vl loc'::Sl 2 1 ZE vs' W8::l)):=by
 refine Fc.of Tryz.func160 rfl k_d ?_
 obtain ⟨a,ha,Ih,HX⟩:=Fe (s:=stk) AH
 obtain ⟨i,hi⟩:=lsa hb.1
 rw [hi] at hb ⊢
 obtain ⟨y,hy⟩:∃y,loc[i]?=some y:=⟨_,laa AH⟩
 have hd:VR m.most x ⟨flat ps,Zr,Zk⟩ loc stk=⟨⟨flat ps,Zr,Zk⟩,loc.set i a,if x.op=33 then low stk 1 else stk,0⟩:=by grind [VR]
 rw [hd]
 clear hd
 rcases ho with ho|ho
 ·rw [if_pos ho]
  refine ZJ H<|fun p1 w1 H=>YO H 7 rfl rfl<|ZY AH<|bk<|Z9 rfl<|Z5 (H.at 0 rfl) 0 rfl rfl rfl<|cF (Z4 AH)<|Z9 rfl<|Z5 (H.at 0 rfl) 0 rfl rfl rfl<|cF (Z4 AH)<|Z9 rfl<|Z5 (H.at 0 rfl) 0 rfl rfl rfl<|cF (Z4 AH)<|Z9 rfl<|Z5 (H.at 0 rfl) 0 rfl rfl rfl<|cT (ZI AG)<|ZN H [] [Azp0,Azp1,Azh2,Azp3,Azp4,Azp5,Azh6,Azp7,Azfr8] mixed k_d k_d<|fun w2 H=>tk (fun _ Z=>Z9 rfl AD)<|tk (fun _ Z=>Z5 (Z.at 0 rfl) 1 rfl rfl rfl AD) ?_
  obtain ⟨b1,o1,E1⟩:=H.Zf 7 rfl ((stk.length)-1) AH
  refine tk (fun _ Z=>ZK E1 AH rfl rfl AD)<|tk (fun _ Z=>Z5 (Z.el 7 rfl E1 ha) 0 rfl rfl rfl AD) ?_
  obtain ⟨b2,o2,E2⟩:=H.Zf 6 rfl (i) AH
  refine tk (fun _ Z=>ZK E2 rfl rfl rfl AD)<|Yz H 6 rfl E2 hy 0 (a) rfl rfl rfl rfl<|fun w1 H=>NB H 7 rfl 0 ((stk.length)-1) rfl rfl AH AH (.inl ⟨rfl,rfl⟩) (.inr ⟨_,by first|rfl|(congr 2;omega)⟩)<|fun v1=>?_
  intro H
  refine Z6.mk ?_
  refine ⟨0,v1,vp,ps,Zk,loc.set i a,List.drop 0 (List.take (stk.length-1) stk),?_⟩
  refine ⟨rfl,?_⟩
  refine ⟨?_,?_⟩
  ·exact ⟨rfl,rfl,rfl,rfl,fun _=>J3⟩
  refine ⟨AH,?_⟩
  refine H.Z8 [7,7,7,7,7,7,7]<|fun H=>H.drop 7<|fun H=>?_
  exact H
 ·rw [if_neg AH]
  refine ZJ H<|fun p1 w1 H=>YO H 7 rfl rfl<|ZY AH<|bk<|Z9 rfl<|Z5 (H.at 0 rfl) 0 rfl rfl rfl<|cF (Z4 AH)<|Z9 rfl<|Z5 (H.at 0 rfl) 0 rfl rfl rfl<|cF (Z4 AH)<|Z9 rfl<|Z5 (H.at 0 rfl) 0 rfl rfl rfl<|cF (Z4 AH)<|Z9 rfl<|Z5 (H.at 0 rfl) 0 rfl rfl rfl<|cF (Z4 AH)<|Z9 rfl<|Z5 (H.at 0 rfl) 0 rfl rfl rfl<|cT (ZI AG)<|ZN H [] [Azp0,Azp1,Azh2,Azp3,Azp4,Azp5,Azh6,Azp7,Azfr8] mixed k_d k_d<|fun w2 H=>tk (fun _ Z=>Z9 rfl AD)<|tk (fun _ Z=>Z5 (Z.at 0 rfl) 1 rfl rfl rfl AD) ?_
  obtain ⟨b1,o1,E1⟩:=H.Zf 7 rfl ((stk.length)-1) AH
  refine tk (fun _ Z=>ZK E1 AH rfl rfl AD)<|tk (fun _ Z=>Z5 (Z.el 7 rfl E1 ha) 0 rfl rfl rfl AD) ?_
  obtain ⟨b2,o2,E2⟩:=H.Zf 6 rfl (i) AH
  refine tk (fun _ Z=>ZK E2 rfl rfl rfl AD)<|Yz H 6 rfl E2 hy 0 (a) rfl rfl rfl rfl<|fun w1 H=>Z6.mk ?_
  refine ⟨0,vs,vp,ps,Zk,loc.set i a,stk,?_⟩
  refine ⟨rfl,?_⟩
  refine ⟨?_,?_⟩
  ·exact k_w
  refine ⟨AH,?_⟩
  refine H.Z8 [7,7,7,7,7,7,7]<|fun H=>H.drop 7<|fun H=>?_
  exact H
theorem alI (H:Sat g w (Pt cp (AE m [AA mp,vt,vg]) 158::Pt mp [vp,AB m.most] 221::Sl 223 256 Xg vp ps::Sl 3 1 ZE vt Zr::Sl 2 1 ZE vg Zk::Sl 2 1 ZE vl loc::Sl 2 1 ZE vs stk::l)) (ho:x.op=35) (hb:0≤x.a∧x.a<Zk.length) (hlen:stk.length≤100000) (hp:ps.length≤8):Fc Tryz.prog 160 #[AA cp,.agg #[.int .u8 x.op,AB x.a,AB x.b,SH],vl,vs] w (fun r w'=>∃e vs' TO ps' W3 loc' W8,r=.tuple #[vs',AB e]∧M3 (VR m.most x ⟨flat ps,Zr,Zk⟩ loc stk) e (flat ps') W3 loc' W8∧ps'.length≤8∧Sat g w' (Pt cp (AE m [AA mp,vt,vg]) 158::Pt mp [TO,AB m.most] 221::Sl 223 256 Xg TO ps'::Sl 3 1 ZE vt Zr::Sl 2 1 ZE vg W3::Sl 2 1 ZE vl loc'::Sl 2 1 ZE vs' W8::l)):=by
 refine Fc.of Tryz.func160 rfl k_d ?_
 obtain ⟨i,hi⟩:=lsa hb.1
 rw [hi] at hb ⊢
 obtain ⟨y,hy⟩:∃y,Zk[i]?=some y:=⟨_,laa AH⟩
 have hd:VR m.most x ⟨flat ps,Zr,Zk⟩ loc stk=⟨⟨flat ps,Zr,Zk⟩,loc,stk++[y],0⟩:=by grind [VR]
 rw [hd]
 clear hd
 refine ZJ H<|fun p1 w1 H=>YO H 7 rfl rfl<|ZY AH<|bk<|Z9 rfl<|Z5 (H.at 0 rfl) 0 rfl rfl rfl<|cF (Z4 AH)<|Z9 rfl<|Z5 (H.at 0 rfl) 0 rfl rfl rfl<|cF (Z4 AH)<|Z9 rfl<|Z5 (H.at 0 rfl) 0 rfl rfl rfl<|cF (Z4 AH)<|Z9 rfl<|Z5 (H.at 0 rfl) 0 rfl rfl rfl<|cF (Z4 AH)<|Z9 rfl<|Z5 (H.at 0 rfl) 0 rfl rfl rfl<|cF (Z4 AH)<|Z9 rfl<|Z5 (H.at 0 rfl) 0 rfl rfl rfl<|cT (ZI AG)<|ZN H [] [Azp0,Azp1,Azp2,Azp3,Azh4,Azp5,Azh6,Azp7,Azh8,Azfr9,Azfr10,Azp11,Azp12] mixed k_d k_d<|fun w2 H=>tk (fun _ Z=>Z9 rfl AD)<|tk (fun _ Z=>Z5 (Z.at 1 rfl) 13 rfl rfl rfl AD)<|tk (fun _ Z=>Z9 rfl AD)<|tk (fun _ Z=>Z5 (Z.at 0 rfl) 1 rfl rfl rfl AD) ?_
 obtain ⟨b1,o1,E1⟩:=H.Zf 5 rfl (i) AH
 refine tk (fun _ Z=>ZK E1 rfl rfl rfl AD)<|tk (fun _ Z=>Z5 (Z.el 5 rfl E1 hy) 0 rfl rfl rfl AD)<|ZZ H rfl rfl rfl rfl<|fun p2 w1 H=>Wr (ys:=[_]) 8 H 8 rfl (H.at 0 rfl) rfl (fun y _=>rfl) rfl rfl rfl AH AH<|fun v1=>?_
 intro w2 H
 refine Z6.mk ?_
 refine ⟨0,v1,vp,ps,Zk,loc,stk++[y],?_⟩
 refine ⟨rfl,?_⟩
 refine ⟨?_,?_⟩
 ·exact k_w
 refine ⟨AH,?_⟩
 refine H.Z8 [8,8,8,8,8,8,8]<|fun H=>H.drop 8<|fun H=>H.drop 7<|fun H=>?_
 exact H
theorem alJ (H:Sat g w (Pt cp (AE m [AA mp,vt,vg]) 158::Pt mp [vp,AB m.most] 221::Sl 223 256 Xg vp ps::Sl 3 1 ZE vt Zr::Sl 2 1 ZE vg Zk::Sl 2 1 ZE vl loc::Sl 2 1 ZE vs stk::l)) (ho:x.op=36) (hb:0≤x.a∧x.a<Zk.length) (h1:1≤stk.length) (hlen:stk.length≤100000) (hp:ps.length≤8):Fc Tryz.prog 160 #[AA cp,.agg #[.int .u8 x.op,AB x.a,AB x.b,SH],vl,vs] w (fun r w'=>∃e vs' TO ps' W3 loc' W8,r=.tuple #[vs',AB e]∧M3 (VR m.most x ⟨flat ps,Zr,Zk⟩ loc stk) e (flat ps') W3 loc' W8∧ps'.length≤8∧Sat g w' (Pt cp (AE m [AA mp,vt,vg]) 158::Pt mp [TO,AB m.most] 221::Sl 223 256 Xg TO ps'::Sl 3 1 ZE vt Zr::Sl 2 1 ZE vg W3::Sl 2 1 ZE vl loc'::Sl 2 1 ZE vs' W8::l)):=by
 refine Fc.of Tryz.func160 rfl k_d ?_
 obtain ⟨a,ha,Ih,HX⟩:=Fe (s:=stk) AH
 obtain ⟨i,hi⟩:=lsa hb.1
 rw [hi] at hb ⊢
 obtain ⟨y,hy⟩:∃y,Zk[i]?=some y:=⟨_,laa AH⟩
 have hd:VR m.most x ⟨flat ps,Zr,Zk⟩ loc stk=⟨⟨flat ps,Zr,Zk.set i a⟩,loc,low stk 1,0⟩:=by grind [VR]
 rw [hd]
 clear hd
 refine ZJ H<|fun p1 w1 H=>YO H 7 rfl rfl<|ZY AH<|bk<|Z9 rfl<|Z5 (H.at 0 rfl) 0 rfl rfl rfl<|cF (Z4 AH)<|Z9 rfl<|Z5 (H.at 0 rfl) 0 rfl rfl rfl<|cF (Z4 AH)<|Z9 rfl<|Z5 (H.at 0 rfl) 0 rfl rfl rfl<|cF (Z4 AH)<|Z9 rfl<|Z5 (H.at 0 rfl) 0 rfl rfl rfl<|cF (Z4 AH)<|Z9 rfl<|Z5 (H.at 0 rfl) 0 rfl rfl rfl<|cF (Z4 AH)<|Z9 rfl<|Z5 (H.at 0 rfl) 0 rfl rfl rfl<|cF (Z4 AH)<|Z9 rfl<|Z5 (H.at 0 rfl) 0 rfl rfl rfl<|cT (ZI AG)<|ZN H [] [Azp0,Azp1,Azp2,Azh3,Azp4,Azh5,Azp6,Azp7,Azp8,Azh9,Azp10,Azfr11] mixed k_d k_d<|fun w2 H=>tk (fun _ Z=>Z9 rfl AD)<|tk (fun _ Z=>Z5 (Z.at 1 rfl) 13 rfl rfl rfl AD)<|tk (fun _ Z=>Z9 rfl AD)<|tk (fun _ Z=>Z5 (Z.at 0 rfl) 1 rfl rfl rfl AD) ?_
 obtain ⟨b1,o1,E1⟩:=H.Zf 7 rfl ((stk.length)-1) AH
 refine tk (fun _ Z=>ZK E1 AH rfl rfl AD)<|tk (fun _ Z=>Z5 (Z.el 7 rfl E1 ha) 0 rfl rfl rfl AD) ?_
 obtain ⟨b2,o2,E2⟩:=H.Zf 5 rfl (i) AH
 refine tk (fun _ Z=>ZK E2 rfl rfl rfl AD)<|Yz H 5 rfl E2 hy 0 (a) rfl rfl rfl rfl<|fun w1 H=>NB H 7 rfl 0 ((stk.length)-1) rfl rfl AH AH (.inl ⟨rfl,rfl⟩) (.inr ⟨_,by first|rfl|(congr 2;omega)⟩)<|fun v1=>?_
 intro H
 refine Z6.mk ?_
 refine ⟨0,v1,vp,ps,Zk.set i a,loc,List.drop 0 (List.take (stk.length-1) stk),?_⟩
 refine ⟨rfl,?_⟩
 refine ⟨?_,?_⟩
 ·exact ⟨rfl,rfl,rfl,rfl,fun _=>J3⟩
 refine ⟨AH,?_⟩
 refine H.Z8 [7,7,7,7,7,7,7]<|fun H=>H.drop 7<|fun H=>?_
 exact H
theorem alK (H:Sat g w (Pt cp (AE m [AA mp,vt,vg]) 158::Pt mp [vp,AB m.most] 221::Sl 223 256 Xg vp ps::Sl 3 1 ZE vt Zr::Sl 2 1 ZE vg Zk::Sl 2 1 ZE vl loc::Sl 2 1 ZE vs stk::l)) (ho:x.op=65∨x.op=66) (hlen:stk.length≤100000) (hp:ps.length≤8):Fc Tryz.prog 160 #[AA cp,.agg #[.int .u8 x.op,AB x.a,AB x.b,SH],vl,vs] w (fun r w'=>∃e vs' TO ps' W3 loc' W8,r=.tuple #[vs',AB e]∧M3 (VR m.most x ⟨flat ps,Zr,Zk⟩ loc stk) e (flat ps') W3 loc' W8∧ps'.length≤8∧Sat g w' (Pt cp (AE m [AA mp,vt,vg]) 158::Pt mp [TO,AB m.most] 221::Sl 223 256 Xg TO ps'::Sl 3 1 ZE vt Zr::Sl 2 1 ZE vg W3::Sl 2 1 ZE vl loc'::Sl 2 1 ZE vs' W8::l)):=by
 refine Fc.of Tryz.func160 rfl k_d ?_
 have hd:VR m.most x ⟨flat ps,Zr,Zk⟩ loc stk=⟨⟨flat ps,Zr,Zk⟩,loc,stk++[x.a],0⟩:=by grind [VR]
 rw [hd]
 clear hd
 rcases ho with ho|ho
 ·refine ZJ H<|fun p1 w1 H=>YO H 7 rfl rfl<|ZY AH<|bk<|Z9 rfl<|Z5 (H.at 0 rfl) 0 rfl rfl rfl<|cF (Z4 AH)<|Z9 rfl<|Z5 (H.at 0 rfl) 0 rfl rfl rfl<|cF (Z4 AH)<|Z9 rfl<|Z5 (H.at 0 rfl) 0 rfl rfl rfl<|cF (Z4 AH)<|Z9 rfl<|Z5 (H.at 0 rfl) 0 rfl rfl rfl<|cF (Z4 AH)<|Z9 rfl<|Z5 (H.at 0 rfl) 0 rfl rfl rfl<|cF (Z4 AH)<|Z9 rfl<|Z5 (H.at 0 rfl) 0 rfl rfl rfl<|cF (Z4 AH)<|Z9 rfl<|Z5 (H.at 0 rfl) 0 rfl rfl rfl<|cF (Z4 AH)<|Z9 rfl<|Z5 (H.at 0 rfl) 0 rfl rfl rfl<|cT (ZI AG)<|cT (ZI AG)<|Z9 rfl<|Z5 (H.at 0 rfl) 1 rfl rfl rfl<|ZZ H rfl rfl rfl rfl<|fun p2 w2 H=>Wr (ys:=[_]) 8 H 8 rfl (H.at 0 rfl) rfl (fun y _=>rfl) rfl rfl rfl AH AH<|fun v1=>?_
  intro w1 H
  refine Z6.mk ?_
  refine ⟨0,v1,vp,ps,Zk,loc,stk++[x.a],?_⟩
  refine ⟨rfl,?_⟩
  refine ⟨?_,?_⟩
  ·exact k_w
  refine ⟨AH,?_⟩
  refine H.Z8 [8,8,8,8,8,8,8]<|fun H=>H.drop 8<|fun H=>H.drop 7<|fun H=>?_
  exact H
 ·refine ZJ H<|fun p1 w1 H=>YO H 7 rfl rfl<|ZY AH<|bk<|Z9 rfl<|Z5 (H.at 0 rfl) 0 rfl rfl rfl<|cF (Z4 AH)<|Z9 rfl<|Z5 (H.at 0 rfl) 0 rfl rfl rfl<|cF (Z4 AH)<|Z9 rfl<|Z5 (H.at 0 rfl) 0 rfl rfl rfl<|cF (Z4 AH)<|Z9 rfl<|Z5 (H.at 0 rfl) 0 rfl rfl rfl<|cF (Z4 AH)<|Z9 rfl<|Z5 (H.at 0 rfl) 0 rfl rfl rfl<|cF (Z4 AH)<|Z9 rfl<|Z5 (H.at 0 rfl) 0 rfl rfl rfl<|cF (Z4 AH)<|Z9 rfl<|Z5 (H.at 0 rfl) 0 rfl rfl rfl<|cF (Z4 AH)<|Z9 rfl<|Z5 (H.at 0 rfl) 0 rfl rfl rfl<|cF (Z4 AH)<|Z9 rfl<|Z5 (H.at 0 rfl) 0 rfl rfl rfl<|cT (ZI AG)<|Z9 rfl<|Z5 (H.at 0 rfl) 1 rfl rfl rfl<|ZZ H rfl rfl rfl rfl<|fun p2 w2 H=>Wr (ys:=[_]) 8 H 8 rfl (H.at 0 rfl) rfl (fun y _=>rfl) rfl rfl rfl AH AH<|fun v1=>?_
  intro w1 H
  refine Z6.mk ?_
  refine ⟨0,v1,vp,ps,Zk,loc,stk++[x.a],?_⟩
  refine ⟨rfl,?_⟩
  refine ⟨?_,?_⟩
  ·exact k_w
  refine ⟨AH,?_⟩
  refine H.Z8 [8,8,8,8,8,8,8]<|fun H=>H.drop 8<|fun H=>H.drop 7<|fun H=>?_
  exact H
theorem alL (H:Sat g w (Pt cp (AE m [AA mp,vt,vg]) 158::Pt mp [vp,AB m.most] 221::Sl 223 256 Xg vp ps::Sl 3 1 ZE vt Zr::Sl 2 1 ZE vg Zk::Sl 2 1 ZE vl loc::Sl 2 1 ZE vs stk::l)) (ho:x.op=63) (hlen:stk.length≤100000) (hp:ps.length≤8):Fc Tryz.prog 160 #[AA cp,.agg #[.int .u8 x.op,AB x.a,AB x.b,SH],vl,vs] w (fun r w'=>∃e vs' TO ps' W3 loc' W8,r=.tuple #[vs',AB e]∧M3 (VR m.most x ⟨flat ps,Zr,Zk⟩ loc stk) e (flat ps') W3 loc' W8∧ps'.length≤8∧Sat g w' (Pt cp (AE m [AA mp,vt,vg]) 158::Pt mp [TO,AB m.most] 221::Sl 223 256 Xg TO ps'::Sl 3 1 ZE vt Zr::Sl 2 1 ZE vg W3::Sl 2 1 ZE vl loc'::Sl 2 1 ZE vs' W8::l)):=by
 refine Fc.of Tryz.func160 rfl k_d ?_
 have hd:VR m.most x ⟨flat ps,Zr,Zk⟩ loc stk=⟨⟨flat ps,Zr,Zk⟩,loc,stk++[(ps.length:Int)],0⟩:=by
  unfold VR
  rw [if_neg AH,if_neg AH,if_neg AH,if_neg AH,if_neg AH,if_neg AH,if_neg AH,if_neg AH,if_pos ho,TP]
 rw [hd]
 clear hd
 refine ZJ H<|fun p1 w1 H=>YO H 7 rfl rfl<|ZY AH<|bk<|Z9 rfl<|Z5 (H.at 0 rfl) 0 rfl rfl rfl<|cF (Z4 AH)<|Z9 rfl<|Z5 (H.at 0 rfl) 0 rfl rfl rfl<|cF (Z4 AH)<|Z9 rfl<|Z5 (H.at 0 rfl) 0 rfl rfl rfl<|cF (Z4 AH)<|Z9 rfl<|Z5 (H.at 0 rfl) 0 rfl rfl rfl<|cF (Z4 AH)<|Z9 rfl<|Z5 (H.at 0 rfl) 0 rfl rfl rfl<|cF (Z4 AH)<|Z9 rfl<|Z5 (H.at 0 rfl) 0 rfl rfl rfl<|cF (Z4 AH)<|Z9 rfl<|Z5 (H.at 0 rfl) 0 rfl rfl rfl<|cF (Z4 AH)<|Z9 rfl<|Z5 (H.at 0 rfl) 0 rfl rfl rfl<|cF (Z4 AH)<|Z9 rfl<|Z5 (H.at 0 rfl) 0 rfl rfl rfl<|cF (Z4 AH)<|Z9 rfl<|Z5 (H.at 0 rfl) 0 rfl rfl rfl<|cT (ZI AG)<|Z9 rfl<|Z5 (H.at 1 rfl) 11 rfl rfl rfl<|H.Z8 [3,3]<|fun H=>?_
 refine Z7.mk (Fc.imp (Mem.size H) ?_)
 clear H
 rintro _ w2 ⟨rfl,H⟩
 refine ZZ H rfl rfl rfl rfl<|fun p2 w3 H=>Wr (ys:=[_]) 8 H 8 rfl (H.at 0 rfl) rfl (fun y _=>rfl) rfl rfl rfl AH AH<|fun v1=>?_
 intro w2 H
 refine Z6.mk ?_
 refine ⟨0,v1,vp,ps,Zk,loc,stk++[(↑ps.length:Int)],?_⟩
 refine ⟨rfl,?_⟩
 refine ⟨?_,?_⟩
 ·exact k_w
 refine ⟨AH,?_⟩
 refine H.Z8 [8,8,8,8,6,6,8]<|fun H=>H.drop 8<|fun H=>H.drop 7<|fun H=>?_
 exact H
theorem alM (H:Sat g w (Pt cp (AE m [AA mp,vt,vg]) 158::Pt mp [vp,AB m.most] 221::Sl 223 256 Xg vp ps::Sl 3 1 ZE vt Zr::Sl 2 1 ZE vg Zk::Sl 2 1 ZE vl loc::Sl 2 1 ZE vs stk::l)) (ho:x.op=64) (h1:1≤stk.length) (TT:∀v∈stk,Xw v) (hm:ps.length≤m.most∧m.most≤8) (hlen:stk.length≤100000) (hp:ps.length≤8):Fc Tryz.prog 160 #[AA cp,.agg #[.int .u8 x.op,AB x.a,AB x.b,SH],vl,vs] w (fun r w'=>∃e vs' TO ps' W3 loc' W8,r=.tuple #[vs',AB e]∧M3 (VR m.most x ⟨flat ps,Zr,Zk⟩ loc stk) e (flat ps') W3 loc' W8∧ps'.length≤8∧Sat g w' (Pt cp (AE m [AA mp,vt,vg]) 158::Pt mp [TO,AB m.most] 221::Sl 223 256 Xg TO ps'::Sl 3 1 ZE vt Zr::Sl 2 1 ZE vg W3::Sl 2 1 ZE vl loc'::Sl 2 1 ZE vs' W8::l)):=by
 refine Fc.of Tryz.func160 rfl k_d ?_
 obtain ⟨a,ha,Ih,HX⟩:=Fe (s:=stk) AH
 have FO:=TT a HX
 have hd:VR m.most x ⟨flat ps,Zr,Zk⟩ loc stk=(if m.most-(ps.length:Int)<a % 4294967296 then ⟨⟨flat ps,Zr,Zk⟩,loc,low stk 1++[-1],0⟩ else ⟨⟨flat ps++List.replicate (256 * (a % 4294967296).toNat) 0,Zr,Zk⟩,loc,low stk 1++[(ps.length:Int)],0⟩):=by
  unfold VR
  rw [if_neg AH,if_neg AH,if_neg AH,if_neg AH,if_neg AH,if_neg AH,if_neg AH,if_neg AH,if_neg AH,if_pos ho,Ih,TP]
 rw [hd]
 clear hd
 refine ZJ H<|fun p1 w1 H=>YO H 7 rfl rfl<|ZY AH<|bk<|Z9 rfl<|Z5 (H.at 0 rfl) 0 rfl rfl rfl<|cF (Z4 k_h)<|Z9 rfl<|Z5 (H.at 0 rfl) 0 rfl rfl rfl<|cF (Z4 k_h)<|Z9 rfl<|Z5 (H.at 0 rfl) 0 rfl rfl rfl<|cF (Z4 k_h)<|Z9 rfl<|Z5 (H.at 0 rfl) 0 rfl rfl rfl<|cF (Z4 k_h)<|Z9 rfl<|Z5 (H.at 0 rfl) 0 rfl rfl rfl<|cF (Z4 k_h)<|Z9 rfl<|Z5 (H.at 0 rfl) 0 rfl rfl rfl<|cF (Z4 k_h)<|Z9 rfl<|Z5 (H.at 0 rfl) 0 rfl rfl rfl<|cF (Z4 k_h)<|Z9 rfl<|Z5 (H.at 0 rfl) 0 rfl rfl rfl<|cF (Z4 k_h)<|Z9 rfl<|Z5 (H.at 0 rfl) 0 rfl rfl rfl<|cF (Z4 k_h)<|Z9 rfl<|Z5 (H.at 0 rfl) 0 rfl rfl rfl<|cF (Z4 k_h)<|Z9 rfl<|Z5 (H.at 0 rfl) 0 rfl rfl rfl<|cT (ZI k_h)<|ZN H [] [Azp0,Azp1,Azp2,Azp3,Azp4,Azh5,Azp6,Azp7,Azp8,Azh9,Azfr10,Azp11,Azfr12] mixed k_d k_d<|fun w2 H=>tk (fun _ Z=>Z9 rfl AD)<|tk (fun _ Z=>Z5 (Z.at 1 rfl) 11 rfl rfl rfl AD) ?_
 obtain ⟨b1,o1,E1⟩:=H.Zf 7 rfl ((stk.length)-1) AH
 refine tk (fun _ Z=>ZK E1 AH rfl rfl AD)<|tk (fun _ Z=>Z5 (Z.el 7 rfl E1 ha) 0 rfl rfl rfl AD)<|H.Z8 [3,3]<|fun H=>?_
 refine Z7.mk (Fc.imp (Mem.grow H _ ?_ ?_ ?_) ?_)
 ·exact k_h
 ·exact k_h
 ·exact k_h
 clear H
 rintro _ w1 ⟨e1,⟨v'1,⟨Ol,⟨rfl,⟨(⟨h2,⟨h3,h4⟩⟩|⟨h5,⟨h6,h7⟩⟩),H⟩⟩⟩⟩⟩
 ·refine tk (fun _ Z=>ZK E1 AH rfl rfl AD)<|Yz H 7 rfl E1 ha 0 (e1) rfl rfl rfl rfl<|fun w3 H=>Z6.mk ?_
  refine ⟨0,vs,v'1,Ol,Zk,loc,stk.set (stk.length-1) e1,?_⟩
  refine ⟨rfl,?_⟩
  refine ⟨?_,?_⟩
  ·exact gr0 h1 AH AG AG
  refine ⟨?_,?_⟩
  ·exact k_h
  refine H.Z8 [7,7,7,7,5,5,7]<|fun H=>H.drop 7<|fun H=>?_
  exact H
 refine tk (fun _ Z=>ZK E1 AH rfl rfl AD)<|Yz H 7 rfl E1 ha 0 (e1) rfl rfl rfl rfl<|fun w3 H=>Z6.mk ?_
 refine ⟨0,vs,v'1,Ol,Zk,loc,stk.set (stk.length-1) e1,?_⟩
 refine ⟨rfl,?_⟩
 refine ⟨?_,?_⟩
 ·exact gr1 h1 AH AG AG
 refine ⟨?_,?_⟩
 ·exact k_h
 refine H.Z8 [7,7,7,7,5,5,7]<|fun H=>H.drop 7<|fun H=>?_
 exact H
theorem alN (H:Sat g w (Pt cp (AE m [AA mp,vt,vg]) 158::Pt mp [vp,AB m.most] 221::Sl 223 256 Xg vp ps::Sl 3 1 ZE vt Zr::Sl 2 1 ZE vg Zk::Sl 2 1 ZE vl loc::Sl 2 1 ZE vs stk::l)) (ho:36<x.op∧x.op≤255) (hw:0<wid x.op) (TT:∀v∈stk,Xw v) (hn:UW x.op≤stk.length) (hb:0≤x.b∧x.b≤4294967295) (hlen:stk.length≤100000) (hp:ps.length≤8):Fc Tryz.prog 160 #[AA cp,.agg #[.int .u8 x.op,AB x.a,AB x.b,SH],vl,vs] w (fun r w'=>∃e vs' TO ps' W3 loc' W8,r=.tuple #[vs',AB e]∧M3 (VR m.most x ⟨flat ps,Zr,Zk⟩ loc stk) e (flat ps') W3 loc' W8∧ps'.length≤8∧Sat g w' (Pt cp (AE m [AA mp,vt,vg]) 158::Pt mp [TO,AB m.most] 221::Sl 223 256 Xg TO ps'::Sl 3 1 ZE vt Zr::Sl 2 1 ZE vg W3::Sl 2 1 ZE vl loc'::Sl 2 1 ZE vs' W8::l)):=by
 refine Fc.of Tryz.func160 rfl k_d ?_
 have GA:=Rz hw
 have C3:=RA x.op
 have hd:VR m.most x ⟨flat ps,Zr,Zk⟩ loc stk=_:=rfl
 rw [hd]
 clear hd
 refine ZJ H<|fun p1 w1 H=>YO H 7 rfl rfl<|ZY AH<|bk<|Z9 rfl<|Z5 (H.at 0 rfl) 0 rfl rfl rfl<|cF (Z4 AH)<|Z9 rfl<|Z5 (H.at 0 rfl) 0 rfl rfl rfl<|cF (Z4 AH)<|Z9 rfl<|Z5 (H.at 0 rfl) 0 rfl rfl rfl<|cF (Z4 AH)<|Z9 rfl<|Z5 (H.at 0 rfl) 0 rfl rfl rfl<|cF (Z4 AH)<|Z9 rfl<|Z5 (H.at 0 rfl) 0 rfl rfl rfl<|cF (Z4 AH)<|Z9 rfl<|Z5 (H.at 0 rfl) 0 rfl rfl rfl<|cF (Z4 AH)<|Z9 rfl<|Z5 (H.at 0 rfl) 0 rfl rfl rfl<|cF (Z4 AH)<|Z9 rfl<|Z5 (H.at 0 rfl) 0 rfl rfl rfl<|cF (Z4 AH)<|Z9 rfl<|Z5 (H.at 0 rfl) 0 rfl rfl rfl<|cF (Z4 AH)<|Z9 rfl<|Z5 (H.at 0 rfl) 0 rfl rfl rfl<|cF (Z4 AH)<|Z9 rfl<|Z5 (H.at 0 rfl) 0 rfl rfl rfl<|cF (Z4 AH)<|Z9 rfl<|Z5 (H.at 0 rfl) 0 rfl rfl rfl ?_
 refine Z7.mk (Fc.imp (YU.Lt _ _) ?_)
 rintro _ _ ⟨⟨r1,⟨rfl,h1⟩⟩,rfl⟩
 refine cT (Zi AH)<|ZD (H.at 0 rfl) 0 rfl rfl rfl<|H.Z8 [7,6,6,6,6,6]<|fun H=>?_
 refine Z7.mk (Fc.imp (Rn.alD H AH AH AH AH AH AH AH) ?_)
 clear H
 rintro _ w2 ⟨e1,⟨Zs,⟨Ol,⟨Rw,⟨rfl,⟨h2,⟨h3,H⟩⟩⟩⟩⟩⟩⟩
 refine Z6.mk ?_
 refine ⟨e1,Zs,vp,Ol,Zk,loc,Rw,?_⟩
 refine ⟨rfl,?_⟩
 refine ⟨?_,?_⟩
 ·grind
 refine ⟨AH,?_⟩
 refine H.Z8 [5,7,6,6,6,6,6]<|fun H=>H.drop 7<|fun H=>?_
 exact H
theorem alO (H:Sat g w (Pt cp (AE m [AA mp,vt,vg]) 158::Pt mp [vp,AB m.most] 221::Sl 223 256 Xg vp ps::Sl 3 1 ZE vt Zr::Sl 2 1 ZE vg Zk::Sl 2 1 ZE vl loc::Sl 2 1 ZE vs stk::l)) (ho:36<x.op∧x.op≤255) (hw:¬0<wid x.op) (hq:(Xi x.op).2.2=true) (c1:x.op≠63∧x.op≠64∧x.op≠65∧x.op≠66) (TT:∀v∈stk,Xw v) (hn:UW x.op≤stk.length) (hT:Fold.IC g) (hlen:stk.length≤100000) (hp:ps.length≤8):Fc Tryz.prog 160 #[AA cp,.agg #[.int .u8 x.op,AB x.a,AB x.b,SH],vl,vs] w (fun r w'=>∃e vs' TO ps' W3 loc' W8,r=.tuple #[vs',AB e]∧M3 (VR m.most x ⟨flat ps,Zr,Zk⟩ loc stk) e (flat ps') W3 loc' W8∧ps'.length≤8∧Sat g w' (Pt cp (AE m [AA mp,vt,vg]) 158::Pt mp [TO,AB m.most] 221::Sl 223 256 Xg TO ps'::Sl 3 1 ZE vt Zr::Sl 2 1 ZE vg W3::Sl 2 1 ZE vl loc'::Sl 2 1 ZE vs' W8::l)):=by
 refine Fc.of Tryz.func160 rfl k_d ?_
 have C3:=RA x.op
 obtain ⟨n1,n2,n3⟩:=acZ hq hw c1.1 c1.2.1 c1.2.2.1 c1.2.2.2
 have hnn:(Xi x.op).1.length=1∨(Xi x.op).1.length=2:=by
  rw [n2]
  by_cases h:(XY x.op).1.length=1
  ·omega
  ·exact .inr (acY (a:=0) (b:=0) n1 h).2.2.2
 unfold UW at hn
 rw [if_neg AH,if_neg AH,if_pos AH] at hn
 have hd:VR m.most x ⟨flat ps,Zr,Zk⟩ loc stk=(if (Xi x.op).1.length=1 then ⟨⟨flat ps,Zr,Zk⟩,loc,low stk 1++[(Xt.U7 x.op (top stk 0)).1],(Xt.U7 x.op (top stk 0)).2⟩ else ⟨⟨flat ps,Zr,Zk⟩,loc,low stk 2++[(Xt.U9 x.op (top stk 1) (top stk 0)).1],(Xt.U9 x.op (top stk 1) (top stk 0)).2⟩):=by grind [VR]
 rw [hd]
 clear hd
 refine ZJ H<|fun p1 w1 H=>YO H 7 rfl rfl<|ZY AH<|bk<|Z9 rfl<|Z5 (H.at 0 rfl) 0 rfl rfl rfl<|cF (Z4 AH)<|Z9 rfl<|Z5 (H.at 0 rfl) 0 rfl rfl rfl<|cF (Z4 AH)<|Z9 rfl<|Z5 (H.at 0 rfl) 0 rfl rfl rfl<|cF (Z4 AH)<|Z9 rfl<|Z5 (H.at 0 rfl) 0 rfl rfl rfl<|cF (Z4 AH)<|Z9 rfl<|Z5 (H.at 0 rfl) 0 rfl rfl rfl<|cF (Z4 AH)<|Z9 rfl<|Z5 (H.at 0 rfl) 0 rfl rfl rfl<|cF (Z4 AH)<|Z9 rfl<|Z5 (H.at 0 rfl) 0 rfl rfl rfl<|cF (Z4 AH)<|Z9 rfl<|Z5 (H.at 0 rfl) 0 rfl rfl rfl<|cF (Z4 AH)<|Z9 rfl<|Z5 (H.at 0 rfl) 0 rfl rfl rfl<|cF (Z4 AH)<|Z9 rfl<|Z5 (H.at 0 rfl) 0 rfl rfl rfl<|cF (Z4 AH)<|Z9 rfl<|Z5 (H.at 0 rfl) 0 rfl rfl rfl<|cF (Z4 AH)<|Z9 rfl<|Z5 (H.at 0 rfl) 0 rfl rfl rfl ?_
 refine Z7.mk (Fc.imp (YU.Lt _ _) ?_)
 rintro _ _ ⟨⟨r1,⟨rfl,h1⟩⟩,rfl⟩
 refine cF (Zt AH)<|Z9 rfl<|Z5 (H.at 0 rfl) 0 rfl rfl rfl<|H.Z8 [7]<|fun H=>?_
 refine Z7.mk (Fc.imp (Rn.ag8 H AH _ AH AH AH AH AH) ?_)
 clear H
 rintro _ w2 ⟨Zs,⟨Rw,⟨e1,⟨rfl,⟨h2,H⟩⟩⟩⟩⟩
 refine Z6.mk ?_
 refine ⟨e1,Zs,vp,ps,Zk,loc,Rw,?_⟩
 refine ⟨rfl,?_⟩
 refine ⟨?_,?_⟩
 ·exact anN AG
 refine ⟨AH,?_⟩
 refine H.Z8 [0,7,7,7,7,7,7]<|fun H=>H.drop 7<|fun H=>?_
 exact H
end
end Rn
namespace Xs
open Go YW Go.RowKit
open YU Zm X7 YN Valid
section
variable {g:Zy} {w:World} {l:List As} {m:Zg}
theorem within (H:Sat g w l) (a many all:Int) (ha:-2147483648≤a∧a≤2147483647) (hm:0≤many∧many≤1000000) (hl:0≤all∧all≤1000000):Fc Tryz.prog 43 #[AB a,AB many,AB all] w (fun r w'=>∃b,r=.bool b∧(b=true↔(0≤a∧a+many≤all))∧Sat g w' l):=by
 refine Fc.of Tryz.func43 rfl k_d<|Yq rfl rfl<|WZ AH rfl rfl<|ZY AH<|Z6.mk ?_
 exact ⟨_,rfl,by simp [YT];omega,H⟩
end
end Xs
namespace Xs
open Go YW Go.RowKit
open YU Zm X7 YN Valid
section
variable {g:Zy} {w:World} {l:List As} {m:Zg}
theorem afl {l:List Int} {i:Nat} (h:l=List.replicate i (-1)):l++[-1]=List.replicate (i+1) (-1):=by
 rw [h,List.replicate_succ']
theorem afm {l:List Int} {xs:List (Int × Bool × Int)} {i:Nat} {x:Int × Bool × Int} (h:l=(xs.take i).map (·.2.2)) (hx:xs[i]?=some x):l++[x.2.2]=(xs.take (i+1)).map (·.2.2):=by grind [List.take_add_one]
theorem ah5 {x:Sq} (h:Gf x.d=0):(-2147483648≤x.pl∧x.pl≤2147483647)∧x.fs.length≤16:=by
 unfold Gf at h
 obtain ⟨h1,h2⟩:=Zl.1 h
 have h3:=(VV.1 h2).1
 unfold OS at h1
 by_cases hq:-2147483648≤x.d.1∧x.d.1≤2147483647
 ·exact ⟨hq,by have:x.d.2.length=x.fs.length:=rfl;omega⟩
 ·omega
theorem alP {x:Int × List UInt8} (h:Mu x=0):(-2147483648≤x.1∧x.1≤2147483647)∧x.2.length≤64:=by
 unfold Mu at h
 obtain ⟨h1,h2⟩:=Zl.1 h
 unfold OS at h1
 unfold Me at h2
 refine ⟨AH,?_⟩
 ·omega
theorem alQ (H:Sat g w l) (hT:Oq g) (hm:XV g m):Fc Tryz.prog 14 #[.agg (AE m []).toArray] w (fun r w'=>∃(g':Zy) (mem:List UInt8) (ts gs:List Int) (vt vg:Value) (e:Int),r=.tuple #[.agg #[.string (bs mem),vt,vg],AB e]∧Ext g g'∧Z0 g' ZE Xz 1 vt ts∧Z0 g' ZE Xz 1 vg gs∧FW m mem ts gs e∧Sat g' w' l):=by
 refine Fc.of Tryz.func14 rfl k_d ?_
 have ZP:=hm.types
 have ZV:=hm.funcs
 have Zh:=hm.globals
 have Zu:=hm.ZA
 have XF:=hm.Wa
 have XU:=hm.elems
 have VT:=hm.data
 by_cases h0:WY m.d=0
 ·obtain ⟨Ba,hI,B9⟩:=Vb (Xx h0).1
  have P:=VA Ba
  have ac5:=P.table
  have ac6:=P.pages
  have ajs:=P.most
  have adD:=P.globals
  have amm:=P.elems
  have anO:=P.data
  obtain ⟨tb,htb⟩:=lsa ac5.1
  obtain ⟨pg,hpg⟩:=lsa ac6.1
  refine ZJ H<|fun p1 w1 H=>ZU H rfl<|fun p2 w2 H=>ZD (H.at 1 rfl) 0 rfl rfl rfl ?_
  refine Z7.mk (Fc.imp (Valid.Sn H AH AH) ?_)
  clear H
  rintro _ w1 ⟨e1,⟨rfl,⟨h1,H⟩⟩⟩
  refine cF (X6 AH)<|Z9 rfl<|Z5 (H.at 1 rfl) 9 rfl rfl rfl<|ZF XU rfl ?_
  refine Y9.rule (α:=Nat) (0) (fun x_=>[(24,AB x_)]) (fun x_ w_=>(x_≤m.elems.length)∧(AI (fun x:Sq=>FX x.pl x.fs.length m.table) m.elems x_)∧Sat g w_ ((Pt p2 [.string (bs []),.slice none 0 0,.slice none 0 0] 34::Pt p1 (AE m []) 30::l))) (fun x_=>m.elems.length-x_) ?_ ?_ ?_
  ·exact k_a
  ·try simp only
   refine ⟨AH,?_⟩
   refine ⟨?_,?_⟩
   ·exact AI.zero
   exact H
  clear H
  rintro i f_ w_ ⟨hi,hA,H⟩
  try simp only at hi hA H ⊢
  rcases lra i m.elems.length with hlt|hge
  ·obtain ⟨x,hx⟩:∃x,m.elems[i]?=some x:=⟨_,laa hlt⟩
   have IK:=lda hx
   have Mb:=Z0.all XU x IK
   have QI:=Mb.fs
   have IL:=ah5 (P.Jm x IK)
   refine cT (Zi AH)<|bk ?_
   obtain ⟨b1,o1,E1,F1,ZL⟩:=Z0.Zf XU hx
   have PI:=ZL.pl
   have VU:=ZL.fs
   refine ZK E1 rfl rfl rfl<|ZD (H.Yy F1) 0 rfl rfl rfl<|ZU H rfl<|fun p3 w3 H=>ZG H 0 rfl rfl rfl (by simp only [List.all_cons,List.all_nil,Z0.one VU,Z0.one QI,Z0.one VT,Z0.one XU,Z0.one XF,Z0.one Zu,Z0.one Zh,Z0.one ZV,Z0.one ZP];rfl)<|fun w4 H=>Z9 rfl<|Z5 (H.at 0 rfl) 0 rfl rfl rfl<|Z9 rfl<|Z5 (H.at 0 rfl) 1 rfl rfl rfl<|ZF VU rfl<|Z9 rfl<|Z5 (H.at 2 rfl) 3 rfl rfl rfl ?_
   refine Z7.mk (Fc.imp (Xs.within H _ _ _ AH AH AH) ?_)
   clear H
   rintro _ w3 ⟨b2,⟨rfl,⟨h2,H⟩⟩⟩
   refine cI (fun c1=>?_) (fun c1=>?_)
   ·replace c1:=T9 h2 (TD (c1))
    refine Zj rfl rfl rfl<|ZG H 1 rfl rfl rfl rfl<|fun w5 H=>XG (H.at 1 rfl) 0 rfl rfl rfl<|Z6.mk ?_
    exact ⟨g,[],[],[],_,_,_,rfl,Ext.refl _,Z0.OW _ _ _ _,Z0.OW _ _ _ _,mk2 AH hA hx AH,((H.del 0).del 0).del 0⟩
   replace c1:=h2.1 (TC (c1))
   refine ZY AH ?_
   refine Xl.mk (i+1) (Zx rfl AH (ZX)) ?_ ?_
   ·refine ⟨AH,?_⟩
    refine ⟨?_,?_⟩
    ·exact hA.step hx (J9.2 AH)
    refine H.Z8 [2,2]<|fun H=>H.drop 2<|fun H=>?_
    exact H
   omega
  ·have hE:=hA.fin hge
   refine cF (Zt AH)<|Z9 rfl<|Z5 (H.at 1 rfl) 4 rfl rfl rfl<|ZY AH<|St (en:=S9) (s:=1) H ((0:UInt8)) ((m.pages * 256).toNat) ((m.pages * 256).toNat) 1 rfl rfl rfl (fun _=>rfl) AH AH AH AH AH<|fun v1=>?_
   intro w3 H
   refine Z9 rfl<|Z5 (H.at 2 rfl) 10 rfl rfl rfl<|ZF VT rfl ?_
   rw [show (m.pages * 256).toNat=256 * m.pages.toNat by omega] at H
   refine Y9.rule (α:=Nat × List UInt8) (0,List.replicate (256 * m.pages.toNat) 0) (fun x_=>[(46,AB x_.1)]) (fun x_ w_=>(x_.1≤m.data.length)∧(AI (fun x:Int × List UInt8=>FX x.1 x.2.length (m.pages * 256)) m.data x_.1)∧(LM (256 * m.pages.toNat) m.data x_.1 x_.2)∧Sat g w_ ((Sl 5 1 S9 v1 x_.2::Pt p2 [.string (bs []),.slice none 0 0,.slice none 0 0] 34::Pt p1 (AE m []) 30::l))) (fun x_=>m.data.length-x_.1) ?_ ?_ ?_
   ·exact k_a
   ·try simp only
    refine ⟨AH,?_⟩
    refine ⟨?_,?_⟩
    ·exact AI.zero
    refine ⟨?_,?_⟩
    ·exact LM.zero
    exact H
   clear H
   rintro ⟨i2,cur⟩ f_ w_ ⟨hi2,hB,hL,H⟩
   try simp only at hi2 hB hL H ⊢
   have Ux:=hL.len
   rcases lra i2 m.data.length with Oj|Mq
   ·obtain ⟨x,hx⟩:∃x,m.data[i2]?=some x:=⟨_,laa Oj⟩
    have IK:=lda hx
    have Mb:=Z0.all VT x IK
    have IL:=alP (P.ak1 x IK)
    refine cT (Zi AH)<|bk ?_
    obtain ⟨b1,o1,E1,F1,ZL⟩:=Z0.Zf VT hx
    have PI:=ZL.pl
    have acj:=ZL.bytes
    refine ZK E1 rfl rfl rfl<|ZD (H.Yy F1) 0 rfl rfl rfl<|ZU H rfl<|fun p3 w4 H=>ZG H 0 rfl rfl rfl rfl<|fun w5 H=>Z9 rfl<|Z5 (H.at 0 rfl) 0 rfl rfl rfl<|Z9 rfl<|Z5 (H.at 0 rfl) 1 rfl rfl rfl<|XH rfl<|YO H 1 rfl rfl ?_
    refine Z7.mk (Fc.imp (Xs.within H _ _ _ AH AH AH) ?_)
    clear H
    rintro _ w4 ⟨b2,⟨rfl,⟨h2,H⟩⟩⟩
    refine cI (fun c1=>?_) (fun c1=>?_)
    ·replace c1:=T9 h2 (TD (c1))
     refine Zj rfl rfl rfl<|ZG H 2 rfl rfl rfl rfl<|fun w6 H=>XG (H.at 2 rfl) 0 rfl rfl rfl<|Z6.mk ?_
     exact ⟨g,[],[],[],_,_,_,rfl,Ext.refl _,Z0.OW _ _ _ _,Z0.OW _ _ _ _,mk3 AH hE hB hx AH,(((H.del 0).del 0).del 0).del 0⟩
    replace c1:=h2.1 (TC (c1))
    refine ZN H [] [Azp0,Azp1,Azh2,Azp3,Azp4,Azh5,Azfr6] mixed k_d k_d<|fun w6 H=>tk (fun _ Z=>Z9 rfl AD)<|tk (fun _ Z=>Z5 (Z.at 0 rfl) 0 rfl rfl rfl AD) ?_
    obtain ⟨v2,V1⟩:=H.vw 1 rfl ((x.fst).toNat) ((cur).length) AH AH
    refine tk (fun _ Z=>VI V1 rfl rfl (.inr ⟨_,by first|rfl|(congr 2;omega)⟩) (.inl AD) AD)<|tk (fun _ Z=>Z9 rfl AD)<|tk (fun _ Z=>Z5 (Z.at 0 rfl) 1 rfl rfl rfl AD)<|agv H 1 rfl V1 AH rfl rfl<|fun w9 H=>ZY AH ?_
    refine Xl.mk ((i2+1,List.take x.fst.toNat cur++x.snd++List.drop (x.fst.toNat+x.snd.length) cur)) (Zx rfl AH (ZX)) ?_ ?_
    ·refine ⟨AH,?_⟩
     refine ⟨?_,?_⟩
     ·exact hB.step hx (J9.2 AH)
     refine ⟨?_,?_⟩
     ·exact hL.step hx AH
     refine H.Z8 [3,3,3]<|fun H=>H.drop 3<|fun H=>?_
     exact H
    omega
   ·have hD:=hB.fin Mq
    have hmem:=hL.fin Mq
    refine cF (Zt AH)<|ZU H rfl<|fun p3 w4 H=>Z9 rfl<|Z5 (H.at 3 rfl) 3 rfl rfl rfl ?_
    replace H:=H.U0 (en:=ZE) (s:=1) 3 (fun _=>rfl)
    have aoI:m.table.toNat=tb:=by omega
    refine Y9.rule (α:=Nat × Value × List Int) (0,.slice none 0 0,[]) (fun x_=>[(70,AB x_.1)]) (fun x_ w_=>(x_.1≤tb)∧(x_.2.2=List.replicate x_.1 (-1))∧Sat g w_ ((Sl 3 1 ZE x_.2.1 x_.2.2::Pt p3 [.string (bs []),x_.2.1,.slice none 0 0] 34::Sl 5 1 S9 v1 cur::Pt p2 [.string (bs []),.slice none 0 0,.slice none 0 0] 34::Pt p1 (AE m []) 30::l))) (fun x_=>tb-x_.1) ?_ ?_ ?_
    ·exact k_a
    ·try simp only
     refine ⟨AH,?_⟩
     refine ⟨?_,?_⟩
     ·simp
     exact H
    clear H
    rintro ⟨i3,vt,tc⟩ f_ w_ ⟨DB,CH,H⟩
    try simp only at DB CH H ⊢
    have MJ:tc.length=i3:=by grind
    rcases lra i3 tb with ak7|ak8
    ·refine cT (Zi AH)<|bk<|Z9 rfl<|Z5 (H.at 1 rfl) 1 rfl rfl rfl<|ZZ H rfl rfl rfl rfl<|fun p4 w5 H=>Wr (ys:=[_]) 8 H 1 rfl (H.at 0 rfl) rfl (fun y _=>rfl) rfl rfl rfl AH AH<|fun v2=>?_
     intro w6 H
     refine Z9 rfl<|XS H 2 rfl rfl rfl (H.one 1 rfl)<|fun w5 H=>ZY AH ?_
     refine Xl.mk ((i3+1,v2,tc++[-1])) (Zx rfl AH (ZX)) ?_ ?_
     ·refine ⟨AH,?_⟩
      refine ⟨?_,?_⟩
      ·exact afl CH
      refine H.Z8 [5,5,5,5,5]<|fun H=>H.drop 5<|fun H=>?_
      exact H
     omega
    ·have anP:i3=m.table.toNat:=by omega
     have hLT:LT m.table.toNat m.elems 0 tc:=by
      rw [CH,anP];exact LT.zero
     refine cF (Zt AH)<|Z9 rfl<|Z5 (H.at 4 rfl) 9 rfl rfl rfl<|ZF XU rfl ?_
     refine Y9.rule (α:=Nat × List Int) (0,tc) (fun x_=>[(81,AB x_.1)]) (fun x_ w_=>(x_.1≤m.elems.length)∧(LT m.table.toNat m.elems x_.1 x_.2)∧Sat g w_ ((Sl 3 1 ZE vt x_.2::Pt p3 [.string (bs []),vt,.slice none 0 0] 34::Sl 5 1 S9 v1 cur::Pt p2 [.string (bs []),.slice none 0 0,.slice none 0 0] 34::Pt p1 (AE m []) 30::l))) (fun x_=>m.elems.length-x_.1) ?_ ?_ ?_
     ·exact k_a
     ·grind
     clear H
     rintro ⟨i4,tu⟩ f_ w_ ⟨hi4,hJ,H⟩
     try simp only at hi4 hJ H ⊢
     have aoJ:=hJ.len
     rcases lra i4 m.elems.length with anQ|alR
     ·obtain ⟨x,hx⟩:∃x,m.elems[i4]?=some x:=⟨_,laa anQ⟩
      have IK:=lda hx
      have Mb:=Z0.all XU x IK
      have QI:=Mb.fs
      have IL:=ah5 (P.Jm x IK)
      have aoq:=J9.1 (Vd.1 hE x IK)
      refine cT (Zi AH)<|bk ?_
      obtain ⟨b1,o1,E1,F1,ZL⟩:=Z0.Zf XU hx
      have PI:=ZL.pl
      have VU:=ZL.fs
      refine ZK E1 rfl rfl rfl<|ZD (H.Yy F1) 0 rfl rfl rfl<|ZU H rfl<|fun p4 w5 H=>ZG H 0 rfl rfl rfl (by simp only [List.all_cons,List.all_nil,H.one 1 rfl,H.one 3 rfl,Z0.one VU,Z0.one QI,Z0.one VT,Z0.one XU,Z0.one XF,Z0.one Zu,Z0.one Zh,Z0.one ZV,Z0.one ZP];rfl)<|fun w6 H=>ZN H [] [Azp0,Azh1,Azp2,Azh3,Azp4,Azp5,Azh6,Azfr7] mixed k_d k_d<|fun w5 H=>tk (fun _ Z=>Z9 rfl AD)<|tk (fun _ Z=>Z5 (Z.at 2 rfl) 1 rfl rfl rfl AD)<|tk (fun _ Z=>Z9 rfl AD)<|tk (fun _ Z=>Z5 (Z.at 0 rfl) 0 rfl rfl rfl AD) ?_
      obtain ⟨v2,V1⟩:=H.vw 1 rfl ((x.pl).toNat) ((tu).length) AH AH
      refine tk (fun _ Z=>VI V1 rfl rfl (.inr ⟨_,by first|rfl|(congr 2;omega)⟩) (.inl AD) AD)<|tk (fun _ Z=>Z9 rfl AD)<|tk (fun _ Z=>Z5 (Z.at 0 rfl) 1 rfl rfl rfl AD)<|agw H 1 rfl V1 (H.rd QI) AH (fun y _=>rfl) rfl rfl<|fun w9 H=>ZY AH ?_
      refine Xl.mk ((i4+1,List.take x.pl.toNat tu++x.fs++List.drop (x.pl.toNat+x.fs.length) tu)) (Zx rfl AH (ZX)) ?_ ?_
      ·refine ⟨AH,?_⟩
       refine ⟨?_,?_⟩
       ·exact hJ.step hx AH (Z0.all QI)
       refine H.Z8 [5,5,5,5,5]<|fun H=>H.drop 5<|fun H=>?_
       exact H
      omega
     ·have QV:=hJ.fin alR
      refine cF (Zt AH)<|Z9 rfl<|Z5 (H.at 4 rfl) 6 rfl rfl rfl<|ZF Zh rfl ?_
      replace H:=H.U0 (en:=ZE) (s:=1) 2 (fun _=>rfl)
      refine Y9.rule (α:=Nat × Value × List Int) (0,.slice none 0 0,[]) (fun x_=>[(97,AB x_.1)]) (fun x_ w_=>(x_.1≤m.globals.length)∧(x_.2.2=(m.globals.take x_.1).map (·.2.2))∧Sat g w_ ((Sl 2 1 ZE x_.2.1 x_.2.2::Sl 3 1 ZE vt tu::Pt p3 [.string (bs []),vt,x_.2.1] 34::Sl 5 1 S9 v1 cur::Pt p2 [.string (bs []),.slice none 0 0,.slice none 0 0] 34::Pt p1 (AE m []) 30::l))) (fun x_=>m.globals.length-x_.1) ?_ ?_ ?_
      ·exact k_a
      ·grind
      clear H
      rintro ⟨i5,vg,gc⟩ f_ w_ ⟨hi5,hG,H⟩
      try simp only at hi5 hG H ⊢
      have BX:gc.length=i5:=by grind
      rcases lra i5 m.globals.length with alS|anR
      ·obtain ⟨x,hx⟩:∃x,m.globals[i5]?=some x:=⟨_,laa alS⟩
       have Mb:=Z0.all Zh x (lda hx)
       have aor:=Mb.start
       refine cT (Zi AH)<|bk ?_
       obtain ⟨b1,o1,E1,F1,ZL⟩:=Z0.Zf Zh hx
       have Re:=ZL.kind
       have Sp:=ZL.start
       refine ZK E1 rfl rfl rfl<|ZD (H.Yy F1) 0 rfl rfl rfl<|ZU H rfl<|fun p4 w5 H=>ZG H 0 rfl rfl rfl rfl<|fun w6 H=>Z9 rfl<|Z5 (H.at 3 rfl) 2 rfl rfl rfl<|Z9 rfl<|Z5 (H.at 0 rfl) 2 rfl rfl rfl<|ZZ H rfl rfl rfl rfl<|fun p5 w5 H=>Wr (ys:=[_]) 8 H 2 rfl (H.at 0 rfl) rfl (fun y _=>rfl) rfl rfl rfl AH AH<|fun v2=>?_
       intro w6 H
       refine Z9 rfl<|XS H 4 rfl rfl rfl (H.one 2 rfl)<|fun w5 H=>ZY AH ?_
       refine Xl.mk ((i5+1,v2,gc++[x.snd.snd])) (Zx rfl AH (ZX)) ?_ ?_
       ·refine ⟨AH,?_⟩
        refine ⟨?_,?_⟩
        ·exact afm hG hx
        refine H.Z8 [7,7,7,7,7,7]<|fun H=>H.drop 7<|fun H=>H.drop 6<|fun H=>?_
        exact H
       omega
      ·have CG:gc=m.globals.map (·.2.2):=by grind
       have hgo:∀y∈gc,Xw y:=fun y hy=>by
        rw [CG] at hy
        obtain ⟨z,hz,rfl⟩:=lWa.1 hy
        exact (Z0.all Zh z hz).start
       refine cF (Zt AH)<|Su H 3 rfl rfl rfl rfl<|Z9 rfl<|XS H 2 rfl rfl rfl rfl<|fun w5 H=>ZD (H.at 2 rfl) 0 rfl rfl rfl<|ZG H 4 rfl rfl rfl (by simp only [List.all_cons,List.all_nil,H.one 0 rfl,H.one 1 rfl,H.one 3 rfl,Z0.one VT,Z0.one XU,Z0.one XF,Z0.one Zu,Z0.one Zh,Z0.one ZV,Z0.one ZP];rfl)<|fun w6 H=>XG (H.at 4 rfl) 0 rfl rfl rfl<|H.Vp 0 Xz rfl hgo<|fun g1 e1 A9=>?_
       intro H
       refine H.Vp 0 Xz rfl hJ.ok<|fun g2 e2 htF=>?_
       intro H
       replace A9:=A9.ext e2
       have E:=e1.trans e2
       refine Z6.mk ?_
       exact ⟨g2,_,_,_,_,_,_,rfl,E,htF,A9,mk4 h0.symm hE hD hmem QV CG,(((H.del 0).del 0).del 0).del 0⟩
 ·refine ZJ H<|fun p1 w1 H=>ZU H rfl<|fun p2 w2 H=>ZD (H.at 1 rfl) 0 rfl rfl rfl ?_
  refine Z7.mk (Fc.imp (Valid.Sn H AH AH) ?_)
  clear H
  rintro _ w1 ⟨e1,⟨rfl,⟨h1,H⟩⟩⟩
  refine cT (V6 AH)<|Zj rfl rfl rfl<|ZG H 0 rfl rfl rfl rfl<|fun w3 H=>XG (H.at 0 rfl) 0 rfl rfl rfl<|Z6.mk ?_
  exact ⟨g,[],[],[],_,_,_,rfl,Ext.refl _,Z0.OW _ _ _ _,Z0.OW _ _ _ _,mk1 AG AH,(H.del 0).del 0⟩
end
end Xs
namespace Xs
open Go YW Go.RowKit
open YU Zm X7 YN Valid
section
variable {g:Zy} {w:World} {l:List As} {m:Zg}
theorem G4 (H:Sat g w l) (k a:Int):Fc Tryz.prog 48 #[.int .u8 k,AB a] w (fun v w'=>∃r,v=AB r∧r=R4 k a∧Sat g w' l):=by
 refine Fc.of Tryz.func48 rfl k_d ?_
 refine cI (fun h=>?_) (fun h=>?_)
 ·have h:=ZR h
  refine Zq rfl rfl<|Zq rfl rfl ?_
  exact Z6.mk ⟨_,rfl,by unfold R4;rw [if_pos h],H⟩
 have h:=ZQ h
 exact Z6.mk ⟨_,rfl,by unfold R4;rw [if_neg h],H⟩
end
end Xs
namespace Rn
open Go YW Go.RowKit
open YU Zm X7 YN Valid Mem
section
variable {g:Zy} {w:World} {l:List As} {m:Zg} {cp mp:Nat} {vp vt vg vl vs SH:Value} {ps:List WM} {Zr Zk loc stk:List Int} {x:ZT}
theorem do_ (H:Sat g w (Pt cp (AE m [AA mp,vt,vg]) 158::Pt mp [vp,AB m.most] 221::Sl 223 256 Xg vp ps::Sl 3 1 ZE vt Zr::Sl 2 1 ZE vg Zk::Sl 2 1 ZE vl loc::Sl 2 1 ZE vs stk::l)) (hD:Hh x ⟨flat ps,Zr,Zk⟩ loc stk) (hT:Fold.IC g) (hop:x.op≤255) (hm:ps.length≤m.most∧m.most≤8) (hlen:stk.length≤100000):Fc Tryz.prog 160 #[AA cp,.agg #[.int .u8 x.op,AB x.a,AB x.b,SH],vl,vs] w (fun r w'=>∃e vs' TO ps' W3 loc' W8,r=.tuple #[vs',AB e]∧M3 (VR m.most x ⟨flat ps,Zr,Zk⟩ loc stk) e (flat ps') W3 loc' W8∧ps'.length≤8∧Sat g w' (Pt cp (AE m [AA mp,vt,vg]) 158::Pt mp [TO,AB m.most] 221::Sl 223 256 Xg TO ps'::Sl 3 1 ZE vt Zr::Sl 2 1 ZE vg W3::Sl 2 1 ZE vl loc'::Sl 2 1 ZE vs' W8::l)):=by
 have hp:ps.length≤8:=by omega
 have hn:=hD.need
 have n1:x.op=26∨x.op=33∨x.op=34∨x.op=36→1≤stk.length:=fun h=>by unfold UW at hn;rw [if_pos h] at hn;exact hn
 rcases hD.op with h|h|h|⟨Mr,hq⟩
 ·exact alE H h (n1 (.inl h)) hlen hp
 ·exact alF H h (by unfold UW at hn;rw [if_neg AH,if_pos h] at hn;exact hn) hlen hp
 ·by_cases h2:x.op=32
  ·exact alG H h2 (hD.loc h.1 AH) hlen hp
  by_cases h3:x.op=33∨x.op=34
  ·exact alH H h3 (hD.loc h.1 AH) (n1 AH) hlen hp
  by_cases h5:x.op=35
  ·exact alI H h5 (hD.Zk (.inl h5)) hlen hp
  ·exact alJ H AH (hD.Zk AH) (n1 AH) hlen hp
 ·by_cases h5:x.op=65∨x.op=66
  ·exact alK H h5 hlen hp
  by_cases h3:x.op=63
  ·exact alL H h3 hlen hp
  by_cases h4:x.op=64
  ·have h1:1≤stk.length:=by
    unfold UW at hn
    rw [if_neg AH,if_neg AH,if_pos AH,h4,show Xi 64=([127],[127],true) by decide] at hn;exact hn
   exact alM H h4 h1 hD.HZ hm hlen hp
  by_cases hw:0<wid x.op
  ·exact alN H ⟨Mr,hop⟩ hw hD.HZ hn (hD.off hw) hlen hp
  ·exact alO H ⟨Mr,hop⟩ hw hq ⟨h3,h4,by omega,by omega⟩ hD.HZ hn hT hlen hp
theorem ah6 (P:Ul m.d) {n:Int} (h0:0≤n) (h1:n<(m.ZA.length:Int)+m.funcs.length):∃(i:Nat) (t:Xy),m.types[i]?=some t∧t.d=YL m.d n ∧
  (n<m.ZA.length→∃y,m.ZA[n.toNat]?=some y∧y.2=i)∧(¬n<m.ZA.length→∃f,m.funcs[n.toNat-m.ZA.length]?=some f∧f.ty=i):=by
 have hfl:m.d.funcs.length=m.funcs.length:=lea ..
 have hil:m.d.ZA.length=m.ZA.length:=rfl
 have MJ:m.d.types.length=m.types.length:=lea ..
 by_cases h:n<m.ZA.length
 ·have hi:n.toNat<m.ZA.length:=by omega
  have hm:=P.imp _ (ltb (show n.toNat<m.d.ZA.length from hi))
  have hm:0≤m.ZA[n.toNat].2∧m.ZA[n.toNat].2<m.d.types.length:=hm
  obtain ⟨i,CF⟩:=lsa hm.1
  have hit:i<m.types.length:=by omega
  refine ⟨i,m.types[i],laa hit,?_,fun _=>⟨_,laa hi,CF⟩,fun h'=>absurd h h'⟩
  obtain ⟨t,e1,e2,_⟩:=N4 P h0 (show n<Y2 m.d from h)
  rw [e2]
  unfold Xn Qx at e1
  rw [if_neg AH] at e1
  have Fk:(ZB m.d).ZA.length=m.ZA.length:=lea ..
  rw [Fk,if_pos h] at e1
  have e3:(ZB m.d).ZA[n.toNat]?=some m.ZA[n.toNat].2:=by
   show (m.ZA.map (·.2))[_]?=_
   rw [lAa,laa hi];rfl
  rw [e3,CF] at e1
  have e1:(m.types.map Xy.d)[i]?=some t:=e1
  rw [lAa,laa hit] at e1
  exact Option.some.inj e1
 ·have hi:n.toNat-m.ZA.length<m.funcs.length:=by omega
  have hmem:m.funcs[n.toNat-m.ZA.length].d∈m.d.funcs:=lWa.2 ⟨_,ltb hi,rfl⟩
  have hm:=(P.fn _ hmem).ty
  have hm:0≤m.funcs[n.toNat-m.ZA.length].ty∧m.funcs[n.toNat-m.ZA.length].ty<m.d.types.length:=hm
  obtain ⟨i,CF⟩:=lsa hm.1
  have hit:i<m.types.length:=by omega
  refine ⟨i,m.types[i],laa hit,?_,fun h'=>absurd h' h,fun _=>⟨_,laa hi,CF⟩⟩
  obtain ⟨_,e2⟩:=Pw P (n:=n-Y2 m.d) (by grind [Y2]) (by grind [Y2])
  rw [show Y2 m.d+(n-Y2 m.d)=n by omega] at e2
  rw [e2]
  have e3:W2 m.d (n-Y2 m.d)=m.funcs[n.toNat-m.ZA.length].d:=by
   unfold W2 Y2
   rw [show (n-(m.d.ZA.length:Int)).toNat=n.toNat-m.ZA.length by omega]
   show (m.funcs.map YE.d).getD _ _=_
   rw [lja,lAa,laa hi];rfl
  rw [e3]
  unfold Q9
  show _=(m.types.map Xy.d).getD m.funcs[n.toNat-m.ZA.length].ty.toNat _
  rw [CF,lka,lja,lAa,laa hit];rfl
theorem alT (H:Sat g w l) (u v:Value) (xs ys:List Int) (hx:Z0 g YH U8 1 u xs) (hy:Z0 g YH U8 1 v ys) (hl:xs.length≤1000) :
  Fc Tryz.prog 166 #[u,v] w (fun r w'=>∃b,r=.bool b∧(b=true↔xs=ys)∧Sat g w' l):=by
 refine Fc.of Tryz.func166 rfl k_d<|ZF hx rfl<|ZF hy rfl ?_
 refine cI (fun c1=>?_) (fun c1=>?_)
 ·replace c1:=YC (c1)
  refine Z6.mk ?_
  exact ⟨false,rfl,⟨nofun,fun h=>absurd (congrArg List.length h) AH⟩,H⟩
 replace c1:=YB (c1)
 refine ZF hx rfl ?_
 refine Y9.rule (α:=Nat) (0) (fun x_=>[(13,AB x_)]) (fun x_ w_=>(x_≤xs.length)∧(∀q,q<x_→xs[q]?=ys[q]?)∧Sat g w_ (l)) (fun x_=>xs.length-x_) ?_ ?_ ?_
 ·exact k_a
 ·grind
 clear H
 rintro i f_ w_ ⟨hi,he,H⟩
 try simp only at hi he H ⊢
 refine cI (fun c2=>?_) (fun c2=>?_)
 ·replace c2:=YQ (c2)
  refine bk<|ZN H [] [Azp0,Azp1,Azp2,Azh3,Azp4,Azp5,Azp6,Azh7,Azp8] mixed k_d k_d<|fun w1 H=>?_
  obtain ⟨x1,hx1⟩:∃x,(xs)[(i)]?=some x:=⟨_,laa AH⟩
  obtain ⟨b1,o1,E1,F1,ZL⟩:=Z0.Zf hx hx1
  refine tk (fun _ Z=>ZK E1 rfl rfl rfl AD)<|tk (fun _ Z=>Z5 (Z.Yy F1) 0 rfl rfl rfl AD) ?_
  obtain ⟨x2,Uo⟩:∃x,(ys)[(i)]?=some x:=⟨_,laa AH⟩
  obtain ⟨b2,o2,E2,F2,Y6⟩:=Z0.Zf hy Uo
  refine tk (fun _ Z=>ZK E2 rfl rfl rfl AD)<|tk (fun _ Z=>Z5 (Z.Yy F2) 0 rfl rfl rfl AD) ?_
  refine cI (fun c3=>?_) (fun c3=>?_)
  ·replace c3:=YC (c3)
   refine Z6.mk ?_
   exact ⟨false,rfl,⟨nofun,fun h=>absurd (by subst h;exact Option.some.inj (hx1.symm.trans Uo)) AG⟩,H⟩
  replace c3:=YB (c3)
  refine ZY AH ?_
  refine Xl.mk (i+1) (Zx rfl AH (ZX)) ?_ ?_
  ·grind
  omega
 replace c2:=YP (c2)
 refine Z6.mk ?_
 exact ⟨true,rfl,⟨fun _=>Ref.Qy AH AH he,fun _=>rfl⟩,H⟩
theorem ah7 (H:Sat g w l) (a b:Xy) (ha:Wq g a) (hb:Wq g b) (h1:a.Zd.length≤1000) (h2:a.out.length≤1000) :
  Fc Tryz.prog 120 #[.agg #[a.vi,a.vo],.agg #[b.vi,b.vo]] w (fun r w'=>∃q,r=.bool q∧(q=true↔a.Zd=b.Zd∧a.out=b.out)∧Sat g w' l):=by
 refine Fc.of Tryz.func120 rfl k_d ?_
 have ajt:=ha.Zd
 have aju:=ha.out
 have ajv:=hb.Zd
 have ajw:=hb.out
 refine ZJ H<|fun p1 w1 H=>ZJ H<|fun p2 w2 H=>Z9 rfl<|Z5 (H.at 1 rfl) 0 rfl rfl rfl<|Z9 rfl<|Z5 (H.at 0 rfl) 0 rfl rfl rfl ?_
 refine Z7.mk (Fc.imp (Rn.alT H _ _ _ _ ajt ajv ?_) ?_)
 ·grind
 clear H
 rintro _ w1 ⟨b1,⟨rfl,⟨h3,H⟩⟩⟩
 refine br (fun c1=>?_) (fun c1=>?_)
 ·replace c1:=h3.1 (c1)
  refine Z9 rfl<|Z5 (H.at 1 rfl) 1 rfl rfl rfl<|Z9 rfl<|Z5 (H.at 0 rfl) 1 rfl rfl rfl ?_
  refine Z7.mk (Fc.imp (Rn.alT H _ _ _ _ aju ajw ?_) ?_)
  ·grind
  clear H
  rintro _ w3 ⟨b2,⟨rfl,⟨h4,H⟩⟩⟩
  refine Z6.mk ?_
  refine ⟨b2,?_⟩
  refine ⟨?_,?_⟩
  ·grind
  refine ⟨?_,?_⟩
  ·grind
  refine H.drop 1<|fun H=>H.drop 0<|fun H=>?_
  exact H
 replace c1:=T9 h3 (c1)
 refine Z6.mk ?_
 refine ⟨false,?_⟩
 refine ⟨?_,?_⟩
 ·grind
 refine ⟨?_,?_⟩
 ·grind
 refine H.drop 1<|fun H=>H.drop 0<|fun H=>?_
 exact H
theorem L1 (H:Sat g w (Pt cp (AE m [AA mp,vt,vg]) 158::l)) (hm:XV g m) (P:Ul m.d) (n:Int) (h0:0≤n) (h1:n<(m.ZA.length:Int)+m.funcs.length) :
  Fc Tryz.prog 75 #[AA cp,AB n] w (fun r w'=>∃t:Xy,r=.agg #[t.vi,t.vo]∧t∈m.types∧Wq g t∧t.d=YL m.d n∧t.Zd.length≤4∧t.out.length≤1∧Sat g w' (Pt cp (AE m [AA mp,vt,vg]) 158::l)):=by
 refine Fc.of Tryz.func75 rfl k_d ?_
 have ZP:=hm.types
 have Zu:=hm.ZA
 have ZV:=hm.funcs
 obtain ⟨i,t,k1,k2,k3,k4⟩:=ah6 P h0 h1
 have N5:=lda k1
 have hto:=Z0.all ZP t N5
 have KW:t.Zd.length≤4:=(P.sig t.d (lWa.2 ⟨t,N5,rfl⟩)).1
 have anS:t.out.length≤1:=(P.sig t.d (lWa.2 ⟨t,N5,rfl⟩)).2
 have hni:=P.ni
 have hnf:=P.nf
 have hfl:m.d.funcs.length=m.funcs.length:=lea ..
 have hil:m.d.ZA.length=m.ZA.length:=rfl
 obtain ⟨k,rfl⟩:=lsa h0
 rw [lka] at k3 k4
 by_cases h:(k:Int)<m.ZA.length
 ·obtain ⟨y,q1,q2⟩:=k3 h
  have hlt:=(lba.1 k1).1
  have A8:0≤y.2∧y.2<m.types.length:=by omega
  have D4:m.types[y.2.toNat]?=some t:=by grind
  refine ZU H rfl<|fun p1 w1 H=>Z9 rfl<|Z9 rfl<|Z5 (H.at 1 rfl) 1 rfl rfl rfl<|ZF Zu rfl<|cT (Zi AG)<|ZN H [] [Azp0,Azp1,Azp2,Azp3,Azh4,Azp5,Azp6,Azp7,Azp8,Azh9,Azp10,Azp11,Azp12,Azh13,Azp14,Azh15,Azfr16] mixed k_d k_d<|fun w2 H=>tk (fun _ Z=>Z9 rfl AD)<|tk (fun _ Z=>Z9 rfl AD)<|tk (fun _ Z=>Z5 (Z.at 1 rfl) 0 rfl rfl rfl AD)<|tk (fun _ Z=>Z9 rfl AD)<|tk (fun _ Z=>Z9 rfl AD)<|tk (fun _ Z=>Z5 (Z.at 1 rfl) 1 rfl rfl rfl AD) ?_
  obtain ⟨b1,o1,E1,F1,ZL⟩:=Z0.Zf Zu q1
  have Vu:=ZL.name
  have Yi:=ZL.ty
  refine tk (fun _ Z=>ZK E1 rfl rfl rfl AD)<|tk (fun _ Z=>Z9 rfl AD)<|tk (fun _ Z=>Z5 (Z.Yy F1) 1 rfl rfl rfl AD) ?_
  obtain ⟨b2,o2,E2,F2,Y6⟩:=Z0.Zf ZP D4
  have Yb:=Y6.Zd
  have Yw:=Y6.out
  refine tk (fun _ Z=>ZK E2 AH rfl rfl AD)<|tk (fun _ Z=>ZD (Z.Yy F2) 0 rfl rfl rfl AD)<|ZG H 0 rfl rfl rfl (by grind [Z0.one])<|fun w1 H=>XG (H.at 0 rfl) 0 rfl rfl rfl<|Z6.mk ?_
  refine ⟨t,?_⟩
  refine ⟨rfl,?_⟩
  refine ⟨AH,?_⟩
  refine ⟨AH,?_⟩
  refine ⟨AH,?_⟩
  refine ⟨AH,?_⟩
  refine ⟨AH,?_⟩
  refine H.Z8 [1]<|fun H=>H.drop 1<|fun H=>?_
  exact H
 ·obtain ⟨f,q1,q2⟩:=k4 h
  have hlt:=(lba.1 k1).1
  have A8:0≤f.ty∧f.ty<m.types.length:=by omega
  have D4:m.types[f.ty.toNat]?=some t:=by grind
  refine ZU H rfl<|fun p1 w1 H=>Z9 rfl<|Z9 rfl<|Z5 (H.at 1 rfl) 1 rfl rfl rfl<|ZF Zu rfl<|cF (Zt AH)<|ZN H [] [Azp0,Azp1,Azp2,Azp3,Azh4,Azp5,Azp6,Azp7,Azp8,Azh9,Azp10,Azp11,Azp12,Azp13,Azp14,Azh15,Azp16,Azp17,Azp18,Azp19,Azh20,Azp21,Azh22,Azfr23] mixed k_d k_d<|fun w2 H=>tk (fun _ Z=>Z9 rfl AD)<|tk (fun _ Z=>Z9 rfl AD)<|tk (fun _ Z=>Z5 (Z.at 1 rfl) 0 rfl rfl rfl AD)<|tk (fun _ Z=>Z9 rfl AD)<|tk (fun _ Z=>Z9 rfl AD)<|tk (fun _ Z=>Z5 (Z.at 1 rfl) 2 rfl rfl rfl AD)<|tk (fun _ Z=>Z9 rfl AD)<|tk (fun _ Z=>Z9 rfl AD)<|tk (fun _ Z=>Z5 (Z.at 1 rfl) 1 rfl rfl rfl AD)<|tk (fun _ Z=>ZF Zu rfl AD)<|ZY AH ?_
  obtain ⟨b1,o1,E1,F1,ZL⟩:=Z0.Zf ZV q1
  have Yi:=ZL.ty
  have Zv:=ZL.loc
  have ZH:=ZL.body
  refine tk (fun _ Z=>ZK E1 AH rfl rfl AD)<|tk (fun _ Z=>Z9 rfl AD)<|tk (fun _ Z=>Z5 (Z.Yy F1) 0 rfl rfl rfl AD) ?_
  obtain ⟨b2,o2,E2,F2,Y6⟩:=Z0.Zf ZP D4
  have Yb:=Y6.Zd
  have Yw:=Y6.out
  refine tk (fun _ Z=>ZK E2 AH rfl rfl AD)<|tk (fun _ Z=>ZD (Z.Yy F2) 0 rfl rfl rfl AD)<|ZG H 0 rfl rfl rfl (by grind [Z0.one])<|fun w1 H=>XG (H.at 0 rfl) 0 rfl rfl rfl<|Z6.mk ?_
  refine ⟨t,?_⟩
  refine ⟨rfl,?_⟩
  refine ⟨AH,?_⟩
  refine ⟨AH,?_⟩
  refine ⟨AH,?_⟩
  refine ⟨AH,?_⟩
  refine ⟨AH,?_⟩
  refine H.Z8 [1]<|fun H=>H.drop 1<|fun H=>?_
  exact H
theorem ce0 {t tx:Xy} {D:XL} {f:Int} (h:t.d=D) (hc:¬(t.Zd=tx.Zd∧t.out=tx.out)):((0:Int),List.drop 0 (List.take (stk.length-1) stk),(25:Int))=if D.Zd≠tx.d.Zd∨D.out≠tx.d.out then (0,low stk 1,25) else (f,low stk 1,0):=by
 subst h
 rw [J3,if_pos]
 refine Decidable.by_contra fun hn=>hc ⟨Decidable.by_contra fun h1=>hn (.inl h1),Decidable.by_contra fun h2=>hn (.inr h2)⟩
theorem ce1 {t tx:Xy} {D:XL} {f:Int} (h:t.d=D) (hc:t.Zd=tx.Zd∧t.out=tx.out):(f,List.drop 0 (List.take (stk.length-1) stk),(0:Int))=if D.Zd≠tx.d.Zd∨D.out≠tx.d.out then (0,low stk 1,25) else (f,low stk 1,0):=by
 subst h
 rw [J3,if_neg]
 rintro (h|h)
 ·exact h hc.1
 ·exact h hc.2
theorem NX (H:Sat g w (Pt cp (AE m [AA mp,vt,vg]) 158::Sl 3 1 ZE vt Zr::Sl 2 1 ZE vs stk::l)) (hm:XV g m) (P:Ul m.d) (ho:x.op=16∨x.op=17) (QV:∀n∈Zr,-1≤n∧n<(m.ZA.length:Int)+m.funcs.length) (h1:x.op=17→1≤stk.length∧0≤x.a∧x.a<m.types.length)
  (TT:∀v∈stk,Xw v) (hlen:stk.length≤100000) (MJ:Zr.length≤1000) :
  Fc Tryz.prog 196 #[AA cp,.agg #[.int .u8 x.op,AB x.a,AB x.b,SH],vs] w (fun r w'=>∃f vs' W8 e,r=.tuple #[AB f,vs',AB e]∧(f,W8,e)=YX m.d Zr x stk∧Sat g w' (Pt cp (AE m [AA mp,vt,vg]) 158::Sl 3 1 ZE vt Zr::Sl 2 1 ZE vs' W8::l)):=by
 refine Fc.of Tryz.func196 rfl k_d ?_
 have ZP:=hm.types
 have Zu:=hm.ZA
 have ZV:=hm.funcs
 unfold YX
 rcases ho with ho|ho
 ·rw [if_pos ho]
  refine ZJ H<|fun p1 w1 H=>Z9 rfl<|Z5 (H.at 0 rfl) 0 rfl rfl rfl<|cT (ZI AG)<|Z9 rfl<|Z5 (H.at 0 rfl) 1 rfl rfl rfl<|Z6.mk ?_
  refine ⟨x.a,vs,stk,0,?_⟩
  refine ⟨rfl,?_⟩
  refine ⟨rfl,?_⟩
  refine H.Z8 [3,3,3]<|fun H=>H.drop 3<|fun H=>?_
  exact H
 ·rw [if_neg AH]
  obtain ⟨h1,h2,h3⟩:=h1 ho
  obtain ⟨a,ha,Ih,HX⟩:=Fe (s:=stk) AH
  have FO:=TT a HX
  rw [Ih]
  have hN0:0≤a % 4294967296:=by omega
  have A7:m.types[x.a.toNat]?=some m.types[x.a.toNat]:=laa AH
  have Mb:=Z0.all ZP _ (lda A7)
  have Tu:m.d.types.getD x.a.toNat sz=m.types[x.a.toNat].d:=by
   show (m.types.map Xy.d).getD _ _=_
   rw [lja,lAa,A7];rfl
  rw [Tu]
  generalize m.types[x.a.toNat]=tx at *
  by_cases hNl:(a % 4294967296).toNat<Zr.length
  ·obtain ⟨f,CE⟩:∃f,Zr[(a % 4294967296).toNat]?=some f:=⟨_,laa hNl⟩
   have hNb:=QV f (lda CE)
   rw [afi CE]
   by_cases hf:f<0
   ·rw [if_pos (.inr hf)]
    refine ZJ H<|fun p1 w1 H=>Z9 rfl<|Z5 (H.at 0 rfl) 0 rfl rfl rfl<|cF (Z4 AH)<|YO H 3 rfl rfl<|ZY AH ?_
    obtain ⟨b1,o1,E1⟩:=H.Zf 3 rfl ((stk.length)-1) AH
    refine ZK E1 AH rfl rfl<|Z5 (H.el 3 rfl E1 ha) 0 rfl rfl rfl<|Yq rfl rfl<|WZ AH rfl rfl<|YO H 3 rfl rfl<|ZY AH<|NB H 3 rfl 0 ((stk.length)-1) rfl rfl AH AH (.inl ⟨rfl,rfl⟩) (.inr ⟨_,by first|rfl|(congr 2;omega)⟩)<|fun v1=>?_
    intro H
    refine Z9 rfl<|Z5 (H.at 1 rfl) 12 rfl rfl rfl<|YO H 2 rfl rfl<|X8 (YG AH)<|Z9 rfl<|Z5 (H.at 1 rfl) 12 rfl rfl rfl ?_
    obtain ⟨b2,o2,E2⟩:=H.Zf 2 rfl (a % 4294967296).toNat AH
    refine ZK E2 AH rfl rfl<|Z5 (H.el 2 rfl E2 CE) 0 rfl rfl rfl<|cT (Zi AG)<|Z6.mk ?_
    refine ⟨0,v1,List.drop 0 (List.take (stk.length-1) stk),24,?_⟩
    refine ⟨rfl,?_⟩
    refine ⟨rfl,?_⟩
    refine H.Z8 [3,3,3]<|fun H=>H.drop 3<|fun H=>?_
    exact H
   ·rw [if_neg AH]
    refine ZJ H<|fun p1 w1 H=>Z9 rfl<|Z5 (H.at 0 rfl) 0 rfl rfl rfl<|cF (Z4 AH)<|YO H 3 rfl rfl<|ZY AH ?_
    obtain ⟨b1,o1,E1⟩:=H.Zf 3 rfl ((stk.length)-1) AH
    refine ZK E1 AH rfl rfl<|Z5 (H.el 3 rfl E1 ha) 0 rfl rfl rfl<|Yq rfl rfl<|WZ AH rfl rfl<|YO H 3 rfl rfl<|ZY AH<|NB H 3 rfl 0 ((stk.length)-1) rfl rfl AH AH (.inl ⟨rfl,rfl⟩) (.inr ⟨_,by first|rfl|(congr 2;omega)⟩)<|fun v1=>?_
    intro H
    refine Z9 rfl<|Z5 (H.at 1 rfl) 12 rfl rfl rfl<|YO H 2 rfl rfl<|X8 (YG AH)<|Z9 rfl<|Z5 (H.at 1 rfl) 12 rfl rfl rfl ?_
    obtain ⟨b2,o2,E2⟩:=H.Zf 2 rfl (a % 4294967296).toNat AH
    refine ZK E2 AH rfl rfl<|Z5 (H.el 2 rfl E2 CE) 0 rfl rfl rfl<|cF (Zt AH)<|Z9 rfl<|Z5 (H.at 1 rfl) 12 rfl rfl rfl<|ZK E2 AH rfl rfl<|Z5 (H.el 2 rfl E2 CE) 0 rfl rfl rfl<|ZN H [] [Azp0,Azp1,Azp3,Azp4,Azp5,Azp6,Azh7,Azp8,Azh9,Azp10,Azh11,Azf2,Azfr12,Azp13] mixed k_d k_d<|fun w2 H=>tk (fun _ Z=>Z9 rfl AD)<|tk (fun _ Z=>Z9 rfl AD)<|tk (fun _ Z=>Z5 (Z.at 1 rfl) 0 rfl rfl rfl AD)<|tk (fun _ Z=>Z9 rfl AD)<|tk (fun _ Z=>Z5 (Z.at 0 rfl) 1 rfl rfl rfl AD) ?_
    obtain ⟨b3,o3,E3,F1,ZL⟩:=Z0.Zf ZP A7
    have PK:=ZL.Zd
    have PJ:=ZL.out
    refine tk (fun _ Z=>ZK E3 AH rfl rfl AD)<|tk (fun _ Z=>ZD (Z.Yy F1) 0 rfl rfl rfl AD)<|H.Z8 [1]<|fun H=>?_
    refine Z7.mk (Fc.imp (Rn.L1 H AH AH _ AH AH) ?_)
    clear H
    rintro _ w1 ⟨t1,⟨rfl,⟨h4,⟨h5,⟨h6,⟨h7,⟨h8,H⟩⟩⟩⟩⟩⟩⟩
    refine H.Z8 [3,3,2,3]<|fun H=>YZ.mk (H) ?_
    refine Z7.mk (Fc.imp (Rn.ah7 H _ _ AH AH AH AH) ?_)
    clear H
    rintro _ w3 ⟨q1,⟨rfl,⟨h9,H⟩⟩⟩
    refine cI (fun c1=>?_) (fun c1=>?_)
    ·replace c1:=T9 h9 (TD (c1))
     refine Z6.mk ?_
     refine ⟨0,v1,List.drop 0 (List.take (stk.length-1) stk),25,?_⟩
     refine ⟨rfl,?_⟩
     refine ⟨?_,?_⟩
     ·exact ce0 AG AG
     refine H.Z8 [3,3,3]<|fun H=>H.drop 3<|fun H=>?_
     exact H
    replace c1:=h9.1 (TC (c1))
    refine Z6.mk ?_
    refine ⟨f,v1,List.drop 0 (List.take (stk.length-1) stk),0,?_⟩
    refine ⟨rfl,?_⟩
    refine ⟨?_,?_⟩
    ·exact ce1 AG AG
    refine H.Z8 [3,3,3]<|fun H=>H.drop 3<|fun H=>?_
    exact H
  ·rw [if_pos (.inl AH)]
   refine ZJ H<|fun p1 w1 H=>Z9 rfl<|Z5 (H.at 0 rfl) 0 rfl rfl rfl<|cF (Z4 AH)<|YO H 3 rfl rfl<|ZY AH ?_
   obtain ⟨b1,o1,E1⟩:=H.Zf 3 rfl ((stk.length)-1) AH
   refine ZK E1 AH rfl rfl<|Z5 (H.el 3 rfl E1 ha) 0 rfl rfl rfl<|Yq rfl rfl<|WZ AH rfl rfl<|YO H 3 rfl rfl<|ZY AH<|NB H 3 rfl 0 ((stk.length)-1) rfl rfl AH AH (.inl ⟨rfl,rfl⟩) (.inr ⟨_,by first|rfl|(congr 2;omega)⟩)<|fun v1=>?_
   intro H
   refine Z9 rfl<|Z5 (H.at 1 rfl) 12 rfl rfl rfl<|YO H 2 rfl rfl<|VM (Yk AH)<|cT rfl<|Z6.mk ?_
   refine ⟨0,v1,List.drop 0 (List.take (stk.length-1) stk),24,?_⟩
   refine ⟨rfl,?_⟩
   refine ⟨rfl,?_⟩
   refine H.Z8 [3,3,3]<|fun H=>H.drop 3<|fun H=>?_
   exact H
end
end Rn
namespace Rn
open Go YW Go.RowKit
open YU Zm X7 YN Valid Mem
structure CV where
 fn:Int
 at_:Int
 vl:Value
 loc:List Int
 vs:Value
 stk:List Int
def YJ (c:CV):List Value:=[.int .i64 c.fn,.int .i64 c.at_,c.vl,c.vs]
def CV.d (c:CV):YV:=⟨c.fn,c.at_,c.loc,c.stk⟩
section
variable {g:Zy} {w:World} {l:List As} {vc:Value} {cs:List CV} {i b o:Nat}
theorem J2 (E:El vc 4 i b o) (c:CV) (hx:cs[i]?=some c) (H:Sat g w (Sl 79 4 YJ vc cs::Sl 2 1 ZE c.vs c.stk::l)) (h1:1≤c.stk.length) (hlen:c.stk.length≤100000) :
  Fc Tryz.prog 162 #[.pointer (some ⟨b,o,none⟩)] w (fun r w'=>∃vs' t,r=AB t∧t=top c.stk 0∧Sat g w' (Sl 79 4 YJ vc (cs.set i ⟨c.fn,c.at_,c.vl,c.loc,vs',low c.stk 1⟩)::Sl 2 1 ZE vs' (low c.stk 1)::l)):=by
 refine Fc.of Tryz.func162 rfl k_d ?_
 obtain ⟨a,ha,Ih,HX⟩:=Fe (s:=c.stk) AH
 rw [Ih]
 have hst:=H.one 1 rfl
 refine ZN H [] [Azp0,Azp1,Azp2,Azh3,Azp4,Azp5,Azp6,Azh7,Azp8,Azp9,Azp10,Azh11,Azp12] mixed k_d k_d<|fun w1 H=>tk (fun _ Z=>Z9 rfl AD)<|tk (fun _ Z=>Z5 (Z.el 0 rfl E hx) 3 rfl rfl rfl AD)<|tk (fun _ Z=>Z9 rfl AD)<|tk (fun _ Z=>Z5 (Z.el 0 rfl E hx) 3 rfl rfl rfl AD) ?_
 obtain ⟨a1,c1,V1⟩:=H.form 1 rfl
 refine tk (fun _ Z=>XN V1 rfl AD)<|ZY AH ?_
 obtain ⟨b1,o1,E1⟩:=H.Zf 1 rfl ((c.stk.length)-1) AH
 refine tk (fun _ Z=>ZK E1 AH rfl rfl AD)<|tk (fun _ Z=>Z5 (Z.el 1 rfl E1 ha) 0 rfl rfl rfl AD)<|ZN H [] [Azp0,Azp1,Azp2,Azp3,Azh4,Azp5,Azp6,Azp7,Azh8,Azp9,Azp10,Azp11,Azp12,Azp13,Azfr14] mixed k_d k_d<|fun w2 H=>tk (fun _ Z=>Z9 rfl AD)<|tk (fun _ Z=>Z5 (Z.el 0 rfl E hx) 3 rfl rfl rfl AD)<|tk (fun _ Z=>Z9 rfl AD)<|tk (fun _ Z=>Z5 (Z.el 0 rfl E hx) 3 rfl rfl rfl AD)<|tk (fun _ Z=>XN V1 rfl AD)<|ZY AH ?_
 obtain ⟨v1,V2⟩:=H.vw 1 rfl (0) (((c.stk.length)-1)) AH AH
 refine tk (fun _ Z=>VI V2 rfl rfl (.inl AD) (.inr ⟨_,by first|rfl|(congr 2;omega)⟩) AD)<|tk (fun _ Z=>Z9 rfl AD)<|Yz H 0 rfl E hx 3 (⟨c.fn,c.at_,c.vl,c.loc,(v1),low c.stk 1⟩) rfl (by simp only [Bool.and_true,H.one 0 rfl,H.one 1 rfl,Vw.one V2,hst]) rfl rfl<|fun w1 H=>Z6.mk ?_
 refine ⟨v1,a,?_⟩
 refine ⟨?_,?_⟩
 ·simp
 refine ⟨AH,?_⟩
 exact H.HG 1 rfl V2
theorem L0 (E:El vc 4 i b o) (c:CV) (hx:cs[i]?=some c) (H:Sat g w (Sl 79 4 YJ vc cs::Sl 2 1 ZE c.vs c.stk::l)) (j:XP) (h0:0≤j.height) (h1:0≤j.keep) (hf:j.height+j.keep≤c.stk.length) (hlen:c.stk.length≤100000) :
  Fc Tryz.prog 113 #[.pointer (some ⟨b,o,none⟩),.agg #[AB j.at_,AB j.keep,AB j.height]] w (fun r w'=>∃vs',Sat g w' (Sl 79 4 YJ vc (cs.set i ⟨c.fn,j.at_,c.vl,c.loc,vs',c.stk.take j.height.toNat++c.stk.drop (c.stk.length-j.keep.toNat)⟩)::Sl 2 1 ZE vs' (c.stk.take j.height.toNat++c.stk.drop (c.stk.length-j.keep.toNat))::l)):=by
 refine Fc.of Tryz.func113 rfl k_d ?_
 have hst:=H.one 1 rfl
 obtain ⟨kk,hkk⟩:=lsa h1
 obtain ⟨hh,hhh⟩:=lsa h0
 rw [hkk,hhh,lka,lka]
 refine ZJ H<|fun p1 w1 H=>ZN H [] [Azp0,Azp1,Azp2,Azh3,Azp4,Azp5,Azp6,Azh7,Azp8,Azp9,Azh10,Azp11,Azp12,Azp13] mixed k_d k_d<|fun w2 H=>tk (fun _ Z=>Z9 rfl AD)<|tk (fun _ Z=>Z5 (Z.el 1 rfl E hx) 3 rfl rfl rfl AD)<|tk (fun _ Z=>Z9 rfl AD)<|tk (fun _ Z=>Z5 (Z.el 1 rfl E hx) 3 rfl rfl rfl AD) ?_
 obtain ⟨a1,c1,V1⟩:=H.form 2 rfl
 refine tk (fun _ Z=>XN V1 rfl AD)<|tk (fun _ Z=>Z9 rfl AD)<|tk (fun _ Z=>Z5 (Z.at 0 rfl) 1 rfl rfl rfl AD)<|ZY AH ?_
 obtain ⟨v1,V2⟩:=H.vw 2 rfl (((c.stk.length)-(kk))) ((c.stk).length) AH AH
 refine tk (fun _ Z=>VI V2 rfl rfl (.inr ⟨_,by first|rfl|(congr 2;omega)⟩) (.inl AD) AD)<|ZN H [] [Azp0,Azp1,Azp2,Azp3,Azh4,Azp5,Azh6,Azp7,Azp8,Azfr9,Azp10,Azp11,Azfr12] mixed k_d k_d<|fun w1 H=>tk (fun _ Z=>Z9 rfl AD)<|tk (fun _ Z=>Z5 (Z.el 1 rfl E hx) 3 rfl rfl rfl AD)<|tk (fun _ Z=>Z9 rfl AD)<|tk (fun _ Z=>Z5 (Z.at 0 rfl) 2 rfl rfl rfl AD) ?_
 obtain ⟨v2,V3⟩:=H.vw 2 rfl (0) ((hh)) AH AH
 refine tk (fun _ Z=>VI V3 rfl rfl (.inl AD) (.inr ⟨_,by first|rfl|(congr 2;omega)⟩) AD)<|akE 8 H 2 rfl V3 V2 (fun y _=>rfl) rfl rfl rfl AH AH<|fun v3=>?_
 intro w2 H
 refine tk (fun _ Z=>Z9 rfl AD)<|Yz H 1 rfl E hx 3 (⟨c.fn,c.at_,c.vl,c.loc,(v3),c.stk.take hh++c.stk.drop (c.stk.length-kk)⟩) rfl (by simp only [Bool.and_true,H.one 1 rfl,H.one 2 rfl,Vw.one V3,Vw.one V2,hst]) rfl rfl<|fun w1 H=>Z9 rfl<|Z5 (H.at 0 rfl) 0 rfl rfl rfl<|Z9 rfl ?_
 have hx1:(cs.set i { fn:=c.fn,at_:=c.at_,vl:=c.vl,loc:=c.loc,vs:=v3,stk:=List.take hh c.stk++List.drop (c.stk.length-kk) c.stk })[i]?=some _:=WN hx
 refine Yz H 1 rfl E hx1 1 (⟨c.fn,j.at_,c.vl,c.loc,_,c.stk.take hh++c.stk.drop (c.stk.length-kk)⟩) rfl rfl rfl rfl<|fun w2 H=>Z6.mk ?_
 refine ⟨v3,?_⟩
 refine H.Z8 [2,2]<|fun H=>H.drop 2<|fun H=>?_
 refine H.cg (YI (QA ?_) (YI rfl (rfl)))
 (simp;done)
end
end Rn
namespace Rn
open Go YW Go.RowKit
open YU Zm X7 YN Valid Mem
section
variable {g:Zy} {w:World} {l:List As} {m:Zg} {pr cp mp:Nat} {vw vc vt vg va:Value} {host:Int} {cs:List CV} {args:List Int} {c u:CV}
theorem afn (H:Sat g w (Pt pr [AA cp,vw,vc,AB host] 148::Pt cp (AE m [AA mp,vt,vg]) 158::Sl 79 4 YJ vc cs::Sl 2 1 ZE va args::l)) (hm:XV g m) (n:Nat) (f:YE) (hf:m.funcs[n]?=some f) (h1:f.loc.length≤16) (h2:args.length≤16) (h3:cs.length≤100) (hnf:m.funcs.length≤16) :
  Fc Tryz.prog 79 #[AA pr,AB n,va] w (fun r w'=>∃PG H9,Sat g w' (Pt pr [AA cp,vw,PG,AB host] 148::Pt cp (AE m [AA mp,vt,vg]) 158::Sl 79 4 YJ PG (cs++[⟨n,0,H9,args++List.replicate f.loc.length 0,.slice none 0 0,[]⟩])::Sl 2 1 ZE H9 (args++List.replicate f.loc.length 0)::Sl 2 1 ZE (.slice none 0 0) []::l)):=by
 refine Fc.of Tryz.func79 rfl k_d ?_
 have ZV:=hm.funcs
 have hfo:=Z0.all ZV f (lda hf)
 have ag9:=hfo.loc
 replace H:=H.U0 (en:=ZE) (s:=1) 2 (fun _=>rfl)
 refine Z9 rfl<|Z5 (H.at 1 rfl) 0 rfl rfl rfl<|Z9 rfl<|Z9 rfl<|Z5 (H.at 2 rfl) 2 rfl rfl rfl ?_
 obtain ⟨b1,o1,E1,F1,ZL⟩:=Z0.Zf ZV hf
 have Yi:=ZL.ty
 have Zv:=ZL.loc
 have ZH:=ZL.body
 refine ZK E1 rfl rfl rfl<|Z9 rfl<|Z5 (H.Yy F1) 1 rfl rfl rfl<|ZF Zv rfl<|amW (zx:=(0:Int)) 8 H 4 rfl rfl rfl rfl rfl rfl rfl AH AH<|fun v1=>?_
 intro w1 H
 refine Z9 rfl<|Z5 (H.at 1 rfl) 2 rfl rfl rfl ?_
 obtain ⟨a1,c1,rfl⟩:=H.form 4 rfl
 refine Zj rfl rfl rfl<|ZZ H rfl rfl rfl rfl<|fun p1 w2 H=>Wr (ys:=[⟨n,0,_,args++List.replicate f.loc.length 0,.slice none 0 0,[]⟩]) 64 H 4 rfl (H.at 0 rfl) rfl (fun y hy=>by rw [lqa.1 hy];simp only [Rn.YJ,List.all_cons,List.all_nil,H.one 1 rfl,H.one 4 rfl,H.one 5 rfl,Z0.one ZH,Z0.one Zv,Z0.one ag9,Z0.one ZV];rfl) rfl rfl rfl AH AH<|fun v1=>?_
 intro w1 H
 refine Z9 rfl<|XS H 2 rfl rfl rfl (H.one 4 rfl)<|fun w2 H=>Z6.mk ?_
 refine ⟨v1,Value.slice a1 (args++List.replicate f.loc.length 0).length c1,?_⟩
 refine H.Z8 [1,5,5,5,5]<|fun H=>H.drop 5<|fun H=>?_
 exact H
theorem Pn (H:Sat g w (Sl 2 1 ZE va args::l)) (hl:args.length≤100000):Fc Tryz.prog 50 #[va] w (fun u w'=>Sat g w' (Sl 2 1 ZE u args::Sl 2 1 ZE va args::l)):=by
 refine Fc.of Tryz.func50 rfl k_d ?_
 rcases H.TF 0 rfl with ⟨Of,Oe⟩|⟨b1,o1,c1,V1⟩
 ·subst Of
  subst Oe
  refine XR rfl<|cT rfl<|Z6.mk ?_
  replace H:=H.U0 (en:=ZE) (s:=1) (2) (fun _=>rfl)
  exact H
 subst V1
 refine XR rfl<|cF rfl<|ZZ H rfl rfl rfl rfl<|fun p1 w1 H=>H.WE (n:=0) (en:=ZE) (s:=1) 0 rfl [] rfl rfl (fun _=>rfl) rfl<|fun H=>UH 8 H 0 rfl (H.EL (ok:=fun _=>True) 1 rfl (fun _ _=>trivial)) (fun y _=>rfl) rfl rfl rfl (by grind) (by grind)<|fun v1=>?_
 intro w2 H
 refine Z6.mk ?_
 exact H
theorem KU {v v1:Value} {xs:List Int} {a:Nat} (H:Sat g w (Sl 2 1 ZE v xs::l)) (V:Vw v 1 xs.length a xs.length v1) (hl:xs.length≤100000):Fc Tryz.prog 50 #[v1] w (fun u w'=>Sat g w' (Sl 2 1 ZE u (xs.drop a)::Sl 2 1 ZE v xs::l)):=by
 refine Fc.of Tryz.func50 rfl k_d ?_
 have hle:=V.le
 obtain ⟨A,q,he,h0⟩:∃A q,v1=.slice A (xs.length-a) q∧(A=none→xs.drop a=[]):=by
  obtain ⟨ad,cap,hv,_,_,_,_,R5⟩:=V
  refine ⟨_,_,R5,fun hn=>?_⟩
  cases ad with
  | none =>
   rcases (H.off 0 rfl).1 with ⟨_,hx⟩|⟨_,_,_,_,h,_⟩
   ·grind
   ·grind
  | some p =>
   split at hn
   ·grind
   ·grind
 cases A with
 | none =>
  rw [h0 rfl]
  subst he
  replace H:=H.U0 (en:=ZE) (s:=1) 2 (fun _=>rfl)
  refine XR rfl<|cT rfl<|Z6.mk ?_
  exact H
 | some p =>
  subst he
  refine XR rfl<|cF rfl<|ZZ H rfl rfl rfl rfl<|fun p1 w1 H=>H.WE (n:=0) (en:=ZE) (s:=1) 0 rfl [] rfl rfl (fun _=>rfl) rfl<|fun H=>UH 8 H 0 rfl (H.rdv (ok:=fun _=>True) 1 rfl V (fun _ _=>trivial)) (fun y _=>rfl) rfl rfl rfl (by grind) (by grind)<|fun v1=>?_
  intro w2 H
  refine Z6.mk ?_
  refine H.cg (YI (QA ?_) (YI rfl (rfl)))
  (simp;done)
theorem afo (H:Sat g w (Pt pr [AA cp,vw,vc,AB host] 148::Sl 79 4 YJ vc cs::Sl 2 1 ZE c.vs c.stk::l)) (hcs:cs=[c]) (hvl:c.vl.oneCell'=true) (hvs:c.vs.oneCell'=true) (hl:c.stk.length≤100000) :
  Fc Tryz.prog 112 #[AA pr] w (fun r w'=>∃PG v',r=.tuple #[v',.bool true]∧Sat g w' (Pt pr [AA cp,vw,PG,AB host] 148::Sl 79 4 YJ PG ([]:List CV)::Sl 2 1 ZE v' c.stk::l)):=by
 refine Fc.of Tryz.func112 rfl k_d ?_
 have hn:cs.length=1:=by grind
 have hx:cs[cs.length-1]?=some c:=by grind
 have QH:List.drop 0 (cs.take (cs.length-1))=([]:List CV):=by grind
 refine ZN H [] [Azp0,Azp1,Azp2,Azh3,Azp4,Azp5,Azp6,Azh7,Azp8,Azp9,Azp10,Azh11,Azf12,Azfr13] mixed k_d k_d<|fun w1 H=>tk (fun _ Z=>Z9 rfl AD)<|tk (fun _ Z=>Z5 (Z.at 0 rfl) 2 rfl rfl rfl AD)<|tk (fun _ Z=>Z9 rfl AD)<|tk (fun _ Z=>Z5 (Z.at 0 rfl) 2 rfl rfl rfl AD) ?_
 obtain ⟨a1,c1,V1⟩:=H.form 1 rfl
 refine tk (fun _ Z=>XN V1 rfl AD)<|ZY AH ?_
 obtain ⟨b1,o1,E1⟩:=H.Zf 1 rfl ((cs.length)-1) AH
 refine tk (fun _ Z=>ZK E1 AH rfl rfl AD)<|tk (fun _ Z=>ZD (Z.el 1 rfl E1 hx) 0 rfl rfl rfl AD)<|ZU H rfl<|fun p1 w2 H=>YZ.mk (H.drop 0 (fun H=>H))<|ZG H 0 rfl rfl rfl (by simp only [List.all_cons,List.all_nil,H.one 2 rfl,H.one 3 rfl,hvs,hvl];rfl)<|fun w1 H=>Z9 rfl<|Z5 (H.at 0 rfl) 3 rfl rfl rfl<|H.Z8 [3]<|fun H=>?_
 refine Z7.mk (Fc.imp (Rn.Pn H AH) ?_)
 clear H
 rintro v' w2 H
 refine ZN H [] [Azp0,Azp1,Azp2,Azp3,Azh4,Azp5,Azp6,Azp7,Azh8,Azp9,Azp10,Azp11,Azp12,Azp13,Azfr14] mixed k_d k_d<|fun w3 H=>tk (fun _ Z=>Z9 rfl AD)<|tk (fun _ Z=>Z5 (Z.at 3 rfl) 2 rfl rfl rfl AD)<|tk (fun _ Z=>Z9 rfl AD)<|tk (fun _ Z=>Z5 (Z.at 3 rfl) 2 rfl rfl rfl AD)<|tk (fun _ Z=>XN V1 rfl AD)<|ZY AH ?_
 obtain ⟨v1,V2⟩:=H.vw 4 rfl (0) (((cs.length)-1)) AH AH
 refine tk (fun _ Z=>VI V2 rfl rfl (.inl AD) (.inr ⟨_,by first|rfl|(congr 2;omega)⟩) AD)<|tk (fun _ Z=>Z9 rfl AD)<|XS H 3 rfl rfl rfl (by simp only [Bool.and_true,H.one 0 rfl,H.one 1 rfl,H.one 4 rfl,Vw.one V2,hvs,hvl])<|fun w2 H=>Z9 rfl<|Z5 (H.at 3 rfl) 2 rfl rfl rfl<|JG V2 rfl ?_
 replace H:=H.HG 4 rfl V2
 simp only [List.set_cons_succ,List.set_cons_zero,QH] at H
 refine cT (ZI AH)<|Z6.mk ?_
 refine ⟨v1,v',?_⟩
 refine ⟨rfl,?_⟩
 refine H.Z8 [0,4,4]<|fun H=>H.drop 4<|fun H=>H.drop 3<|fun H=>?_
 exact H
theorem afp {up:List CV} (H:Sat g w (Pt pr [AA cp,vw,vc,AB host] 148::Sl 79 4 YJ vc cs::Sl 2 1 ZE c.vs c.stk::Sl 2 1 ZE u.vs u.stk::l)) (hcs:cs=up++[u]++[c]) (hvl:c.vl.oneCell'=true) (hvs:c.vs.oneCell'=true) (hl:c.stk.length≤10000) (Mz:u.stk.length≤10000) (hle:cs.length≤1000) :
  Fc Tryz.prog 112 #[AA pr] w (fun r w'=>∃PG vs',r=.tuple #[.slice none 0 0,.bool false]∧Sat g w' (Pt pr [AA cp,vw,PG,AB host] 148::Sl 79 4 YJ PG (up++[⟨u.fn,u.at_,u.vl,u.loc,vs',u.stk++c.stk⟩])::Sl 2 1 ZE vs' (u.stk++c.stk)::l)):=by
 refine Fc.of Tryz.func112 rfl k_d ?_
 have hn:cs.length=up.length+2:=by grind
 have hx:cs[cs.length-1]?=some c:=by grind
 have hu0:(cs.take (cs.length-1)).length=up.length+1:=by grind
 have QH:List.drop 0 (cs.take (cs.length-1))=up++[u]:=by grind
 refine ZN H [] [Azp0,Azp1,Azp2,Azh3,Azp4,Azp5,Azp6,Azh7,Azp8,Azp9,Azp10,Azh11,Azf12,Azfr13] mixed k_d k_d<|fun w1 H=>tk (fun _ Z=>Z9 rfl AD)<|tk (fun _ Z=>Z5 (Z.at 0 rfl) 2 rfl rfl rfl AD)<|tk (fun _ Z=>Z9 rfl AD)<|tk (fun _ Z=>Z5 (Z.at 0 rfl) 2 rfl rfl rfl AD) ?_
 obtain ⟨a1,c1,V1⟩:=H.form 1 rfl
 refine tk (fun _ Z=>XN V1 rfl AD)<|ZY AH ?_
 obtain ⟨b1,o1,E1⟩:=H.Zf 1 rfl ((cs.length)-1) AH
 refine tk (fun _ Z=>ZK E1 AH rfl rfl AD)<|tk (fun _ Z=>ZD (Z.el 1 rfl E1 hx) 0 rfl rfl rfl AD)<|ZU H rfl<|fun p1 w2 H=>YZ.mk (H.drop 0 (fun H=>H))<|ZG H 0 rfl rfl rfl (by simp only [List.all_cons,List.all_nil,H.one 2 rfl,H.one 3 rfl,H.one 4 rfl,hvs,hvl];rfl)<|fun w1 H=>Z9 rfl<|Z5 (H.at 0 rfl) 3 rfl rfl rfl<|H.Z8 [3]<|fun H=>?_
 refine Z7.mk (Fc.imp (Rn.Pn H AH) ?_)
 clear H
 rintro v' w2 H
 refine ZN H [] [Azp0,Azp1,Azp2,Azp3,Azh4,Azp5,Azp6,Azp7,Azh8,Azp9,Azp10,Azp11,Azp12,Azp13,Azfr14] mixed k_d k_d<|fun w3 H=>tk (fun _ Z=>Z9 rfl AD)<|tk (fun _ Z=>Z5 (Z.at 3 rfl) 2 rfl rfl rfl AD)<|tk (fun _ Z=>Z9 rfl AD)<|tk (fun _ Z=>Z5 (Z.at 3 rfl) 2 rfl rfl rfl AD)<|tk (fun _ Z=>XN V1 rfl AD)<|ZY AH ?_
 obtain ⟨v1,V2⟩:=H.vw 4 rfl (0) (((cs.length)-1)) AH AH
 refine tk (fun _ Z=>VI V2 rfl rfl (.inl AD) (.inr ⟨_,by first|rfl|(congr 2;omega)⟩) AD)<|tk (fun _ Z=>Z9 rfl AD)<|XS H 3 rfl rfl rfl (by simp only [Bool.and_true,H.one 0 rfl,H.one 1 rfl,H.one 4 rfl,H.one 5 rfl,Vw.one V2,hvs,hvl])<|fun w2 H=>Z9 rfl<|Z5 (H.at 3 rfl) 2 rfl rfl rfl<|JG V2 rfl ?_
 replace H:=H.HG 4 rfl V2
 rw [QH] at H
 simp only [List.set_cons_succ,List.set_cons_zero] at H
 have F0:cs.length-1-0-1=up.length:=by omega
 have hux:(up++[u])[cs.length-1-0-1]?=some u:=by grind
 have WI:∀z,(up++[u]).set (cs.length-1-0-1) z=up++[z]:=fun z=>by rw [F0];simp
 refine cF (Z4 AH)<|ZN H [] [Azp0,Azp1,Azp2,Azh3,Azp4,Azp5,Azp6,Azh7,Azp8,Azp9,Azp10,Azp11] mixed k_d k_d<|fun w3 H=>tk (fun _ Z=>Z9 rfl AD)<|tk (fun _ Z=>Z5 (Z.at 3 rfl) 2 rfl rfl rfl AD)<|tk (fun _ Z=>Z9 rfl AD)<|tk (fun _ Z=>Z5 (Z.at 3 rfl) 2 rfl rfl rfl AD)<|tk (fun _ Z=>JG V2 rfl AD)<|ZY AH ?_
 obtain ⟨b2,o2,E2⟩:=H.Zf 4 rfl ((cs.length-1-0)-1) (by grind)
 refine tk (fun _ Z=>ZK E2 AH rfl rfl AD)<|Z9 rfl<|Z5 (H.el 4 rfl E2 hux) 3 rfl rfl rfl<|UH 8 H 5 rfl (H.EL (ok:=fun _=>True) 0 rfl (fun _ _=>trivial)) (fun y _=>rfl) rfl rfl rfl AH AH<|fun v2=>?_
 intro w2 H
 refine Z9 rfl<|Yz H 4 rfl E2 hux 3 (⟨u.fn,u.at_,u.vl,u.loc,_,u.stk++c.stk⟩) rfl (by simp only [Bool.and_true,H.one 0 rfl,H.one 1 rfl,H.one 4 rfl,H.one 5 rfl,Vw.one V2,hvs,hvl]) rfl rfl<|fun w3 H=>?_
 simp only [WI] at H
 refine Z6.mk ⟨v1,v2,rfl,?_⟩
 refine H.Z8 [5,5,5]<|fun H=>H.drop 5<|fun H=>H.drop 4<|fun H=>H.drop 3<|fun H=>?_
 exact H
end
end Rn
namespace Rn
open Go YW Go.RowKit
open YU Zm X7 YN Valid Mem
section
variable {g:Zy} {w:World} {l:List As} {m:Zg} {pr cp mp:Nat} {vw vc vt vg SH:Value} {host f e:Int} {cs:List CV} {Zr s2:List Int} {u:CV} {x:ZT} {i b o:Nat}
theorem Q7 {n1 n2:Int} {q:Int × List Int × Int} {s:List Int} (h:(n1,s,n2)=q) (hq:q=(f,s2,e)):f=n1∧s2=s∧e=n2:=by grind
theorem aha {n:Int} (h0:(m.ZA.length:Int)≤n) (h1:n<(m.ZA.length:Int)+m.funcs.length):∃(k:Nat) (F:YE),n=m.ZA.length+k∧m.funcs[k]?=some F∧W2 m.d (n-Y2 m.d)=F.d:=by
 obtain ⟨k,hk⟩:=lsa (show 0≤n-m.ZA.length by omega)
 have IP:k<m.funcs.length:=by omega
 refine ⟨k,m.funcs[k],by omega,laa IP,?_⟩
 unfold W2 Y2
 show (m.funcs.map YE.d).getD (n-(m.ZA.length:Int)).toNat _=_
 rw [hk,lka,lja,lAa,laa IP];rfl
theorem afq (E:El vc 4 i b o) (c:CV) (hx:cs[i]?=some c) (H:Sat g w (Pt pr [AA cp,vw,vc,AB host] 148::Pt cp (AE m [AA mp,vt,vg]) 158::Sl 3 1 ZE vt Zr::Sl 79 4 YJ vc cs::Sl 2 1 ZE c.vs c.stk::l)) (hm:XV g m) (P:Ul m.d) (ho:x.op=16∨x.op=17) (QV:∀n∈Zr,-1≤n∧n<(m.ZA.length:Int)+m.funcs.length) (h1:x.op=17→1≤c.stk.length∧0≤x.a∧x.a<m.types.length) (TT:∀v∈c.stk,Xw v) (hlen:c.stk.length≤10000) (MJ:Zr.length≤1000) (Ux:cs.length≤40) (hvl:c.vl.oneCell'=true) (hq:YX m.d Zr x c.stk=(f,s2,e)) (he:e≠0):Fc Tryz.prog 163 #[AA pr,.pointer (some ⟨b,o,none⟩),.agg #[.int .u8 x.op,AB x.a,AB x.b,SH]] w (fun r w'=>r=.agg #[AB 2,.slice none 0 0,AB e,AB 0,AB 0]∧Sat g w' (Pt pr [AA cp,vw,vc,AB host] 148::Pt cp (AE m [AA mp,vt,vg]) 158::Sl 3 1 ZE vt Zr::l)):=by
 refine Fc.of Tryz.func163 rfl k_d ?_
 have ZP:=hm.types
 have Zu:=hm.ZA
 have ZV:=hm.funcs
 have hvs:=H.one 4 rfl
 have hni:m.ZA.length≤16:=P.ni
 have hnf:m.funcs.length≤16:=by have:=P.nf;rwa [show m.d.funcs.length=m.funcs.length from lea ..] at this
 refine ZJ H<|fun p1 w1 H=>ZU H rfl<|fun p2 w2 H=>ZN H [] [Azp0,Azp1,Azp2,Azh3,Azh4,Azp5,Azp6,Azp7,Azh8,Azfr9,Azp10,Azp11,Azp12,Azp13,Azp14,Azp15,Azp16] mixed k_d k_d<|fun w1 H=>tk (fun _ Z=>Z9 rfl AD)<|tk (fun _ Z=>Z5 (Z.at 2 rfl) 0 rfl rfl rfl AD)<|tk (fun _ Z=>ZD (Z.at 1 rfl) 0 rfl rfl rfl AD)<|tk (fun _ Z=>Z9 rfl AD)<|tk (fun _ Z=>Z5 (Z.el 5 rfl E hx) 3 rfl rfl rfl AD)<|H.Z8 [6,5,5]<|fun H=>?_
 refine Z7.mk (Fc.imp (Rn.NX H AH AH AH AH AH AH AH AH) ?_)
 clear H
 rintro _ w2 ⟨f1,⟨Zs,⟨Rw,⟨e1,⟨rfl,⟨h2,H⟩⟩⟩⟩⟩⟩
 obtain ⟨rfl,rfl,rfl⟩:=Q7 h2 hq
 refine Z9 rfl<|Yz H 6 rfl E hx 3 (⟨c.fn,c.at_,c.vl,c.loc,(Zs),s2⟩) rfl k_p rfl rfl<|fun w3 H=>cT (V6 AG)<|Zj rfl rfl rfl<|ZG H 3 rfl rfl rfl rfl<|fun w2 H=>XG (H.at 3 rfl) 0 rfl rfl rfl<|Z6.mk ?_
 refine ⟨rfl,?_⟩
 refine H.Z8 [1,1,5]<|fun H=>H.drop 6<|fun H=>H.drop 5<|fun H=>H.drop 4<|fun H=>H.drop 3<|fun H=>?_
 exact H
theorem afr (E:El vc 4 i b o) (c:CV) (hx:cs[i]?=some c) (H:Sat g w (Pt pr [AA cp,vw,vc,AB host] 148::Pt cp (AE m [AA mp,vt,vg]) 158::Sl 3 1 ZE vt Zr::Sl 79 4 YJ vc cs::Sl 2 1 ZE c.vs c.stk::l)) (hm:XV g m) (P:Ul m.d) (ho:x.op=16∨x.op=17) (QV:∀n∈Zr,-1≤n∧n<(m.ZA.length:Int)+m.funcs.length) (h1:x.op=17→1≤c.stk.length∧0≤x.a∧x.a<m.types.length) (TT:∀v∈c.stk,Xw v) (hlen:c.stk.length≤10000) (MJ:Zr.length≤1000) (Ux:cs.length≤40) (hvl:c.vl.oneCell'=true) (hq:YX m.d Zr x c.stk=(f,s2,0)) (hf:0≤f∧f<(m.ZA.length:Int)+m.funcs.length) (KW:(YL m.d f).Zd.length≤s2.length) (Iq:s2.length≤10000) (AZ:(m.ZA.length:Int)≤f) (AY:cs.length=40):Fc Tryz.prog 163 #[AA pr,.pointer (some ⟨b,o,none⟩),.agg #[.int .u8 x.op,AB x.a,AB x.b,SH]] w (fun r w'=>r=.agg #[AB 2,.slice none 0 0,AB 26,AB 0,AB 0]∧Sat g w' (Pt pr [AA cp,vw,vc,AB host] 148::Pt cp (AE m [AA mp,vt,vg]) 158::Sl 3 1 ZE vt Zr::l)):=by
 refine Fc.of Tryz.func163 rfl k_d ?_
 have ZP:=hm.types
 have Zu:=hm.ZA
 have ZV:=hm.funcs
 have hvs:=H.one 4 rfl
 have hni:m.ZA.length≤16:=P.ni
 have hnf:m.funcs.length≤16:=by have:=P.nf;rwa [show m.d.funcs.length=m.funcs.length from lea ..] at this
 have hty:∀t:Xy,t.d=YL m.d f→t.Zd.length=(YL m.d f).Zd.length:=fun t h=>by rw [←h];rfl
 refine ZJ H<|fun p1 w1 H=>ZU H rfl<|fun p2 w2 H=>ZN H [] [Azp0,Azp1,Azp2,Azh3,Azh4,Azp5,Azp6,Azp7,Azh8,Azfr9,Azp10,Azp11,Azp12,Azp13,Azp14,Azp15,Azp16] mixed k_d k_d<|fun w1 H=>tk (fun _ Z=>Z9 rfl AD)<|tk (fun _ Z=>Z5 (Z.at 2 rfl) 0 rfl rfl rfl AD)<|tk (fun _ Z=>ZD (Z.at 1 rfl) 0 rfl rfl rfl AD)<|tk (fun _ Z=>Z9 rfl AD)<|tk (fun _ Z=>Z5 (Z.el 5 rfl E hx) 3 rfl rfl rfl AD)<|H.Z8 [6,5,5]<|fun H=>?_
 refine Z7.mk (Fc.imp (Rn.NX H AH AH AH AH AH AH AH AH) ?_)
 clear H
 rintro _ w2 ⟨f1,⟨Zs,⟨Rw,⟨e1,⟨rfl,⟨h2,H⟩⟩⟩⟩⟩⟩
 obtain ⟨rfl,rfl,rfl⟩:=Q7 h2 hq
 refine Z9 rfl<|Yz H 6 rfl E hx 3 (⟨c.fn,c.at_,c.vl,c.loc,(Zs),s2⟩) rfl k_p rfl rfl<|fun w3 H=>cF (X6 AH)<|ZN H [] [Azp0,Azp1,Azp2,Azh3,Azp4,Azp5,Azp6,Azp7,Azh8,Azp9,Azf10,Azp11,Azp12,Azp13,Azp14] mixed k_d k_d<|fun w2 H=>tk (fun _ Z=>Z9 rfl AD) ?_
 have hx1:(cs.set i { fn:=c.fn,at_:=c.at_,vl:=c.vl,loc:=c.loc,vs:=Zs,stk:=s2 })[i]?=some _:=WN hx
 refine tk (fun _ Z=>Z5 (Z.el 6 rfl E hx1) 3 rfl rfl rfl AD) ?_
 obtain ⟨a1,c1,V1⟩:=H.form 2 rfl
 refine tk (fun _ Z=>XN V1 rfl AD)<|tk (fun _ Z=>Z9 rfl AD)<|tk (fun _ Z=>Z5 (Z.at 5 rfl) 0 rfl rfl rfl AD) ?_
 refine Z7.mk (Fc.imp (Rn.L1 H AH AH _ AH AH) ?_)
 clear H
 rintro _ w3 ⟨t1,⟨rfl,⟨h3,⟨h4,⟨h5,⟨h6,⟨h7,H⟩⟩⟩⟩⟩⟩⟩
 have G3:=hty _ AG
 have I9:=Wq.Zd (by assumption:Wq g _)
 refine YZ.mk (H)<|tk (fun _ Z=>Th rfl AD)<|tk (fun _ Z=>ZF I9 rfl AD)<|ZY AH<|Z9 rfl<|Z5 (H.el 6 rfl E hx1) 3 rfl rfl rfl ?_
 obtain ⟨v1,V2⟩:=H.vw 2 rfl (((s2.length)-(t1.Zd.length))) ((s2).length) AH AH
 refine VI V2 rfl rfl (.inr ⟨_,by first|rfl|(congr 2;omega)⟩) (.inl ⟨rfl,rfl⟩)<|H.Z8 [2]<|fun H=>?_
 refine Z7.mk (Fc.imp (Rn.KU H V2 AH) ?_)
 clear H
 rintro v' w4 H
 refine Z9 rfl<|Z5 (H.at 6 rfl) 0 rfl rfl rfl<|Z9 rfl<|Z9 rfl<|Z5 (H.at 2 rfl) 1 rfl rfl rfl<|ZF Zu rfl<|ZY AH<|VM (Yk AH)<|Z9 rfl<|Z5 (H.at 6 rfl) 2 rfl rfl rfl<|YO H 7 rfl rfl<|cT (ZI (by grind))<|Zj rfl rfl rfl<|ZG H 4 rfl rfl rfl rfl<|fun w5 H=>XG (H.at 4 rfl) 0 rfl rfl rfl<|Z6.mk ?_
 refine ⟨rfl,?_⟩
 refine H.Z8 [3,3,6]<|fun H=>H.drop 7<|fun H=>H.drop 6<|fun H=>H.drop 5<|fun H=>H.drop 4<|fun H=>H.drop 3<|fun H=>?_
 exact H
theorem afs (E:El vc 4 i b o) (c:CV) (hx:cs[i]?=some c) (H:Sat g w (Pt pr [AA cp,vw,vc,AB host] 148::Pt cp (AE m [AA mp,vt,vg]) 158::Sl 3 1 ZE vt Zr::Sl 79 4 YJ vc cs::Sl 2 1 ZE c.vs c.stk::l)) (hm:XV g m) (P:Ul m.d) (ho:x.op=16∨x.op=17) (QV:∀n∈Zr,-1≤n∧n<(m.ZA.length:Int)+m.funcs.length) (h1:x.op=17→1≤c.stk.length∧0≤x.a∧x.a<m.types.length) (TT:∀v∈c.stk,Xw v) (hlen:c.stk.length≤10000) (MJ:Zr.length≤1000) (Ux:cs.length≤40) (hvl:c.vl.oneCell'=true) (hq:YX m.d Zr x c.stk=(f,s2,0)) (hf:0≤f∧f<(m.ZA.length:Int)+m.funcs.length) (KW:(YL m.d f).Zd.length≤s2.length) (Iq:s2.length≤10000) (AZ:f<m.ZA.length):Fc Tryz.prog 163 #[AA pr,.pointer (some ⟨b,o,none⟩),.agg #[.int .u8 x.op,AB x.a,AB x.b,SH]] w (fun r w'=>∃vs' vv,r=.agg #[AB 4,vv,AB 0,AB f,AB 0]∧Sat g w' (Pt pr [AA cp,vw,vc,AB (f+1)] 148::Pt cp (AE m [AA mp,vt,vg]) 158::Sl 3 1 ZE vt Zr::Sl 79 4 YJ vc (cs.set i ⟨c.fn,c.at_,c.vl,c.loc,vs',s2.take (s2.length-(YL m.d f).Zd.length)⟩)::Sl 2 1 ZE vs' (s2.take (s2.length-(YL m.d f).Zd.length))::Sl 2 1 ZE vv (s2.drop (s2.length-(YL m.d f).Zd.length))::l)):=by
 refine Fc.of Tryz.func163 rfl k_d ?_
 have ZP:=hm.types
 have Zu:=hm.ZA
 have ZV:=hm.funcs
 have hvs:=H.one 4 rfl
 have hni:m.ZA.length≤16:=P.ni
 have hnf:m.funcs.length≤16:=by have:=P.nf;rwa [show m.d.funcs.length=m.funcs.length from lea ..] at this
 have hty:∀t:Xy,t.d=YL m.d f→t.Zd.length=(YL m.d f).Zd.length:=fun t h=>by rw [←h];rfl
 refine ZJ H<|fun p1 w1 H=>ZU H rfl<|fun p2 w2 H=>ZN H [] [Azp0,Azp1,Azp2,Azh3,Azh4,Azp5,Azp6,Azp7,Azh8,Azfr9,Azp10,Azp11,Azp12,Azp13,Azp14,Azp15,Azp16] mixed k_d k_d<|fun w1 H=>tk (fun _ Z=>Z9 rfl AD)<|tk (fun _ Z=>Z5 (Z.at 2 rfl) 0 rfl rfl rfl AD)<|tk (fun _ Z=>ZD (Z.at 1 rfl) 0 rfl rfl rfl AD)<|tk (fun _ Z=>Z9 rfl AD)<|tk (fun _ Z=>Z5 (Z.el 5 rfl E hx) 3 rfl rfl rfl AD)<|H.Z8 [6,5,5]<|fun H=>?_
 refine Z7.mk (Fc.imp (Rn.NX H AH AH AH AH AH AH AH AH) ?_)
 clear H
 rintro _ w2 ⟨f1,⟨Zs,⟨Rw,⟨e1,⟨rfl,⟨h2,H⟩⟩⟩⟩⟩⟩
 obtain ⟨rfl,rfl,rfl⟩:=Q7 h2 hq
 refine Z9 rfl<|Yz H 6 rfl E hx 3 (⟨c.fn,c.at_,c.vl,c.loc,(Zs),s2.take (s2.length-(YL m.d f).Zd.length)⟩) rfl k_p rfl rfl<|fun w3 H=>cF (X6 AH)<|ZN H [] [Azp0,Azp1,Azp2,Azh3,Azp4,Azp5,Azp6,Azp7,Azh8,Azp9,Azf10,Azp11,Azp12,Azp13,Azp14] mixed k_d k_d<|fun w2 H=>tk (fun _ Z=>Z9 rfl AD) ?_
 have hx1:(cs.set i { fn:=c.fn,at_:=c.at_,vl:=c.vl,loc:=c.loc,vs:=Zs,stk:=List.take (s2.length-(YL m.d f).Zd.length) s2 })[i]?=some _:=WN hx
 refine tk (fun _ Z=>Z5 (Z.el 6 rfl E hx1) 3 rfl rfl rfl AD) ?_
 obtain ⟨a1,c1,V1⟩:=H.form 2 rfl
 refine tk (fun _ Z=>XN V1 rfl AD)<|tk (fun _ Z=>Z9 rfl AD)<|tk (fun _ Z=>Z5 (Z.at 5 rfl) 0 rfl rfl rfl AD) ?_
 refine Z7.mk (Fc.imp (Rn.L1 H AH AH _ AH AH) ?_)
 clear H
 rintro _ w3 ⟨t1,⟨rfl,⟨h3,⟨h4,⟨h5,⟨h6,⟨h7,H⟩⟩⟩⟩⟩⟩⟩
 have G3:=hty _ AG
 have I9:=Wq.Zd (by assumption:Wq g _)
 refine YZ.mk (H)<|tk (fun _ Z=>Th rfl AD)<|tk (fun _ Z=>ZF I9 rfl AD)<|ZY AH<|Z9 rfl<|Z5 (H.el 6 rfl E hx1) 3 rfl rfl rfl ?_
 obtain ⟨v1,V2⟩:=H.vw 2 rfl (((s2.length)-(t1.Zd.length))) ((s2).length) AH AH
 refine VI V2 rfl rfl (.inr ⟨_,by first|rfl|(congr 2;omega)⟩) (.inl ⟨rfl,rfl⟩)<|H.Z8 [2]<|fun H=>?_
 refine Z7.mk (Fc.imp (Rn.KU H V2 AH) ?_)
 clear H
 rintro v' w4 H
 refine Z9 rfl<|Z5 (H.at 6 rfl) 0 rfl rfl rfl<|Z9 rfl<|Z9 rfl<|Z5 (H.at 2 rfl) 1 rfl rfl rfl<|ZF Zu rfl<|ZY AH<|X8 (YG AH)<|cF rfl<|Z9 rfl<|Z5 (H.el 7 rfl E hx1) 3 rfl rfl rfl ?_
 obtain ⟨v2,V3⟩:=H.vw 1 rfl (0) (((s2.length)-(t1.Zd.length))) AH AH
 refine VI V3 rfl rfl (.inl ⟨rfl,rfl⟩) (.inr ⟨_,by first|rfl|(congr 2;omega)⟩)<|Z9 rfl<|Yz H 7 rfl E hx1 3 (⟨c.fn,c.at_,c.vl,c.loc,(v2),s2.take (s2.length-(YL m.d f).Zd.length)⟩) rfl (by simp only [Bool.and_true,H.one 0 rfl,H.one 1 rfl,H.one 3 rfl,H.one 7 rfl,Vw.one V3,Vw.one V2,Z0.one I9,hvs,Z0.one ZV,Z0.one Zu,Z0.one ZP,hvl]) rfl rfl<|fun w5 H=>cT (Zi AH)<|ZY AH<|Z9 rfl<|XS H 6 rfl rfl rfl rfl<|fun w4 H=>?_
 obtain ⟨a2,c2,rfl⟩:=H.form 0 rfl
 refine Zj rfl rfl rfl<|ZG H 4 rfl rfl rfl rfl<|fun w5 H=>XG (H.at 4 rfl) 0 rfl rfl rfl ?_
 replace H:=H.HG 1 rfl V3
 simp only [List.set_cons_succ,List.set_cons_zero,List.drop_zero,G3,List.set_set] at H
 refine Z6.mk ⟨v2,_,(by rw [G3]),?_⟩
 refine H.Z8 [0,1,7,4,4,7]<|fun H=>H.drop 7<|fun H=>H.drop 6<|fun H=>?_
 exact H
theorem aft (E:El vc 4 i b o) (c:CV) (hx:cs[i]?=some c) (H:Sat g w (Pt pr [AA cp,vw,vc,AB host] 148::Pt cp (AE m [AA mp,vt,vg]) 158::Sl 3 1 ZE vt Zr::Sl 79 4 YJ vc cs::Sl 2 1 ZE c.vs c.stk::l)) (hm:XV g m) (P:Ul m.d) (ho:x.op=16∨x.op=17) (QV:∀n∈Zr,-1≤n∧n<(m.ZA.length:Int)+m.funcs.length) (h1:x.op=17→1≤c.stk.length∧0≤x.a∧x.a<m.types.length) (TT:∀v∈c.stk,Xw v) (hlen:c.stk.length≤10000) (MJ:Zr.length≤1000) (Ux:cs.length≤40) (hvl:c.vl.oneCell'=true) (hq:YX m.d Zr x c.stk=(f,s2,0)) (hf:0≤f∧f<(m.ZA.length:Int)+m.funcs.length) (KW:(YL m.d f).Zd.length≤s2.length) (Iq:s2.length≤10000) (k:Nat) (F:YE) (GC:f=m.ZA.length+k) (hF:m.funcs[k]?=some F) (Ds:F.loc.length≤16) (h4:(YL m.d f).Zd.length≤4) (AY:cs.length<40):Fc Tryz.prog 163 #[AA pr,.pointer (some ⟨b,o,none⟩),.agg #[.int .u8 x.op,AB x.a,AB x.b,SH]] w (fun r w'=>∃PG vs' H9,r=.agg #[AB 0,.slice none 0 0,AB 0,AB 0,AB 0]∧Sat g w' (Pt pr [AA cp,vw,PG,AB host] 148::Pt cp (AE m [AA mp,vt,vg]) 158::Sl 3 1 ZE vt Zr::Sl 79 4 YJ PG (cs.set i ⟨c.fn,c.at_,c.vl,c.loc,vs',s2.take (s2.length-(YL m.d f).Zd.length)⟩++[⟨k,0,H9,(s2.drop (s2.length-(YL m.d f).Zd.length))++List.replicate F.loc.length 0,.slice none 0 0,[]⟩])::Sl 2 1 ZE vs' (s2.take (s2.length-(YL m.d f).Zd.length))::Sl 2 1 ZE H9 ((s2.drop (s2.length-(YL m.d f).Zd.length))++List.replicate F.loc.length 0)::Sl 2 1 ZE (.slice none 0 0) []::l)):=by
 refine Fc.of Tryz.func163 rfl k_d ?_
 have ZP:=hm.types
 have Zu:=hm.ZA
 have ZV:=hm.funcs
 have hvs:=H.one 4 rfl
 have hni:m.ZA.length≤16:=P.ni
 have hnf:m.funcs.length≤16:=by have:=P.nf;rwa [show m.d.funcs.length=m.funcs.length from lea ..] at this
 have hty:∀t:Xy,t.d=YL m.d f→t.Zd.length=(YL m.d f).Zd.length:=fun t h=>by rw [←h];rfl
 refine ZJ H<|fun p1 w1 H=>ZU H rfl<|fun p2 w2 H=>ZN H [] [Azp0,Azp1,Azp2,Azh3,Azh4,Azp5,Azp6,Azp7,Azh8,Azfr9,Azp10,Azp11,Azp12,Azp13,Azp14,Azp15,Azp16] mixed k_d k_d<|fun w1 H=>tk (fun _ Z=>Z9 rfl AD)<|tk (fun _ Z=>Z5 (Z.at 2 rfl) 0 rfl rfl rfl AD)<|tk (fun _ Z=>ZD (Z.at 1 rfl) 0 rfl rfl rfl AD)<|tk (fun _ Z=>Z9 rfl AD)<|tk (fun _ Z=>Z5 (Z.el 5 rfl E hx) 3 rfl rfl rfl AD)<|H.Z8 [6,5,5]<|fun H=>?_
 refine Z7.mk (Fc.imp (Rn.NX H AH AH AH AH AH AH AH AH) ?_)
 clear H
 rintro _ w2 ⟨f1,⟨Zs,⟨Rw,⟨e1,⟨rfl,⟨h2,H⟩⟩⟩⟩⟩⟩
 obtain ⟨rfl,rfl,rfl⟩:=Q7 h2 hq
 refine Z9 rfl<|Yz H 6 rfl E hx 3 (⟨c.fn,c.at_,c.vl,c.loc,(Zs),s2.take (s2.length-(YL m.d f).Zd.length)⟩) rfl k_p rfl rfl<|fun w3 H=>cF (X6 AH)<|ZN H [] [Azp0,Azp1,Azp2,Azh3,Azp4,Azp5,Azp6,Azp7,Azh8,Azp9,Azf10,Azp11,Azp12,Azp13,Azp14] mixed k_d k_d<|fun w2 H=>tk (fun _ Z=>Z9 rfl AD) ?_
 have hx1:(cs.set i { fn:=c.fn,at_:=c.at_,vl:=c.vl,loc:=c.loc,vs:=Zs,stk:=List.take (s2.length-(YL m.d f).Zd.length) s2 })[i]?=some _:=WN hx
 refine tk (fun _ Z=>Z5 (Z.el 6 rfl E hx1) 3 rfl rfl rfl AD) ?_
 obtain ⟨a1,c1,V1⟩:=H.form 2 rfl
 refine tk (fun _ Z=>XN V1 rfl AD)<|tk (fun _ Z=>Z9 rfl AD)<|tk (fun _ Z=>Z5 (Z.at 5 rfl) 0 rfl rfl rfl AD) ?_
 refine Z7.mk (Fc.imp (Rn.L1 H AH AH _ AH AH) ?_)
 clear H
 rintro _ w3 ⟨t1,⟨rfl,⟨h3,⟨h5,⟨h6,⟨h7,⟨h8,H⟩⟩⟩⟩⟩⟩⟩
 have G3:=hty _ AG
 have I9:=Wq.Zd (by assumption:Wq g _)
 refine YZ.mk (H)<|tk (fun _ Z=>Th rfl AD)<|tk (fun _ Z=>ZF I9 rfl AD)<|ZY AH<|Z9 rfl<|Z5 (H.el 6 rfl E hx1) 3 rfl rfl rfl ?_
 obtain ⟨v1,V2⟩:=H.vw 2 rfl (((s2.length)-(t1.Zd.length))) ((s2).length) AH AH
 refine VI V2 rfl rfl (.inr ⟨_,by first|rfl|(congr 2;omega)⟩) (.inl ⟨rfl,rfl⟩)<|H.Z8 [2]<|fun H=>?_
 refine Z7.mk (Fc.imp (Rn.KU H V2 AH) ?_)
 clear H
 rintro v' w4 H
 refine Z9 rfl<|Z5 (H.at 6 rfl) 0 rfl rfl rfl<|Z9 rfl<|Z9 rfl<|Z5 (H.at 2 rfl) 1 rfl rfl rfl<|ZF Zu rfl<|ZY AH<|VM (Yk AH)<|Z9 rfl<|Z5 (H.at 6 rfl) 2 rfl rfl rfl<|YO H 7 rfl rfl<|cF (Z4 (by grind))<|Z9 rfl<|Z5 (H.el 7 rfl E hx1) 3 rfl rfl rfl ?_
 obtain ⟨v2,V3⟩:=H.vw 1 rfl (0) (((s2.length)-(t1.Zd.length))) AH AH
 refine VI V3 rfl rfl (.inl ⟨rfl,rfl⟩) (.inr ⟨_,by first|rfl|(congr 2;omega)⟩)<|Z9 rfl<|Yz H 7 rfl E hx1 3 (⟨c.fn,c.at_,c.vl,c.loc,(v2),s2.take (s2.length-(YL m.d f).Zd.length)⟩) rfl (by simp only [Bool.and_true,H.one 0 rfl,H.one 1 rfl,H.one 3 rfl,H.one 7 rfl,Vw.one V3,Vw.one V2,Z0.one I9,hvs,Z0.one ZV,Z0.one Zu,Z0.one ZP,hvl]) rfl rfl<|fun w5 H=>cF (Zt AH) ?_
 replace H:=H.HG 1 rfl V3
 simp only [List.set_cons_succ,List.set_cons_zero,List.drop_zero,G3,List.set_set] at H
 rw [show f-(m.ZA.length:Int)=(k:Int) by omega]
 refine H.Z8 [0,7,3,7]<|fun H=>?_
 refine Z7.mk (Fc.imp (Rn.afn H AH (k) _ hF AH ?_ ?_ ?_) ?_)
 ·grind
 ·grind
 ·omega
 clear H
 rintro UE w4 ⟨G2,⟨T3,H⟩⟩
 refine Zj rfl rfl rfl<|ZG H 7 rfl rfl rfl rfl<|fun w6 H=>XG (H.at 7 rfl) 0 rfl rfl rfl ?_
 refine Z6.mk ⟨G2,v2,T3,rfl,?_⟩
 refine H.Z8 [4,4,5,5,6,6,6]<|fun H=>H.drop 8<|fun H=>H.drop 7<|fun H=>?_
 exact H
end
end Rn
namespace Rn
open Go YW Go.RowKit
open YU Zm X7 YN Valid Mem
def fr (c:CV):List As:=[Sl 2 1 ZE c.vl c.loc,Sl 2 1 ZE c.vs c.stk]
def Wm (cs:List CV):As:=QS (cs.flatMap fr)
section
variable {g:Zy} {w:World} {l:List As} {m:Zg} {pr cp mp:Nat} {vw vc vt vg vp SH vj:Value} {host f e:Int} {cs up:List CV} {Zr Zk s2:List Int} {ps:List WM} {c u:CV} {x:ZT} {i b o:Nat} {ws:List XP} {j:XP}
theorem I8 (H:Sat g w (Wm (up++[c])::l)):Sat g w (Sl 2 1 ZE c.vl c.loc::Sl 2 1 ZE c.vs c.stk::Wm up::l):=by
 have H:=H.unbox
 rw [lIa,lia0] at H
 have H:=(H.box (l1:=up.flatMap fr))
 have H:Sat g w (Wm up::Sl 2 1 ZE c.vl c.loc::Sl 2 1 ZE c.vs c.stk::l):=H
 exact H.Z8 [2,2] fun H=>H
theorem Q6 (H:Sat g w (Sl 2 1 ZE c.vl c.loc::Sl 2 1 ZE c.vs c.stk::Wm up::l)):Sat g w (Wm (up++[c])::l):=by
 refine H.Z8 [2]<|fun H=>?_
 have H:Sat g w (QS (up.flatMap fr)::([Sl 2 1 ZE c.vl c.loc,Sl 2 1 ZE c.vs c.stk]++l)):=H
 have H:=H.unbox
 rw [←lia0] at H
 have H:=H.box
 show Sat g w (QS ((up++[c]).flatMap fr)::l)
 rw [lIa]
 exact H
theorem Yo (hcs:cs=up++[c]):cs[up.length]?=some c:=by grind
theorem Yn (hcs:cs=up++[c]) (z:CV):cs.set up.length z=up++[z]:=by grind
theorem alU (H:Sat g w (Pt pr [AA cp,vw,vc,AB 0] 148::Pt cp (AE m [AA mp,vt,vg]) 158::Pt mp [vp,AB m.most] 221::Sl 223 256 Xg vp ps::Sl 3 1 ZE vt Zr::Sl 2 1 ZE vg Zk::Sl 79 4 YJ vc cs::Wm up::Sl 2 1 ZE c.vl c.loc::Sl 2 1 ZE c.vs c.stk::l)) (hcs:cs=up++[c]) (E:El vc 4 up.length b o) (Uc:0≤c.at_∧c.at_≤1000) (hlen:c.stk.length≤10000) (ho:x.op=0):Fc Tryz.prog 114 #[AA pr,.pointer (some ⟨b,o,none⟩),.agg #[.int .u8 x.op,AB x.a,AB x.b,SH],vj] w (fun r w'=>r=.agg #[AB 2,.slice none 0 0,AB 20,AB 0,AB 0]∧Sat g w' (Pt pr [AA cp,vw,vc,AB 0] 148::Pt cp (AE m [AA mp,vt,vg]) 158::Pt mp [vp,AB m.most] 221::Sl 223 256 Xg vp ps::Sl 3 1 ZE vt Zr::Sl 2 1 ZE vg Zk::l)):=by
 refine Fc.of Tryz.func114 rfl k_d ?_
 have hx:=Yo hcs
 refine ZJ H<|fun p1 w1 H=>ZU H rfl<|fun p2 w2 H=>Z9 rfl<|Z5 (H.el 8 rfl E hx) 1 rfl rfl rfl<|ZY AH<|Z9 rfl<|Yz H 8 rfl E hx 1 (⟨c.fn,c.at_+1,c.vl,c.loc,c.vs,c.stk⟩) rfl rfl rfl rfl<|fun w1 H=>Z9 rfl<|Z5 (H.at 1 rfl) 0 rfl rfl rfl<|bk<|cT (ZI AG)<|Zj rfl rfl rfl<|ZG H 0 rfl rfl rfl rfl<|fun w2 H=>XG (H.at 0 rfl) 0 rfl rfl rfl<|Z6.mk ?_
 refine ⟨rfl,?_⟩
 refine H.Z8 [7,7,7,7,7,7]<|fun H=>H.drop 11<|fun H=>H.drop 10<|fun H=>H.drop 9<|fun H=>H.drop 8<|fun H=>H.drop 7<|fun H=>H.drop 6<|fun H=>?_
 exact H
theorem alV (H:Sat g w (Pt pr [AA cp,vw,vc,AB 0] 148::Pt cp (AE m [AA mp,vt,vg]) 158::Pt mp [vp,AB m.most] 221::Sl 223 256 Xg vp ps::Sl 3 1 ZE vt Zr::Sl 2 1 ZE vg Zk::Sl 79 4 YJ vc cs::Wm up::Sl 2 1 ZE c.vl c.loc::Sl 2 1 ZE c.vs c.stk::l)) (hcs:cs=up++[c]) (E:El vc 4 up.length b o) (Uc:0≤c.at_∧c.at_≤1000) (hlen:c.stk.length≤10000) (ho:x.op=1∨x.op=2∨x.op=3):Fc Tryz.prog 114 #[AA pr,.pointer (some ⟨b,o,none⟩),.agg #[.int .u8 x.op,AB x.a,AB x.b,SH],vj] w (fun r w'=>r=.agg #[AB 0,.slice none 0 0,AB 0,AB 0,AB 0]∧Sat g w' (Pt pr [AA cp,vw,vc,AB 0] 148::Pt cp (AE m [AA mp,vt,vg]) 158::Pt mp [vp,AB m.most] 221::Sl 223 256 Xg vp ps::Sl 3 1 ZE vt Zr::Sl 2 1 ZE vg Zk::Sl 79 4 YJ vc (up++[⟨c.fn,c.at_+1,c.vl,c.loc,c.vs,c.stk⟩])::Wm up::Sl 2 1 ZE c.vl c.loc::Sl 2 1 ZE c.vs c.stk::l)):=by
 refine Fc.of Tryz.func114 rfl k_d ?_
 have hx:=Yo hcs
 have WI:=Yn hcs
 rcases ho with ho|ho|ho
 ·refine ZJ H<|fun p1 w1 H=>ZU H rfl<|fun p2 w2 H=>Z9 rfl<|Z5 (H.el 8 rfl E hx) 1 rfl rfl rfl<|ZY AH<|Z9 rfl<|Yz H 8 rfl E hx 1 (⟨c.fn,c.at_+1,c.vl,c.loc,c.vs,c.stk⟩) rfl rfl rfl rfl<|fun w1 H=>Z9 rfl<|Z5 (H.at 1 rfl) 0 rfl rfl rfl<|bk<|cF (Z4 AH)<|cT (ZI AG)<|cT (ZI AG)<|Zj rfl rfl rfl<|ZG H 0 rfl rfl rfl rfl<|fun w2 H=>XG (H.at 0 rfl) 0 rfl rfl rfl<|Z6.mk ?_
  refine ⟨rfl,?_⟩
  refine H.Z8 [11,11,11,11,11,11,11,11,11,11]<|fun H=>H.drop 11<|fun H=>H.drop 10<|fun H=>?_
  refine H.cg (YI rfl (YI rfl (YI rfl (YI rfl (YI rfl (YI rfl (YI (QA ?_) (YI rfl (YI rfl (YI rfl (rfl)))))))))))
  exact WI _
 ·refine ZJ H<|fun p1 w1 H=>ZU H rfl<|fun p2 w2 H=>Z9 rfl<|Z5 (H.el 8 rfl E hx) 1 rfl rfl rfl<|ZY AH<|Z9 rfl<|Yz H 8 rfl E hx 1 (⟨c.fn,c.at_+1,c.vl,c.loc,c.vs,c.stk⟩) rfl rfl rfl rfl<|fun w1 H=>Z9 rfl<|Z5 (H.at 1 rfl) 0 rfl rfl rfl<|bk<|cF (Z4 AH)<|cF (Z4 AH)<|cT (ZI AG)<|cT (ZI AG)<|Zj rfl rfl rfl<|ZG H 0 rfl rfl rfl rfl<|fun w2 H=>XG (H.at 0 rfl) 0 rfl rfl rfl<|Z6.mk ?_
  refine ⟨rfl,?_⟩
  refine H.Z8 [11,11,11,11,11,11,11,11,11,11]<|fun H=>H.drop 11<|fun H=>H.drop 10<|fun H=>?_
  refine H.cg (YI rfl (YI rfl (YI rfl (YI rfl (YI rfl (YI rfl (YI (QA ?_) (YI rfl (YI rfl (YI rfl (rfl)))))))))))
  exact WI _
 ·refine ZJ H<|fun p1 w1 H=>ZU H rfl<|fun p2 w2 H=>Z9 rfl<|Z5 (H.el 8 rfl E hx) 1 rfl rfl rfl<|ZY AH<|Z9 rfl<|Yz H 8 rfl E hx 1 (⟨c.fn,c.at_+1,c.vl,c.loc,c.vs,c.stk⟩) rfl rfl rfl rfl<|fun w1 H=>Z9 rfl<|Z5 (H.at 1 rfl) 0 rfl rfl rfl<|bk<|cF (Z4 AH)<|cF (Z4 AH)<|cF (Z4 AH)<|cT (ZI AG)<|Zj rfl rfl rfl<|ZG H 0 rfl rfl rfl rfl<|fun w2 H=>XG (H.at 0 rfl) 0 rfl rfl rfl<|Z6.mk ?_
  refine ⟨rfl,?_⟩
  refine H.Z8 [11,11,11,11,11,11,11,11,11,11]<|fun H=>H.drop 11<|fun H=>H.drop 10<|fun H=>?_
  refine H.cg (YI rfl (YI rfl (YI rfl (YI rfl (YI rfl (YI rfl (YI (QA ?_) (YI rfl (YI rfl (YI rfl (rfl)))))))))))
  exact WI _
theorem ajx (H:Sat g w (Pt pr [AA cp,vw,vc,AB 0] 148::Pt cp (AE m [AA mp,vt,vg]) 158::Pt mp [vp,AB m.most] 221::Sl 223 256 Xg vp ps::Sl 3 1 ZE vt Zr::Sl 2 1 ZE vg Zk::Sl 79 4 YJ vc cs::Wm up::Sl 2 1 ZE c.vl c.loc::Sl 2 1 ZE c.vs c.stk::l)) (hcs:cs=up++[c]) (E:El vc 4 up.length b o) (Uc:0≤c.at_∧c.at_≤1000) (hlen:c.stk.length≤10000) (hj:Z0 g N0 Dz 3 vj ws) (hjn:0≤j.height) (By:0≤j.keep) (GA:ws.length≤100) (ho:x.op=12∨x.op=15) (hw:ws[0]?=some j) (hjf:j.height+j.keep≤c.stk.length):Fc Tryz.prog 114 #[AA pr,.pointer (some ⟨b,o,none⟩),.agg #[.int .u8 x.op,AB x.a,AB x.b,SH],vj] w (fun r w'=>∃vs',r=.agg #[AB 0,.slice none 0 0,AB 0,AB 0,AB 0]∧Sat g w' (Pt pr [AA cp,vw,vc,AB 0] 148::Pt cp (AE m [AA mp,vt,vg]) 158::Pt mp [vp,AB m.most] 221::Sl 223 256 Xg vp ps::Sl 3 1 ZE vt Zr::Sl 2 1 ZE vg Zk::Sl 79 4 YJ vc (up++[⟨c.fn,j.at_,c.vl,c.loc,vs',(c.stk.take j.height.toNat++c.stk.drop (c.stk.length-j.keep.toNat))⟩])::Wm up::Sl 2 1 ZE c.vl c.loc::Sl 2 1 ZE vs' (c.stk.take j.height.toNat++c.stk.drop (c.stk.length-j.keep.toNat))::l)):=by
 refine Fc.of Tryz.func114 rfl k_d ?_
 have hx:=Yo hcs
 have WI:=Yn hcs
 rcases ho with ho|ho
 ·refine ZJ H<|fun p1 w1 H=>ZU H rfl<|fun p2 w2 H=>Z9 rfl<|Z5 (H.el 8 rfl E hx) 1 rfl rfl rfl<|ZY AH<|Z9 rfl<|Yz H 8 rfl E hx 1 (⟨c.fn,c.at_+1,c.vl,c.loc,c.vs,c.stk⟩) rfl rfl rfl rfl<|fun w1 H=>Z9 rfl<|Z5 (H.at 1 rfl) 0 rfl rfl rfl<|bk ?_
  simp only [WI] at H
  have hx1:(up++[(⟨c.fn,c.at_+1,c.vl,c.loc,c.vs,c.stk⟩:CV)])[up.length]?=some (⟨c.fn,c.at_+1,c.vl,c.loc,c.vs,c.stk⟩:CV):=Yo rfl
  clear hx
  have Wt:∀z,(up++[(⟨c.fn,c.at_+1,c.vl,c.loc,c.vs,c.stk⟩:CV)]).set up.length z=up++[z]:=Yn rfl
  refine cF (Z4 AH)<|cF (Z4 AH)<|cF (Z4 AH)<|cF (Z4 AH)<|cF (Z4 AH)<|cT (ZI AG)<|cT (ZI AG) ?_
  obtain ⟨b1,o1,E1,F1,ZL⟩:=Z0.Zf hj hw
  refine ZK E1 rfl rfl rfl<|ZD (H.Yy F1) 0 rfl rfl rfl<|H.Z8 [11,9]<|fun H=>?_
  refine Z7.mk (Fc.imp (Rn.L0 E _ hx1 H _ AH AH AH ?_) ?_)
  ·grind
  clear H
  rintro v' w2 ⟨Zs,H⟩
  refine Zj rfl rfl rfl<|ZG H 2 rfl rfl rfl rfl<|fun w3 H=>XG (H.at 2 rfl) 0 rfl rfl rfl<|Z6.mk ?_
  refine ⟨Zs,?_⟩
  refine ⟨rfl,?_⟩
  refine H.Z8 [1,11,11,3,11,11,11,11,11,11]<|fun H=>H.drop 11<|fun H=>H.drop 10<|fun H=>?_
  refine H.cg (YI rfl (YI rfl (YI rfl (YI rfl (YI rfl (YI rfl (YI (QA ?_) (YI rfl (YI rfl (YI rfl (rfl)))))))))))
  exact Wt _
 ·refine ZJ H<|fun p1 w1 H=>ZU H rfl<|fun p2 w2 H=>Z9 rfl<|Z5 (H.el 8 rfl E hx) 1 rfl rfl rfl<|ZY AH<|Z9 rfl<|Yz H 8 rfl E hx 1 (⟨c.fn,c.at_+1,c.vl,c.loc,c.vs,c.stk⟩) rfl rfl rfl rfl<|fun w1 H=>Z9 rfl<|Z5 (H.at 1 rfl) 0 rfl rfl rfl<|bk ?_
  simp only [WI] at H
  have hx1:(up++[(⟨c.fn,c.at_+1,c.vl,c.loc,c.vs,c.stk⟩:CV)])[up.length]?=some (⟨c.fn,c.at_+1,c.vl,c.loc,c.vs,c.stk⟩:CV):=Yo rfl
  clear hx
  have Wt:∀z,(up++[(⟨c.fn,c.at_+1,c.vl,c.loc,c.vs,c.stk⟩:CV)]).set up.length z=up++[z]:=Yn rfl
  refine cF (Z4 AH)<|cF (Z4 AH)<|cF (Z4 AH)<|cF (Z4 AH)<|cF (Z4 AH)<|cF (Z4 AH)<|cT (ZI AG) ?_
  obtain ⟨b1,o1,E1,F1,ZL⟩:=Z0.Zf hj hw
  refine ZK E1 rfl rfl rfl<|ZD (H.Yy F1) 0 rfl rfl rfl<|H.Z8 [11,9]<|fun H=>?_
  refine Z7.mk (Fc.imp (Rn.L0 E _ hx1 H _ AH AH AH ?_) ?_)
  ·grind
  clear H
  rintro v' w2 ⟨Zs,H⟩
  refine Zj rfl rfl rfl<|ZG H 2 rfl rfl rfl rfl<|fun w3 H=>XG (H.at 2 rfl) 0 rfl rfl rfl<|Z6.mk ?_
  refine ⟨Zs,?_⟩
  refine ⟨rfl,?_⟩
  refine H.Z8 [1,11,11,3,11,11,11,11,11,11]<|fun H=>H.drop 11<|fun H=>H.drop 10<|fun H=>?_
  refine H.cg (YI rfl (YI rfl (YI rfl (YI rfl (YI rfl (YI rfl (YI (QA ?_) (YI rfl (YI rfl (YI rfl (rfl)))))))))))
  exact Wt _
theorem ah8 (H:Sat g w (Pt pr [AA cp,vw,vc,AB 0] 148::Pt cp (AE m [AA mp,vt,vg]) 158::Pt mp [vp,AB m.most] 221::Sl 223 256 Xg vp ps::Sl 3 1 ZE vt Zr::Sl 2 1 ZE vg Zk::Sl 79 4 YJ vc cs::Wm up::Sl 2 1 ZE c.vl c.loc::Sl 2 1 ZE c.vs c.stk::l)) (hcs:cs=up++[c]) (E:El vc 4 up.length b o) (Uc:0≤c.at_∧c.at_≤1000) (hlen:c.stk.length≤10000) (hj:Z0 g N0 Dz 3 vj ws) (hjn:0≤j.height) (By:0≤j.keep) (GA:ws.length≤100) (h1:1≤c.stk.length) (ho:(x.op=4∧top c.stk 0=0)∨(x.op=13∧top c.stk 0≠0)) (hw:ws[0]?=some j) (hjf:j.height+j.keep≤(low c.stk 1).length):Fc Tryz.prog 114 #[AA pr,.pointer (some ⟨b,o,none⟩),.agg #[.int .u8 x.op,AB x.a,AB x.b,SH],vj] w (fun r w'=>∃vs',r=.agg #[AB 0,.slice none 0 0,AB 0,AB 0,AB 0]∧Sat g w' (Pt pr [AA cp,vw,vc,AB 0] 148::Pt cp (AE m [AA mp,vt,vg]) 158::Pt mp [vp,AB m.most] 221::Sl 223 256 Xg vp ps::Sl 3 1 ZE vt Zr::Sl 2 1 ZE vg Zk::Sl 79 4 YJ vc (up++[⟨c.fn,j.at_,c.vl,c.loc,vs',((low c.stk 1).take j.height.toNat++(low c.stk 1).drop ((low c.stk 1).length-j.keep.toNat))⟩])::Wm up::Sl 2 1 ZE c.vl c.loc::Sl 2 1 ZE vs' ((low c.stk 1).take j.height.toNat++(low c.stk 1).drop ((low c.stk 1).length-j.keep.toNat))::l)):=by
 refine Fc.of Tryz.func114 rfl k_d ?_
 have hx:=Yo hcs
 have WI:=Yn hcs
 have QW:(low c.stk 1).length=c.stk.length-1:=NZ
 rcases ho with ⟨ho,hz⟩|⟨ho,hz⟩
 ·refine ZJ H<|fun p1 w1 H=>ZU H rfl<|fun p2 w2 H=>Z9 rfl<|Z5 (H.el 8 rfl E hx) 1 rfl rfl rfl<|ZY AH<|Z9 rfl<|Yz H 8 rfl E hx 1 (⟨c.fn,c.at_+1,c.vl,c.loc,c.vs,c.stk⟩) rfl rfl rfl rfl<|fun w1 H=>Z9 rfl<|Z5 (H.at 1 rfl) 0 rfl rfl rfl<|bk ?_
  simp only [WI] at H
  have hx1:(up++[(⟨c.fn,c.at_+1,c.vl,c.loc,c.vs,c.stk⟩:CV)])[up.length]?=some (⟨c.fn,c.at_+1,c.vl,c.loc,c.vs,c.stk⟩:CV):=Yo rfl
  clear hx
  have Wt:∀z,(up++[(⟨c.fn,c.at_+1,c.vl,c.loc,c.vs,c.stk⟩:CV)]).set up.length z=up++[z]:=Yn rfl
  refine cF (Z4 AH)<|cF (Z4 AH)<|cF (Z4 AH)<|cF (Z4 AH)<|cT (ZI AG)<|H.Z8 [11,9]<|fun H=>?_
  refine Z7.mk (Fc.imp (Rn.J2 E _ hx1 H AH ?_) ?_)
  ·grind
  clear H
  rintro _ w2 ⟨Zs,⟨t1,⟨rfl,⟨h2,H⟩⟩⟩⟩
  simp only [Wt] at H
  replace h2:t1=top c.stk 0:=h2
  clear hx1
  have Uo:(up++[(⟨c.fn,c.at_+1,c.vl,c.loc,Zs,low c.stk 1⟩:CV)])[up.length]?=some (⟨c.fn,c.at_+1,c.vl,c.loc,Zs,low c.stk 1⟩:CV):=Yo rfl
  have PY:∀z,(up++[(⟨c.fn,c.at_+1,c.vl,c.loc,Zs,low c.stk 1⟩:CV)]).set up.length z=up++[z]:=Yn rfl
  refine cT (ZI AH) ?_
  obtain ⟨b1,o1,E1,F1,ZL⟩:=Z0.Zf hj hw
  refine ZK E1 rfl rfl rfl<|ZD (H.Yy F1) 0 rfl rfl rfl ?_
  refine Z7.mk (Fc.imp (Rn.L0 E _ Uo H _ AH AH AH ?_) ?_)
  ·grind
  clear H
  rintro v' w3 ⟨VS,H⟩
  refine Zj rfl rfl rfl<|ZG H 2 rfl rfl rfl rfl<|fun w4 H=>XG (H.at 2 rfl) 0 rfl rfl rfl<|Z6.mk ?_
  refine ⟨VS,?_⟩
  refine ⟨rfl,?_⟩
  refine H.Z8 [1,11,11,3,11,11,11,11,11,11]<|fun H=>H.drop 11<|fun H=>H.drop 10<|fun H=>?_
  refine H.cg (YI rfl (YI rfl (YI rfl (YI rfl (YI rfl (YI rfl (YI (QA ?_) (YI rfl (YI rfl (YI rfl (rfl)))))))))))
  exact PY _
 ·refine ZJ H<|fun p1 w1 H=>ZU H rfl<|fun p2 w2 H=>Z9 rfl<|Z5 (H.el 8 rfl E hx) 1 rfl rfl rfl<|ZY AH<|Z9 rfl<|Yz H 8 rfl E hx 1 (⟨c.fn,c.at_+1,c.vl,c.loc,c.vs,c.stk⟩) rfl rfl rfl rfl<|fun w1 H=>Z9 rfl<|Z5 (H.at 1 rfl) 0 rfl rfl rfl<|bk ?_
  simp only [WI] at H
  have hx1:(up++[(⟨c.fn,c.at_+1,c.vl,c.loc,c.vs,c.stk⟩:CV)])[up.length]?=some (⟨c.fn,c.at_+1,c.vl,c.loc,c.vs,c.stk⟩:CV):=Yo rfl
  clear hx
  have Wt:∀z,(up++[(⟨c.fn,c.at_+1,c.vl,c.loc,c.vs,c.stk⟩:CV)]).set up.length z=up++[z]:=Yn rfl
  refine cF (Z4 AH)<|cF (Z4 AH)<|cF (Z4 AH)<|cF (Z4 AH)<|cF (Z4 AH)<|cF (Z4 AH)<|cF (Z4 AH)<|cT (ZI AG)<|H.Z8 [11,9]<|fun H=>?_
  refine Z7.mk (Fc.imp (Rn.J2 E _ hx1 H AH ?_) ?_)
  ·grind
  clear H
  rintro _ w2 ⟨Zs,⟨t1,⟨rfl,⟨h2,H⟩⟩⟩⟩
  simp only [Wt] at H
  replace h2:t1=top c.stk 0:=h2
  clear hx1
  have Uo:(up++[(⟨c.fn,c.at_+1,c.vl,c.loc,Zs,low c.stk 1⟩:CV)])[up.length]?=some (⟨c.fn,c.at_+1,c.vl,c.loc,Zs,low c.stk 1⟩:CV):=Yo rfl
  have PY:∀z,(up++[(⟨c.fn,c.at_+1,c.vl,c.loc,Zs,low c.stk 1⟩:CV)]).set up.length z=up++[z]:=Yn rfl
  refine cT (V6 AH) ?_
  obtain ⟨b1,o1,E1,F1,ZL⟩:=Z0.Zf hj hw
  refine ZK E1 rfl rfl rfl<|ZD (H.Yy F1) 0 rfl rfl rfl ?_
  refine Z7.mk (Fc.imp (Rn.L0 E _ Uo H _ AH AH AH ?_) ?_)
  ·grind
  clear H
  rintro v' w3 ⟨VS,H⟩
  refine Zj rfl rfl rfl<|ZG H 2 rfl rfl rfl rfl<|fun w4 H=>XG (H.at 2 rfl) 0 rfl rfl rfl<|Z6.mk ?_
  refine ⟨VS,?_⟩
  refine ⟨rfl,?_⟩
  refine H.Z8 [1,11,11,3,11,11,11,11,11,11]<|fun H=>H.drop 11<|fun H=>H.drop 10<|fun H=>?_
  refine H.cg (YI rfl (YI rfl (YI rfl (YI rfl (YI rfl (YI rfl (YI (QA ?_) (YI rfl (YI rfl (YI rfl (rfl)))))))))))
  exact PY _
theorem ah9 (H:Sat g w (Pt pr [AA cp,vw,vc,AB 0] 148::Pt cp (AE m [AA mp,vt,vg]) 158::Pt mp [vp,AB m.most] 221::Sl 223 256 Xg vp ps::Sl 3 1 ZE vt Zr::Sl 2 1 ZE vg Zk::Sl 79 4 YJ vc cs::Wm up::Sl 2 1 ZE c.vl c.loc::Sl 2 1 ZE c.vs c.stk::l)) (hcs:cs=up++[c]) (E:El vc 4 up.length b o) (Uc:0≤c.at_∧c.at_≤1000) (hlen:c.stk.length≤10000) (h1:1≤c.stk.length) (ho:(x.op=4∧top c.stk 0≠0)∨(x.op=13∧top c.stk 0=0)):Fc Tryz.prog 114 #[AA pr,.pointer (some ⟨b,o,none⟩),.agg #[.int .u8 x.op,AB x.a,AB x.b,SH],vj] w (fun r w'=>∃vs',r=.agg #[AB 0,.slice none 0 0,AB 0,AB 0,AB 0]∧Sat g w' (Pt pr [AA cp,vw,vc,AB 0] 148::Pt cp (AE m [AA mp,vt,vg]) 158::Pt mp [vp,AB m.most] 221::Sl 223 256 Xg vp ps::Sl 3 1 ZE vt Zr::Sl 2 1 ZE vg Zk::Sl 79 4 YJ vc (up++[⟨c.fn,c.at_+1,c.vl,c.loc,vs',(low c.stk 1)⟩])::Wm up::Sl 2 1 ZE c.vl c.loc::Sl 2 1 ZE vs' (low c.stk 1)::l)):=by
 refine Fc.of Tryz.func114 rfl k_d ?_
 have hx:=Yo hcs
 have WI:=Yn hcs
 have QW:(low c.stk 1).length=c.stk.length-1:=NZ
 rcases ho with ⟨ho,hz⟩|⟨ho,hz⟩
 ·refine ZJ H<|fun p1 w1 H=>ZU H rfl<|fun p2 w2 H=>Z9 rfl<|Z5 (H.el 8 rfl E hx) 1 rfl rfl rfl<|ZY AH<|Z9 rfl<|Yz H 8 rfl E hx 1 (⟨c.fn,c.at_+1,c.vl,c.loc,c.vs,c.stk⟩) rfl rfl rfl rfl<|fun w1 H=>Z9 rfl<|Z5 (H.at 1 rfl) 0 rfl rfl rfl<|bk ?_
  simp only [WI] at H
  have hx1:(up++[(⟨c.fn,c.at_+1,c.vl,c.loc,c.vs,c.stk⟩:CV)])[up.length]?=some (⟨c.fn,c.at_+1,c.vl,c.loc,c.vs,c.stk⟩:CV):=Yo rfl
  clear hx
  have Wt:∀z,(up++[(⟨c.fn,c.at_+1,c.vl,c.loc,c.vs,c.stk⟩:CV)]).set up.length z=up++[z]:=Yn rfl
  refine cF (Z4 AH)<|cF (Z4 AH)<|cF (Z4 AH)<|cF (Z4 AH)<|cT (ZI AG)<|H.Z8 [11,9]<|fun H=>?_
  refine Z7.mk (Fc.imp (Rn.J2 E _ hx1 H AH ?_) ?_)
  ·grind
  clear H
  rintro _ w2 ⟨Zs,⟨t1,⟨rfl,⟨h2,H⟩⟩⟩⟩
  simp only [Wt] at H
  replace h2:t1=top c.stk 0:=h2
  clear hx1
  have Uo:(up++[(⟨c.fn,c.at_+1,c.vl,c.loc,Zs,low c.stk 1⟩:CV)])[up.length]?=some (⟨c.fn,c.at_+1,c.vl,c.loc,Zs,low c.stk 1⟩:CV):=Yo rfl
  have PY:∀z,(up++[(⟨c.fn,c.at_+1,c.vl,c.loc,Zs,low c.stk 1⟩:CV)]).set up.length z=up++[z]:=Yn rfl
  refine cF (Z4 AH)<|Zj rfl rfl rfl<|ZG H 2 rfl rfl rfl rfl<|fun w3 H=>XG (H.at 2 rfl) 0 rfl rfl rfl<|Z6.mk ?_
  refine ⟨Zs,?_⟩
  refine ⟨rfl,?_⟩
  refine H.Z8 [1,11,11,3,11,11,11,11,11,11]<|fun H=>H.drop 11<|fun H=>H.drop 10<|fun H=>?_
  exact H
 ·refine ZJ H<|fun p1 w1 H=>ZU H rfl<|fun p2 w2 H=>Z9 rfl<|Z5 (H.el 8 rfl E hx) 1 rfl rfl rfl<|ZY AH<|Z9 rfl<|Yz H 8 rfl E hx 1 (⟨c.fn,c.at_+1,c.vl,c.loc,c.vs,c.stk⟩) rfl rfl rfl rfl<|fun w1 H=>Z9 rfl<|Z5 (H.at 1 rfl) 0 rfl rfl rfl<|bk ?_
  simp only [WI] at H
  have hx1:(up++[(⟨c.fn,c.at_+1,c.vl,c.loc,c.vs,c.stk⟩:CV)])[up.length]?=some (⟨c.fn,c.at_+1,c.vl,c.loc,c.vs,c.stk⟩:CV):=Yo rfl
  clear hx
  have Wt:∀z,(up++[(⟨c.fn,c.at_+1,c.vl,c.loc,c.vs,c.stk⟩:CV)]).set up.length z=up++[z]:=Yn rfl
  refine cF (Z4 AH)<|cF (Z4 AH)<|cF (Z4 AH)<|cF (Z4 AH)<|cF (Z4 AH)<|cF (Z4 AH)<|cF (Z4 AH)<|cT (ZI AG)<|H.Z8 [11,9]<|fun H=>?_
  refine Z7.mk (Fc.imp (Rn.J2 E _ hx1 H AH ?_) ?_)
  ·grind
  clear H
  rintro _ w2 ⟨Zs,⟨t1,⟨rfl,⟨h2,H⟩⟩⟩⟩
  simp only [Wt] at H
  replace h2:t1=top c.stk 0:=h2
  clear hx1
  have Uo:(up++[(⟨c.fn,c.at_+1,c.vl,c.loc,Zs,low c.stk 1⟩:CV)])[up.length]?=some (⟨c.fn,c.at_+1,c.vl,c.loc,Zs,low c.stk 1⟩:CV):=Yo rfl
  have PY:∀z,(up++[(⟨c.fn,c.at_+1,c.vl,c.loc,Zs,low c.stk 1⟩:CV)]).set up.length z=up++[z]:=Yn rfl
  refine cF (X6 AH)<|Zj rfl rfl rfl<|ZG H 2 rfl rfl rfl rfl<|fun w3 H=>XG (H.at 2 rfl) 0 rfl rfl rfl<|Z6.mk ?_
  refine ⟨Zs,?_⟩
  refine ⟨rfl,?_⟩
  refine H.Z8 [1,11,11,3,11,11,11,11,11,11]<|fun H=>H.drop 11<|fun H=>H.drop 10<|fun H=>?_
  exact H
theorem ajy (H:Sat g w (Pt pr [AA cp,vw,vc,AB 0] 148::Pt cp (AE m [AA mp,vt,vg]) 158::Pt mp [vp,AB m.most] 221::Sl 223 256 Xg vp ps::Sl 3 1 ZE vt Zr::Sl 2 1 ZE vg Zk::Sl 79 4 YJ vc cs::Wm up::Sl 2 1 ZE c.vl c.loc::Sl 2 1 ZE c.vs c.stk::l)) (hcs:cs=up++[c]) (E:El vc 4 up.length b o) (Uc:0≤c.at_∧c.at_≤1000) (hlen:c.stk.length≤10000) (hj:Z0 g N0 Dz 3 vj ws) (hjn:0≤j.height) (By:0≤j.keep) (GA:ws.length≤100) (h1:1≤c.stk.length) (TT:Xw (top c.stk 0)) (ho:x.op=14) (hw0:1≤ws.length) (hw:ws[(min (top c.stk 0 % 4294967296) (ws.length-1)).toNat]?=some j) (hjf:j.height+j.keep≤(low c.stk 1).length):Fc Tryz.prog 114 #[AA pr,.pointer (some ⟨b,o,none⟩),.agg #[.int .u8 x.op,AB x.a,AB x.b,SH],vj] w (fun r w'=>∃vs',r=.agg #[AB 0,.slice none 0 0,AB 0,AB 0,AB 0]∧Sat g w' (Pt pr [AA cp,vw,vc,AB 0] 148::Pt cp (AE m [AA mp,vt,vg]) 158::Pt mp [vp,AB m.most] 221::Sl 223 256 Xg vp ps::Sl 3 1 ZE vt Zr::Sl 2 1 ZE vg Zk::Sl 79 4 YJ vc (up++[⟨c.fn,j.at_,c.vl,c.loc,vs',((low c.stk 1).take j.height.toNat++(low c.stk 1).drop ((low c.stk 1).length-j.keep.toNat))⟩])::Wm up::Sl 2 1 ZE c.vl c.loc::Sl 2 1 ZE vs' ((low c.stk 1).take j.height.toNat++(low c.stk 1).drop ((low c.stk 1).length-j.keep.toNat))::l)):=by
 refine Fc.of Tryz.func114 rfl k_d ?_
 have hx:=Yo hcs
 have WI:=Yn hcs
 have QW:(low c.stk 1).length=c.stk.length-1:=NZ
 refine ZJ H<|fun p1 w1 H=>ZU H rfl<|fun p2 w2 H=>Z9 rfl<|Z5 (H.el 8 rfl E hx) 1 rfl rfl rfl<|ZY AH<|Z9 rfl<|Yz H 8 rfl E hx 1 (⟨c.fn,c.at_+1,c.vl,c.loc,c.vs,c.stk⟩) rfl rfl rfl rfl<|fun w1 H=>Z9 rfl<|Z5 (H.at 1 rfl) 0 rfl rfl rfl<|bk ?_
 simp only [WI] at H
 have hx1:(up++[(⟨c.fn,c.at_+1,c.vl,c.loc,c.vs,c.stk⟩:CV)])[up.length]?=some (⟨c.fn,c.at_+1,c.vl,c.loc,c.vs,c.stk⟩:CV):=Yo rfl
 clear hx
 have Wt:∀z,(up++[(⟨c.fn,c.at_+1,c.vl,c.loc,c.vs,c.stk⟩:CV)]).set up.length z=up++[z]:=Yn rfl
 refine cF (Z4 AH)<|cF (Z4 AH)<|cF (Z4 AH)<|cF (Z4 AH)<|cF (Z4 AH)<|cF (Z4 AH)<|cF (Z4 AH)<|cF (Z4 AH)<|cT (ZI AG)<|H.Z8 [11,9]<|fun H=>?_
 refine Z7.mk (Fc.imp (Rn.J2 E _ hx1 H AH ?_) ?_)
 ·grind
 clear H
 rintro _ w2 ⟨Zs,⟨t1,⟨rfl,⟨h2,H⟩⟩⟩⟩
 simp only [Wt] at H
 replace h2:t1=top c.stk 0:=h2
 clear hx1
 have Uo:(up++[(⟨c.fn,c.at_+1,c.vl,c.loc,Zs,low c.stk 1⟩:CV)])[up.length]?=some (⟨c.fn,c.at_+1,c.vl,c.loc,Zs,low c.stk 1⟩:CV):=Yo rfl
 have PY:∀z,(up++[(⟨c.fn,c.at_+1,c.vl,c.loc,Zs,low c.stk 1⟩:CV)]).set up.length z=up++[z]:=Yn rfl
 have Gu:ws[(min (t1 % 4294967296) (ws.length-1)).toNat]?=some j:=by grind
 have aoK:Xw t1:=by rw [h2];exact TT
 refine Yq rfl rfl<|WZ AH rfl rfl<|ZF hj rfl<|ZY AH<|aj3 ?_
 obtain ⟨b1,o1,E1,F1,ZL⟩:=Z0.Zf hj Gu
 refine ZK E1 AH rfl rfl<|ZD (H.Yy F1) 0 rfl rfl rfl ?_
 refine Z7.mk (Fc.imp (Rn.L0 E _ Uo H _ AH AH AH ?_) ?_)
 ·grind
 clear H
 rintro v' w3 ⟨VS,H⟩
 refine Zj rfl rfl rfl<|ZG H 2 rfl rfl rfl rfl<|fun w4 H=>XG (H.at 2 rfl) 0 rfl rfl rfl<|Z6.mk ?_
 refine ⟨VS,?_⟩
 refine ⟨rfl,?_⟩
 refine H.Z8 [1,11,11,3,11,11,11,11,11,11]<|fun H=>H.drop 11<|fun H=>H.drop 10<|fun H=>?_
 refine H.cg (YI rfl (YI rfl (YI rfl (YI rfl (YI rfl (YI rfl (YI (QA ?_) (YI rfl (YI rfl (YI rfl (rfl)))))))))))
 exact PY _
end
end Rn
namespace Rn
open Go YW Go.RowKit
open YU Zm X7 YN Valid Mem
section
variable {g:Zy} {w:World} {l:List As} {m:Zg} {pr cp mp:Nat} {vw vc vt vg vp SH vj:Value} {host f e:Int} {cs up:List CV} {Zr Zk s2:List Int} {ps:List WM} {c u:CV} {x:ZT} {i b o:Nat} {ws:List XP} {j:XP}
theorem ajz (H:Sat g w (Pt pr [AA cp,vw,vc,AB 0] 148::Pt cp (AE m [AA mp,vt,vg]) 158::Pt mp [vp,AB m.most] 221::Sl 223 256 Xg vp ps::Sl 3 1 ZE vt Zr::Sl 2 1 ZE vg Zk::Sl 79 4 YJ vc cs::Wm up::Sl 2 1 ZE c.vl c.loc::Sl 2 1 ZE c.vs c.stk::l)) (hcs:cs=up++[c]) (E:El vc 4 up.length b o) (Uc:0≤c.at_∧c.at_≤1000) (hlen:c.stk.length≤10000) (hm:XV g m) (P:Ul m.d) (ho:x.op=16∨x.op=17) (QV:∀n∈Zr,-1≤n∧n<(m.ZA.length:Int)+m.funcs.length) (h1:x.op=17→1≤c.stk.length∧0≤x.a∧x.a<m.types.length) (TT:∀v∈c.stk,Xw v) (MJ:Zr.length≤1000) (Ux:cs.length≤40) (hq:YX m.d Zr x c.stk=(f,s2,e)) (he:e≠0):Fc Tryz.prog 114 #[AA pr,.pointer (some ⟨b,o,none⟩),.agg #[.int .u8 x.op,AB x.a,AB x.b,SH],vj] w (fun r w'=>r=.agg #[AB 2,.slice none 0 0,AB e,AB 0,AB 0]∧Sat g w' (Pt pr [AA cp,vw,vc,AB 0] 148::Pt cp (AE m [AA mp,vt,vg]) 158::Pt mp [vp,AB m.most] 221::Sl 223 256 Xg vp ps::Sl 3 1 ZE vt Zr::Sl 2 1 ZE vg Zk::l)):=by
 refine Fc.of Tryz.func114 rfl k_d ?_
 have hx:=Yo hcs
 have WI:=Yn hcs
 have hvl:=H.one 8 rfl
 have D3:up.length+1=cs.length:=by grind
 refine ZJ H<|fun p1 w1 H=>ZU H rfl<|fun p2 w2 H=>Z9 rfl<|Z5 (H.el 8 rfl E hx) 1 rfl rfl rfl<|ZY AH<|Z9 rfl<|Yz H 8 rfl E hx 1 (⟨c.fn,c.at_+1,c.vl,c.loc,c.vs,c.stk⟩) rfl rfl rfl rfl<|fun w1 H=>Z9 rfl<|Z5 (H.at 1 rfl) 0 rfl rfl rfl<|bk ?_
 simp only [WI] at H
 have hx1:(up++[(⟨c.fn,c.at_+1,c.vl,c.loc,c.vs,c.stk⟩:CV)])[up.length]?=some (⟨c.fn,c.at_+1,c.vl,c.loc,c.vs,c.stk⟩:CV):=Yo rfl
 clear hx
 have Wt:∀z,(up++[(⟨c.fn,c.at_+1,c.vl,c.loc,c.vs,c.stk⟩:CV)]).set up.length z=up++[z]:=Yn rfl
 have FM:(up++[(⟨c.fn,c.at_+1,c.vl,c.loc,c.vs,c.stk⟩:CV)]).length=cs.length:=by grind
 rcases ho with ho|ho
 ·refine cF (Z4 AH)<|cF (Z4 AH)<|cF (Z4 AH)<|cF (Z4 AH)<|cF (Z4 AH)<|cF (Z4 AH)<|cF (Z4 AH)<|cF (Z4 AH)<|cF (Z4 AH)<|cT (ZI AG)<|cT (ZI AG)<|ZD (H.at 1 rfl) 0 rfl rfl rfl<|H.Z8 [11,9,8,6,6]<|fun H=>?_
  refine Z7.mk (Fc.imp (Rn.afq E _ hx1 H AH AH AH AH AH AH AH AH AH AH hq AH) ?_)
  clear H
  rintro _ w2 ⟨rfl,H⟩
  refine ZG H 3 rfl rfl rfl rfl<|fun w3 H=>XG (H.at 3 rfl) 0 rfl rfl rfl<|Z6.mk ?_
  refine ⟨rfl,?_⟩
  refine H.Z8 [7,3,7,7,5,5]<|fun H=>H.drop 9<|fun H=>H.drop 8<|fun H=>H.drop 7<|fun H=>H.drop 6<|fun H=>?_
  exact H
 ·refine cF (Z4 AH)<|cF (Z4 AH)<|cF (Z4 AH)<|cF (Z4 AH)<|cF (Z4 AH)<|cF (Z4 AH)<|cF (Z4 AH)<|cF (Z4 AH)<|cF (Z4 AH)<|cF (Z4 AH)<|cT (ZI AG)<|ZD (H.at 1 rfl) 0 rfl rfl rfl<|H.Z8 [11,9,8,6,6]<|fun H=>?_
  refine Z7.mk (Fc.imp (Rn.afq E _ hx1 H AH AH AH AH AH AH AH AH AH AH hq AH) ?_)
  clear H
  rintro _ w2 ⟨rfl,H⟩
  refine ZG H 3 rfl rfl rfl rfl<|fun w3 H=>XG (H.at 3 rfl) 0 rfl rfl rfl<|Z6.mk ?_
  refine ⟨rfl,?_⟩
  refine H.Z8 [7,3,7,7,5,5]<|fun H=>H.drop 9<|fun H=>H.drop 8<|fun H=>H.drop 7<|fun H=>H.drop 6<|fun H=>?_
  exact H
theorem ajA (H:Sat g w (Pt pr [AA cp,vw,vc,AB 0] 148::Pt cp (AE m [AA mp,vt,vg]) 158::Pt mp [vp,AB m.most] 221::Sl 223 256 Xg vp ps::Sl 3 1 ZE vt Zr::Sl 2 1 ZE vg Zk::Sl 79 4 YJ vc cs::Wm up::Sl 2 1 ZE c.vl c.loc::Sl 2 1 ZE c.vs c.stk::l)) (hcs:cs=up++[c]) (E:El vc 4 up.length b o) (Uc:0≤c.at_∧c.at_≤1000) (hlen:c.stk.length≤10000) (hm:XV g m) (P:Ul m.d) (ho:x.op=16∨x.op=17) (QV:∀n∈Zr,-1≤n∧n<(m.ZA.length:Int)+m.funcs.length) (h1:x.op=17→1≤c.stk.length∧0≤x.a∧x.a<m.types.length) (TT:∀v∈c.stk,Xw v) (MJ:Zr.length≤1000) (Ux:cs.length≤40) (hq:YX m.d Zr x c.stk=(f,s2,0)) (hf:0≤f∧f<(m.ZA.length:Int)+m.funcs.length) (KW:(YL m.d f).Zd.length≤s2.length) (Iq:s2.length≤10000) (AZ:(m.ZA.length:Int)≤f) (AY:cs.length=40):Fc Tryz.prog 114 #[AA pr,.pointer (some ⟨b,o,none⟩),.agg #[.int .u8 x.op,AB x.a,AB x.b,SH],vj] w (fun r w'=>r=.agg #[AB 2,.slice none 0 0,AB 26,AB 0,AB 0]∧Sat g w' (Pt pr [AA cp,vw,vc,AB 0] 148::Pt cp (AE m [AA mp,vt,vg]) 158::Pt mp [vp,AB m.most] 221::Sl 223 256 Xg vp ps::Sl 3 1 ZE vt Zr::Sl 2 1 ZE vg Zk::l)):=by
 refine Fc.of Tryz.func114 rfl k_d ?_
 have hx:=Yo hcs
 have WI:=Yn hcs
 have hvl:=H.one 8 rfl
 have D3:up.length+1=cs.length:=by grind
 refine ZJ H<|fun p1 w1 H=>ZU H rfl<|fun p2 w2 H=>Z9 rfl<|Z5 (H.el 8 rfl E hx) 1 rfl rfl rfl<|ZY AH<|Z9 rfl<|Yz H 8 rfl E hx 1 (⟨c.fn,c.at_+1,c.vl,c.loc,c.vs,c.stk⟩) rfl rfl rfl rfl<|fun w1 H=>Z9 rfl<|Z5 (H.at 1 rfl) 0 rfl rfl rfl<|bk ?_
 simp only [WI] at H
 have hx1:(up++[(⟨c.fn,c.at_+1,c.vl,c.loc,c.vs,c.stk⟩:CV)])[up.length]?=some (⟨c.fn,c.at_+1,c.vl,c.loc,c.vs,c.stk⟩:CV):=Yo rfl
 clear hx
 have Wt:∀z,(up++[(⟨c.fn,c.at_+1,c.vl,c.loc,c.vs,c.stk⟩:CV)]).set up.length z=up++[z]:=Yn rfl
 have FM:(up++[(⟨c.fn,c.at_+1,c.vl,c.loc,c.vs,c.stk⟩:CV)]).length=cs.length:=by grind
 rcases ho with ho|ho
 ·refine cF (Z4 AH)<|cF (Z4 AH)<|cF (Z4 AH)<|cF (Z4 AH)<|cF (Z4 AH)<|cF (Z4 AH)<|cF (Z4 AH)<|cF (Z4 AH)<|cF (Z4 AH)<|cT (ZI AG)<|cT (ZI AG)<|ZD (H.at 1 rfl) 0 rfl rfl rfl<|H.Z8 [11,9,8,6,6]<|fun H=>?_
  refine Z7.mk (Fc.imp (Rn.afr E _ hx1 H AH AH AH AH AH AH AH AH AH AH hq AH AH AH AH AH) ?_)
  clear H
  rintro _ w2 ⟨rfl,H⟩
  refine ZG H 3 rfl rfl rfl rfl<|fun w3 H=>XG (H.at 3 rfl) 0 rfl rfl rfl<|Z6.mk ?_
  refine ⟨rfl,?_⟩
  refine H.Z8 [7,3,7,7,5,5]<|fun H=>H.drop 9<|fun H=>H.drop 8<|fun H=>H.drop 7<|fun H=>H.drop 6<|fun H=>?_
  exact H
 ·refine cF (Z4 AH)<|cF (Z4 AH)<|cF (Z4 AH)<|cF (Z4 AH)<|cF (Z4 AH)<|cF (Z4 AH)<|cF (Z4 AH)<|cF (Z4 AH)<|cF (Z4 AH)<|cF (Z4 AH)<|cT (ZI AG)<|ZD (H.at 1 rfl) 0 rfl rfl rfl<|H.Z8 [11,9,8,6,6]<|fun H=>?_
  refine Z7.mk (Fc.imp (Rn.afr E _ hx1 H AH AH AH AH AH AH AH AH AH AH hq AH AH AH AH AH) ?_)
  clear H
  rintro _ w2 ⟨rfl,H⟩
  refine ZG H 3 rfl rfl rfl rfl<|fun w3 H=>XG (H.at 3 rfl) 0 rfl rfl rfl<|Z6.mk ?_
  refine ⟨rfl,?_⟩
  refine H.Z8 [7,3,7,7,5,5]<|fun H=>H.drop 9<|fun H=>H.drop 8<|fun H=>H.drop 7<|fun H=>H.drop 6<|fun H=>?_
  exact H
theorem ajB (H:Sat g w (Pt pr [AA cp,vw,vc,AB 0] 148::Pt cp (AE m [AA mp,vt,vg]) 158::Pt mp [vp,AB m.most] 221::Sl 223 256 Xg vp ps::Sl 3 1 ZE vt Zr::Sl 2 1 ZE vg Zk::Sl 79 4 YJ vc cs::Wm up::Sl 2 1 ZE c.vl c.loc::Sl 2 1 ZE c.vs c.stk::l)) (hcs:cs=up++[c]) (E:El vc 4 up.length b o) (Uc:0≤c.at_∧c.at_≤1000) (hlen:c.stk.length≤10000) (hm:XV g m) (P:Ul m.d) (ho:x.op=16∨x.op=17) (QV:∀n∈Zr,-1≤n∧n<(m.ZA.length:Int)+m.funcs.length) (h1:x.op=17→1≤c.stk.length∧0≤x.a∧x.a<m.types.length) (TT:∀v∈c.stk,Xw v) (MJ:Zr.length≤1000) (Ux:cs.length≤40) (hq:YX m.d Zr x c.stk=(f,s2,0)) (hf:0≤f∧f<(m.ZA.length:Int)+m.funcs.length) (KW:(YL m.d f).Zd.length≤s2.length) (Iq:s2.length≤10000) (AZ:f<m.ZA.length):Fc Tryz.prog 114 #[AA pr,.pointer (some ⟨b,o,none⟩),.agg #[.int .u8 x.op,AB x.a,AB x.b,SH],vj] w (fun r w'=>∃vs' vv,r=.agg #[AB 4,vv,AB 0,AB f,AB 0]∧Sat g w' (Pt pr [AA cp,vw,vc,AB (f+1)] 148::Pt cp (AE m [AA mp,vt,vg]) 158::Pt mp [vp,AB m.most] 221::Sl 223 256 Xg vp ps::Sl 3 1 ZE vt Zr::Sl 2 1 ZE vg Zk::Sl 79 4 YJ vc (up++[⟨c.fn,c.at_+1,c.vl,c.loc,vs',s2.take (s2.length-(YL m.d f).Zd.length)⟩])::Wm up::Sl 2 1 ZE c.vl c.loc::Sl 2 1 ZE vs' (s2.take (s2.length-(YL m.d f).Zd.length))::Sl 2 1 ZE vv (s2.drop (s2.length-(YL m.d f).Zd.length))::l)):=by
 refine Fc.of Tryz.func114 rfl k_d ?_
 have hx:=Yo hcs
 have WI:=Yn hcs
 have hvl:=H.one 8 rfl
 have D3:up.length+1=cs.length:=by grind
 refine ZJ H<|fun p1 w1 H=>ZU H rfl<|fun p2 w2 H=>Z9 rfl<|Z5 (H.el 8 rfl E hx) 1 rfl rfl rfl<|ZY AH<|Z9 rfl<|Yz H 8 rfl E hx 1 (⟨c.fn,c.at_+1,c.vl,c.loc,c.vs,c.stk⟩) rfl rfl rfl rfl<|fun w1 H=>Z9 rfl<|Z5 (H.at 1 rfl) 0 rfl rfl rfl<|bk ?_
 simp only [WI] at H
 have hx1:(up++[(⟨c.fn,c.at_+1,c.vl,c.loc,c.vs,c.stk⟩:CV)])[up.length]?=some (⟨c.fn,c.at_+1,c.vl,c.loc,c.vs,c.stk⟩:CV):=Yo rfl
 clear hx
 have Wt:∀z,(up++[(⟨c.fn,c.at_+1,c.vl,c.loc,c.vs,c.stk⟩:CV)]).set up.length z=up++[z]:=Yn rfl
 have FM:(up++[(⟨c.fn,c.at_+1,c.vl,c.loc,c.vs,c.stk⟩:CV)]).length=cs.length:=by grind
 rcases ho with ho|ho
 ·refine cF (Z4 AH)<|cF (Z4 AH)<|cF (Z4 AH)<|cF (Z4 AH)<|cF (Z4 AH)<|cF (Z4 AH)<|cF (Z4 AH)<|cF (Z4 AH)<|cF (Z4 AH)<|cT (ZI AG)<|cT (ZI AG)<|ZD (H.at 1 rfl) 0 rfl rfl rfl<|H.Z8 [11,9,8,6,6]<|fun H=>?_
  refine Z7.mk (Fc.imp (Rn.afs E _ hx1 H AH AH AH AH AH AH AH AH AH AH hq AH AH AH AH) ?_)
  clear H
  rintro _ w2 ⟨Zs,⟨BS,⟨rfl,H⟩⟩⟩
  refine ZG H 6 rfl rfl rfl (by simp only [List.all_cons,List.all_nil,H.one 2 rfl,H.one 3 rfl,H.one 4 rfl,H.one 5 rfl,H.one 9 rfl,H.one 10 rfl,H.one 12 rfl,hvl];rfl)<|fun w3 H=>XG (H.at 6 rfl) 0 rfl rfl rfl<|Z6.mk ?_
  refine ⟨Zs,BS,?_⟩
  refine ⟨rfl,?_⟩
  refine H.Z8 [5,5,12,12,7,12,8,12,12,10,10]<|fun H=>H.drop 12<|fun H=>H.drop 11<|fun H=>?_
  refine H.cg (YI rfl (YI rfl (YI rfl (YI rfl (YI rfl (YI rfl (YI (QA ?_) (YI rfl (YI rfl (YI rfl (YI rfl (rfl))))))))))))
  exact Wt _
 ·refine cF (Z4 AH)<|cF (Z4 AH)<|cF (Z4 AH)<|cF (Z4 AH)<|cF (Z4 AH)<|cF (Z4 AH)<|cF (Z4 AH)<|cF (Z4 AH)<|cF (Z4 AH)<|cF (Z4 AH)<|cT (ZI AG)<|ZD (H.at 1 rfl) 0 rfl rfl rfl<|H.Z8 [11,9,8,6,6]<|fun H=>?_
  refine Z7.mk (Fc.imp (Rn.afs E _ hx1 H AH AH AH AH AH AH AH AH AH AH hq AH AH AH AH) ?_)
  clear H
  rintro _ w2 ⟨Zs,⟨BS,⟨rfl,H⟩⟩⟩
  refine ZG H 6 rfl rfl rfl (by simp only [List.all_cons,List.all_nil,H.one 2 rfl,H.one 3 rfl,H.one 4 rfl,H.one 5 rfl,H.one 9 rfl,H.one 10 rfl,H.one 12 rfl,hvl];rfl)<|fun w3 H=>XG (H.at 6 rfl) 0 rfl rfl rfl<|Z6.mk ?_
  refine ⟨Zs,BS,?_⟩
  refine ⟨rfl,?_⟩
  refine H.Z8 [5,5,12,12,7,12,8,12,12,10,10]<|fun H=>H.drop 12<|fun H=>H.drop 11<|fun H=>?_
  refine H.cg (YI rfl (YI rfl (YI rfl (YI rfl (YI rfl (YI rfl (YI (QA ?_) (YI rfl (YI rfl (YI rfl (YI rfl (rfl))))))))))))
  exact Wt _
theorem ajC (H:Sat g w (Pt pr [AA cp,vw,vc,AB 0] 148::Pt cp (AE m [AA mp,vt,vg]) 158::Pt mp [vp,AB m.most] 221::Sl 223 256 Xg vp ps::Sl 3 1 ZE vt Zr::Sl 2 1 ZE vg Zk::Sl 79 4 YJ vc cs::Wm up::Sl 2 1 ZE c.vl c.loc::Sl 2 1 ZE c.vs c.stk::l)) (hcs:cs=up++[c]) (E:El vc 4 up.length b o) (Uc:0≤c.at_∧c.at_≤1000) (hlen:c.stk.length≤10000) (hm:XV g m) (P:Ul m.d) (ho:x.op=16∨x.op=17) (QV:∀n∈Zr,-1≤n∧n<(m.ZA.length:Int)+m.funcs.length) (h1:x.op=17→1≤c.stk.length∧0≤x.a∧x.a<m.types.length) (TT:∀v∈c.stk,Xw v) (MJ:Zr.length≤1000) (Ux:cs.length≤40) (hq:YX m.d Zr x c.stk=(f,s2,0)) (hf:0≤f∧f<(m.ZA.length:Int)+m.funcs.length) (KW:(YL m.d f).Zd.length≤s2.length) (Iq:s2.length≤10000) (k:Nat) (F:YE) (GC:f=m.ZA.length+k) (hF:m.funcs[k]?=some F) (Ds:F.loc.length≤16) (h4:(YL m.d f).Zd.length≤4) (AY:cs.length<40):Fc Tryz.prog 114 #[AA pr,.pointer (some ⟨b,o,none⟩),.agg #[.int .u8 x.op,AB x.a,AB x.b,SH],vj] w (fun r w'=>∃PG vs' H9,r=.agg #[AB 0,.slice none 0 0,AB 0,AB 0,AB 0]∧Sat g w' (Pt pr [AA cp,vw,PG,AB 0] 148::Pt cp (AE m [AA mp,vt,vg]) 158::Pt mp [vp,AB m.most] 221::Sl 223 256 Xg vp ps::Sl 3 1 ZE vt Zr::Sl 2 1 ZE vg Zk::Sl 79 4 YJ PG (up++[⟨c.fn,c.at_+1,c.vl,c.loc,vs',s2.take (s2.length-(YL m.d f).Zd.length)⟩]++[⟨k,0,H9,s2.drop (s2.length-(YL m.d f).Zd.length)++List.replicate F.loc.length 0,.slice none 0 0,[]⟩])::Wm up::Sl 2 1 ZE c.vl c.loc::Sl 2 1 ZE vs' (s2.take (s2.length-(YL m.d f).Zd.length))::Sl 2 1 ZE H9 (s2.drop (s2.length-(YL m.d f).Zd.length)++List.replicate F.loc.length 0)::Sl 2 1 ZE (.slice none 0 0) []::l)):=by
 refine Fc.of Tryz.func114 rfl k_d ?_
 have hx:=Yo hcs
 have WI:=Yn hcs
 have hvl:=H.one 8 rfl
 have D3:up.length+1=cs.length:=by grind
 refine ZJ H<|fun p1 w1 H=>ZU H rfl<|fun p2 w2 H=>Z9 rfl<|Z5 (H.el 8 rfl E hx) 1 rfl rfl rfl<|ZY AH<|Z9 rfl<|Yz H 8 rfl E hx 1 (⟨c.fn,c.at_+1,c.vl,c.loc,c.vs,c.stk⟩) rfl rfl rfl rfl<|fun w1 H=>Z9 rfl<|Z5 (H.at 1 rfl) 0 rfl rfl rfl<|bk ?_
 simp only [WI] at H
 have hx1:(up++[(⟨c.fn,c.at_+1,c.vl,c.loc,c.vs,c.stk⟩:CV)])[up.length]?=some (⟨c.fn,c.at_+1,c.vl,c.loc,c.vs,c.stk⟩:CV):=Yo rfl
 clear hx
 have Wt:∀z,(up++[(⟨c.fn,c.at_+1,c.vl,c.loc,c.vs,c.stk⟩:CV)]).set up.length z=up++[z]:=Yn rfl
 have FM:(up++[(⟨c.fn,c.at_+1,c.vl,c.loc,c.vs,c.stk⟩:CV)]).length=cs.length:=by grind
 rcases ho with ho|ho
 ·refine cF (Z4 AH)<|cF (Z4 AH)<|cF (Z4 AH)<|cF (Z4 AH)<|cF (Z4 AH)<|cF (Z4 AH)<|cF (Z4 AH)<|cF (Z4 AH)<|cF (Z4 AH)<|cT (ZI AG)<|cT (ZI AG)<|ZD (H.at 1 rfl) 0 rfl rfl rfl<|H.Z8 [11,9,8,6,6]<|fun H=>?_
  refine Z7.mk (Fc.imp (Rn.aft E _ hx1 H AH AH AH AH AH AH AH AH AH AH hq AH AH AH (k) _ GC hF AH AH AH) ?_)
  clear H
  rintro _ w2 ⟨G2,⟨Zs,⟨T3,⟨rfl,H⟩⟩⟩⟩
  refine ZG H 7 rfl rfl rfl rfl<|fun w3 H=>XG (H.at 7 rfl) 0 rfl rfl rfl ?_
  simp only [Wt] at H
  refine Z6.mk ⟨G2,Zs,T3,rfl,?_⟩
  refine H.Z8 [6,6,6,13,13,8,13,9,13,13,11,11]<|fun H=>H.drop 13<|fun H=>H.drop 12<|fun H=>?_
  exact H
 ·refine cF (Z4 AH)<|cF (Z4 AH)<|cF (Z4 AH)<|cF (Z4 AH)<|cF (Z4 AH)<|cF (Z4 AH)<|cF (Z4 AH)<|cF (Z4 AH)<|cF (Z4 AH)<|cF (Z4 AH)<|cT (ZI AG)<|ZD (H.at 1 rfl) 0 rfl rfl rfl<|H.Z8 [11,9,8,6,6]<|fun H=>?_
  refine Z7.mk (Fc.imp (Rn.aft E _ hx1 H AH AH AH AH AH AH AH AH AH AH hq AH AH AH (k) _ GC hF AH AH AH) ?_)
  clear H
  rintro _ w2 ⟨G2,⟨Zs,⟨T3,⟨rfl,H⟩⟩⟩⟩
  refine ZG H 7 rfl rfl rfl rfl<|fun w3 H=>XG (H.at 7 rfl) 0 rfl rfl rfl ?_
  simp only [Wt] at H
  refine Z6.mk ⟨G2,Zs,T3,rfl,?_⟩
  refine H.Z8 [6,6,6,13,13,8,13,9,13,13,11,11]<|fun H=>H.drop 13<|fun H=>H.drop 12<|fun H=>?_
  exact H
theorem ajD (H:Sat g w (Pt pr [AA cp,vw,vc,AB 0] 148::Pt cp (AE m [AA mp,vt,vg]) 158::Pt mp [vp,AB m.most] 221::Sl 223 256 Xg vp ps::Sl 3 1 ZE vt Zr::Sl 2 1 ZE vg Zk::Sl 79 4 YJ vc cs::Wm up::Sl 2 1 ZE c.vl c.loc::Sl 2 1 ZE c.vs c.stk::l)) (hcs:cs=up++[c]) (E:El vc 4 up.length b o) (Uc:0≤c.at_∧c.at_≤1000) (hlen:c.stk.length≤10000) (hD:Hh x ⟨flat ps,Zr,Zk⟩ c.loc c.stk) (hT:Fold.IC g) (CL:18≤x.op) (hop:x.op≤255) (hmo:ps.length≤m.most∧m.most≤8):Fc Tryz.prog 114 #[AA pr,.pointer (some ⟨b,o,none⟩),.agg #[.int .u8 x.op,AB x.a,AB x.b,SH],vj] w (fun r w'=>∃e vs' TO ps' W3 loc' W8,r=(if e≠0 then .agg #[AB 2,.slice none 0 0,AB e,AB 0,AB 0] else .agg #[AB 0,.slice none 0 0,AB 0,AB 0,AB 0])∧M3 (VR m.most x ⟨flat ps,Zr,Zk⟩ c.loc c.stk) e (flat ps') W3 loc' W8∧ps'.length≤8∧Sat g w' (Pt pr [AA cp,vw,vc,AB 0] 148::Pt cp (AE m [AA mp,vt,vg]) 158::Pt mp [TO,AB m.most] 221::Sl 223 256 Xg TO ps'::Sl 3 1 ZE vt Zr::Sl 2 1 ZE vg W3::Sl 79 4 YJ vc (up++[⟨c.fn,c.at_+1,c.vl,loc',vs',W8⟩])::Wm up::Sl 2 1 ZE c.vl loc'::Sl 2 1 ZE vs' W8::l)):=by
 refine Fc.of Tryz.func114 rfl k_d ?_
 have hx:=Yo hcs
 have WI:=Yn hcs
 have hvl:=H.one 8 rfl
 refine ZJ H<|fun p1 w1 H=>ZU H rfl<|fun p2 w2 H=>Z9 rfl<|Z5 (H.el 8 rfl E hx) 1 rfl rfl rfl<|ZY AH<|Z9 rfl<|Yz H 8 rfl E hx 1 (⟨c.fn,c.at_+1,c.vl,c.loc,c.vs,c.stk⟩) rfl rfl rfl rfl<|fun w1 H=>Z9 rfl<|Z5 (H.at 1 rfl) 0 rfl rfl rfl<|bk ?_
 simp only [WI] at H
 have hx1:(up++[(⟨c.fn,c.at_+1,c.vl,c.loc,c.vs,c.stk⟩:CV)])[up.length]?=some (⟨c.fn,c.at_+1,c.vl,c.loc,c.vs,c.stk⟩:CV):=Yo rfl
 clear hx
 have Wt:∀z,(up++[(⟨c.fn,c.at_+1,c.vl,c.loc,c.vs,c.stk⟩:CV)]).set up.length z=up++[z]:=Yn rfl
 have FM:(up++[(⟨c.fn,c.at_+1,c.vl,c.loc,c.vs,c.stk⟩:CV)]).length=cs.length:=by grind
 refine cF (Z4 AH)<|cF (Z4 AH)<|cF (Z4 AH)<|cF (Z4 AH)<|cF (Z4 AH)<|cF (Z4 AH)<|cF (Z4 AH)<|cF (Z4 AH)<|cF (Z4 AH)<|cF (Z4 AH)<|cF (Z4 AH)<|ZN H [] [Azp0,Azp1,Azp2,Azh3,Azh4,Azp5,Azp6,Azp7,Azh8,Azp9,Azp10,Azp11,Azh12,Azfr13,Azp14,Azp15,Azp16,Azp17,Azp18] mixed k_d k_d<|fun w2 H=>tk (fun _ Z=>Z9 rfl AD)<|tk (fun _ Z=>Z5 (Z.at 2 rfl) 0 rfl rfl rfl AD)<|tk (fun _ Z=>ZD (Z.at 1 rfl) 0 rfl rfl rfl AD)<|tk (fun _ Z=>Z9 rfl AD)<|tk (fun _ Z=>Z5 (Z.el 8 rfl E hx1) 2 rfl rfl rfl AD)<|tk (fun _ Z=>Z9 rfl AD)<|tk (fun _ Z=>Z5 (Z.el 8 rfl E hx1) 3 rfl rfl rfl AD)<|H.Z8 [11,11,9,9,9,9,9]<|fun H=>?_
 refine Z7.mk (Fc.imp (Rn.do_ H AH AH AH AH AH) ?_)
 clear H
 rintro _ w1 ⟨e1,⟨Zs,⟨alW,⟨Ol,⟨aia,⟨G1,⟨Rw,⟨rfl,⟨h1,⟨h2,H⟩⟩⟩⟩⟩⟩⟩⟩⟩⟩
 refine Z9 rfl<|Yz H 10 rfl E hx1 3 (⟨c.fn,c.at_+1,c.vl,G1,(Zs),Rw⟩) rfl (by simp only [Bool.and_true,H.one 2 rfl,H.one 3 rfl,H.one 4 rfl,H.one 5 rfl,H.one 6 rfl,H.one 10 rfl,hvl]) rfl rfl<|fun w3 H=>?_
 refine cI (fun c1=>?_) (fun c1=>?_)
 focus
  replace c1:=YC (c1)
  refine Zj rfl rfl rfl<|ZG H 7 rfl rfl rfl rfl<|fun w1 H=>XG (H.at 7 rfl) 0 rfl rfl rfl ?_
 rotate_left 1
 focus
  replace c1:=YB (c1)
  refine Zj rfl rfl rfl<|ZG H 7 rfl rfl rfl rfl<|fun w1 H=>XG (H.at 7 rfl) 0 rfl rfl rfl ?_
 rotate_left 1
 ·simp only [Wt] at H
  refine Z6.mk ⟨e1,Zs,alW,Ol,aia,G1,Rw,(if_pos AG).symm,by assumption,by assumption,?_⟩
  refine H.Z8 [6,6,11,11,8,8,8,8,8,11]<|fun H=>H.drop 11<|fun H=>H.drop 10<|fun H=>?_
  exact H
 ·simp only [Wt] at H
  refine Z6.mk ⟨e1,Zs,alW,Ol,aia,G1,Rw,(if_neg AH).symm,by assumption,by assumption,?_⟩
  refine H.Z8 [6,6,11,11,8,8,8,8,8,11]<|fun H=>H.drop 11<|fun H=>H.drop 10<|fun H=>?_
  exact H
end
end Rn
end Go.Proofs.YtakpnepblgfknaaGreatDoor
