/- Texts of this claim, one behind the other. -/
import Derived.Test.YtakpnepblgfknaaGreatDoorK9
set_option maxRecDepth 100000
set_option maxHeartbeats 4000000
set_option linter.unusedVariables false
set_option linter.unusedSimpArgs false
set_option linter.defProp false
namespace Go.Proofs.YtakpnepblgfknaaGreatDoor
namespace Rn
open Go Y2 Go.RowKit
open YZ Zn X4 YS Valid Mem
section
variable {g:ZB} {w:World} {l:List As} {m:Zg} {cp mp:Nat} {vp vt vg vl vs Sr:Value} {ps:List W1} {Zw Zl loc stk:zm} {x:ZW}
theorem adx {ps:List W1} {n:Nat}:flat (ps++List.replicate n zp)=flat ps++List.replicate (256 * n) 0:=by
 unfold flat
 rw [lQa]
 congr 1
 induction n with
 | zero=>rfl
 | succ n ih =>
  rw [lFb,lNa,ih,show 256 * (n+1)=256+256 * n by omega,<-List.replicate_append_replicate];rfl
theorem bt2 {s:zm} (h:3<=s.length):∃t a b c,s=t++[a]++[b]++[c]:=by
 obtain ⟨t,c,rfl⟩:=Oq (show 1<=s.length by omega)
 rw [lca,lpa] at h
 obtain ⟨t,b,rfl⟩:=Oq (show 1<=t.length by omega)
 rw [lca,lpa] at h
 obtain ⟨t,a,rfl⟩:=Oq (show 1<=t.length by omega)
 exact ⟨t,a,b,c,rfl⟩
theorem ao2 {d:zm->BU} {e:Int} {mm:zl} {gl s':zm} (h:∀loc,N7 (d loc) e mm gl loc s'):N7 (d loc) e mm gl loc s':=h loc
theorem an9 {I:WN} {s':zm} {e e1 e2:Int} {s1 s2:zm} {c:Prop} [Decidable c] (h:(s',e)=(if c then (s1,e1) else (s2,e2))):N7 (if c then ⟨I,loc,s1,e1⟩ else ⟨I,loc,s2,e2⟩) e I.mem I.Zl loc s':=by
 by_cases hc:c
 .rw [if_pos hc] at h ⊢
  injection h with h1 h2
  exact ⟨h2,rfl,rfl,rfl,fun _=>h1⟩
 .rw [if_neg hc] at h ⊢
  injection h with h1 h2
  exact ⟨h2,rfl,rfl,rfl,fun _=>h1⟩
theorem gr0 {e a most:Int} {ps':List W1} (h1:1<=stk.length) (h:most-(ps.length:Int)<a % 4294967296) (he:e=-1) (hp:ps'=ps):N7 (if most-(ps.length:Int)<a % 4294967296 then ⟨⟨flat ps,Zw,Zl⟩,loc,low stk 1++[-1],0⟩ else ⟨⟨flat ps++List.replicate (256 * (a % 4294967296).toNat) 0,Zw,Zl⟩,loc,low stk 1++[(ps.length:Int)],0⟩) 0 (flat ps') Zl loc (stk.set (stk.length-1) e):=by
 rw [if_pos h,he,hp]
 exact ⟨rfl,rfl,rfl,rfl,fun _=>NM h1⟩
theorem gr1 {e a most:Int} {ps':List W1} (h1:1<=stk.length) (h:¬most-(ps.length:Int)<a % 4294967296) (he:e=ps.length) (hp:ps'=ps++List.replicate (a % 4294967296).toNat zp):N7 (if most-(ps.length:Int)<a % 4294967296 then ⟨⟨flat ps,Zw,Zl⟩,loc,low stk 1++[-1],0⟩ else ⟨⟨flat ps++List.replicate (256 * (a % 4294967296).toNat) 0,Zw,Zl⟩,loc,low stk 1++[(ps.length:Int)],0⟩) 0 (flat ps') Zl loc (stk.set (stk.length-1) e):=by
 rw [if_neg h,he,hp,adx]
 exact ⟨rfl,rfl,rfl,rfl,fun _=>NM h1⟩
theorem alp (H:Sat g w (Pt cp (zL m [zI mp,vt,vg]) 158::Pt mp [vp,zJ m.most] 221::Sl 223 256 Xi vp ps::Sl 3 1 ZH vt Zw::Sl 2 1 ZH vg Zl::Sl 2 1 ZH vl loc::Sl 2 1 ZH vs stk::l)) (ho:x.op=26) (h1:1<=stk.length) (hlen:stk.length<=100000) (hp:ps.length<=8):zn 160 #[zI cp,.agg #[.int .u8 x.op,zJ x.a,zJ x.b,Sr],vl,vs] w (fun r w'=>∃e vs' Ti ps' W5 loc' Y0,r=.tuple #[vs',zJ e]/\N7 (WG m.most x ⟨flat ps,Zw,Zl⟩ loc stk) e (flat ps') W5 loc' Y0/\ps'.length<=8/\Sat g w' (Pt cp (zL m [zI mp,vt,vg]) 158::Pt mp [Ti,zJ m.most] 221::Sl 223 256 Xi Ti ps'::Sl 3 1 ZH vt Zw::Sl 2 1 ZH vg W5::Sl 2 1 ZH vl loc'::Sl 2 1 ZH vs' Y0::l)):=by
 refine Fc.of Tryz.func160 rfl k_e ?_
 have hd:WG m.most x ⟨flat ps,Zw,Zl⟩ loc stk=⟨⟨flat ps,Zw,Zl⟩,loc,low stk 1,0⟩:=by grind [WG]
 rw [hd]
 clear hd
 refine ZN H<|fun p1 w1 H=>Yz H 7 rfl rfl<|ZU zO<|bk<|Z9 rfl<|zG H 0 0 zD<|cT (ZM zN)<|Ns H 7 rfl 0 ((stk.length)-1) rfl rfl zO zO (.inl ⟨rfl,rfl⟩) (.inr ⟨_,by first|rfl|(congr 2;omega)⟩)<|fun v1 H=>Z5.mk ?_
 refine ⟨0,v1,vp,ps,Zl,loc,List.drop 0 (List.take (stk.length-1) stk),?_⟩
 refine ⟨rfl,?_⟩
 constructor
 .exact ⟨rfl,rfl,rfl,rfl,fun _=>JD⟩
 refine ⟨zO,?_⟩
 exact H.Z7 [7,7,7,7,7,7,7]<|fun H=>H.drop 7<|fun H=>H
theorem alq (H:Sat g w (Pt cp (zL m [zI mp,vt,vg]) 158::Pt mp [vp,zJ m.most] 221::Sl 223 256 Xi vp ps::Sl 3 1 ZH vt Zw::Sl 2 1 ZH vg Zl::Sl 2 1 ZH vl loc::Sl 2 1 ZH vs stk::l)) (ho:x.op=27) (h1:3<=stk.length) (hlen:stk.length<=100000) (hp:ps.length<=8):zn 160 #[zI cp,.agg #[.int .u8 x.op,zJ x.a,zJ x.b,Sr],vl,vs] w (fun r w'=>∃e vs' Ti ps' W5 loc' Y0,r=.tuple #[vs',zJ e]/\N7 (WG m.most x ⟨flat ps,Zw,Zl⟩ loc stk) e (flat ps') W5 loc' Y0/\ps'.length<=8/\Sat g w' (Pt cp (zL m [zI mp,vt,vg]) 158::Pt mp [Ti,zJ m.most] 221::Sl 223 256 Xi Ti ps'::Sl 3 1 ZH vt Zw::Sl 2 1 ZH vg W5::Sl 2 1 ZH vl loc'::Sl 2 1 ZH vs' Y0::l)):=by
 refine Fc.of Tryz.func160 rfl k_e ?_
 obtain ⟨t,a,b,c,hs⟩:=bt2 h1
 have hl:stk.length=t.length+3:=by grind
 have hc:stk[stk.length-1]?=some c:=by grind
 have hb:stk[stk.length-1-1]?=some b:=by grind
 have ha:stk[stk.length-1-2]?=some a:=by grind
 have r1:List.drop 0 (List.take (stk.length-1-1) stk)=t++[a]:=by
  rw [hl,hs];simp
  rw [show t++[a,b,c]=(t++[a])++[b,c] by simp,lxa zM,lta zM]
 have r2:List.drop 0 (List.take (stk.length-1-1) (stk.set (stk.length-1-2) b))=t++[b]:=by
  rw [hl,hs];simp
  rw [show t++[b,b,c]=(t++[b])++[b,c] by simp,lxa zM,lta zM]
 have hd:WG m.most x ⟨flat ps,Zw,Zl⟩ loc stk=⟨⟨flat ps,Zw,Zl⟩,loc,if c=0 then t++[b] else t++[a],0⟩:=by
  unfold WG
  rw [if_neg zO,if_pos ho,hs,Wi,alf,GO zM,Wi,MV,MV,JK]
 rw [hd]
 clear hd
 refine ZN H<|fun p1 w1 H=>Yz H 7 rfl rfl<|ZU zO<|bk<|Z9 rfl<|zG H 0 0 zD<|cF (Z4 zO)<|Z9 rfl<|zG H 0 0 zD<|cT (ZM zN) ?_
 obtain ⟨b1,o1,E1⟩:=H.YQ 7 rfl ((stk.length)-1) zO
 refine ZF E1 zO rfl rfl<|zz (H.el 7 rfl E1 hc) 0 zy ?_
 refine zq (fun c1=>?_) (fun c1=>?_)
 .refine ZU zO<|ZU zO ?_
  obtain ⟨b2,o2,E2⟩:=H.YQ 7 rfl (((stk.length)-1)-1) zO
  refine ZF E2 zO rfl rfl<|zz (H.el 7 rfl E2 hb) 0 zy ?_
  obtain ⟨b3,o3,E3⟩:=H.YQ 7 rfl (((stk.length)-1)-2) zO
  refine ZF E3 zO rfl rfl<|Yg H 7 rfl E3 ha 0 (b) rfl rfl rfl rfl<|fun w2 H=>ZU zO<|Ns H 7 rfl 0 (((stk.length)-1)-1) rfl rfl (by grind) (by grind) (.inl ⟨rfl,rfl⟩) (.inr ⟨_,by first|rfl|(congr 2;(first|omega|(simp only [List.length_append,List.length_set,List.length_cons,List.length_nil];omega)|(simp;omega)|(simp;done)))⟩)<|fun v1 H=>Z5.mk ?_
  refine ⟨0,v1,vp,ps,Zl,loc,List.drop 0 (List.take (stk.length-1-1) (stk.set (stk.length-1-2) b)),?_⟩
  refine ⟨rfl,?_⟩
  constructor
  .exact ⟨rfl,rfl,rfl,rfl,fun _=>by rw [if_pos zN];exact r2⟩
  refine ⟨zO,?_⟩
  exact H.Z7 [7,7,7,7,7,7,7]<|fun H=>H.drop 7<|fun H=>H
 refine ZU zO<|Ns H 7 rfl 0 (((stk.length)-1)-1) rfl rfl zO zO (.inl ⟨rfl,rfl⟩) (.inr ⟨_,by first|rfl|(congr 2;omega)⟩)<|fun v1 H=>Z5.mk ?_
 refine ⟨0,v1,vp,ps,Zl,loc,List.drop 0 (List.take (stk.length-1-1) stk),?_⟩
 refine ⟨rfl,?_⟩
 constructor
 .exact ⟨rfl,rfl,rfl,rfl,fun _=>by rw [if_neg zN];exact r1⟩
 refine ⟨zO,?_⟩
 exact H.Z7 [7,7,7,7,7,7,7]<|fun H=>H.drop 7<|fun H=>H
theorem alr (H:Sat g w (Pt cp (zL m [zI mp,vt,vg]) 158::Pt mp [vp,zJ m.most] 221::Sl 223 256 Xi vp ps::Sl 3 1 ZH vt Zw::Sl 2 1 ZH vg Zl::Sl 2 1 ZH vl loc::Sl 2 1 ZH vs stk::l)) (ho:x.op=32) (hb:0<=x.a/\x.a<loc.length) (hlen:stk.length<=100000) (hp:ps.length<=8):zn 160 #[zI cp,.agg #[.int .u8 x.op,zJ x.a,zJ x.b,Sr],vl,vs] w (fun r w'=>∃e vs' Ti ps' W5 loc' Y0,r=.tuple #[vs',zJ e]/\N7 (WG m.most x ⟨flat ps,Zw,Zl⟩ loc stk) e (flat ps') W5 loc' Y0/\ps'.length<=8/\Sat g w' (Pt cp (zL m [zI mp,vt,vg]) 158::Pt mp [Ti,zJ m.most] 221::Sl 223 256 Xi Ti ps'::Sl 3 1 ZH vt Zw::Sl 2 1 ZH vg W5::Sl 2 1 ZH vl loc'::Sl 2 1 ZH vs' Y0::l)):=by
 refine Fc.of Tryz.func160 rfl k_e ?_
 obtain ⟨i,hi⟩:=lra hb.1
 rw [hi] at hb ⊢
 obtain ⟨y,hy⟩:∃y,loc[i]?=some y:=⟨_,laa zO⟩
 have hd:WG m.most x ⟨flat ps,Zw,Zl⟩ loc stk=⟨⟨flat ps,Zw,Zl⟩,loc,stk++[y],0⟩:=by grind [WG]
 rw [hd]
 clear hd
 refine ZN H<|fun p1 w1 H=>Yz H 7 rfl rfl<|ZU zO<|bk<|Z9 rfl<|zG H 0 0 zD<|cF (Z4 zO)<|Z9 rfl<|zG H 0 0 zD<|cF (Z4 zO)<|Z9 rfl<|zG H 0 0 zD<|cT (ZM zN)<|Z9 rfl<|zG H 0 1 zD ?_
 obtain ⟨b1,o1,E1⟩:=H.YQ 6 rfl (i) zO
 refine ZF E1 rfl rfl rfl<|zz (H.el 6 rfl E1 hy) 0 zy<|ZZ H rfl rfl rfl rfl<|fun p2 w2 H=>WS (ys:=[_]) 8 H 8 rfl (H.at 0 rfl) rfl (fun y _=>rfl) rfl rfl rfl zO zO<|fun v1 w1 H=>Z5.mk ?_
 refine ⟨0,v1,vp,ps,Zl,loc,stk++[y],?_⟩
 refine ⟨rfl,?_⟩
 constructor
 .exact k_u
 refine ⟨zO,?_⟩
 exact H.Z7 [8,8,8,8,8,8,8]<|fun H=>zw H [8,7]<|fun H=>H
theorem als (H:Sat g w (Pt cp (zL m [zI mp,vt,vg]) 158::Pt mp [vp,zJ m.most] 221::Sl 223 256 Xi vp ps::Sl 3 1 ZH vt Zw::Sl 2 1 ZH vg Zl::Sl 2 1 ZH vl loc::Sl 2 1 ZH vs stk::l)) (ho:x.op=33\/x.op=34) (hb:0<=x.a/\x.a<loc.length) (h1:1<=stk.length) (hlen:stk.length<=100000) (hp:ps.length<=8):zn 160 #[zI cp,.agg #[.int .u8 x.op,zJ x.a,zJ x.b,Sr],vl,vs] w (fun r w'=>∃e vs' Ti ps' W5 loc' Y0,r=.tuple #[vs',zJ e]/\N7 (WG m.most x ⟨flat ps,Zw,Zl⟩ loc stk) e (flat ps') W5 loc' Y0/\ps'.length<=8/\Sat g w' (Pt cp (zL m [zI mp,vt,vg]) 158::Pt mp [Ti,zJ m.most] 221::Sl 223 256 Xi Ti ps'::Sl 3 1 ZH vt Zw::Sl 2 1 ZH vg W5::Sl 2 1 ZH vl loc'::Sl 2 1 ZH vs' Y0::l)):=by
 refine Fc.of Tryz.func160 rfl k_e ?_
 obtain ⟨a,ha,IC,HJ⟩:=EX (s:=stk) zO
 obtain ⟨i,hi⟩:=lra hb.1
 rw [hi] at hb ⊢
 obtain ⟨y,hy⟩:∃y,loc[i]?=some y:=⟨_,laa zO⟩
 have hd:WG m.most x ⟨flat ps,Zw,Zl⟩ loc stk=⟨⟨flat ps,Zw,Zl⟩,loc.set i a,if x.op=33 then low stk 1 else stk,0⟩:=by grind [WG]
 rw [hd]
 clear hd
 rcases ho with ho|ho
 .rw [if_pos ho]
  refine ZN H<|fun p1 w1 H=>Yz H 7 rfl rfl<|ZU zO<|bk<|Z9 rfl<|zG H 0 0 zD<|cF (Z4 zO)<|Z9 rfl<|zG H 0 0 zD<|cF (Z4 zO)<|Z9 rfl<|zG H 0 0 zD<|cF (Z4 zO)<|Z9 rfl<|zG H 0 0 zD<|cT (ZM zN)<|ZI H [] [zHp0,zHp1,zHh2,zHp3,zHp4,zHp5,zHh6,zHp7,zHfr8] mixed k_e k_e<|fun w2 H=>zE rfl rfl<|zF 0 1 zD rfl ?_
  obtain ⟨b1,o1,E1⟩:=H.YQ 7 rfl ((stk.length)-1) zO
  refine tk (fun _ Z=>ZF E1 zO rfl rfl zK)<|tk (fun _ Z=>zz (Z.el 7 rfl E1 ha) 0 zy zK) ?_
  obtain ⟨b2,o2,E2⟩:=H.YQ 6 rfl (i) zO
  refine tk (fun _ Z=>ZF E2 rfl rfl rfl zK)<|Yg H 6 rfl E2 hy 0 (a) rfl rfl rfl rfl<|fun w1 H=>Ns H 7 rfl 0 ((stk.length)-1) rfl rfl zO zO (.inl ⟨rfl,rfl⟩) (.inr ⟨_,by first|rfl|(congr 2;omega)⟩)<|fun v1 H=>Z5.mk ?_
  refine ⟨0,v1,vp,ps,Zl,loc.set i a,List.drop 0 (List.take (stk.length-1) stk),?_⟩
  refine ⟨rfl,?_⟩
  constructor
  .exact ⟨rfl,rfl,rfl,rfl,fun _=>JD⟩
  refine ⟨zO,?_⟩
  exact H.Z7 [7,7,7,7,7,7,7]<|fun H=>H.drop 7<|fun H=>H
 .rw [if_neg zO]
  refine ZN H<|fun p1 w1 H=>Yz H 7 rfl rfl<|ZU zO<|bk<|Z9 rfl<|zG H 0 0 zD<|cF (Z4 zO)<|Z9 rfl<|zG H 0 0 zD<|cF (Z4 zO)<|Z9 rfl<|zG H 0 0 zD<|cF (Z4 zO)<|Z9 rfl<|zG H 0 0 zD<|cF (Z4 zO)<|Z9 rfl<|zG H 0 0 zD<|cT (ZM zN)<|ZI H [] [zHp0,zHp1,zHh2,zHp3,zHp4,zHp5,zHh6,zHp7,zHfr8] mixed k_e k_e<|fun w2 H=>zE rfl rfl<|zF 0 1 zD rfl ?_
  obtain ⟨b1,o1,E1⟩:=H.YQ 7 rfl ((stk.length)-1) zO
  refine tk (fun _ Z=>ZF E1 zO rfl rfl zK)<|tk (fun _ Z=>zz (Z.el 7 rfl E1 ha) 0 zy zK) ?_
  obtain ⟨b2,o2,E2⟩:=H.YQ 6 rfl (i) zO
  refine tk (fun _ Z=>ZF E2 rfl rfl rfl zK)<|Yg H 6 rfl E2 hy 0 (a) rfl rfl rfl rfl<|fun w1 H=>Z5.mk ?_
  refine ⟨0,vs,vp,ps,Zl,loc.set i a,stk,?_⟩
  refine ⟨rfl,?_⟩
  constructor
  .exact k_u
  refine ⟨zO,?_⟩
  exact H.Z7 [7,7,7,7,7,7,7]<|fun H=>H.drop 7<|fun H=>H
theorem alu (H:Sat g w (Pt cp (zL m [zI mp,vt,vg]) 158::Pt mp [vp,zJ m.most] 221::Sl 223 256 Xi vp ps::Sl 3 1 ZH vt Zw::Sl 2 1 ZH vg Zl::Sl 2 1 ZH vl loc::Sl 2 1 ZH vs stk::l)) (ho:x.op=35) (hb:0<=x.a/\x.a<Zl.length) (hlen:stk.length<=100000) (hp:ps.length<=8):zn 160 #[zI cp,.agg #[.int .u8 x.op,zJ x.a,zJ x.b,Sr],vl,vs] w (fun r w'=>∃e vs' Ti ps' W5 loc' Y0,r=.tuple #[vs',zJ e]/\N7 (WG m.most x ⟨flat ps,Zw,Zl⟩ loc stk) e (flat ps') W5 loc' Y0/\ps'.length<=8/\Sat g w' (Pt cp (zL m [zI mp,vt,vg]) 158::Pt mp [Ti,zJ m.most] 221::Sl 223 256 Xi Ti ps'::Sl 3 1 ZH vt Zw::Sl 2 1 ZH vg W5::Sl 2 1 ZH vl loc'::Sl 2 1 ZH vs' Y0::l)):=by
 refine Fc.of Tryz.func160 rfl k_e ?_
 obtain ⟨i,hi⟩:=lra hb.1
 rw [hi] at hb ⊢
 obtain ⟨y,hy⟩:∃y,Zl[i]?=some y:=⟨_,laa zO⟩
 have hd:WG m.most x ⟨flat ps,Zw,Zl⟩ loc stk=⟨⟨flat ps,Zw,Zl⟩,loc,stk++[y],0⟩:=by grind [WG]
 rw [hd]
 clear hd
 refine ZN H<|fun p1 w1 H=>Yz H 7 rfl rfl<|ZU zO<|bk<|Z9 rfl<|zG H 0 0 zD<|cF (Z4 zO)<|Z9 rfl<|zG H 0 0 zD<|cF (Z4 zO)<|Z9 rfl<|zG H 0 0 zD<|cF (Z4 zO)<|Z9 rfl<|zG H 0 0 zD<|cF (Z4 zO)<|Z9 rfl<|zG H 0 0 zD<|cF (Z4 zO)<|Z9 rfl<|zG H 0 0 zD<|cT (ZM zN)<|ZI H [] [zHp0,zHp1,zHp2,zHp3,zHh4,zHp5,zHh6,zHp7,zHh8,zHfr9,zHfr10,zHp11,zHp12] mixed k_e k_e<|fun w2 H=>zE rfl rfl<|zF 1 13 zD rfl<|zE rfl rfl<|zF 0 1 zD rfl ?_
 obtain ⟨b1,o1,E1⟩:=H.YQ 5 rfl (i) zO
 refine tk (fun _ Z=>ZF E1 rfl rfl rfl zK)<|tk (fun _ Z=>zz (Z.el 5 rfl E1 hy) 0 zy zK)<|ZZ H rfl rfl rfl rfl<|fun p2 w1 H=>WS (ys:=[_]) 8 H 8 rfl (H.at 0 rfl) rfl (fun y _=>rfl) rfl rfl rfl zO zO<|fun v1 w2 H=>Z5.mk ?_
 refine ⟨0,v1,vp,ps,Zl,loc,stk++[y],?_⟩
 refine ⟨rfl,?_⟩
 constructor
 .exact k_u
 refine ⟨zO,?_⟩
 exact H.Z7 [8,8,8,8,8,8,8]<|fun H=>zw H [8,7]<|fun H=>H
theorem alv (H:Sat g w (Pt cp (zL m [zI mp,vt,vg]) 158::Pt mp [vp,zJ m.most] 221::Sl 223 256 Xi vp ps::Sl 3 1 ZH vt Zw::Sl 2 1 ZH vg Zl::Sl 2 1 ZH vl loc::Sl 2 1 ZH vs stk::l)) (ho:x.op=36) (hb:0<=x.a/\x.a<Zl.length) (h1:1<=stk.length) (hlen:stk.length<=100000) (hp:ps.length<=8):zn 160 #[zI cp,.agg #[.int .u8 x.op,zJ x.a,zJ x.b,Sr],vl,vs] w (fun r w'=>∃e vs' Ti ps' W5 loc' Y0,r=.tuple #[vs',zJ e]/\N7 (WG m.most x ⟨flat ps,Zw,Zl⟩ loc stk) e (flat ps') W5 loc' Y0/\ps'.length<=8/\Sat g w' (Pt cp (zL m [zI mp,vt,vg]) 158::Pt mp [Ti,zJ m.most] 221::Sl 223 256 Xi Ti ps'::Sl 3 1 ZH vt Zw::Sl 2 1 ZH vg W5::Sl 2 1 ZH vl loc'::Sl 2 1 ZH vs' Y0::l)):=by
 refine Fc.of Tryz.func160 rfl k_e ?_
 obtain ⟨a,ha,IC,HJ⟩:=EX (s:=stk) zO
 obtain ⟨i,hi⟩:=lra hb.1
 rw [hi] at hb ⊢
 obtain ⟨y,hy⟩:∃y,Zl[i]?=some y:=⟨_,laa zO⟩
 have hd:WG m.most x ⟨flat ps,Zw,Zl⟩ loc stk=⟨⟨flat ps,Zw,Zl.set i a⟩,loc,low stk 1,0⟩:=by grind [WG]
 rw [hd]
 clear hd
 refine ZN H<|fun p1 w1 H=>Yz H 7 rfl rfl<|ZU zO<|bk<|Z9 rfl<|zG H 0 0 zD<|cF (Z4 zO)<|Z9 rfl<|zG H 0 0 zD<|cF (Z4 zO)<|Z9 rfl<|zG H 0 0 zD<|cF (Z4 zO)<|Z9 rfl<|zG H 0 0 zD<|cF (Z4 zO)<|Z9 rfl<|zG H 0 0 zD<|cF (Z4 zO)<|Z9 rfl<|zG H 0 0 zD<|cF (Z4 zO)<|Z9 rfl<|zG H 0 0 zD<|cT (ZM zN)<|ZI H [] [zHp0,zHp1,zHp2,zHh3,zHp4,zHh5,zHp6,zHp7,zHp8,zHh9,zHp10,zHfr11] mixed k_e k_e<|fun w2 H=>zE rfl rfl<|zF 1 13 zD rfl<|zE rfl rfl<|zF 0 1 zD rfl ?_
 obtain ⟨b1,o1,E1⟩:=H.YQ 7 rfl ((stk.length)-1) zO
 refine tk (fun _ Z=>ZF E1 zO rfl rfl zK)<|tk (fun _ Z=>zz (Z.el 7 rfl E1 ha) 0 zy zK) ?_
 obtain ⟨b2,o2,E2⟩:=H.YQ 5 rfl (i) zO
 refine tk (fun _ Z=>ZF E2 rfl rfl rfl zK)<|Yg H 5 rfl E2 hy 0 (a) rfl rfl rfl rfl<|fun w1 H=>Ns H 7 rfl 0 ((stk.length)-1) rfl rfl zO zO (.inl ⟨rfl,rfl⟩) (.inr ⟨_,by first|rfl|(congr 2;omega)⟩)<|fun v1 H=>Z5.mk ?_
 refine ⟨0,v1,vp,ps,Zl.set i a,loc,List.drop 0 (List.take (stk.length-1) stk),?_⟩
 refine ⟨rfl,?_⟩
 constructor
 .exact ⟨rfl,rfl,rfl,rfl,fun _=>JD⟩
 refine ⟨zO,?_⟩
 exact H.Z7 [7,7,7,7,7,7,7]<|fun H=>H.drop 7<|fun H=>H
theorem alw (H:Sat g w (Pt cp (zL m [zI mp,vt,vg]) 158::Pt mp [vp,zJ m.most] 221::Sl 223 256 Xi vp ps::Sl 3 1 ZH vt Zw::Sl 2 1 ZH vg Zl::Sl 2 1 ZH vl loc::Sl 2 1 ZH vs stk::l)) (ho:x.op=65\/x.op=66) (hlen:stk.length<=100000) (hp:ps.length<=8):zn 160 #[zI cp,.agg #[.int .u8 x.op,zJ x.a,zJ x.b,Sr],vl,vs] w (fun r w'=>∃e vs' Ti ps' W5 loc' Y0,r=.tuple #[vs',zJ e]/\N7 (WG m.most x ⟨flat ps,Zw,Zl⟩ loc stk) e (flat ps') W5 loc' Y0/\ps'.length<=8/\Sat g w' (Pt cp (zL m [zI mp,vt,vg]) 158::Pt mp [Ti,zJ m.most] 221::Sl 223 256 Xi Ti ps'::Sl 3 1 ZH vt Zw::Sl 2 1 ZH vg W5::Sl 2 1 ZH vl loc'::Sl 2 1 ZH vs' Y0::l)):=by
 refine Fc.of Tryz.func160 rfl k_e ?_
 have hd:WG m.most x ⟨flat ps,Zw,Zl⟩ loc stk=⟨⟨flat ps,Zw,Zl⟩,loc,stk++[x.a],0⟩:=by grind [WG]
 rw [hd]
 clear hd
 rcases ho with ho|ho
 .refine ZN H<|fun p1 w1 H=>Yz H 7 rfl rfl<|ZU zO<|bk<|Z9 rfl<|zG H 0 0 zD<|cF (Z4 zO)<|Z9 rfl<|zG H 0 0 zD<|cF (Z4 zO)<|Z9 rfl<|zG H 0 0 zD<|cF (Z4 zO)<|Z9 rfl<|zG H 0 0 zD<|cF (Z4 zO)<|Z9 rfl<|zG H 0 0 zD<|cF (Z4 zO)<|Z9 rfl<|zG H 0 0 zD<|cF (Z4 zO)<|Z9 rfl<|zG H 0 0 zD<|cF (Z4 zO)<|Z9 rfl<|zG H 0 0 zD<|cT (ZM zN)<|cT (ZM zN)<|Z9 rfl<|zG H 0 1 zD<|ZZ H rfl rfl rfl rfl<|fun p2 w2 H=>WS (ys:=[_]) 8 H 8 rfl (H.at 0 rfl) rfl (fun y _=>rfl) rfl rfl rfl zO zO<|fun v1 w1 H=>Z5.mk ?_
  refine ⟨0,v1,vp,ps,Zl,loc,stk++[x.a],?_⟩
  refine ⟨rfl,?_⟩
  constructor
  .exact k_u
  refine ⟨zO,?_⟩
  exact H.Z7 [8,8,8,8,8,8,8]<|fun H=>zw H [8,7]<|fun H=>H
 .refine ZN H<|fun p1 w1 H=>Yz H 7 rfl rfl<|ZU zO<|bk<|Z9 rfl<|zG H 0 0 zD<|cF (Z4 zO)<|Z9 rfl<|zG H 0 0 zD<|cF (Z4 zO)<|Z9 rfl<|zG H 0 0 zD<|cF (Z4 zO)<|Z9 rfl<|zG H 0 0 zD<|cF (Z4 zO)<|Z9 rfl<|zG H 0 0 zD<|cF (Z4 zO)<|Z9 rfl<|zG H 0 0 zD<|cF (Z4 zO)<|Z9 rfl<|zG H 0 0 zD<|cF (Z4 zO)<|Z9 rfl<|zG H 0 0 zD<|cF (Z4 zO)<|Z9 rfl<|zG H 0 0 zD<|cT (ZM zN)<|Z9 rfl<|zG H 0 1 zD<|ZZ H rfl rfl rfl rfl<|fun p2 w2 H=>WS (ys:=[_]) 8 H 8 rfl (H.at 0 rfl) rfl (fun y _=>rfl) rfl rfl rfl zO zO<|fun v1 w1 H=>Z5.mk ?_
  refine ⟨0,v1,vp,ps,Zl,loc,stk++[x.a],?_⟩
  refine ⟨rfl,?_⟩
  constructor
  .exact k_u
  refine ⟨zO,?_⟩
  exact H.Z7 [8,8,8,8,8,8,8]<|fun H=>zw H [8,7]<|fun H=>H
theorem alx (H:Sat g w (Pt cp (zL m [zI mp,vt,vg]) 158::Pt mp [vp,zJ m.most] 221::Sl 223 256 Xi vp ps::Sl 3 1 ZH vt Zw::Sl 2 1 ZH vg Zl::Sl 2 1 ZH vl loc::Sl 2 1 ZH vs stk::l)) (ho:x.op=63) (hlen:stk.length<=100000) (hp:ps.length<=8):zn 160 #[zI cp,.agg #[.int .u8 x.op,zJ x.a,zJ x.b,Sr],vl,vs] w (fun r w'=>∃e vs' Ti ps' W5 loc' Y0,r=.tuple #[vs',zJ e]/\N7 (WG m.most x ⟨flat ps,Zw,Zl⟩ loc stk) e (flat ps') W5 loc' Y0/\ps'.length<=8/\Sat g w' (Pt cp (zL m [zI mp,vt,vg]) 158::Pt mp [Ti,zJ m.most] 221::Sl 223 256 Xi Ti ps'::Sl 3 1 ZH vt Zw::Sl 2 1 ZH vg W5::Sl 2 1 ZH vl loc'::Sl 2 1 ZH vs' Y0::l)):=by
 refine Fc.of Tryz.func160 rfl k_e ?_
 have hd:WG m.most x ⟨flat ps,Zw,Zl⟩ loc stk=⟨⟨flat ps,Zw,Zl⟩,loc,stk++[(ps.length:Int)],0⟩:=by
  unfold WG
  rw [if_neg zO,if_neg zO,if_neg zO,if_neg zO,if_neg zO,if_neg zO,if_neg zO,if_neg zO,if_pos ho,TA]
 rw [hd]
 clear hd
 refine ZN H<|fun p1 w1 H=>Yz H 7 rfl rfl<|ZU zO<|bk<|Z9 rfl<|zG H 0 0 zD<|cF (Z4 zO)<|Z9 rfl<|zG H 0 0 zD<|cF (Z4 zO)<|Z9 rfl<|zG H 0 0 zD<|cF (Z4 zO)<|Z9 rfl<|zG H 0 0 zD<|cF (Z4 zO)<|Z9 rfl<|zG H 0 0 zD<|cF (Z4 zO)<|Z9 rfl<|zG H 0 0 zD<|cF (Z4 zO)<|Z9 rfl<|zG H 0 0 zD<|cF (Z4 zO)<|Z9 rfl<|zG H 0 0 zD<|cF (Z4 zO)<|Z9 rfl<|zG H 0 0 zD<|cF (Z4 zO)<|Z9 rfl<|zG H 0 0 zD<|cT (ZM zN)<|Z9 rfl<|zG H 1 11 zD<|H.Z7 [3,3]<|fun H=>?_
 refine Z8.mk (Fc.imp (Mem.size H) ?_)
 rintro _ w2 ⟨rfl,H⟩
 refine ZZ H rfl rfl rfl rfl<|fun p2 w3 H=>WS (ys:=[_]) 8 H 8 rfl (H.at 0 rfl) rfl (fun y _=>rfl) rfl rfl rfl zO zO<|fun v1 w2 H=>Z5.mk ?_
 refine ⟨0,v1,vp,ps,Zl,loc,stk++[(↑ps.length:Int)],?_⟩
 refine ⟨rfl,?_⟩
 constructor
 .exact k_u
 refine ⟨zO,?_⟩
 exact H.Z7 [8,8,8,8,6,6,8]<|fun H=>zw H [8,7]<|fun H=>H
theorem aly (H:Sat g w (Pt cp (zL m [zI mp,vt,vg]) 158::Pt mp [vp,zJ m.most] 221::Sl 223 256 Xi vp ps::Sl 3 1 ZH vt Zw::Sl 2 1 ZH vg Zl::Sl 2 1 ZH vl loc::Sl 2 1 ZH vs stk::l)) (ho:x.op=64) (h1:1<=stk.length) (T3:∀v∈stk,XC v) (hm:ps.length<=m.most/\m.most<=8) (hlen:stk.length<=100000) (hp:ps.length<=8):zn 160 #[zI cp,.agg #[.int .u8 x.op,zJ x.a,zJ x.b,Sr],vl,vs] w (fun r w'=>∃e vs' Ti ps' W5 loc' Y0,r=.tuple #[vs',zJ e]/\N7 (WG m.most x ⟨flat ps,Zw,Zl⟩ loc stk) e (flat ps') W5 loc' Y0/\ps'.length<=8/\Sat g w' (Pt cp (zL m [zI mp,vt,vg]) 158::Pt mp [Ti,zJ m.most] 221::Sl 223 256 Xi Ti ps'::Sl 3 1 ZH vt Zw::Sl 2 1 ZH vg W5::Sl 2 1 ZH vl loc'::Sl 2 1 ZH vs' Y0::l)):=by
 refine Fc.of Tryz.func160 rfl k_e ?_
 obtain ⟨a,ha,IC,HJ⟩:=EX (s:=stk) zO
 have EW:=T3 a HJ
 have hd:WG m.most x ⟨flat ps,Zw,Zl⟩ loc stk=(if m.most-(ps.length:Int)<a % 4294967296 then ⟨⟨flat ps,Zw,Zl⟩,loc,low stk 1++[-1],0⟩ else ⟨⟨flat ps++List.replicate (256 * (a % 4294967296).toNat) 0,Zw,Zl⟩,loc,low stk 1++[(ps.length:Int)],0⟩):=by
  unfold WG
  rw [if_neg zO,if_neg zO,if_neg zO,if_neg zO,if_neg zO,if_neg zO,if_neg zO,if_neg zO,if_neg zO,if_pos ho,IC,TA]
 rw [hd]
 clear hd
 refine ZN H<|fun p1 w1 H=>Yz H 7 rfl rfl<|ZU zO<|bk<|Z9 rfl<|zG H 0 0 zD<|cF (Z4 k_g)<|Z9 rfl<|zG H 0 0 zD<|cF (Z4 k_g)<|Z9 rfl<|zG H 0 0 zD<|cF (Z4 k_g)<|Z9 rfl<|zG H 0 0 zD<|cF (Z4 k_g)<|Z9 rfl<|zG H 0 0 zD<|cF (Z4 k_g)<|Z9 rfl<|zG H 0 0 zD<|cF (Z4 k_g)<|Z9 rfl<|zG H 0 0 zD<|cF (Z4 k_g)<|Z9 rfl<|zG H 0 0 zD<|cF (Z4 k_g)<|Z9 rfl<|zG H 0 0 zD<|cF (Z4 k_g)<|Z9 rfl<|zG H 0 0 zD<|cF (Z4 k_g)<|Z9 rfl<|zG H 0 0 zD<|cT (ZM k_g)<|ZI H [] [zHp0,zHp1,zHp2,zHp3,zHp4,zHh5,zHp6,zHp7,zHp8,zHh9,zHfr10,zHp11,zHfr12] mixed k_e k_e<|fun w2 H=>zE rfl rfl<|zF 1 11 zD rfl ?_
 obtain ⟨b1,o1,E1⟩:=H.YQ 7 rfl ((stk.length)-1) zO
 refine tk (fun _ Z=>ZF E1 zO rfl rfl zK)<|tk (fun _ Z=>zz (Z.el 7 rfl E1 ha) 0 zy zK)<|H.Z7 [3,3]<|fun H=>?_
 refine Z8.mk (Fc.imp (Mem.grow H _ ?_ ?_ ?_) ?_)
 .exact k_g
 .exact k_g
 .exact k_g
 rintro _ w1 ⟨e1,⟨v'1,⟨Qp,⟨rfl,⟨(⟨h2,⟨h3,h4⟩⟩|⟨h5,⟨h6,h7⟩⟩),H⟩⟩⟩⟩⟩
 .refine tk (fun _ Z=>ZF E1 zO rfl rfl zK)<|Yg H 7 rfl E1 ha 0 (e1) rfl rfl rfl rfl<|fun w3 H=>Z5.mk ?_
  refine ⟨0,vs,v'1,Qp,Zl,loc,stk.set (stk.length-1) e1,?_⟩
  refine ⟨rfl,?_⟩
  constructor
  .exact gr0 h1 zO zN zN
  constructor
  .exact k_g
  exact H.Z7 [7,7,7,7,5,5,7]<|fun H=>H.drop 7<|fun H=>H
 refine tk (fun _ Z=>ZF E1 zO rfl rfl zK)<|Yg H 7 rfl E1 ha 0 (e1) rfl rfl rfl rfl<|fun w3 H=>Z5.mk ?_
 refine ⟨0,vs,v'1,Qp,Zl,loc,stk.set (stk.length-1) e1,?_⟩
 refine ⟨rfl,?_⟩
 constructor
 .exact gr1 h1 zO zN zN
 constructor
 .exact k_g
 exact H.Z7 [7,7,7,7,5,5,7]<|fun H=>H.drop 7<|fun H=>H
theorem alz (H:Sat g w (Pt cp (zL m [zI mp,vt,vg]) 158::Pt mp [vp,zJ m.most] 221::Sl 223 256 Xi vp ps::Sl 3 1 ZH vt Zw::Sl 2 1 ZH vg Zl::Sl 2 1 ZH vl loc::Sl 2 1 ZH vs stk::l)) (ho:36<x.op/\x.op<=255) (hw:0<wid x.op) (T3:∀v∈stk,XC v) (hn:UJ x.op<=stk.length) (hb:0<=x.b/\x.b<=4294967295) (hlen:stk.length<=100000) (hp:ps.length<=8):zn 160 #[zI cp,.agg #[.int .u8 x.op,zJ x.a,zJ x.b,Sr],vl,vs] w (fun r w'=>∃e vs' Ti ps' W5 loc' Y0,r=.tuple #[vs',zJ e]/\N7 (WG m.most x ⟨flat ps,Zw,Zl⟩ loc stk) e (flat ps') W5 loc' Y0/\ps'.length<=8/\Sat g w' (Pt cp (zL m [zI mp,vt,vg]) 158::Pt mp [Ti,zJ m.most] 221::Sl 223 256 Xi Ti ps'::Sl 3 1 ZH vt Zw::Sl 2 1 ZH vg W5::Sl 2 1 ZH vl loc'::Sl 2 1 ZH vs' Y0::l)):=by
 refine Fc.of Tryz.func160 rfl k_e ?_
 have Cz:=RW hw
 have B8:=Rl x.op
 have hd:WG m.most x ⟨flat ps,Zw,Zl⟩ loc stk=_:=rfl
 rw [hd]
 clear hd
 refine ZN H<|fun p1 w1 H=>Yz H 7 rfl rfl<|ZU zO<|bk<|Z9 rfl<|zG H 0 0 zD<|cF (Z4 zO)<|Z9 rfl<|zG H 0 0 zD<|cF (Z4 zO)<|Z9 rfl<|zG H 0 0 zD<|cF (Z4 zO)<|Z9 rfl<|zG H 0 0 zD<|cF (Z4 zO)<|Z9 rfl<|zG H 0 0 zD<|cF (Z4 zO)<|Z9 rfl<|zG H 0 0 zD<|cF (Z4 zO)<|Z9 rfl<|zG H 0 0 zD<|cF (Z4 zO)<|Z9 rfl<|zG H 0 0 zD<|cF (Z4 zO)<|Z9 rfl<|zG H 0 0 zD<|cF (Z4 zO)<|Z9 rfl<|zG H 0 0 zD<|cF (Z4 zO)<|Z9 rfl<|zG H 0 0 zD<|cF (Z4 zO)<|Z9 rfl<|zG H 0 0 zD ?_
 refine Z8.mk (Fc.imp (YZ.La _ _) ?_)
 rintro _ _ ⟨⟨r1,⟨rfl,h1⟩⟩,rfl⟩
 refine cT (Y9 zO)<|ZK (H.at 0 rfl) 0 rfl rfl rfl<|H.Z7 [7,6,6,6,6,6]<|fun H=>?_
 refine Z8.mk (Fc.imp (Rn.alo H zO zO zO zO zO zO zO) ?_)
 rintro _ w2 ⟨e1,⟨Zx,⟨Qp,⟨Tz,⟨rfl,⟨h2,⟨h3,H⟩⟩⟩⟩⟩⟩⟩
 refine Z5.mk ?_
 refine ⟨e1,Zx,vp,Qp,Zl,loc,Tz,?_⟩
 refine ⟨rfl,?_⟩
 constructor
 .grind
 refine ⟨zO,?_⟩
 exact H.Z7 [5,7,6,6,6,6,6]<|fun H=>H.drop 7<|fun H=>H
theorem alA (H:Sat g w (Pt cp (zL m [zI mp,vt,vg]) 158::Pt mp [vp,zJ m.most] 221::Sl 223 256 Xi vp ps::Sl 3 1 ZH vt Zw::Sl 2 1 ZH vg Zl::Sl 2 1 ZH vl loc::Sl 2 1 ZH vs stk::l)) (ho:36<x.op/\x.op<=255) (hw:¬0<wid x.op) (hq:(Xk x.op).2.2=true) (c1:x.op≠63/\x.op≠64/\x.op≠65/\x.op≠66) (T3:∀v∈stk,XC v) (hn:UJ x.op<=stk.length) (hT:Fold.ID g) (hlen:stk.length<=100000) (hp:ps.length<=8):zn 160 #[zI cp,.agg #[.int .u8 x.op,zJ x.a,zJ x.b,Sr],vl,vs] w (fun r w'=>∃e vs' Ti ps' W5 loc' Y0,r=.tuple #[vs',zJ e]/\N7 (WG m.most x ⟨flat ps,Zw,Zl⟩ loc stk) e (flat ps') W5 loc' Y0/\ps'.length<=8/\Sat g w' (Pt cp (zL m [zI mp,vt,vg]) 158::Pt mp [Ti,zJ m.most] 221::Sl 223 256 Xi Ti ps'::Sl 3 1 ZH vt Zw::Sl 2 1 ZH vg W5::Sl 2 1 ZH vl loc'::Sl 2 1 ZH vs' Y0::l)):=by
 refine Fc.of Tryz.func160 rfl k_e ?_
 have B8:=Rl x.op
 obtain ⟨n1,n2,n3⟩:=acX hq hw c1.1 c1.2.1 c1.2.2.1 c1.2.2.2
 have hnn:(Xk x.op).1.length=1\/(Xk x.op).1.length=2:=by
  rw [n2]
  by_cases h:(XV x.op).1.length=1
  .omega
  .exact .inr (acW (a:=0) (b:=0) n1 h).2.2.2
 unfold UJ at hn
 rw [if_neg zO,if_neg zO,if_pos zO] at hn
 have hd:WG m.most x ⟨flat ps,Zw,Zl⟩ loc stk=(if (Xk x.op).1.length=1 then ⟨⟨flat ps,Zw,Zl⟩,loc,low stk 1++[(Xw.UT x.op (top stk 0)).1],(Xw.UT x.op (top stk 0)).2⟩ else ⟨⟨flat ps,Zw,Zl⟩,loc,low stk 2++[(Xw.UU x.op (top stk 1) (top stk 0)).1],(Xw.UU x.op (top stk 1) (top stk 0)).2⟩):=by grind [WG]
 rw [hd]
 clear hd
 refine ZN H<|fun p1 w1 H=>Yz H 7 rfl rfl<|ZU zO<|bk<|Z9 rfl<|zG H 0 0 zD<|cF (Z4 zO)<|Z9 rfl<|zG H 0 0 zD<|cF (Z4 zO)<|Z9 rfl<|zG H 0 0 zD<|cF (Z4 zO)<|Z9 rfl<|zG H 0 0 zD<|cF (Z4 zO)<|Z9 rfl<|zG H 0 0 zD<|cF (Z4 zO)<|Z9 rfl<|zG H 0 0 zD<|cF (Z4 zO)<|Z9 rfl<|zG H 0 0 zD<|cF (Z4 zO)<|Z9 rfl<|zG H 0 0 zD<|cF (Z4 zO)<|Z9 rfl<|zG H 0 0 zD<|cF (Z4 zO)<|Z9 rfl<|zG H 0 0 zD<|cF (Z4 zO)<|Z9 rfl<|zG H 0 0 zD<|cF (Z4 zO)<|Z9 rfl<|zG H 0 0 zD ?_
 refine Z8.mk (Fc.imp (YZ.La _ _) ?_)
 rintro _ _ ⟨⟨r1,⟨rfl,h1⟩⟩,rfl⟩
 refine cF (Zj zO)<|Z9 rfl<|zG H 0 0 zD<|H.Z7 [7]<|fun H=>?_
 refine Z8.mk (Fc.imp (Rn.agU H zO _ zO zO zO zO zO) ?_)
 rintro _ w2 ⟨Zx,⟨Tz,⟨e1,⟨rfl,⟨h2,H⟩⟩⟩⟩⟩
 refine Z5.mk ?_
 refine ⟨e1,Zx,vp,ps,Zl,loc,Tz,?_⟩
 refine ⟨rfl,?_⟩
 constructor
 .exact an9 zN
 refine ⟨zO,?_⟩
 exact H.Z7 [0,7,7,7,7,7,7]<|fun H=>H.drop 7<|fun H=>H
end
end Rn
namespace WZ
open Go Y2 Go.RowKit
open YZ Zn X4 YS Valid
section
variable {g:ZB} {w:World} {l:List As} {m:Zg}
theorem within (H:Sat g w l) (a many all:Int) (ha:-2147483648<=a/\a<=2147483647) (hm:0<=many/\many<=1000000) (hl:0<=all/\all<=1000000):zn 43 #[zJ a,zJ many,zJ all] w (fun r w'=>∃b,r=.bool b/\(b=true↔(0<=a/\a+many<=all))/\Sat g w' l):=by
 refine Fc.of Tryz.func43 rfl k_e<|Yq rfl rfl<|Xn zO rfl rfl<|ZU zO<|Z5.mk ?_
 exact ⟨_,rfl,by simp [YM];omega,H⟩
end
end WZ
namespace WZ
open Go Y2 Go.RowKit
open YZ Zn X4 YS Valid
section
variable {g:ZB} {w:World} {l:List As} {m:Zg}
theorem afj {l:zm} {i:Nat} (h:l=List.replicate i (-1)):l++[-1]=List.replicate (i+1) (-1):=by
 rw [h,List.replicate_succ']
theorem afk {l:zm} {xs:List (Int × Bool × Int)} {i:Nat} {x:Int × Bool × Int} (h:l=(xs.take i).map (·.2.2)) (hx:xs[i]?=some x):l++[x.2.2]=(xs.take (i+1)).map (·.2.2):=by grind [List.take_add_one]
theorem ahJ {x:R5} (h:Fw x.d=0):(-2147483648<=x.pl/\x.pl<=2147483647)/\x.fs.length<=16:=by
 unfold Fw at h
 obtain ⟨h1,h2⟩:=Zk.1 h
 have h3:=(VI.1 h2).1
 unfold OB at h1
 by_cases hq:-2147483648<=x.d.1/\x.d.1<=2147483647
 .exact ⟨hq,by have:x.d.2.length=x.fs.length:=rfl;omega⟩
 .omega
theorem alB {x:Int × zl} (h:Mm x=0):(-2147483648<=x.1/\x.1<=2147483647)/\x.2.length<=64:=by
 unfold Mm at h
 obtain ⟨h1,h2⟩:=Zk.1 h
 unfold OB at h1
 unfold L5 at h2
 refine ⟨zO,?_⟩
 .omega
theorem alC (H:Sat g w l) (hT:M9 g) (hm:Xu g m):zn 14 #[.agg (zL m []).toArray] w (fun r w'=>∃(g':ZB) (mem:zl) (ts gs:zm) (vt vg:Value) (e:Int),r=.tuple #[.agg #[.string (bs mem),vt,vg],zJ e]/\Ext g g'/\Z6 g' ZH WV 1 vt ts/\Z6 g' ZH WV 1 vg gs/\Ff m mem ts gs e/\Sat g' w' l):=by
 refine Fc.of Tryz.func14 rfl k_e ?_
 have ZQ:=hm.types
 have ZP:=hm.funcs
 have Zh:=hm.globals
 have Zv:=hm.Zz
 have XD:=hm.VV
 have XO:=hm.elems
 have VG:=hm.data
 by_cases h0:Wv m.d=0
 .obtain ⟨Ak,hI,Bi⟩:=Uc (W0 h0).1
  have P:=Uw Ak
  have ac2:=P.table
  have ac3:=P.pages
  have ai3:=P.most
  have ady:=P.globals
  have amH:=P.elems
  have aoa:=P.data
  obtain ⟨tb,htb⟩:=lra ac2.1
  obtain ⟨pg,hpg⟩:=lra ac3.1
  refine ZN H<|fun p1 w1 H=>ZX H rfl<|fun p2 w2 H=>ZK (H.at 1 rfl) 0 rfl rfl rfl ?_
  refine Z8.mk (Fc.imp (Valid.RZ H zO zO) ?_)
  rintro _ w1 ⟨e1,⟨rfl,⟨h1,H⟩⟩⟩
  refine cF (Xa zO)<|Z9 rfl<|zG H 1 9 zD<|ZD XO rfl ?_
  refine YO.rule (α:=Nat) (0) (fun x_=>[(24,zJ x_)]) (fun x_ w_=>(x_<=m.elems.length)/\(AI (fun x:R5=>Fg x.pl x.fs.length m.table) m.elems x_)/\Sat g w_ ((Pt p2 [.string (bs []),.slice none 0 0,.slice none 0 0] 34::Pt p1 (zL m []) 30::l))) (fun x_=>m.elems.length-x_) ?_ ?_ ?_
  .exact k_a
  .try simp only
   refine ⟨zO,?_⟩
   constructor
   .exact AI.zero
   exact H
  rintro i f_ w_ ⟨hi,hA,H⟩
  try simp only at hi hA H ⊢
  rcases lBa i m.elems.length with hlt|hge
  .obtain ⟨x,hx⟩:∃x,m.elems[i]?=some x:=⟨_,laa hlt⟩
   have Ih:=lda hx
   have KM:=Z6.all XO x Ih
   have Qz:=KM.fs
   have Ij:=ahJ (P.IV x Ih)
   refine cT (Y9 zO)<|bk ?_
   obtain ⟨b1,o1,E1,F1,ZC⟩:=Z6.YQ XO hx
   have PE:=ZC.pl
   have VH:=ZC.fs
   refine ZF E1 rfl rfl rfl<|ZK (H.X9 F1) 0 rfl rfl rfl<|ZX H rfl<|fun p3 w3 H=>ZJ H 0 rfl rfl rfl (by simp only [List.all_cons,List.all_nil,Z6.one VH,Z6.one Qz,Z6.one VG,Z6.one XO,Z6.one XD,Z6.one Zv,Z6.one Zh,Z6.one ZP,Z6.one ZQ];rfl)<|fun w4 H=>Z9 rfl<|zG H 0 0 zD<|Z9 rfl<|zG H 0 1 zD<|ZD VH rfl<|Z9 rfl<|zG H 2 3 zD ?_
   refine Z8.mk (Fc.imp (WZ.within H _ _ _ zO zO zO) ?_)
   rintro _ w3 ⟨b2,⟨rfl,⟨h2,H⟩⟩⟩
   refine cI (fun c1=>?_) (fun c1=>?_)
   .replace c1:=Tq h2 (SH (c1))
    exact Zq rfl rfl rfl<|ZJ H 1 rfl rfl rfl rfl<|fun w5 H=>XF (H.at 1 rfl) 0 rfl rfl rfl<|Z5.mk<|⟨g,[],[],[],_,_,_,rfl,Ext.refl _,Z6.OJ _ _ _ _,Z6.OJ _ _ _ _,mk2 zO hA hx zO,((H.del 0).del 0).del 0⟩
   replace c1:=h2.1 (SG (c1))
   refine ZU zO ?_
   refine WM.mk (i+1) (Zr rfl zO (ZV)) ?_ ?_
   .refine ⟨zO,?_⟩
    constructor
    .exact hA.step hx (JM.2 zO)
    exact H.Z7 [2,2]<|fun H=>H.drop 2<|fun H=>H
   omega
  .have hE:=hA.fin hge
   refine cF (Zj zO)<|Z9 rfl<|zG H 1 4 zD<|ZU zO<|R9 (en:=SV) (s:=1) H ((0:UInt8)) ((m.pages * 256).toNat) ((m.pages * 256).toNat) 1 rfl rfl rfl (fun _=>rfl) zO zO zO zO zO<|fun v1 w3 H=>Z9 rfl<|zG H 2 10 zD<|ZD VG rfl ?_
   rw [show (m.pages * 256).toNat=256 * m.pages.toNat by omega] at H
   refine YO.rule (α:=Nat × zl) (0,List.replicate (256 * m.pages.toNat) 0) (fun x_=>[(46,zJ x_.1)]) (fun x_ w_=>(x_.1<=m.data.length)/\(AI (fun x:Int × zl=>Fg x.1 x.2.length (m.pages * 256)) m.data x_.1)/\(LM (256 * m.pages.toNat) m.data x_.1 x_.2)/\Sat g w_ ((Sl 5 1 SV v1 x_.2::Pt p2 [.string (bs []),.slice none 0 0,.slice none 0 0] 34::Pt p1 (zL m []) 30::l))) (fun x_=>m.data.length-x_.1) ?_ ?_ ?_
   .exact k_a
   .try simp only
    refine ⟨zO,?_⟩
    constructor
    .exact AI.zero
    constructor
    .exact LM.zero
    exact H
   rintro ⟨i2,cur⟩ f_ w_ ⟨hi2,hB,hL,H⟩
   try simp only at hi2 hB hL H ⊢
   have Sf:=hL.len
   rcases lBa i2 m.data.length with KZ|KW
   .obtain ⟨x,hx⟩:∃x,m.data[i2]?=some x:=⟨_,laa KZ⟩
    have Ih:=lda hx
    have KM:=Z6.all VG x Ih
    have Ij:=alB (P.akO x Ih)
    refine cT (Y9 zO)<|bk ?_
    obtain ⟨b1,o1,E1,F1,ZC⟩:=Z6.YQ VG hx
    have PE:=ZC.pl
    have acp:=ZC.bytes
    refine ZF E1 rfl rfl rfl<|ZK (H.X9 F1) 0 rfl rfl rfl<|ZX H rfl<|fun p3 w4 H=>ZJ H 0 rfl rfl rfl rfl<|fun w5 H=>Z9 rfl<|zG H 0 0 zD<|Z9 rfl<|zG H 0 1 zD<|XE rfl<|Yz H 1 rfl rfl ?_
    refine Z8.mk (Fc.imp (WZ.within H _ _ _ zO zO zO) ?_)
    rintro _ w4 ⟨b2,⟨rfl,⟨h2,H⟩⟩⟩
    refine cI (fun c1=>?_) (fun c1=>?_)
    .replace c1:=Tq h2 (SH (c1))
     exact Zq rfl rfl rfl<|ZJ H 2 rfl rfl rfl rfl<|fun w6 H=>XF (H.at 2 rfl) 0 rfl rfl rfl<|Z5.mk<|⟨g,[],[],[],_,_,_,rfl,Ext.refl _,Z6.OJ _ _ _ _,Z6.OJ _ _ _ _,mk3 zO hE hB hx zO,(((H.del 0).del 0).del 0).del 0⟩
    replace c1:=h2.1 (SG (c1))
    refine ZI H [] [zHp0,zHp1,zHh2,zHp3,zHp4,zHh5,zHfr6] mixed k_e k_e<|fun w6 H=>zE rfl rfl<|zF 0 0 zD rfl ?_
    obtain ⟨v2,V1⟩:=H.vw 1 rfl ((x.fst).toNat) ((cur).length) zO zO
    refine tk (fun _ Z=>Wl V1 rfl rfl (.inr ⟨_,by first|rfl|(congr 2;omega)⟩) (.inl zK) zK)<|zE rfl rfl<|zF 0 1 zD rfl<|agi H 1 rfl V1 zO rfl rfl<|fun w9 H=>ZU zO ?_
    refine WM.mk ((i2+1,List.take x.fst.toNat cur++x.snd++List.drop (x.fst.toNat+x.snd.length) cur)) (Zr rfl zO (ZV)) ?_ ?_
    .refine ⟨zO,?_⟩
     constructor
     .exact hB.step hx (JM.2 zO)
     constructor
     .exact hL.step hx zO
     exact H.Z7 [3,3,3]<|fun H=>H.drop 3<|fun H=>H
    omega
   .have hD:=hB.fin KW
    have hmem:=hL.fin KW
    refine cF (Zj zO)<|ZX H rfl<|fun p3 w4 H=>Z9 rfl<|zG H 3 3 zD ?_
    replace H:=H.U4 (en:=ZH) (s:=1) 3 (fun _=>rfl)
    have ao3:m.table.toNat=tb:=by omega
    refine YO.rule (α:=Nat × Value × zm) (0,.slice none 0 0,[]) (fun x_=>[(70,zJ x_.1)]) (fun x_ w_=>(x_.1<=tb)/\(x_.2.2=List.replicate x_.1 (-1))/\Sat g w_ ((Sl 3 1 ZH x_.2.1 x_.2.2::Pt p3 [.string (bs []),x_.2.1,.slice none 0 0] 34::Sl 5 1 SV v1 cur::Pt p2 [.string (bs []),.slice none 0 0,.slice none 0 0] 34::Pt p1 (zL m []) 30::l))) (fun x_=>tb-x_.1) ?_ ?_ ?_
    .exact k_a
    .try simp only
     refine ⟨zO,?_⟩
     constructor
     .simp
     exact H
    rintro ⟨i3,vt,tc⟩ f_ w_ ⟨AF,Ds,H⟩
    try simp only at AF Ds H ⊢
    have Nc:tc.length=i3:=by grind
    rcases lBa i3 tb with akU|akV
    .refine cT (Y9 zO)<|bk<|Z9 rfl<|zG H 1 1 zD<|ZZ H rfl rfl rfl rfl<|fun p4 w5 H=>WS (ys:=[_]) 8 H 1 rfl (H.at 0 rfl) rfl (fun y _=>rfl) rfl rfl rfl zO zO<|fun v2 w6 H=>Z9 rfl<|Yc H 2 rfl rfl rfl (H.one 1 rfl)<|fun w5 H=>ZU zO ?_
     refine WM.mk ((i3+1,v2,tc++[-1])) (Zr rfl zO (ZV)) ?_ ?_
     .refine ⟨zO,?_⟩
      constructor
      .exact afj Ds
      exact H.Z7 [5,5,5,5,5]<|fun H=>H.drop 5<|fun H=>H
     omega
    .have aob:i3=m.table.toNat:=by omega
     have hLT:LT m.table.toNat m.elems 0 tc:=by
      rw [Ds,aob];exact LT.zero
     refine cF (Zj zO)<|Z9 rfl<|zG H 4 9 zD<|ZD XO rfl ?_
     refine YO.rule (α:=Nat × zm) (0,tc) (fun x_=>[(81,zJ x_.1)]) (fun x_ w_=>(x_.1<=m.elems.length)/\(LT m.table.toNat m.elems x_.1 x_.2)/\Sat g w_ ((Sl 3 1 ZH vt x_.2::Pt p3 [.string (bs []),vt,.slice none 0 0] 34::Sl 5 1 SV v1 cur::Pt p2 [.string (bs []),.slice none 0 0,.slice none 0 0] 34::Pt p1 (zL m []) 30::l))) (fun x_=>m.elems.length-x_.1) ?_ ?_ ?_
     .exact k_a
     .grind
     rintro ⟨i4,tu⟩ f_ w_ ⟨hi4,hJ,H⟩
     try simp only at hi4 hJ H ⊢
     have ao4:=hJ.len
     rcases lBa i4 m.elems.length with aoc|alD
     .obtain ⟨x,hx⟩:∃x,m.elems[i4]?=some x:=⟨_,laa aoc⟩
      have Ih:=lda hx
      have KM:=Z6.all XO x Ih
      have Qz:=KM.fs
      have Ij:=ahJ (P.IV x Ih)
      have aoN:=JM.1 (Ue.1 hE x Ih)
      refine cT (Y9 zO)<|bk ?_
      obtain ⟨b1,o1,E1,F1,ZC⟩:=Z6.YQ XO hx
      have PE:=ZC.pl
      have VH:=ZC.fs
      refine ZF E1 rfl rfl rfl<|ZK (H.X9 F1) 0 rfl rfl rfl<|ZX H rfl<|fun p4 w5 H=>ZJ H 0 rfl rfl rfl (by simp only [List.all_cons,List.all_nil,H.one 1 rfl,H.one 3 rfl,Z6.one VH,Z6.one Qz,Z6.one VG,Z6.one XO,Z6.one XD,Z6.one Zv,Z6.one Zh,Z6.one ZP,Z6.one ZQ];rfl)<|fun w6 H=>ZI H [] [zHp0,zHh1,zHp2,zHh3,zHp4,zHp5,zHh6,zHfr7] mixed k_e k_e<|fun w5 H=>zE rfl rfl<|zF 2 1 zD rfl<|zE rfl rfl<|zF 0 0 zD rfl ?_
      obtain ⟨v2,V1⟩:=H.vw 1 rfl ((x.pl).toNat) ((tu).length) zO zO
      refine tk (fun _ Z=>Wl V1 rfl rfl (.inr ⟨_,by first|rfl|(congr 2;omega)⟩) (.inl zK) zK)<|zE rfl rfl<|zF 0 1 zD rfl<|agj H 1 rfl V1 (H.rd Qz) zO (fun y _=>rfl) rfl rfl<|fun w9 H=>ZU zO ?_
      refine WM.mk ((i4+1,List.take x.pl.toNat tu++x.fs++List.drop (x.pl.toNat+x.fs.length) tu)) (Zr rfl zO (ZV)) ?_ ?_
      .refine ⟨zO,?_⟩
       constructor
       .exact hJ.step hx zO (Z6.all Qz)
       exact H.Z7 [5,5,5,5,5]<|fun H=>H.drop 5<|fun H=>H
      omega
     .have Rh:=hJ.fin alD
      refine cF (Zj zO)<|Z9 rfl<|zG H 4 6 zD<|ZD Zh rfl ?_
      replace H:=H.U4 (en:=ZH) (s:=1) 2 (fun _=>rfl)
      refine YO.rule (α:=Nat × Value × zm) (0,.slice none 0 0,[]) (fun x_=>[(97,zJ x_.1)]) (fun x_ w_=>(x_.1<=m.globals.length)/\(x_.2.2=(m.globals.take x_.1).map (·.2.2))/\Sat g w_ ((Sl 2 1 ZH x_.2.1 x_.2.2::Sl 3 1 ZH vt tu::Pt p3 [.string (bs []),vt,x_.2.1] 34::Sl 5 1 SV v1 cur::Pt p2 [.string (bs []),.slice none 0 0,.slice none 0 0] 34::Pt p1 (zL m []) 30::l))) (fun x_=>m.globals.length-x_.1) ?_ ?_ ?_
      .exact k_a
      .grind
      rintro ⟨i5,vg,gc⟩ f_ w_ ⟨hi5,hG,H⟩
      try simp only at hi5 hG H ⊢
      have hgl:gc.length=i5:=by grind
      rcases lBa i5 m.globals.length with alE|aod
      .obtain ⟨x,hx⟩:∃x,m.globals[i5]?=some x:=⟨_,laa alE⟩
       have KM:=Z6.all Zh x (lda hx)
       have aoO:=KM.start
       refine cT (Y9 zO)<|bk ?_
       obtain ⟨b1,o1,E1,F1,ZC⟩:=Z6.YQ Zh hx
       have QU:=ZC.kind
       have R4:=ZC.start
       refine ZF E1 rfl rfl rfl<|ZK (H.X9 F1) 0 rfl rfl rfl<|ZX H rfl<|fun p4 w5 H=>ZJ H 0 rfl rfl rfl rfl<|fun w6 H=>Z9 rfl<|zG H 3 2 zD<|Z9 rfl<|zG H 0 2 zD<|ZZ H rfl rfl rfl rfl<|fun p5 w5 H=>WS (ys:=[_]) 8 H 2 rfl (H.at 0 rfl) rfl (fun y _=>rfl) rfl rfl rfl zO zO<|fun v2 w6 H=>Z9 rfl<|Yc H 4 rfl rfl rfl (H.one 2 rfl)<|fun w5 H=>ZU zO ?_
       refine WM.mk ((i5+1,v2,gc++[x.snd.snd])) (Zr rfl zO (ZV)) ?_ ?_
       .refine ⟨zO,?_⟩
        constructor
        .exact afk hG hx
        exact H.Z7 [7,7,7,7,7,7]<|fun H=>zw H [7,6]<|fun H=>H
       omega
      .have QI:gc=m.globals.map (·.2.2):=by grind
       have hgo:∀y∈gc,XC y:=fun y hy=>by
        rw [QI] at hy
        obtain ⟨z,hz,rfl⟩:=lWa.1 hy
        exact (Z6.all Zh z hz).start
       refine cF (Zj zO)<|Sa H 3 rfl rfl rfl rfl<|Z9 rfl<|Yc H 2 rfl rfl rfl rfl<|fun w5 H=>ZK (H.at 2 rfl) 0 rfl rfl rfl<|ZJ H 4 rfl rfl rfl (by simp only [List.all_cons,List.all_nil,H.one 0 rfl,H.one 1 rfl,H.one 3 rfl,Z6.one VG,Z6.one XO,Z6.one XD,Z6.one Zv,Z6.one Zh,Z6.one ZP,Z6.one ZQ];rfl)<|fun w6 H=>XF (H.at 4 rfl) 0 rfl rfl rfl<|H.Vn 0 WV rfl hgo<|fun g1 e1 Aj H=>H.Vn 0 WV rfl hJ.ok<|fun g2 e2 htF H=>?_
       replace Aj:=Aj.ext e2
       have E:=e1.trans e2
       exact Z5.mk<|⟨g2,_,_,_,_,_,_,rfl,E,htF,Aj,mk4 h0.symm hE hD hmem Rh QI,(((H.del 0).del 0).del 0).del 0⟩
 .refine ZN H<|fun p1 w1 H=>ZX H rfl<|fun p2 w2 H=>ZK (H.at 1 rfl) 0 rfl rfl rfl ?_
  refine Z8.mk (Fc.imp (Valid.RZ H zO zO) ?_)
  rintro _ w1 ⟨e1,⟨rfl,⟨h1,H⟩⟩⟩
  exact cT (V8 zO)<|Zq rfl rfl rfl<|ZJ H 0 rfl rfl rfl rfl<|fun w3 H=>XF (H.at 0 rfl) 0 rfl rfl rfl<|Z5.mk<|⟨g,[],[],[],_,_,_,rfl,Ext.refl _,Z6.OJ _ _ _ _,Z6.OJ _ _ _ _,mk1 zN zO,(H.del 0).del 0⟩
end
end WZ
namespace WZ
open Go Y2 Go.RowKit
open YZ Zn X4 YS Valid
section
variable {g:ZB} {w:World} {l:List As} {m:Zg}
theorem sameZero (H:Sat g w l) (vt vg:Value) (ht:Z6 g ZH WV 1 vt []) (hg:Z6 g ZH WV 1 vg []):zn 15 #[.agg #[.string (bs []),vt,vg],.agg #[.string (bs []),.slice none 0 0,.slice none 0 0]] w (fun r w'=>r=.bool true/\Sat g w' l):=by
 refine Fc.of Tryz.func15 rfl k_e<|ZN H<|fun p1 w1 H=>ZN H<|fun p2 w2 H=>Z9 rfl<|zG H 1 0 zD<|Z9 rfl<|zG H 0 0 zD<|ad0<|Z9 rfl<|zG H 1 1 zD<|Z9 rfl<|zG H 0 1 zD ?_
 refine Z8.mk (Fc.imp (YS.eqN H _ _ _ _ ht (VU.nil _ _ _)) ?_)
 rintro _ w1 ⟨b1,⟨rfl,⟨h1,H⟩⟩⟩
 refine br (fun c1=>?_) (fun c1=>?_)
 .replace c1:=h1.1 (c1)
  refine Z9 rfl<|zG H 1 2 zD<|Z9 rfl<|zG H 0 2 zD ?_
  refine Z8.mk (Fc.imp (YZ.FC _ _ _ _ _ (Rd.tt (H.rd hg)) (VU.nil _ _ _)) ?_)
  rintro _ w3 ⟨b2,⟨rfl,⟨h2,H'⟩⟩⟩
  refine H.X8 H' ?_
  clear H H'
  intro H
  refine Z5.mk ?_
  constructor
  .exact congrArg Value.bool (h2.2 zN)
  exact zw H [1,0]<|fun H=>H
 replace c1:=Tq h1 (c1)
 exact Z5.mk<|absurd rfl zN
theorem EV (H:Sat g w l) (k a:Int):zn 48 #[.int .u8 k,zJ a] w (fun v w'=>∃r,v=zJ r/\r=Sz k a/\Sat g w' l):=by
 refine Fc.of Tryz.func48 rfl k_e ?_
 refine cI (fun h=>?_) (fun h=>?_)
 .have h:=ZS h
  refine Zt rfl rfl<|Zt rfl rfl ?_
  exact Z5.mk ⟨_,rfl,by unfold Sz;rw [if_pos h],H⟩
 have h:=ZR h
 exact Z5.mk ⟨_,rfl,by unfold Sz;rw [if_neg h],H⟩
end
end WZ
namespace Rn
open Go Y2 Go.RowKit
open YZ Zn X4 YS Valid Mem
section
variable {g:ZB} {w:World} {l:List As} {m:Zg} {cp mp:Nat} {vp vt vg vl vs Sr:Value} {ps:List W1} {Zw Zl loc stk:zm} {x:ZW}
theorem do_ (H:Sat g w (Pt cp (zL m [zI mp,vt,vg]) 158::Pt mp [vp,zJ m.most] 221::Sl 223 256 Xi vp ps::Sl 3 1 ZH vt Zw::Sl 2 1 ZH vg Zl::Sl 2 1 ZH vl loc::Sl 2 1 ZH vs stk::l)) (hD:GJ x ⟨flat ps,Zw,Zl⟩ loc stk) (hT:Fold.ID g) (hop:x.op<=255) (hm:ps.length<=m.most/\m.most<=8) (hlen:stk.length<=100000):zn 160 #[zI cp,.agg #[.int .u8 x.op,zJ x.a,zJ x.b,Sr],vl,vs] w (fun r w'=>∃e vs' Ti ps' W5 loc' Y0,r=.tuple #[vs',zJ e]/\N7 (WG m.most x ⟨flat ps,Zw,Zl⟩ loc stk) e (flat ps') W5 loc' Y0/\ps'.length<=8/\Sat g w' (Pt cp (zL m [zI mp,vt,vg]) 158::Pt mp [Ti,zJ m.most] 221::Sl 223 256 Xi Ti ps'::Sl 3 1 ZH vt Zw::Sl 2 1 ZH vg W5::Sl 2 1 ZH vl loc'::Sl 2 1 ZH vs' Y0::l)):=by
 have hp:ps.length<=8:=by omega
 have hn:=hD.need
 have n1:x.op=26\/x.op=33\/x.op=34\/x.op=36->1<=stk.length:=fun h=>by unfold UJ at hn;rw [if_pos h] at hn;exact hn
 rcases hD.op with h|h|h|⟨Mk,hq⟩
 .exact alp H h (n1 (.inl h)) hlen hp
 .exact alq H h (by unfold UJ at hn;rw [if_neg zO,if_pos h] at hn;exact hn) hlen hp
 .by_cases h2:x.op=32
  .exact alr H h2 (hD.loc h.1 zO) hlen hp
  by_cases h3:x.op=33\/x.op=34
  .exact als H h3 (hD.loc h.1 zO) (n1 zO) hlen hp
  by_cases h5:x.op=35
  .exact alu H h5 (hD.Zl (.inl h5)) hlen hp
  .exact alv H zO (hD.Zl zO) (n1 zO) hlen hp
 .by_cases h5:x.op=65\/x.op=66
  .exact alw H h5 hlen hp
  by_cases h3:x.op=63
  .exact alx H h3 hlen hp
  by_cases h4:x.op=64
  .have h1:1<=stk.length:=by
    unfold UJ at hn
    rw [if_neg zO,if_neg zO,if_pos zO,h4,show Xk 64=([127],[127],true) by decide] at hn;exact hn
   exact aly H h4 h1 hD.Hw hm hlen hp
  by_cases hw:0<wid x.op
  .exact alz H ⟨Mk,hop⟩ hw hD.Hw hn (hD.off hw) hlen hp
  .exact alA H ⟨Mk,hop⟩ hw hq ⟨h3,h4,by omega,by omega⟩ hD.Hw hn hT hlen hp
theorem alF (P:UN m.d) {n:Int} (h0:0<=n) (h1:n<(m.Zz.length:Int)+m.funcs.length):∃(i:Nat) (t:XK),m.types[i]?=some t/\t.d=YN m.d n /\
  (n<m.Zz.length->∃y,m.Zz[n.toNat]?=some y/\y.2=i)/\(¬n<m.Zz.length->∃f,m.funcs[n.toNat-m.Zz.length]?=some f/\f.ty=i):=by
 have hfl:m.d.funcs.length=m.funcs.length:=lfa ..
 have hil:m.d.Zz.length=m.Zz.length:=rfl
 have Nc:m.d.types.length=m.types.length:=lfa ..
 by_cases h:n<m.Zz.length
 .have hi:n.toNat<m.Zz.length:=by omega
  have hm:=P.imp _ (lmb (show n.toNat<m.d.Zz.length from hi))
  have hm:0<=m.Zz[n.toNat].2/\m.Zz[n.toNat].2<m.d.types.length:=hm
  obtain ⟨i,BN⟩:=lra hm.1
  have hit:i<m.types.length:=by omega
  refine ⟨i,m.types[i],laa hit,?_,fun _=>⟨_,laa hi,BN⟩,fun h'=>absurd h h'⟩
  obtain ⟨t,e1,e2,_⟩:=NW P h0 (show n<YW m.d from h)
  rw [e2]
  unfold Xp Qo at e1
  rw [if_neg zO] at e1
  have Em:(ZE m.d).Zz.length=m.Zz.length:=lfa ..
  rw [Em,if_pos h] at e1
  have e3:(ZE m.d).Zz[n.toNat]?=some m.Zz[n.toNat].2:=by
   show (m.Zz.map (·.2))[_]?=_
   rw [lya,laa hi];rfl
  rw [e3,BN] at e1
  have e1:(m.types.map XK.d)[i]?=some t:=e1
  rw [lya,laa hit] at e1
  exact Option.some.inj e1
 .have hi:n.toNat-m.Zz.length<m.funcs.length:=by omega
  have hmem:m.funcs[n.toNat-m.Zz.length].d∈m.d.funcs:=lWa.2 ⟨_,lmb hi,rfl⟩
  have hm:=(P.fn _ hmem).ty
  have hm:0<=m.funcs[n.toNat-m.Zz.length].ty/\m.funcs[n.toNat-m.Zz.length].ty<m.d.types.length:=hm
  obtain ⟨i,BN⟩:=lra hm.1
  have hit:i<m.types.length:=by omega
  refine ⟨i,m.types[i],laa hit,?_,fun h'=>absurd h' h,fun _=>⟨_,laa hi,BN⟩⟩
  obtain ⟨_,e2⟩:=Po P (n:=n-YW m.d) (by grind [YW]) (by grind [YW])
  rw [show YW m.d+(n-YW m.d)=n by omega] at e2
  rw [e2]
  have e3:Ze m.d (n-YW m.d)=m.funcs[n.toNat-m.Zz.length].d:=by
   unfold Ze YW
   rw [show (n-(m.d.Zz.length:Int)).toNat=n.toNat-m.Zz.length by omega]
   show (m.funcs.map Yt.d).getD _ _=_
   rw [lja,lya,laa hi];rfl
  rw [e3]
  unfold UO
  show _=(m.types.map XK.d).getD m.funcs[n.toNat-m.Zz.length].ty.toNat _
  rw [BN,lia0,lja,lya,laa hit];rfl
theorem alG (H:Sat g w l) (u v:Value) (xs ys:zm) (hx:Z6 g Yx U8 1 u xs) (hy:Z6 g Yx U8 1 v ys) (hl:xs.length<=1000) :
  zn 166 #[u,v] w (fun r w'=>∃b,r=.bool b/\(b=true↔xs=ys)/\Sat g w' l):=by
 refine Fc.of Tryz.func166 rfl k_e<|ZD hx rfl<|ZD hy rfl ?_
 refine zo (fun c1=>?_) (fun c1=>?_)
 .exact Z5.mk<|⟨false,rfl,⟨nofun,fun h=>absurd (congrArg List.length h) zO⟩,H⟩
 refine ZD hx rfl ?_
 refine YO.rule (α:=Nat) (0) (fun x_=>[(13,zJ x_)]) (fun x_ w_=>(x_<=xs.length)/\(∀q,q<x_->xs[q]?=ys[q]?)/\Sat g w_ (l)) (fun x_=>xs.length-x_) ?_ ?_ ?_
 .exact k_a
 .grind
 rintro i f_ w_ ⟨hi,he,H⟩
 try simp only at hi he H ⊢
 refine zv (fun c2=>?_) (fun c2=>?_)
 .refine bk<|ZI H [] [zHp0,zHp1,zHp2,zHh3,zHp4,zHp5,zHp6,zHh7,zHp8] mixed k_e k_e<|fun w1 H=>?_
  obtain ⟨x1,hx1⟩:∃x,(xs)[(i)]?=some x:=⟨_,laa zO⟩
  obtain ⟨b1,o1,E1,F1,ZC⟩:=Z6.YQ hx hx1
  refine tk (fun _ Z=>ZF E1 rfl rfl rfl zK)<|tk (fun _ Z=>zz (Z.X9 F1) 0 zy zK) ?_
  obtain ⟨x2,QY⟩:∃x,(ys)[(i)]?=some x:=⟨_,laa zO⟩
  obtain ⟨b2,o2,E2,F2,XA⟩:=Z6.YQ hy QY
  refine tk (fun _ Z=>ZF E2 rfl rfl rfl zK)<|tk (fun _ Z=>zz (Z.X9 F2) 0 zy zK) ?_
  refine zo (fun c3=>?_) (fun c3=>?_)
  .exact Z5.mk<|⟨false,rfl,⟨nofun,fun h=>absurd (by subst h;exact Option.some.inj (hx1.symm.trans QY)) zN⟩,H⟩
  refine ZU zO ?_
  refine WM.mk (i+1) (Zr rfl zO (ZV)) ?_ ?_
  .grind
  omega
 exact Z5.mk<|⟨true,rfl,⟨fun _=>Ref.OH zO zO he,fun _=>rfl⟩,H⟩
theorem alH (H:Sat g w l) (a b:XK) (ha:Wx g a) (hb:Wx g b) (h1:a.Za.length<=1000) (h2:a.out.length<=1000) :
  zn 120 #[.agg #[a.vi,a.vo],.agg #[b.vi,b.vo]] w (fun r w'=>∃q,r=.bool q/\(q=true↔a.Za=b.Za/\a.out=b.out)/\Sat g w' l):=by
 refine Fc.of Tryz.func120 rfl k_e ?_
 have ai4:=ha.Za
 have ai5:=ha.out
 have ai6:=hb.Za
 have ai7:=hb.out
 refine ZN H<|fun p1 w1 H=>ZN H<|fun p2 w2 H=>Z9 rfl<|zG H 1 0 zD<|Z9 rfl<|zG H 0 0 zD ?_
 refine Z8.mk (Fc.imp (Rn.alG H _ _ _ _ ai4 ai6 ?_) ?_)
 .grind
 rintro _ w1 ⟨b1,⟨rfl,⟨h3,H⟩⟩⟩
 refine br (fun c1=>?_) (fun c1=>?_)
 .replace c1:=h3.1 (c1)
  refine Z9 rfl<|zG H 1 1 zD<|Z9 rfl<|zG H 0 1 zD ?_
  refine Z8.mk (Fc.imp (Rn.alG H _ _ _ _ ai5 ai7 ?_) ?_)
  .grind
  rintro _ w3 ⟨b2,⟨rfl,⟨h4,H⟩⟩⟩
  refine Z5.mk ?_
  refine ⟨b2,?_⟩
  constructor
  .grind
  constructor
  .grind
  exact zw H [1,0]<|fun H=>H
 replace c1:=Tq h3 (c1)
 refine Z5.mk ?_
 refine ⟨false,?_⟩
 constructor
 .grind
 constructor
 .grind
 exact zw H [1,0]<|fun H=>H
theorem LL (H:Sat g w (Pt cp (zL m [zI mp,vt,vg]) 158::l)) (hm:Xu g m) (P:UN m.d) (n:Int) (h0:0<=n) (h1:n<(m.Zz.length:Int)+m.funcs.length) :
  zn 75 #[zI cp,zJ n] w (fun r w'=>∃t:XK,r=.agg #[t.vi,t.vo]/\t∈m.types/\Wx g t/\t.d=YN m.d n/\t.Za.length<=4/\t.out.length<=1/\Sat g w' (Pt cp (zL m [zI mp,vt,vg]) 158::l)):=by
 refine Fc.of Tryz.func75 rfl k_e ?_
 have ZQ:=hm.types
 have Zv:=hm.Zz
 have ZP:=hm.funcs
 obtain ⟨i,t,k1,k2,k3,k4⟩:=alF P h0 h1
 have L6:=lda k1
 have hto:=Z6.all ZQ t L6
 have IB:t.Za.length<=4:=(P.sig t.d (lWa.2 ⟨t,L6,rfl⟩)).1
 have alI:t.out.length<=1:=(P.sig t.d (lWa.2 ⟨t,L6,rfl⟩)).2
 have hni:=P.ni
 have hnf:=P.nf
 have hfl:m.d.funcs.length=m.funcs.length:=lfa ..
 have hil:m.d.Zz.length=m.Zz.length:=rfl
 obtain ⟨k,rfl⟩:=lra h0
 rw [lia0] at k3 k4
 by_cases h:(k:Int)<m.Zz.length
 .obtain ⟨y,q1,q2⟩:=k3 h
  have hlt:=(lba.1 k1).1
  have hyb:0<=y.2/\y.2<m.types.length:=by omega
  have Ah:m.types[y.2.toNat]?=some t:=by grind
  refine ZX H rfl<|fun p1 w1 H=>Z9 rfl<|Z9 rfl<|zG H 1 1 zD<|ZD Zv rfl<|cT (Y9 zN)<|ZI H [] [zHp0,zHp1,zHp2,zHp3,zHh4,zHp5,zHp6,zHp7,zHp8,zHh9,zHp10,zHp11,zHp12,zHh13,zHp14,zHh15,zHfr16] mixed k_e k_e<|fun w2 H=>zE rfl rfl<|zE rfl rfl<|zF 1 0 zD rfl<|zE rfl rfl<|zE rfl rfl<|zF 1 1 zD rfl ?_
  obtain ⟨b1,o1,E1,F1,ZC⟩:=Z6.YQ Zv q1
  have Uz:=ZC.name
  have Xf:=ZC.ty
  refine tk (fun _ Z=>ZF E1 rfl rfl rfl zK)<|zE rfl rfl<|tk (fun _ Z=>zz (Z.X9 F1) 1 zy zK) ?_
  obtain ⟨b2,o2,E2,F2,XA⟩:=Z6.YQ ZQ Ah
  have YK:=XA.Za
  have YX:=XA.out
  refine tk (fun _ Z=>ZF E2 zO rfl rfl zK)<|tk (fun _ Z=>ZK (Z.X9 F2) 0 rfl rfl rfl zK)<|ZJ H 0 rfl rfl rfl (by grind [Z6.one])<|fun w1 H=>XF (H.at 0 rfl) 0 rfl rfl rfl<|Z5.mk ?_
  refine ⟨t,?_⟩
  refine ⟨rfl,?_⟩
  refine ⟨zO,?_⟩
  refine ⟨zO,?_⟩
  refine ⟨zO,?_⟩
  refine ⟨zO,?_⟩
  refine ⟨zO,?_⟩
  exact H.Z7 [1]<|fun H=>H.drop 1<|fun H=>H
 .obtain ⟨f,q1,q2⟩:=k4 h
  have hlt:=(lba.1 k1).1
  have hyb:0<=f.ty/\f.ty<m.types.length:=by omega
  have Ah:m.types[f.ty.toNat]?=some t:=by grind
  refine ZX H rfl<|fun p1 w1 H=>Z9 rfl<|Z9 rfl<|zG H 1 1 zD<|ZD Zv rfl<|cF (Zj zO)<|ZI H [] [zHp0,zHp1,zHp2,zHp3,zHh4,zHp5,zHp6,zHp7,zHp8,zHh9,zHp10,zHp11,zHp12,zHp13,zHp14,zHh15,zHp16,zHp17,zHp18,zHp19,zHh20,zHp21,zHh22,zHfr23] mixed k_e k_e<|fun w2 H=>zE rfl rfl<|zE rfl rfl<|zF 1 0 zD rfl<|zE rfl rfl<|zE rfl rfl<|zF 1 2 zD rfl<|zE rfl rfl<|zE rfl rfl<|zF 1 1 zD rfl<|tk (fun _ Z=>ZD Zv rfl zK)<|ZU zO ?_
  obtain ⟨b1,o1,E1,F1,ZC⟩:=Z6.YQ ZP q1
  have Xf:=ZC.ty
  have Zi:=ZC.loc
  have Zo:=ZC.body
  refine tk (fun _ Z=>ZF E1 zO rfl rfl zK)<|zE rfl rfl<|tk (fun _ Z=>zz (Z.X9 F1) 0 zy zK) ?_
  obtain ⟨b2,o2,E2,F2,XA⟩:=Z6.YQ ZQ Ah
  have YK:=XA.Za
  have YX:=XA.out
  refine tk (fun _ Z=>ZF E2 zO rfl rfl zK)<|tk (fun _ Z=>ZK (Z.X9 F2) 0 rfl rfl rfl zK)<|ZJ H 0 rfl rfl rfl (by grind [Z6.one])<|fun w1 H=>XF (H.at 0 rfl) 0 rfl rfl rfl<|Z5.mk ?_
  refine ⟨t,?_⟩
  refine ⟨rfl,?_⟩
  refine ⟨zO,?_⟩
  refine ⟨zO,?_⟩
  refine ⟨zO,?_⟩
  refine ⟨zO,?_⟩
  refine ⟨zO,?_⟩
  exact H.Z7 [1]<|fun H=>H.drop 1<|fun H=>H
theorem ce0 {t tx:XK} {D:Xv} {f:Int} (h:t.d=D) (hc:¬(t.Za=tx.Za/\t.out=tx.out)):((0:Int),List.drop 0 (List.take (stk.length-1) stk),(25:Int))=if D.Za≠tx.d.Za\/D.out≠tx.d.out then (0,low stk 1,25) else (f,low stk 1,0):=by
 subst h
 rw [JD,if_pos]
 refine Decidable.by_contra fun hn=>hc ⟨Decidable.by_contra fun h1=>hn (.inl h1),Decidable.by_contra fun h2=>hn (.inr h2)⟩
theorem ce1 {t tx:XK} {D:Xv} {f:Int} (h:t.d=D) (hc:t.Za=tx.Za/\t.out=tx.out):(f,List.drop 0 (List.take (stk.length-1) stk),(0:Int))=if D.Za≠tx.d.Za\/D.out≠tx.d.out then (0,low stk 1,25) else (f,low stk 1,0):=by
 subst h
 rw [JD,if_neg]
 rintro (h|h)
 .exact h hc.1
 .exact h hc.2
theorem Pe (H:Sat g w (Pt cp (zL m [zI mp,vt,vg]) 158::Sl 3 1 ZH vt Zw::Sl 2 1 ZH vs stk::l)) (hm:Xu g m) (P:UN m.d) (ho:x.op=16\/x.op=17) (Rh:∀n∈Zw,-1<=n/\n<(m.Zz.length:Int)+m.funcs.length) (h1:x.op=17->1<=stk.length/\0<=x.a/\x.a<m.types.length)
  (T3:∀v∈stk,XC v) (hlen:stk.length<=100000) (Nc:Zw.length<=1000) :
  zn 196 #[zI cp,.agg #[.int .u8 x.op,zJ x.a,zJ x.b,Sr],vs] w (fun r w'=>∃f vs' Y0 e,r=.tuple #[zJ f,vs',zJ e]/\(f,Y0,e)=Zb m.d Zw x stk/\Sat g w' (Pt cp (zL m [zI mp,vt,vg]) 158::Sl 3 1 ZH vt Zw::Sl 2 1 ZH vs' Y0::l)):=by
 refine Fc.of Tryz.func196 rfl k_e ?_
 have ZQ:=hm.types
 have Zv:=hm.Zz
 have ZP:=hm.funcs
 unfold Zb
 rcases ho with ho|ho
 .rw [if_pos ho]
  refine ZN H<|fun p1 w1 H=>Z9 rfl<|zG H 0 0 zD<|cT (ZM zN)<|Z9 rfl<|zG H 0 1 zD<|Z5.mk ?_
  refine ⟨x.a,vs,stk,0,?_⟩
  refine ⟨rfl,?_⟩
  refine ⟨rfl,?_⟩
  exact H.Z7 [3,3,3]<|fun H=>H.drop 3<|fun H=>H
 .rw [if_neg zO]
  obtain ⟨h1,h2,h3⟩:=h1 ho
  obtain ⟨a,ha,IC,HJ⟩:=EX (s:=stk) zO
  have EW:=T3 a HJ
  rw [IC]
  have hN0:0<=a % 4294967296:=by omega
  have Ag:m.types[x.a.toNat]?=some m.types[x.a.toNat]:=laa zO
  have KM:=Z6.all ZQ _ (lda Ag)
  have SS:m.d.types.getD x.a.toNat sz=m.types[x.a.toNat].d:=by
   show (m.types.map XK.d).getD _ _=_
   rw [lja,lya,Ag];rfl
  rw [SS]
  generalize m.types[x.a.toNat]=tx at *
  by_cases hNl:(a % 4294967296).toNat<Zw.length
  .obtain ⟨f,BM⟩:∃f,Zw[(a % 4294967296).toNat]?=some f:=⟨_,laa hNl⟩
   have hNb:=Rh f (lda BM)
   rw [afg BM]
   by_cases hf:f<0
   .rw [if_pos (.inr hf)]
    refine ZN H<|fun p1 w1 H=>Z9 rfl<|zG H 0 0 zD<|cF (Z4 zO)<|Yz H 3 rfl rfl<|ZU zO ?_
    obtain ⟨b1,o1,E1⟩:=H.YQ 3 rfl ((stk.length)-1) zO
    refine ZF E1 zO rfl rfl<|zz (H.el 3 rfl E1 ha) 0 zy<|Yq rfl rfl<|Xn zO rfl rfl<|Yz H 3 rfl rfl<|ZU zO<|Ns H 3 rfl 0 ((stk.length)-1) rfl rfl zO zO (.inl ⟨rfl,rfl⟩) (.inr ⟨_,by first|rfl|(congr 2;omega)⟩)<|fun v1 H=>Z9 rfl<|zG H 1 12 zD<|Yz H 2 rfl rfl<|WU (Yy zO)<|Z9 rfl<|zG H 1 12 zD ?_
    obtain ⟨b2,o2,E2⟩:=H.YQ 2 rfl (a % 4294967296).toNat zO
    refine ZF E2 zO rfl rfl<|zz (H.el 2 rfl E2 BM) 0 zy<|cT (Y9 zN)<|Z5.mk ?_
    refine ⟨0,v1,List.drop 0 (List.take (stk.length-1) stk),24,?_⟩
    refine ⟨rfl,?_⟩
    refine ⟨rfl,?_⟩
    exact H.Z7 [3,3,3]<|fun H=>H.drop 3<|fun H=>H
   .rw [if_neg zO]
    refine ZN H<|fun p1 w1 H=>Z9 rfl<|zG H 0 0 zD<|cF (Z4 zO)<|Yz H 3 rfl rfl<|ZU zO ?_
    obtain ⟨b1,o1,E1⟩:=H.YQ 3 rfl ((stk.length)-1) zO
    refine ZF E1 zO rfl rfl<|zz (H.el 3 rfl E1 ha) 0 zy<|Yq rfl rfl<|Xn zO rfl rfl<|Yz H 3 rfl rfl<|ZU zO<|Ns H 3 rfl 0 ((stk.length)-1) rfl rfl zO zO (.inl ⟨rfl,rfl⟩) (.inr ⟨_,by first|rfl|(congr 2;omega)⟩)<|fun v1 H=>Z9 rfl<|zG H 1 12 zD<|Yz H 2 rfl rfl<|WU (Yy zO)<|Z9 rfl<|zG H 1 12 zD ?_
    obtain ⟨b2,o2,E2⟩:=H.YQ 2 rfl (a % 4294967296).toNat zO
    refine ZF E2 zO rfl rfl<|zz (H.el 2 rfl E2 BM) 0 zy<|cF (Zj zO)<|Z9 rfl<|zG H 1 12 zD<|ZF E2 zO rfl rfl<|zz (H.el 2 rfl E2 BM) 0 zy<|ZI H [] [zHp0,zHp1,zHp3,zHp4,zHp5,zHp6,zHh7,zHp8,zHh9,zHp10,zHh11,zHf2,zHfr12,zHp13] mixed k_e k_e<|fun w2 H=>zE rfl rfl<|zE rfl rfl<|zF 1 0 zD rfl<|zE rfl rfl<|zF 0 1 zD rfl ?_
    obtain ⟨b3,o3,E3,F1,ZC⟩:=Z6.YQ ZQ Ag
    have PG:=ZC.Za
    have PF:=ZC.out
    refine tk (fun _ Z=>ZF E3 zO rfl rfl zK)<|tk (fun _ Z=>ZK (Z.X9 F1) 0 rfl rfl rfl zK)<|H.Z7 [1]<|fun H=>?_
    refine Z8.mk (Fc.imp (Rn.LL H zO zO _ zO zO) ?_)
    rintro _ w1 ⟨t1,⟨rfl,⟨h4,⟨h5,⟨h6,⟨h7,⟨h8,H⟩⟩⟩⟩⟩⟩⟩
    refine H.Z7 [3,3,2,3]<|fun H=>Zs.mk (H) ?_
    refine Z8.mk (Fc.imp (Rn.alH H _ _ zO zO zO zO) ?_)
    rintro _ w3 ⟨q1,⟨rfl,⟨h9,H⟩⟩⟩
    refine cI (fun c1=>?_) (fun c1=>?_)
    .replace c1:=Tq h9 (SH (c1))
     refine Z5.mk ?_
     refine ⟨0,v1,List.drop 0 (List.take (stk.length-1) stk),25,?_⟩
     refine ⟨rfl,?_⟩
     constructor
     .exact ce0 zN zN
     exact H.Z7 [3,3,3]<|fun H=>H.drop 3<|fun H=>H
    replace c1:=h9.1 (SG (c1))
    refine Z5.mk ?_
    refine ⟨f,v1,List.drop 0 (List.take (stk.length-1) stk),0,?_⟩
    refine ⟨rfl,?_⟩
    constructor
    .exact ce1 zN zN
    exact H.Z7 [3,3,3]<|fun H=>H.drop 3<|fun H=>H
  .rw [if_pos (.inl zO)]
   refine ZN H<|fun p1 w1 H=>Z9 rfl<|zG H 0 0 zD<|cF (Z4 zO)<|Yz H 3 rfl rfl<|ZU zO ?_
   obtain ⟨b1,o1,E1⟩:=H.YQ 3 rfl ((stk.length)-1) zO
   refine ZF E1 zO rfl rfl<|zz (H.el 3 rfl E1 ha) 0 zy<|Yq rfl rfl<|Xn zO rfl rfl<|Yz H 3 rfl rfl<|ZU zO<|Ns H 3 rfl 0 ((stk.length)-1) rfl rfl zO zO (.inl ⟨rfl,rfl⟩) (.inr ⟨_,by first|rfl|(congr 2;omega)⟩)<|fun v1 H=>Z9 rfl<|zG H 1 12 zD<|Yz H 2 rfl rfl<|Wp (Yh zO)<|cT rfl<|Z5.mk ?_
   refine ⟨0,v1,List.drop 0 (List.take (stk.length-1) stk),24,?_⟩
   refine ⟨rfl,?_⟩
   refine ⟨rfl,?_⟩
   exact H.Z7 [3,3,3]<|fun H=>H.drop 3<|fun H=>H
end
end Rn
namespace Rn
open Go Y2 Go.RowKit
open YZ Zn X4 YS Valid Mem
structure CV where
 fn:Int
 at_:Int
 vl:Value
 loc:zm
 vs:Value
 stk:zm
def WD (c:CV):zk:=[.int .i64 c.fn,.int .i64 c.at_,c.vl,c.vs]
def CV.d (c:CV):YU:=⟨c.fn,c.at_,c.loc,c.stk⟩
section
variable {g:ZB} {w:World} {l:List As} {vc:Value} {cs:List CV} {i b o:Nat}
theorem Pd (E:El vc 4 i b o) (c:CV) (hx:cs[i]?=some c) (H:Sat g w (Sl 79 4 WD vc cs::Sl 2 1 ZH c.vs c.stk::l)) (h1:1<=c.stk.length) (hlen:c.stk.length<=100000) :
  zn 162 #[.pointer (some ⟨b,o,none⟩)] w (fun r w'=>∃vs' t,r=zJ t/\t=top c.stk 0/\Sat g w' (Sl 79 4 WD vc (cs.set i ⟨c.fn,c.at_,c.vl,c.loc,vs',low c.stk 1⟩)::Sl 2 1 ZH vs' (low c.stk 1)::l)):=by
 refine Fc.of Tryz.func162 rfl k_e ?_
 obtain ⟨a,ha,IC,HJ⟩:=EX (s:=c.stk) zO
 rw [IC]
 have hst:=H.one 1 rfl
 refine ZI H [] [zHp0,zHp1,zHp2,zHh3,zHp4,zHp5,zHp6,zHh7,zHp8,zHp9,zHp10,zHh11,zHp12] mixed k_e k_e<|fun w1 H=>zE rfl rfl<|tk (fun _ Z=>zz (Z.el 0 rfl E hx) 3 zy zK)<|zE rfl rfl<|tk (fun _ Z=>zz (Z.el 0 rfl E hx) 3 zy zK) ?_
 obtain ⟨a1,c1,V1⟩:=H.form 1 rfl
 refine tk (fun _ Z=>W3 V1 rfl zK)<|ZU zO ?_
 obtain ⟨b1,o1,E1⟩:=H.YQ 1 rfl ((c.stk.length)-1) zO
 refine tk (fun _ Z=>ZF E1 zO rfl rfl zK)<|tk (fun _ Z=>zz (Z.el 1 rfl E1 ha) 0 zy zK)<|ZI H [] [zHp0,zHp1,zHp2,zHp3,zHh4,zHp5,zHp6,zHp7,zHh8,zHp9,zHp10,zHp11,zHp12,zHp13,zHfr14] mixed k_e k_e<|fun w2 H=>zE rfl rfl<|tk (fun _ Z=>zz (Z.el 0 rfl E hx) 3 zy zK)<|zE rfl rfl<|tk (fun _ Z=>zz (Z.el 0 rfl E hx) 3 zy zK)<|tk (fun _ Z=>W3 V1 rfl zK)<|ZU zO ?_
 obtain ⟨v1,V2⟩:=H.vw 1 rfl (0) (((c.stk.length)-1)) zO zO
 refine tk (fun _ Z=>Wl V2 rfl rfl (.inl zK) (.inr ⟨_,by first|rfl|(congr 2;omega)⟩) zK)<|zE rfl rfl<|Yg H 0 rfl E hx 3 (⟨c.fn,c.at_,c.vl,c.loc,(v1),low c.stk 1⟩) rfl (by simp only [Bool.and_true,H.one 0 rfl,H.one 1 rfl,Vw.one V2,hst]) rfl rfl<|fun w1 H=>Z5.mk ?_
 refine ⟨v1,a,?_⟩
 constructor
 .simp
 refine ⟨zO,?_⟩
 exact H.HQ 1 rfl V2
theorem JC (E:El vc 4 i b o) (c:CV) (hx:cs[i]?=some c) (H:Sat g w (Sl 79 4 WD vc cs::Sl 2 1 ZH c.vs c.stk::l)) (j:Yl) (h0:0<=j.height) (h1:0<=j.keep) (hf:j.height+j.keep<=c.stk.length) (hlen:c.stk.length<=100000) :
  zn 113 #[.pointer (some ⟨b,o,none⟩),.agg #[zJ j.at_,zJ j.keep,zJ j.height]] w (fun r w'=>∃vs',Sat g w' (Sl 79 4 WD vc (cs.set i ⟨c.fn,j.at_,c.vl,c.loc,vs',c.stk.take j.height.toNat++c.stk.drop (c.stk.length-j.keep.toNat)⟩)::Sl 2 1 ZH vs' (c.stk.take j.height.toNat++c.stk.drop (c.stk.length-j.keep.toNat))::l)):=by
 refine Fc.of Tryz.func113 rfl k_e ?_
 have hst:=H.one 1 rfl
 obtain ⟨kk,hkk⟩:=lra h1
 obtain ⟨hh,hhh⟩:=lra h0
 rw [hkk,hhh,lia0,lia0]
 refine ZN H<|fun p1 w1 H=>ZI H [] [zHp0,zHp1,zHp2,zHh3,zHp4,zHp5,zHp6,zHh7,zHp8,zHp9,zHh10,zHp11,zHp12,zHp13] mixed k_e k_e<|fun w2 H=>zE rfl rfl<|tk (fun _ Z=>zz (Z.el 1 rfl E hx) 3 zy zK)<|zE rfl rfl<|tk (fun _ Z=>zz (Z.el 1 rfl E hx) 3 zy zK) ?_
 obtain ⟨a1,c1,V1⟩:=H.form 2 rfl
 refine tk (fun _ Z=>W3 V1 rfl zK)<|zE rfl rfl<|zF 0 1 zD rfl<|ZU zO ?_
 obtain ⟨v1,V2⟩:=H.vw 2 rfl (((c.stk.length)-(kk))) ((c.stk).length) zO zO
 refine tk (fun _ Z=>Wl V2 rfl rfl (.inr ⟨_,by first|rfl|(congr 2;omega)⟩) (.inl zK) zK)<|ZI H [] [zHp0,zHp1,zHp2,zHp3,zHh4,zHp5,zHh6,zHp7,zHp8,zHfr9,zHp10,zHp11,zHfr12] mixed k_e k_e<|fun w1 H=>zE rfl rfl<|tk (fun _ Z=>zz (Z.el 1 rfl E hx) 3 zy zK)<|zE rfl rfl<|zF 0 2 zD rfl ?_
 obtain ⟨v2,V3⟩:=H.vw 2 rfl (0) ((hh)) zO zO
 refine tk (fun _ Z=>Wl V3 rfl rfl (.inl zK) (.inr ⟨_,by first|rfl|(congr 2;omega)⟩) zK)<|ahs 8 H 2 rfl V3 V2 (fun y _=>rfl) rfl rfl rfl zO zO<|fun v3 w2 H=>zE rfl rfl<|Yg H 1 rfl E hx 3 (⟨c.fn,c.at_,c.vl,c.loc,(v3),c.stk.take hh++c.stk.drop (c.stk.length-kk)⟩) rfl (by simp only [Bool.and_true,H.one 1 rfl,H.one 2 rfl,Vw.one V3,Vw.one V2,hst]) rfl rfl<|fun w1 H=>Z9 rfl<|zG H 0 0 zD<|Z9 rfl ?_
 have hx1:(cs.set i { fn:=c.fn,at_:=c.at_,vl:=c.vl,loc:=c.loc,vs:=v3,stk:=List.take hh c.stk++List.drop (c.stk.length-kk) c.stk })[i]?=some _:=Vq hx
 refine Yg H 1 rfl E hx1 1 (⟨c.fn,j.at_,c.vl,c.loc,_,c.stk.take hh++c.stk.drop (c.stk.length-kk)⟩) rfl rfl rfl rfl<|fun w2 H=>Z5.mk ?_
 refine ⟨v3,?_⟩
 refine H.Z7 [2,2]<|fun H=>H.drop 2<|fun H=>?_
 refine H.cg (YF (PV ?_) (YF rfl (rfl)))
 (simp;done)
end
end Rn
namespace Rn
open Go Y2 Go.RowKit
open YZ Zn X4 YS Valid Mem
section
variable {g:ZB} {w:World} {l:List As} {m:Zg} {pr cp mp:Nat} {vw vc vt vg va:Value} {host:Int} {cs:List CV} {args:zm} {c u:CV}
theorem ai8 (H:Sat g w (Pt pr [zI cp,vw,vc,zJ host] 148::Pt cp (zL m [zI mp,vt,vg]) 158::Sl 79 4 WD vc cs::Sl 2 1 ZH va args::l)) (hm:Xu g m) (n:Nat) (f:Yt) (hf:m.funcs[n]?=some f) (h1:f.loc.length<=16) (h2:args.length<=16) (h3:cs.length<=100) (hnf:m.funcs.length<=16) :
  zn 79 #[zI pr,zJ n,va] w (fun r w'=>∃L4 PU,Sat g w' (Pt pr [zI cp,vw,L4,zJ host] 148::Pt cp (zL m [zI mp,vt,vg]) 158::Sl 79 4 WD L4 (cs++[⟨n,0,PU,args++List.replicate f.loc.length 0,.slice none 0 0,[]⟩])::Sl 2 1 ZH PU (args++List.replicate f.loc.length 0)::Sl 2 1 ZH (.slice none 0 0) []::l)):=by
 refine Fc.of Tryz.func79 rfl k_e ?_
 have ZP:=hm.funcs
 have hfo:=Z6.all ZP f (lda hf)
 have agV:=hfo.loc
 replace H:=H.U4 (en:=ZH) (s:=1) 2 (fun _=>rfl)
 refine Z9 rfl<|zG H 1 0 zD<|Z9 rfl<|Z9 rfl<|zG H 2 2 zD ?_
 obtain ⟨b1,o1,E1,F1,ZC⟩:=Z6.YQ ZP hf
 have Xf:=ZC.ty
 have Zi:=ZC.loc
 have Zo:=ZC.body
 refine ZF E1 rfl rfl rfl<|Z9 rfl<|zz (H.X9 F1) 1 zy<|ZD Zi rfl<|akq (zx:=(0:Int)) 8 H 4 rfl rfl rfl rfl rfl rfl rfl zO zO<|fun v1 w1 H=>Z9 rfl<|zG H 1 2 zD ?_
 obtain ⟨a1,c1,rfl⟩:=H.form 4 rfl
 refine Zq rfl rfl rfl<|ZZ H rfl rfl rfl rfl<|fun p1 w2 H=>WS (ys:=[⟨n,0,_,args++List.replicate f.loc.length 0,.slice none 0 0,[]⟩]) 64 H 4 rfl (H.at 0 rfl) rfl (fun y hy=>by rw [lsa.1 hy];simp only [Rn.WD,List.all_cons,List.all_nil,H.one 1 rfl,H.one 4 rfl,H.one 5 rfl,Z6.one Zo,Z6.one Zi,Z6.one agV,Z6.one ZP];rfl) rfl rfl rfl zO zO<|fun v1 w1 H=>Z9 rfl<|Yc H 2 rfl rfl rfl (H.one 4 rfl)<|fun w2 H=>Z5.mk ?_
 refine ⟨v1,Value.slice a1 (args++List.replicate f.loc.length 0).length c1,?_⟩
 exact H.Z7 [1,5,5,5,5]<|fun H=>H.drop 5<|fun H=>H
theorem ac4 (H:Sat g w (Sl 2 1 ZH va args::l)) (hl:args.length<=100000):zn 50 #[va] w (fun u w'=>Sat g w' (Sl 2 1 ZH u args::Sl 2 1 ZH va args::l)):=by
 refine Fc.of Tryz.func50 rfl k_e ?_
 rcases H.RR 0 rfl with ⟨Mg,Mf⟩|⟨b1,o1,c1,V1⟩
 .subst Mg
  subst Mf
  refine Xh rfl<|cT rfl<|Z5.mk ?_
  replace H:=H.U4 (en:=ZH) (s:=1) (2) (fun _=>rfl)
  exact H
 subst V1
 exact Xh rfl<|cF rfl<|ZZ H rfl rfl rfl rfl<|fun p1 w1 H=>H.Wu (n:=0) (en:=ZH) (s:=1) 0 rfl [] rfl rfl (fun _=>rfl) rfl<|fun H=>U3 8 H 0 rfl (H.C0 (ok:=fun _=>True) 1 rfl (fun _ _=>trivial)) (fun y _=>rfl) rfl rfl rfl (by grind) (by grind)<|fun v1 w2 H=>Z5.mk<|H
theorem NL {v v1:Value} {xs:zm} {a:Nat} (H:Sat g w (Sl 2 1 ZH v xs::l)) (V:Vw v 1 xs.length a xs.length v1) (hl:xs.length<=100000):zn 50 #[v1] w (fun u w'=>Sat g w' (Sl 2 1 ZH u (xs.drop a)::Sl 2 1 ZH v xs::l)):=by
 refine Fc.of Tryz.func50 rfl k_e ?_
 have hle:=V.le
 obtain ⟨A,q,he,h0⟩:∃A q,v1=.slice A (xs.length-a) q/\(A=none->xs.drop a=[]):=by
  obtain ⟨ad,cap,hv,_,_,_,_,TH⟩:=V
  refine ⟨_,_,TH,fun hn=>?_⟩
  cases ad with
  | none =>
   rcases (H.off 0 rfl).1 with ⟨_,hx⟩|⟨_,_,_,_,h,_⟩
   .grind
   .grind
  | some p =>
   split at hn
   .grind
   .grind
 cases A with
 | none =>
  rw [h0 rfl]
  subst he
  replace H:=H.U4 (en:=ZH) (s:=1) 2 (fun _=>rfl)
  exact Xh rfl<|cT rfl<|Z5.mk<|H
 | some p =>
  subst he
  refine Xh rfl<|cF rfl<|ZZ H rfl rfl rfl rfl<|fun p1 w1 H=>H.Wu (n:=0) (en:=ZH) (s:=1) 0 rfl [] rfl rfl (fun _=>rfl) rfl<|fun H=>U3 8 H 0 rfl (H.rdv (ok:=fun _=>True) 1 rfl V (fun _ _=>trivial)) (fun y _=>rfl) rfl rfl rfl (by grind) (by grind)<|fun v1 w2 H=>Z5.mk ?_
  refine H.cg (YF (PV ?_) (YF rfl (rfl)))
  (simp;done)
end
end Rn
namespace Rn
open Go Y2 Go.RowKit
open YZ Zn X4 YS Valid Mem
section
variable {g:ZB} {w:World} {l:List As} {m:Zg} {pr cp mp:Nat} {vw vc vt vg Sr:Value} {host f e:Int} {cs:List CV} {Zw s2:zm} {u:CV} {x:ZW} {i b o:Nat}
theorem Sw {n1 n2:Int} {q:Int × zm × Int} {s:zm} (h:(n1,s,n2)=q) (hq:q=(f,s2,e)):f=n1/\s2=s/\e=n2:=by grind
theorem agW {n:Int} (h0:(m.Zz.length:Int)<=n) (h1:n<(m.Zz.length:Int)+m.funcs.length):∃(k:Nat) (F:Yt),n=m.Zz.length+k/\m.funcs[k]?=some F/\Ze m.d (n-YW m.d)=F.d:=by
 obtain ⟨k,hk⟩:=lra (show 0<=n-m.Zz.length by omega)
 have JY:k<m.funcs.length:=by omega
 refine ⟨k,m.funcs[k],by omega,laa JY,?_⟩
 unfold Ze YW
 show (m.funcs.map Yt.d).getD (n-(m.Zz.length:Int)).toNat _=_
 rw [hk,lia0,lja,lya,laa JY];rfl
theorem afl (E:El vc 4 i b o) (c:CV) (hx:cs[i]?=some c) (H:Sat g w (Pt pr [zI cp,vw,vc,zJ host] 148::Pt cp (zL m [zI mp,vt,vg]) 158::Sl 3 1 ZH vt Zw::Sl 79 4 WD vc cs::Sl 2 1 ZH c.vs c.stk::l)) (hm:Xu g m) (P:UN m.d) (ho:x.op=16\/x.op=17) (Rh:∀n∈Zw,-1<=n/\n<(m.Zz.length:Int)+m.funcs.length) (h1:x.op=17->1<=c.stk.length/\0<=x.a/\x.a<m.types.length) (T3:∀v∈c.stk,XC v) (hlen:c.stk.length<=10000) (Nc:Zw.length<=1000) (Sf:cs.length<=40) (hvl:c.vl.oneCell'=true) (hq:Zb m.d Zw x c.stk=(f,s2,e)) (he:e≠0):zn 163 #[zI pr,.pointer (some ⟨b,o,none⟩),.agg #[.int .u8 x.op,zJ x.a,zJ x.b,Sr]] w (fun r w'=>r=.agg #[zJ 2,.slice none 0 0,zJ e,zJ 0,zJ 0]/\Sat g w' (Pt pr [zI cp,vw,vc,zJ host] 148::Pt cp (zL m [zI mp,vt,vg]) 158::Sl 3 1 ZH vt Zw::l)):=by
 refine Fc.of Tryz.func163 rfl k_e ?_
 have ZQ:=hm.types
 have Zv:=hm.Zz
 have ZP:=hm.funcs
 have hvs:=H.one 4 rfl
 have hni:m.Zz.length<=16:=P.ni
 have hnf:m.funcs.length<=16:=by have:=P.nf;rwa [show m.d.funcs.length=m.funcs.length from lfa ..] at this
 refine ZN H<|fun p1 w1 H=>ZX H rfl<|fun p2 w2 H=>ZI H [] [zHp0,zHp1,zHp2,zHh3,zHh4,zHp5,zHp6,zHp7,zHh8,zHfr9,zHp10,zHp11,zHp12,zHp13,zHp14,zHp15,zHp16] mixed k_e k_e<|fun w1 H=>zE rfl rfl<|zF 2 0 zD rfl<|tk (fun _ Z=>ZK (Z.at 1 rfl) 0 rfl rfl rfl zK)<|zE rfl rfl<|tk (fun _ Z=>zz (Z.el 5 rfl E hx) 3 zy zK)<|H.Z7 [6,5,5]<|fun H=>?_
 refine Z8.mk (Fc.imp (Rn.Pe H zO zO zO zO zO zO zO zO) ?_)
 rintro _ w2 ⟨f1,⟨Zx,⟨Tz,⟨e1,⟨rfl,⟨h2,H⟩⟩⟩⟩⟩⟩
 obtain ⟨rfl,rfl,rfl⟩:=Sw h2 hq
 refine Z9 rfl<|Yg H 6 rfl E hx 3 (⟨c.fn,c.at_,c.vl,c.loc,(Zx),s2⟩) rfl k_o rfl rfl<|fun w3 H=>cT (V8 zN)<|Zq rfl rfl rfl<|ZJ H 3 rfl rfl rfl rfl<|fun w2 H=>XF (H.at 3 rfl) 0 rfl rfl rfl<|Z5.mk ?_
 refine ⟨rfl,?_⟩
 exact H.Z7 [1,1,5]<|fun H=>zw H [6,5,4,3]<|fun H=>H
theorem afm (E:El vc 4 i b o) (c:CV) (hx:cs[i]?=some c) (H:Sat g w (Pt pr [zI cp,vw,vc,zJ host] 148::Pt cp (zL m [zI mp,vt,vg]) 158::Sl 3 1 ZH vt Zw::Sl 79 4 WD vc cs::Sl 2 1 ZH c.vs c.stk::l)) (hm:Xu g m) (P:UN m.d) (ho:x.op=16\/x.op=17) (Rh:∀n∈Zw,-1<=n/\n<(m.Zz.length:Int)+m.funcs.length) (h1:x.op=17->1<=c.stk.length/\0<=x.a/\x.a<m.types.length) (T3:∀v∈c.stk,XC v) (hlen:c.stk.length<=10000) (Nc:Zw.length<=1000) (Sf:cs.length<=40) (hvl:c.vl.oneCell'=true) (hq:Zb m.d Zw x c.stk=(f,s2,0)) (hf:0<=f/\f<(m.Zz.length:Int)+m.funcs.length) (IB:(YN m.d f).Za.length<=s2.length) (PT:s2.length<=10000) (BL:(m.Zz.length:Int)<=f) (EU:cs.length=40):zn 163 #[zI pr,.pointer (some ⟨b,o,none⟩),.agg #[.int .u8 x.op,zJ x.a,zJ x.b,Sr]] w (fun r w'=>r=.agg #[zJ 2,.slice none 0 0,zJ 26,zJ 0,zJ 0]/\Sat g w' (Pt pr [zI cp,vw,vc,zJ host] 148::Pt cp (zL m [zI mp,vt,vg]) 158::Sl 3 1 ZH vt Zw::l)):=by
 refine Fc.of Tryz.func163 rfl k_e ?_
 have ZQ:=hm.types
 have Zv:=hm.Zz
 have ZP:=hm.funcs
 have hvs:=H.one 4 rfl
 have hni:m.Zz.length<=16:=P.ni
 have hnf:m.funcs.length<=16:=by have:=P.nf;rwa [show m.d.funcs.length=m.funcs.length from lfa ..] at this
 have hty:∀t:XK,t.d=YN m.d f->t.Za.length=(YN m.d f).Za.length:=fun t h=>by rw [<-h];rfl
 refine ZN H<|fun p1 w1 H=>ZX H rfl<|fun p2 w2 H=>ZI H [] [zHp0,zHp1,zHp2,zHh3,zHh4,zHp5,zHp6,zHp7,zHh8,zHfr9,zHp10,zHp11,zHp12,zHp13,zHp14,zHp15,zHp16] mixed k_e k_e<|fun w1 H=>zE rfl rfl<|zF 2 0 zD rfl<|tk (fun _ Z=>ZK (Z.at 1 rfl) 0 rfl rfl rfl zK)<|zE rfl rfl<|tk (fun _ Z=>zz (Z.el 5 rfl E hx) 3 zy zK)<|H.Z7 [6,5,5]<|fun H=>?_
 refine Z8.mk (Fc.imp (Rn.Pe H zO zO zO zO zO zO zO zO) ?_)
 rintro _ w2 ⟨f1,⟨Zx,⟨Tz,⟨e1,⟨rfl,⟨h2,H⟩⟩⟩⟩⟩⟩
 obtain ⟨rfl,rfl,rfl⟩:=Sw h2 hq
 refine Z9 rfl<|Yg H 6 rfl E hx 3 (⟨c.fn,c.at_,c.vl,c.loc,(Zx),s2⟩) rfl k_o rfl rfl<|fun w3 H=>cF (Xa zO)<|ZI H [] [zHp0,zHp1,zHp2,zHh3,zHp4,zHp5,zHp6,zHp7,zHh8,zHp9,zHf10,zHp11,zHp12,zHp13,zHp14] mixed k_e k_e<|fun w2 H=>zE rfl rfl ?_
 have hx1:(cs.set i { fn:=c.fn,at_:=c.at_,vl:=c.vl,loc:=c.loc,vs:=Zx,stk:=s2 })[i]?=some _:=Vq hx
 refine tk (fun _ Z=>zz (Z.el 6 rfl E hx1) 3 zy zK) ?_
 obtain ⟨a1,c1,V1⟩:=H.form 2 rfl
 refine tk (fun _ Z=>W3 V1 rfl zK)<|zE rfl rfl<|zF 5 0 zD rfl ?_
 refine Z8.mk (Fc.imp (Rn.LL H zO zO _ zO zO) ?_)
 rintro _ w3 ⟨t1,⟨rfl,⟨h3,⟨h4,⟨h5,⟨h6,⟨h7,H⟩⟩⟩⟩⟩⟩⟩
 have IA:=hty _ zN
 have Ol:=Wx.Za (by assumption:Wx g _)
 refine Zs.mk (H)<|tk (fun _ Z=>Lw rfl zK)<|tk (fun _ Z=>ZD Ol rfl zK)<|ZU zO<|Z9 rfl<|zz (H.el 6 rfl E hx1) 3 zy ?_
 obtain ⟨v1,V2⟩:=H.vw 2 rfl (((s2.length)-(t1.Za.length))) ((s2).length) zO zO
 refine Wl V2 rfl rfl (.inr ⟨_,by first|rfl|(congr 2;omega)⟩) (.inl ⟨rfl,rfl⟩)<|H.Z7 [2]<|fun H=>?_
 refine Z8.mk (Fc.imp (Rn.NL H V2 zO) ?_)
 rintro v' w4 H
 refine Z9 rfl<|zG H 6 0 zD<|Z9 rfl<|Z9 rfl<|zG H 2 1 zD<|ZD Zv rfl<|ZU zO<|Wp (Yh zO)<|Z9 rfl<|zG H 6 2 zD<|Yz H 7 rfl rfl<|cT (ZM (by grind))<|Zq rfl rfl rfl<|ZJ H 4 rfl rfl rfl rfl<|fun w5 H=>XF (H.at 4 rfl) 0 rfl rfl rfl<|Z5.mk ?_
 refine ⟨rfl,?_⟩
 exact H.Z7 [3,3,6]<|fun H=>zw H [7,6,5,4,3]<|fun H=>H
theorem afn (E:El vc 4 i b o) (c:CV) (hx:cs[i]?=some c) (H:Sat g w (Pt pr [zI cp,vw,vc,zJ host] 148::Pt cp (zL m [zI mp,vt,vg]) 158::Sl 3 1 ZH vt Zw::Sl 79 4 WD vc cs::Sl 2 1 ZH c.vs c.stk::l)) (hm:Xu g m) (P:UN m.d) (ho:x.op=16\/x.op=17) (Rh:∀n∈Zw,-1<=n/\n<(m.Zz.length:Int)+m.funcs.length) (h1:x.op=17->1<=c.stk.length/\0<=x.a/\x.a<m.types.length) (T3:∀v∈c.stk,XC v) (hlen:c.stk.length<=10000) (Nc:Zw.length<=1000) (Sf:cs.length<=40) (hvl:c.vl.oneCell'=true) (hq:Zb m.d Zw x c.stk=(f,s2,0)) (hf:0<=f/\f<(m.Zz.length:Int)+m.funcs.length) (IB:(YN m.d f).Za.length<=s2.length) (PT:s2.length<=10000) (BL:f<m.Zz.length):zn 163 #[zI pr,.pointer (some ⟨b,o,none⟩),.agg #[.int .u8 x.op,zJ x.a,zJ x.b,Sr]] w (fun r w'=>∃vs' vv,r=.agg #[zJ 4,vv,zJ 0,zJ f,zJ 0]/\Sat g w' (Pt pr [zI cp,vw,vc,zJ (f+1)] 148::Pt cp (zL m [zI mp,vt,vg]) 158::Sl 3 1 ZH vt Zw::Sl 79 4 WD vc (cs.set i ⟨c.fn,c.at_,c.vl,c.loc,vs',s2.take (s2.length-(YN m.d f).Za.length)⟩)::Sl 2 1 ZH vs' (s2.take (s2.length-(YN m.d f).Za.length))::Sl 2 1 ZH vv (s2.drop (s2.length-(YN m.d f).Za.length))::l)):=by
 refine Fc.of Tryz.func163 rfl k_e ?_
 have ZQ:=hm.types
 have Zv:=hm.Zz
 have ZP:=hm.funcs
 have hvs:=H.one 4 rfl
 have hni:m.Zz.length<=16:=P.ni
 have hnf:m.funcs.length<=16:=by have:=P.nf;rwa [show m.d.funcs.length=m.funcs.length from lfa ..] at this
 have hty:∀t:XK,t.d=YN m.d f->t.Za.length=(YN m.d f).Za.length:=fun t h=>by rw [<-h];rfl
 refine ZN H<|fun p1 w1 H=>ZX H rfl<|fun p2 w2 H=>ZI H [] [zHp0,zHp1,zHp2,zHh3,zHh4,zHp5,zHp6,zHp7,zHh8,zHfr9,zHp10,zHp11,zHp12,zHp13,zHp14,zHp15,zHp16] mixed k_e k_e<|fun w1 H=>zE rfl rfl<|zF 2 0 zD rfl<|tk (fun _ Z=>ZK (Z.at 1 rfl) 0 rfl rfl rfl zK)<|zE rfl rfl<|tk (fun _ Z=>zz (Z.el 5 rfl E hx) 3 zy zK)<|H.Z7 [6,5,5]<|fun H=>?_
 refine Z8.mk (Fc.imp (Rn.Pe H zO zO zO zO zO zO zO zO) ?_)
 rintro _ w2 ⟨f1,⟨Zx,⟨Tz,⟨e1,⟨rfl,⟨h2,H⟩⟩⟩⟩⟩⟩
 obtain ⟨rfl,rfl,rfl⟩:=Sw h2 hq
 refine Z9 rfl<|Yg H 6 rfl E hx 3 (⟨c.fn,c.at_,c.vl,c.loc,(Zx),s2.take (s2.length-(YN m.d f).Za.length)⟩) rfl k_o rfl rfl<|fun w3 H=>cF (Xa zO)<|ZI H [] [zHp0,zHp1,zHp2,zHh3,zHp4,zHp5,zHp6,zHp7,zHh8,zHp9,zHf10,zHp11,zHp12,zHp13,zHp14] mixed k_e k_e<|fun w2 H=>zE rfl rfl ?_
 have hx1:(cs.set i { fn:=c.fn,at_:=c.at_,vl:=c.vl,loc:=c.loc,vs:=Zx,stk:=List.take (s2.length-(YN m.d f).Za.length) s2 })[i]?=some _:=Vq hx
 refine tk (fun _ Z=>zz (Z.el 6 rfl E hx1) 3 zy zK) ?_
 obtain ⟨a1,c1,V1⟩:=H.form 2 rfl
 refine tk (fun _ Z=>W3 V1 rfl zK)<|zE rfl rfl<|zF 5 0 zD rfl ?_
 refine Z8.mk (Fc.imp (Rn.LL H zO zO _ zO zO) ?_)
 rintro _ w3 ⟨t1,⟨rfl,⟨h3,⟨h4,⟨h5,⟨h6,⟨h7,H⟩⟩⟩⟩⟩⟩⟩
 have IA:=hty _ zN
 have Ol:=Wx.Za (by assumption:Wx g _)
 refine Zs.mk (H)<|tk (fun _ Z=>Lw rfl zK)<|tk (fun _ Z=>ZD Ol rfl zK)<|ZU zO<|Z9 rfl<|zz (H.el 6 rfl E hx1) 3 zy ?_
 obtain ⟨v1,V2⟩:=H.vw 2 rfl (((s2.length)-(t1.Za.length))) ((s2).length) zO zO
 refine Wl V2 rfl rfl (.inr ⟨_,by first|rfl|(congr 2;omega)⟩) (.inl ⟨rfl,rfl⟩)<|H.Z7 [2]<|fun H=>?_
 refine Z8.mk (Fc.imp (Rn.NL H V2 zO) ?_)
 rintro v' w4 H
 refine Z9 rfl<|zG H 6 0 zD<|Z9 rfl<|Z9 rfl<|zG H 2 1 zD<|ZD Zv rfl<|ZU zO<|WU (Yy zO)<|cF rfl<|Z9 rfl<|zz (H.el 7 rfl E hx1) 3 zy ?_
 obtain ⟨v2,V3⟩:=H.vw 1 rfl (0) (((s2.length)-(t1.Za.length))) zO zO
 refine Wl V3 rfl rfl (.inl ⟨rfl,rfl⟩) (.inr ⟨_,by first|rfl|(congr 2;omega)⟩)<|Z9 rfl<|Yg H 7 rfl E hx1 3 (⟨c.fn,c.at_,c.vl,c.loc,(v2),s2.take (s2.length-(YN m.d f).Za.length)⟩) rfl (by simp only [Bool.and_true,H.one 0 rfl,H.one 1 rfl,H.one 3 rfl,H.one 7 rfl,Vw.one V3,Vw.one V2,Z6.one Ol,hvs,Z6.one ZP,Z6.one Zv,Z6.one ZQ,hvl]) rfl rfl<|fun w5 H=>cT (Y9 zO)<|ZU zO<|Z9 rfl<|Yc H 6 rfl rfl rfl rfl<|fun w4 H=>?_
 obtain ⟨a2,c2,rfl⟩:=H.form 0 rfl
 refine Zq rfl rfl rfl<|ZJ H 4 rfl rfl rfl rfl<|fun w5 H=>XF (H.at 4 rfl) 0 rfl rfl rfl ?_
 replace H:=H.HQ 1 rfl V3
 simp only [List.set_cons_succ,List.set_cons_zero,List.drop_zero,IA,List.set_set] at H
 refine Z5.mk ⟨v2,_,(by rw [IA]),?_⟩
 exact H.Z7 [0,1,7,4,4,7]<|fun H=>zw H [7,6]<|fun H=>H
theorem afo (E:El vc 4 i b o) (c:CV) (hx:cs[i]?=some c) (H:Sat g w (Pt pr [zI cp,vw,vc,zJ host] 148::Pt cp (zL m [zI mp,vt,vg]) 158::Sl 3 1 ZH vt Zw::Sl 79 4 WD vc cs::Sl 2 1 ZH c.vs c.stk::l)) (hm:Xu g m) (P:UN m.d) (ho:x.op=16\/x.op=17) (Rh:∀n∈Zw,-1<=n/\n<(m.Zz.length:Int)+m.funcs.length) (h1:x.op=17->1<=c.stk.length/\0<=x.a/\x.a<m.types.length) (T3:∀v∈c.stk,XC v) (hlen:c.stk.length<=10000) (Nc:Zw.length<=1000) (Sf:cs.length<=40) (hvl:c.vl.oneCell'=true) (hq:Zb m.d Zw x c.stk=(f,s2,0)) (hf:0<=f/\f<(m.Zz.length:Int)+m.funcs.length) (IB:(YN m.d f).Za.length<=s2.length) (PT:s2.length<=10000) (k:Nat) (F:Yt) (Fk:f=m.Zz.length+k) (hF:m.funcs[k]?=some F) (hFl:F.loc.length<=16) (h4:(YN m.d f).Za.length<=4) (EU:cs.length<40):zn 163 #[zI pr,.pointer (some ⟨b,o,none⟩),.agg #[.int .u8 x.op,zJ x.a,zJ x.b,Sr]] w (fun r w'=>∃L4 vs' PU,r=.agg #[zJ 0,.slice none 0 0,zJ 0,zJ 0,zJ 0]/\Sat g w' (Pt pr [zI cp,vw,L4,zJ host] 148::Pt cp (zL m [zI mp,vt,vg]) 158::Sl 3 1 ZH vt Zw::Sl 79 4 WD L4 (cs.set i ⟨c.fn,c.at_,c.vl,c.loc,vs',s2.take (s2.length-(YN m.d f).Za.length)⟩++[⟨k,0,PU,(s2.drop (s2.length-(YN m.d f).Za.length))++List.replicate F.loc.length 0,.slice none 0 0,[]⟩])::Sl 2 1 ZH vs' (s2.take (s2.length-(YN m.d f).Za.length))::Sl 2 1 ZH PU ((s2.drop (s2.length-(YN m.d f).Za.length))++List.replicate F.loc.length 0)::Sl 2 1 ZH (.slice none 0 0) []::l)):=by
 refine Fc.of Tryz.func163 rfl k_e ?_
 have ZQ:=hm.types
 have Zv:=hm.Zz
 have ZP:=hm.funcs
 have hvs:=H.one 4 rfl
 have hni:m.Zz.length<=16:=P.ni
 have hnf:m.funcs.length<=16:=by have:=P.nf;rwa [show m.d.funcs.length=m.funcs.length from lfa ..] at this
 have hty:∀t:XK,t.d=YN m.d f->t.Za.length=(YN m.d f).Za.length:=fun t h=>by rw [<-h];rfl
 refine ZN H<|fun p1 w1 H=>ZX H rfl<|fun p2 w2 H=>ZI H [] [zHp0,zHp1,zHp2,zHh3,zHh4,zHp5,zHp6,zHp7,zHh8,zHfr9,zHp10,zHp11,zHp12,zHp13,zHp14,zHp15,zHp16] mixed k_e k_e<|fun w1 H=>zE rfl rfl<|zF 2 0 zD rfl<|tk (fun _ Z=>ZK (Z.at 1 rfl) 0 rfl rfl rfl zK)<|zE rfl rfl<|tk (fun _ Z=>zz (Z.el 5 rfl E hx) 3 zy zK)<|H.Z7 [6,5,5]<|fun H=>?_
 refine Z8.mk (Fc.imp (Rn.Pe H zO zO zO zO zO zO zO zO) ?_)
 rintro _ w2 ⟨f1,⟨Zx,⟨Tz,⟨e1,⟨rfl,⟨h2,H⟩⟩⟩⟩⟩⟩
 obtain ⟨rfl,rfl,rfl⟩:=Sw h2 hq
 refine Z9 rfl<|Yg H 6 rfl E hx 3 (⟨c.fn,c.at_,c.vl,c.loc,(Zx),s2.take (s2.length-(YN m.d f).Za.length)⟩) rfl k_o rfl rfl<|fun w3 H=>cF (Xa zO)<|ZI H [] [zHp0,zHp1,zHp2,zHh3,zHp4,zHp5,zHp6,zHp7,zHh8,zHp9,zHf10,zHp11,zHp12,zHp13,zHp14] mixed k_e k_e<|fun w2 H=>zE rfl rfl ?_
 have hx1:(cs.set i { fn:=c.fn,at_:=c.at_,vl:=c.vl,loc:=c.loc,vs:=Zx,stk:=List.take (s2.length-(YN m.d f).Za.length) s2 })[i]?=some _:=Vq hx
 refine tk (fun _ Z=>zz (Z.el 6 rfl E hx1) 3 zy zK) ?_
 obtain ⟨a1,c1,V1⟩:=H.form 2 rfl
 refine tk (fun _ Z=>W3 V1 rfl zK)<|zE rfl rfl<|zF 5 0 zD rfl ?_
 refine Z8.mk (Fc.imp (Rn.LL H zO zO _ zO zO) ?_)
 rintro _ w3 ⟨t1,⟨rfl,⟨h3,⟨h5,⟨h6,⟨h7,⟨h8,H⟩⟩⟩⟩⟩⟩⟩
 have IA:=hty _ zN
 have Ol:=Wx.Za (by assumption:Wx g _)
 refine Zs.mk (H)<|tk (fun _ Z=>Lw rfl zK)<|tk (fun _ Z=>ZD Ol rfl zK)<|ZU zO<|Z9 rfl<|zz (H.el 6 rfl E hx1) 3 zy ?_
 obtain ⟨v1,V2⟩:=H.vw 2 rfl (((s2.length)-(t1.Za.length))) ((s2).length) zO zO
 refine Wl V2 rfl rfl (.inr ⟨_,by first|rfl|(congr 2;omega)⟩) (.inl ⟨rfl,rfl⟩)<|H.Z7 [2]<|fun H=>?_
 refine Z8.mk (Fc.imp (Rn.NL H V2 zO) ?_)
 rintro v' w4 H
 refine Z9 rfl<|zG H 6 0 zD<|Z9 rfl<|Z9 rfl<|zG H 2 1 zD<|ZD Zv rfl<|ZU zO<|Wp (Yh zO)<|Z9 rfl<|zG H 6 2 zD<|Yz H 7 rfl rfl<|cF (Z4 (by grind))<|Z9 rfl<|zz (H.el 7 rfl E hx1) 3 zy ?_
 obtain ⟨v2,V3⟩:=H.vw 1 rfl (0) (((s2.length)-(t1.Za.length))) zO zO
 refine Wl V3 rfl rfl (.inl ⟨rfl,rfl⟩) (.inr ⟨_,by first|rfl|(congr 2;omega)⟩)<|Z9 rfl<|Yg H 7 rfl E hx1 3 (⟨c.fn,c.at_,c.vl,c.loc,(v2),s2.take (s2.length-(YN m.d f).Za.length)⟩) rfl (by simp only [Bool.and_true,H.one 0 rfl,H.one 1 rfl,H.one 3 rfl,H.one 7 rfl,Vw.one V3,Vw.one V2,Z6.one Ol,hvs,Z6.one ZP,Z6.one Zv,Z6.one ZQ,hvl]) rfl rfl<|fun w5 H=>cF (Zj zO) ?_
 replace H:=H.HQ 1 rfl V3
 simp only [List.set_cons_succ,List.set_cons_zero,List.drop_zero,IA,List.set_set] at H
 rw [show f-(m.Zz.length:Int)=(k:Int) by omega]
 refine H.Z7 [0,7,3,7]<|fun H=>?_
 refine Z8.mk (Fc.imp (Rn.ai8 H zO (k) _ hF zO ?_ ?_ ?_) ?_)
 .grind
 .grind
 .omega
 rintro V5 w4 ⟨Gx,⟨TN,H⟩⟩
 refine Zq rfl rfl rfl<|ZJ H 7 rfl rfl rfl rfl<|fun w6 H=>XF (H.at 7 rfl) 0 rfl rfl rfl ?_
 refine Z5.mk ⟨Gx,v2,TN,rfl,?_⟩
 exact H.Z7 [4,4,5,5,6,6,6]<|fun H=>zw H [8,7]<|fun H=>H
end
end Rn
namespace Rn
open Go Y2 Go.RowKit
open YZ Zn X4 YS Valid Mem
def fr (c:CV):List As:=[Sl 2 1 ZH c.vl c.loc,Sl 2 1 ZH c.vs c.stk]
def Qf (cs:List CV):As:=OO (cs.flatMap fr)
section
variable {g:ZB} {w:World} {l:List As} {m:Zg} {pr cp mp:Nat} {vw vc vt vg vp Sr vj:Value} {host f e:Int} {cs up:List CV} {Zw Zl s2:zm} {ps:List W1} {c u:CV} {x:ZW} {i b o:Nat} {ws:List Yl} {j:Yl}
theorem NK (H:Sat g w (Sl 2 1 ZH c.vl c.loc::Sl 2 1 ZH c.vs c.stk::Qf up::l)):Sat g w (Qf (up++[c])::l):=by
 refine H.Z7 [2]<|fun H=>?_
 have H:Sat g w (OO (up.flatMap fr)::([Sl 2 1 ZH c.vl c.loc,Sl 2 1 ZH c.vs c.stk]++l)):=H
 have H:=H.unbox
 rw [<-lka] at H
 have H:=H.box
 show Sat g w (OO ((up++[c]).flatMap fr)::l)
 rw [lQa]
 exact H
theorem Yj (hcs:cs=up++[c]):cs[up.length]?=some c:=by grind
theorem Ye (hcs:cs=up++[c]) (z:CV):cs.set up.length z=up++[z]:=by grind
theorem alJ (H:Sat g w (Pt pr [zI cp,vw,vc,zJ 0] 148::Pt cp (zL m [zI mp,vt,vg]) 158::Pt mp [vp,zJ m.most] 221::Sl 223 256 Xi vp ps::Sl 3 1 ZH vt Zw::Sl 2 1 ZH vg Zl::Sl 79 4 WD vc cs::Qf up::Sl 2 1 ZH c.vl c.loc::Sl 2 1 ZH c.vs c.stk::l)) (hcs:cs=up++[c]) (E:El vc 4 up.length b o) (TU:0<=c.at_/\c.at_<=1000) (hlen:c.stk.length<=10000) (ho:x.op=0):zn 114 #[zI pr,.pointer (some ⟨b,o,none⟩),.agg #[.int .u8 x.op,zJ x.a,zJ x.b,Sr],vj] w (fun r w'=>r=.agg #[zJ 2,.slice none 0 0,zJ 20,zJ 0,zJ 0]/\Sat g w' (Pt pr [zI cp,vw,vc,zJ 0] 148::Pt cp (zL m [zI mp,vt,vg]) 158::Pt mp [vp,zJ m.most] 221::Sl 223 256 Xi vp ps::Sl 3 1 ZH vt Zw::Sl 2 1 ZH vg Zl::l)):=by
 refine Fc.of Tryz.func114 rfl k_e ?_
 have hx:=Yj hcs
 refine ZN H<|fun p1 w1 H=>ZX H rfl<|fun p2 w2 H=>Z9 rfl<|zz (H.el 8 rfl E hx) 1 zy<|ZU zO<|Z9 rfl<|Yg H 8 rfl E hx 1 (⟨c.fn,c.at_+1,c.vl,c.loc,c.vs,c.stk⟩) rfl rfl rfl rfl<|fun w1 H=>Z9 rfl<|zG H 1 0 zD<|bk<|cT (ZM zN)<|Zq rfl rfl rfl<|ZJ H 0 rfl rfl rfl rfl<|fun w2 H=>XF (H.at 0 rfl) 0 rfl rfl rfl<|Z5.mk ?_
 refine ⟨rfl,?_⟩
 exact H.Z7 [7,7,7,7,7,7]<|fun H=>zw H [11,10,9,8,7,6]<|fun H=>H
theorem alK (H:Sat g w (Pt pr [zI cp,vw,vc,zJ 0] 148::Pt cp (zL m [zI mp,vt,vg]) 158::Pt mp [vp,zJ m.most] 221::Sl 223 256 Xi vp ps::Sl 3 1 ZH vt Zw::Sl 2 1 ZH vg Zl::Sl 79 4 WD vc cs::Qf up::Sl 2 1 ZH c.vl c.loc::Sl 2 1 ZH c.vs c.stk::l)) (hcs:cs=up++[c]) (E:El vc 4 up.length b o) (TU:0<=c.at_/\c.at_<=1000) (hlen:c.stk.length<=10000) (ho:x.op=1\/x.op=2\/x.op=3):zn 114 #[zI pr,.pointer (some ⟨b,o,none⟩),.agg #[.int .u8 x.op,zJ x.a,zJ x.b,Sr],vj] w (fun r w'=>r=.agg #[zJ 0,.slice none 0 0,zJ 0,zJ 0,zJ 0]/\Sat g w' (Pt pr [zI cp,vw,vc,zJ 0] 148::Pt cp (zL m [zI mp,vt,vg]) 158::Pt mp [vp,zJ m.most] 221::Sl 223 256 Xi vp ps::Sl 3 1 ZH vt Zw::Sl 2 1 ZH vg Zl::Sl 79 4 WD vc (up++[⟨c.fn,c.at_+1,c.vl,c.loc,c.vs,c.stk⟩])::Qf up::Sl 2 1 ZH c.vl c.loc::Sl 2 1 ZH c.vs c.stk::l)):=by
 refine Fc.of Tryz.func114 rfl k_e ?_
 have hx:=Yj hcs
 have VW:=Ye hcs
 rcases ho with ho|ho|ho
 .refine ZN H<|fun p1 w1 H=>ZX H rfl<|fun p2 w2 H=>Z9 rfl<|zz (H.el 8 rfl E hx) 1 zy<|ZU zO<|Z9 rfl<|Yg H 8 rfl E hx 1 (⟨c.fn,c.at_+1,c.vl,c.loc,c.vs,c.stk⟩) rfl rfl rfl rfl<|fun w1 H=>Z9 rfl<|zG H 1 0 zD<|bk<|cF (Z4 zO)<|cT (ZM zN)<|cT (ZM zN)<|Zq rfl rfl rfl<|ZJ H 0 rfl rfl rfl rfl<|fun w2 H=>XF (H.at 0 rfl) 0 rfl rfl rfl<|Z5.mk ?_
  refine ⟨rfl,?_⟩
  refine H.Z7 [11,11,11,11,11,11,11,11,11,11]<|fun H=>zw H [11,10]<|fun H=>?_
  refine H.cg (YF rfl (YF rfl (YF rfl (YF rfl (YF rfl (YF rfl (YF (PV ?_) (YF rfl (YF rfl (YF rfl (rfl)))))))))))
  exact VW _
 .refine ZN H<|fun p1 w1 H=>ZX H rfl<|fun p2 w2 H=>Z9 rfl<|zz (H.el 8 rfl E hx) 1 zy<|ZU zO<|Z9 rfl<|Yg H 8 rfl E hx 1 (⟨c.fn,c.at_+1,c.vl,c.loc,c.vs,c.stk⟩) rfl rfl rfl rfl<|fun w1 H=>Z9 rfl<|zG H 1 0 zD<|bk<|cF (Z4 zO)<|cF (Z4 zO)<|cT (ZM zN)<|cT (ZM zN)<|Zq rfl rfl rfl<|ZJ H 0 rfl rfl rfl rfl<|fun w2 H=>XF (H.at 0 rfl) 0 rfl rfl rfl<|Z5.mk ?_
  refine ⟨rfl,?_⟩
  refine H.Z7 [11,11,11,11,11,11,11,11,11,11]<|fun H=>zw H [11,10]<|fun H=>?_
  refine H.cg (YF rfl (YF rfl (YF rfl (YF rfl (YF rfl (YF rfl (YF (PV ?_) (YF rfl (YF rfl (YF rfl (rfl)))))))))))
  exact VW _
 .refine ZN H<|fun p1 w1 H=>ZX H rfl<|fun p2 w2 H=>Z9 rfl<|zz (H.el 8 rfl E hx) 1 zy<|ZU zO<|Z9 rfl<|Yg H 8 rfl E hx 1 (⟨c.fn,c.at_+1,c.vl,c.loc,c.vs,c.stk⟩) rfl rfl rfl rfl<|fun w1 H=>Z9 rfl<|zG H 1 0 zD<|bk<|cF (Z4 zO)<|cF (Z4 zO)<|cF (Z4 zO)<|cT (ZM zN)<|Zq rfl rfl rfl<|ZJ H 0 rfl rfl rfl rfl<|fun w2 H=>XF (H.at 0 rfl) 0 rfl rfl rfl<|Z5.mk ?_
  refine ⟨rfl,?_⟩
  refine H.Z7 [11,11,11,11,11,11,11,11,11,11]<|fun H=>zw H [11,10]<|fun H=>?_
  refine H.cg (YF rfl (YF rfl (YF rfl (YF rfl (YF rfl (YF rfl (YF (PV ?_) (YF rfl (YF rfl (YF rfl (rfl)))))))))))
  exact VW _
theorem ai9 (H:Sat g w (Pt pr [zI cp,vw,vc,zJ 0] 148::Pt cp (zL m [zI mp,vt,vg]) 158::Pt mp [vp,zJ m.most] 221::Sl 223 256 Xi vp ps::Sl 3 1 ZH vt Zw::Sl 2 1 ZH vg Zl::Sl 79 4 WD vc cs::Qf up::Sl 2 1 ZH c.vl c.loc::Sl 2 1 ZH c.vs c.stk::l)) (hcs:cs=up++[c]) (E:El vc 4 up.length b o) (TU:0<=c.at_/\c.at_<=1000) (hlen:c.stk.length<=10000) (hj:Z6 g NR CF 3 vj ws) (hjn:0<=j.height) (AO:0<=j.keep) (Cz:ws.length<=100) (ho:x.op=12\/x.op=15) (hw:ws[0]?=some j) (hjf:j.height+j.keep<=c.stk.length):zn 114 #[zI pr,.pointer (some ⟨b,o,none⟩),.agg #[.int .u8 x.op,zJ x.a,zJ x.b,Sr],vj] w (fun r w'=>∃vs',r=.agg #[zJ 0,.slice none 0 0,zJ 0,zJ 0,zJ 0]/\Sat g w' (Pt pr [zI cp,vw,vc,zJ 0] 148::Pt cp (zL m [zI mp,vt,vg]) 158::Pt mp [vp,zJ m.most] 221::Sl 223 256 Xi vp ps::Sl 3 1 ZH vt Zw::Sl 2 1 ZH vg Zl::Sl 79 4 WD vc (up++[⟨c.fn,j.at_,c.vl,c.loc,vs',(c.stk.take j.height.toNat++c.stk.drop (c.stk.length-j.keep.toNat))⟩])::Qf up::Sl 2 1 ZH c.vl c.loc::Sl 2 1 ZH vs' (c.stk.take j.height.toNat++c.stk.drop (c.stk.length-j.keep.toNat))::l)):=by
 refine Fc.of Tryz.func114 rfl k_e ?_
 have hx:=Yj hcs
 have VW:=Ye hcs
 rcases ho with ho|ho
 .refine ZN H<|fun p1 w1 H=>ZX H rfl<|fun p2 w2 H=>Z9 rfl<|zz (H.el 8 rfl E hx) 1 zy<|ZU zO<|Z9 rfl<|Yg H 8 rfl E hx 1 (⟨c.fn,c.at_+1,c.vl,c.loc,c.vs,c.stk⟩) rfl rfl rfl rfl<|fun w1 H=>Z9 rfl<|zG H 1 0 zD<|bk ?_
  simp only [VW] at H
  have hx1:(up++[(⟨c.fn,c.at_+1,c.vl,c.loc,c.vs,c.stk⟩:CV)])[up.length]?=some (⟨c.fn,c.at_+1,c.vl,c.loc,c.vs,c.stk⟩:CV):=Yj rfl
  clear hx
  have VY:∀z,(up++[(⟨c.fn,c.at_+1,c.vl,c.loc,c.vs,c.stk⟩:CV)]).set up.length z=up++[z]:=Ye rfl
  refine cF (Z4 zO)<|cF (Z4 zO)<|cF (Z4 zO)<|cF (Z4 zO)<|cF (Z4 zO)<|cT (ZM zN)<|cT (ZM zN) ?_
  obtain ⟨b1,o1,E1,F1,ZC⟩:=Z6.YQ hj hw
  refine ZF E1 rfl rfl rfl<|ZK (H.X9 F1) 0 rfl rfl rfl<|H.Z7 [11,9]<|fun H=>?_
  refine Z8.mk (Fc.imp (Rn.JC E _ hx1 H _ zO zO zO ?_) ?_)
  .grind
  rintro v' w2 ⟨Zx,H⟩
  refine Zq rfl rfl rfl<|ZJ H 2 rfl rfl rfl rfl<|fun w3 H=>XF (H.at 2 rfl) 0 rfl rfl rfl<|Z5.mk ?_
  refine ⟨Zx,?_⟩
  refine ⟨rfl,?_⟩
  refine H.Z7 [1,11,11,3,11,11,11,11,11,11]<|fun H=>zw H [11,10]<|fun H=>?_
  refine H.cg (YF rfl (YF rfl (YF rfl (YF rfl (YF rfl (YF rfl (YF (PV ?_) (YF rfl (YF rfl (YF rfl (rfl)))))))))))
  exact VY _
 .refine ZN H<|fun p1 w1 H=>ZX H rfl<|fun p2 w2 H=>Z9 rfl<|zz (H.el 8 rfl E hx) 1 zy<|ZU zO<|Z9 rfl<|Yg H 8 rfl E hx 1 (⟨c.fn,c.at_+1,c.vl,c.loc,c.vs,c.stk⟩) rfl rfl rfl rfl<|fun w1 H=>Z9 rfl<|zG H 1 0 zD<|bk ?_
  simp only [VW] at H
  have hx1:(up++[(⟨c.fn,c.at_+1,c.vl,c.loc,c.vs,c.stk⟩:CV)])[up.length]?=some (⟨c.fn,c.at_+1,c.vl,c.loc,c.vs,c.stk⟩:CV):=Yj rfl
  clear hx
  have VY:∀z,(up++[(⟨c.fn,c.at_+1,c.vl,c.loc,c.vs,c.stk⟩:CV)]).set up.length z=up++[z]:=Ye rfl
  refine cF (Z4 zO)<|cF (Z4 zO)<|cF (Z4 zO)<|cF (Z4 zO)<|cF (Z4 zO)<|cF (Z4 zO)<|cT (ZM zN) ?_
  obtain ⟨b1,o1,E1,F1,ZC⟩:=Z6.YQ hj hw
  refine ZF E1 rfl rfl rfl<|ZK (H.X9 F1) 0 rfl rfl rfl<|H.Z7 [11,9]<|fun H=>?_
  refine Z8.mk (Fc.imp (Rn.JC E _ hx1 H _ zO zO zO ?_) ?_)
  .grind
  rintro v' w2 ⟨Zx,H⟩
  refine Zq rfl rfl rfl<|ZJ H 2 rfl rfl rfl rfl<|fun w3 H=>XF (H.at 2 rfl) 0 rfl rfl rfl<|Z5.mk ?_
  refine ⟨Zx,?_⟩
  refine ⟨rfl,?_⟩
  refine H.Z7 [1,11,11,3,11,11,11,11,11,11]<|fun H=>zw H [11,10]<|fun H=>?_
  refine H.cg (YF rfl (YF rfl (YF rfl (YF rfl (YF rfl (YF rfl (YF (PV ?_) (YF rfl (YF rfl (YF rfl (rfl)))))))))))
  exact VY _
theorem ahK (H:Sat g w (Pt pr [zI cp,vw,vc,zJ 0] 148::Pt cp (zL m [zI mp,vt,vg]) 158::Pt mp [vp,zJ m.most] 221::Sl 223 256 Xi vp ps::Sl 3 1 ZH vt Zw::Sl 2 1 ZH vg Zl::Sl 79 4 WD vc cs::Qf up::Sl 2 1 ZH c.vl c.loc::Sl 2 1 ZH c.vs c.stk::l)) (hcs:cs=up++[c]) (E:El vc 4 up.length b o) (TU:0<=c.at_/\c.at_<=1000) (hlen:c.stk.length<=10000) (hj:Z6 g NR CF 3 vj ws) (hjn:0<=j.height) (AO:0<=j.keep) (Cz:ws.length<=100) (h1:1<=c.stk.length) (ho:(x.op=4/\top c.stk 0=0)\/(x.op=13/\top c.stk 0≠0)) (hw:ws[0]?=some j) (hjf:j.height+j.keep<=(low c.stk 1).length):zn 114 #[zI pr,.pointer (some ⟨b,o,none⟩),.agg #[.int .u8 x.op,zJ x.a,zJ x.b,Sr],vj] w (fun r w'=>∃vs',r=.agg #[zJ 0,.slice none 0 0,zJ 0,zJ 0,zJ 0]/\Sat g w' (Pt pr [zI cp,vw,vc,zJ 0] 148::Pt cp (zL m [zI mp,vt,vg]) 158::Pt mp [vp,zJ m.most] 221::Sl 223 256 Xi vp ps::Sl 3 1 ZH vt Zw::Sl 2 1 ZH vg Zl::Sl 79 4 WD vc (up++[⟨c.fn,j.at_,c.vl,c.loc,vs',((low c.stk 1).take j.height.toNat++(low c.stk 1).drop ((low c.stk 1).length-j.keep.toNat))⟩])::Qf up::Sl 2 1 ZH c.vl c.loc::Sl 2 1 ZH vs' ((low c.stk 1).take j.height.toNat++(low c.stk 1).drop ((low c.stk 1).length-j.keep.toNat))::l)):=by
 refine Fc.of Tryz.func114 rfl k_e ?_
 have hx:=Yj hcs
 have VW:=Ye hcs
 have QJ:(low c.stk 1).length=c.stk.length-1:=Pv
 rcases ho with ⟨ho,hz⟩|⟨ho,hz⟩
 .refine ZN H<|fun p1 w1 H=>ZX H rfl<|fun p2 w2 H=>Z9 rfl<|zz (H.el 8 rfl E hx) 1 zy<|ZU zO<|Z9 rfl<|Yg H 8 rfl E hx 1 (⟨c.fn,c.at_+1,c.vl,c.loc,c.vs,c.stk⟩) rfl rfl rfl rfl<|fun w1 H=>Z9 rfl<|zG H 1 0 zD<|bk ?_
  simp only [VW] at H
  have hx1:(up++[(⟨c.fn,c.at_+1,c.vl,c.loc,c.vs,c.stk⟩:CV)])[up.length]?=some (⟨c.fn,c.at_+1,c.vl,c.loc,c.vs,c.stk⟩:CV):=Yj rfl
  clear hx
  have VY:∀z,(up++[(⟨c.fn,c.at_+1,c.vl,c.loc,c.vs,c.stk⟩:CV)]).set up.length z=up++[z]:=Ye rfl
  refine cF (Z4 zO)<|cF (Z4 zO)<|cF (Z4 zO)<|cF (Z4 zO)<|cT (ZM zN)<|H.Z7 [11,9]<|fun H=>?_
  refine Z8.mk (Fc.imp (Rn.Pd E _ hx1 H zO ?_) ?_)
  .grind
  rintro _ w2 ⟨Zx,⟨t1,⟨rfl,⟨h2,H⟩⟩⟩⟩
  simp only [VY] at H
  replace h2:t1=top c.stk 0:=h2
  clear hx1
  have QY:(up++[(⟨c.fn,c.at_+1,c.vl,c.loc,Zx,low c.stk 1⟩:CV)])[up.length]?=some (⟨c.fn,c.at_+1,c.vl,c.loc,Zx,low c.stk 1⟩:CV):=Yj rfl
  have PX:∀z,(up++[(⟨c.fn,c.at_+1,c.vl,c.loc,Zx,low c.stk 1⟩:CV)]).set up.length z=up++[z]:=Ye rfl
  refine cT (ZM zO) ?_
  obtain ⟨b1,o1,E1,F1,ZC⟩:=Z6.YQ hj hw
  refine ZF E1 rfl rfl rfl<|ZK (H.X9 F1) 0 rfl rfl rfl ?_
  refine Z8.mk (Fc.imp (Rn.JC E _ QY H _ zO zO zO ?_) ?_)
  .grind
  rintro v' w3 ⟨VF,H⟩
  refine Zq rfl rfl rfl<|ZJ H 2 rfl rfl rfl rfl<|fun w4 H=>XF (H.at 2 rfl) 0 rfl rfl rfl<|Z5.mk ?_
  refine ⟨VF,?_⟩
  refine ⟨rfl,?_⟩
  refine H.Z7 [1,11,11,3,11,11,11,11,11,11]<|fun H=>zw H [11,10]<|fun H=>?_
  refine H.cg (YF rfl (YF rfl (YF rfl (YF rfl (YF rfl (YF rfl (YF (PV ?_) (YF rfl (YF rfl (YF rfl (rfl)))))))))))
  exact PX _
 .refine ZN H<|fun p1 w1 H=>ZX H rfl<|fun p2 w2 H=>Z9 rfl<|zz (H.el 8 rfl E hx) 1 zy<|ZU zO<|Z9 rfl<|Yg H 8 rfl E hx 1 (⟨c.fn,c.at_+1,c.vl,c.loc,c.vs,c.stk⟩) rfl rfl rfl rfl<|fun w1 H=>Z9 rfl<|zG H 1 0 zD<|bk ?_
  simp only [VW] at H
  have hx1:(up++[(⟨c.fn,c.at_+1,c.vl,c.loc,c.vs,c.stk⟩:CV)])[up.length]?=some (⟨c.fn,c.at_+1,c.vl,c.loc,c.vs,c.stk⟩:CV):=Yj rfl
  clear hx
  have VY:∀z,(up++[(⟨c.fn,c.at_+1,c.vl,c.loc,c.vs,c.stk⟩:CV)]).set up.length z=up++[z]:=Ye rfl
  refine cF (Z4 zO)<|cF (Z4 zO)<|cF (Z4 zO)<|cF (Z4 zO)<|cF (Z4 zO)<|cF (Z4 zO)<|cF (Z4 zO)<|cT (ZM zN)<|H.Z7 [11,9]<|fun H=>?_
  refine Z8.mk (Fc.imp (Rn.Pd E _ hx1 H zO ?_) ?_)
  .grind
  rintro _ w2 ⟨Zx,⟨t1,⟨rfl,⟨h2,H⟩⟩⟩⟩
  simp only [VY] at H
  replace h2:t1=top c.stk 0:=h2
  clear hx1
  have QY:(up++[(⟨c.fn,c.at_+1,c.vl,c.loc,Zx,low c.stk 1⟩:CV)])[up.length]?=some (⟨c.fn,c.at_+1,c.vl,c.loc,Zx,low c.stk 1⟩:CV):=Yj rfl
  have PX:∀z,(up++[(⟨c.fn,c.at_+1,c.vl,c.loc,Zx,low c.stk 1⟩:CV)]).set up.length z=up++[z]:=Ye rfl
  refine cT (V8 zO) ?_
  obtain ⟨b1,o1,E1,F1,ZC⟩:=Z6.YQ hj hw
  refine ZF E1 rfl rfl rfl<|ZK (H.X9 F1) 0 rfl rfl rfl ?_
  refine Z8.mk (Fc.imp (Rn.JC E _ QY H _ zO zO zO ?_) ?_)
  .grind
  rintro v' w3 ⟨VF,H⟩
  refine Zq rfl rfl rfl<|ZJ H 2 rfl rfl rfl rfl<|fun w4 H=>XF (H.at 2 rfl) 0 rfl rfl rfl<|Z5.mk ?_
  refine ⟨VF,?_⟩
  refine ⟨rfl,?_⟩
  refine H.Z7 [1,11,11,3,11,11,11,11,11,11]<|fun H=>zw H [11,10]<|fun H=>?_
  refine H.cg (YF rfl (YF rfl (YF rfl (YF rfl (YF rfl (YF rfl (YF (PV ?_) (YF rfl (YF rfl (YF rfl (rfl)))))))))))
  exact PX _
theorem ahL (H:Sat g w (Pt pr [zI cp,vw,vc,zJ 0] 148::Pt cp (zL m [zI mp,vt,vg]) 158::Pt mp [vp,zJ m.most] 221::Sl 223 256 Xi vp ps::Sl 3 1 ZH vt Zw::Sl 2 1 ZH vg Zl::Sl 79 4 WD vc cs::Qf up::Sl 2 1 ZH c.vl c.loc::Sl 2 1 ZH c.vs c.stk::l)) (hcs:cs=up++[c]) (E:El vc 4 up.length b o) (TU:0<=c.at_/\c.at_<=1000) (hlen:c.stk.length<=10000) (h1:1<=c.stk.length) (ho:(x.op=4/\top c.stk 0≠0)\/(x.op=13/\top c.stk 0=0)):zn 114 #[zI pr,.pointer (some ⟨b,o,none⟩),.agg #[.int .u8 x.op,zJ x.a,zJ x.b,Sr],vj] w (fun r w'=>∃vs',r=.agg #[zJ 0,.slice none 0 0,zJ 0,zJ 0,zJ 0]/\Sat g w' (Pt pr [zI cp,vw,vc,zJ 0] 148::Pt cp (zL m [zI mp,vt,vg]) 158::Pt mp [vp,zJ m.most] 221::Sl 223 256 Xi vp ps::Sl 3 1 ZH vt Zw::Sl 2 1 ZH vg Zl::Sl 79 4 WD vc (up++[⟨c.fn,c.at_+1,c.vl,c.loc,vs',(low c.stk 1)⟩])::Qf up::Sl 2 1 ZH c.vl c.loc::Sl 2 1 ZH vs' (low c.stk 1)::l)):=by
 refine Fc.of Tryz.func114 rfl k_e ?_
 have hx:=Yj hcs
 have VW:=Ye hcs
 have QJ:(low c.stk 1).length=c.stk.length-1:=Pv
 rcases ho with ⟨ho,hz⟩|⟨ho,hz⟩
 .refine ZN H<|fun p1 w1 H=>ZX H rfl<|fun p2 w2 H=>Z9 rfl<|zz (H.el 8 rfl E hx) 1 zy<|ZU zO<|Z9 rfl<|Yg H 8 rfl E hx 1 (⟨c.fn,c.at_+1,c.vl,c.loc,c.vs,c.stk⟩) rfl rfl rfl rfl<|fun w1 H=>Z9 rfl<|zG H 1 0 zD<|bk ?_
  simp only [VW] at H
  have hx1:(up++[(⟨c.fn,c.at_+1,c.vl,c.loc,c.vs,c.stk⟩:CV)])[up.length]?=some (⟨c.fn,c.at_+1,c.vl,c.loc,c.vs,c.stk⟩:CV):=Yj rfl
  clear hx
  have VY:∀z,(up++[(⟨c.fn,c.at_+1,c.vl,c.loc,c.vs,c.stk⟩:CV)]).set up.length z=up++[z]:=Ye rfl
  refine cF (Z4 zO)<|cF (Z4 zO)<|cF (Z4 zO)<|cF (Z4 zO)<|cT (ZM zN)<|H.Z7 [11,9]<|fun H=>?_
  refine Z8.mk (Fc.imp (Rn.Pd E _ hx1 H zO ?_) ?_)
  .grind
  rintro _ w2 ⟨Zx,⟨t1,⟨rfl,⟨h2,H⟩⟩⟩⟩
  simp only [VY] at H
  replace h2:t1=top c.stk 0:=h2
  clear hx1
  have QY:(up++[(⟨c.fn,c.at_+1,c.vl,c.loc,Zx,low c.stk 1⟩:CV)])[up.length]?=some (⟨c.fn,c.at_+1,c.vl,c.loc,Zx,low c.stk 1⟩:CV):=Yj rfl
  have PX:∀z,(up++[(⟨c.fn,c.at_+1,c.vl,c.loc,Zx,low c.stk 1⟩:CV)]).set up.length z=up++[z]:=Ye rfl
  refine cF (Z4 zO)<|Zq rfl rfl rfl<|ZJ H 2 rfl rfl rfl rfl<|fun w3 H=>XF (H.at 2 rfl) 0 rfl rfl rfl<|Z5.mk ?_
  refine ⟨Zx,?_⟩
  refine ⟨rfl,?_⟩
  exact H.Z7 [1,11,11,3,11,11,11,11,11,11]<|fun H=>zw H [11,10]<|fun H=>H
 .refine ZN H<|fun p1 w1 H=>ZX H rfl<|fun p2 w2 H=>Z9 rfl<|zz (H.el 8 rfl E hx) 1 zy<|ZU zO<|Z9 rfl<|Yg H 8 rfl E hx 1 (⟨c.fn,c.at_+1,c.vl,c.loc,c.vs,c.stk⟩) rfl rfl rfl rfl<|fun w1 H=>Z9 rfl<|zG H 1 0 zD<|bk ?_
  simp only [VW] at H
  have hx1:(up++[(⟨c.fn,c.at_+1,c.vl,c.loc,c.vs,c.stk⟩:CV)])[up.length]?=some (⟨c.fn,c.at_+1,c.vl,c.loc,c.vs,c.stk⟩:CV):=Yj rfl
  clear hx
  have VY:∀z,(up++[(⟨c.fn,c.at_+1,c.vl,c.loc,c.vs,c.stk⟩:CV)]).set up.length z=up++[z]:=Ye rfl
  refine cF (Z4 zO)<|cF (Z4 zO)<|cF (Z4 zO)<|cF (Z4 zO)<|cF (Z4 zO)<|cF (Z4 zO)<|cF (Z4 zO)<|cT (ZM zN)<|H.Z7 [11,9]<|fun H=>?_
  refine Z8.mk (Fc.imp (Rn.Pd E _ hx1 H zO ?_) ?_)
  .grind
  rintro _ w2 ⟨Zx,⟨t1,⟨rfl,⟨h2,H⟩⟩⟩⟩
  simp only [VY] at H
  replace h2:t1=top c.stk 0:=h2
  clear hx1
  have QY:(up++[(⟨c.fn,c.at_+1,c.vl,c.loc,Zx,low c.stk 1⟩:CV)])[up.length]?=some (⟨c.fn,c.at_+1,c.vl,c.loc,Zx,low c.stk 1⟩:CV):=Yj rfl
  have PX:∀z,(up++[(⟨c.fn,c.at_+1,c.vl,c.loc,Zx,low c.stk 1⟩:CV)]).set up.length z=up++[z]:=Ye rfl
  refine cF (Xa zO)<|Zq rfl rfl rfl<|ZJ H 2 rfl rfl rfl rfl<|fun w3 H=>XF (H.at 2 rfl) 0 rfl rfl rfl<|Z5.mk ?_
  refine ⟨Zx,?_⟩
  refine ⟨rfl,?_⟩
  exact H.Z7 [1,11,11,3,11,11,11,11,11,11]<|fun H=>zw H [11,10]<|fun H=>H
theorem aja (H:Sat g w (Pt pr [zI cp,vw,vc,zJ 0] 148::Pt cp (zL m [zI mp,vt,vg]) 158::Pt mp [vp,zJ m.most] 221::Sl 223 256 Xi vp ps::Sl 3 1 ZH vt Zw::Sl 2 1 ZH vg Zl::Sl 79 4 WD vc cs::Qf up::Sl 2 1 ZH c.vl c.loc::Sl 2 1 ZH c.vs c.stk::l)) (hcs:cs=up++[c]) (E:El vc 4 up.length b o) (TU:0<=c.at_/\c.at_<=1000) (hlen:c.stk.length<=10000) (hj:Z6 g NR CF 3 vj ws) (hjn:0<=j.height) (AO:0<=j.keep) (Cz:ws.length<=100) (h1:1<=c.stk.length) (T3:XC (top c.stk 0)) (ho:x.op=14) (hw0:1<=ws.length) (hw:ws[(min (top c.stk 0 % 4294967296) (ws.length-1)).toNat]?=some j) (hjf:j.height+j.keep<=(low c.stk 1).length):zn 114 #[zI pr,.pointer (some ⟨b,o,none⟩),.agg #[.int .u8 x.op,zJ x.a,zJ x.b,Sr],vj] w (fun r w'=>∃vs',r=.agg #[zJ 0,.slice none 0 0,zJ 0,zJ 0,zJ 0]/\Sat g w' (Pt pr [zI cp,vw,vc,zJ 0] 148::Pt cp (zL m [zI mp,vt,vg]) 158::Pt mp [vp,zJ m.most] 221::Sl 223 256 Xi vp ps::Sl 3 1 ZH vt Zw::Sl 2 1 ZH vg Zl::Sl 79 4 WD vc (up++[⟨c.fn,j.at_,c.vl,c.loc,vs',((low c.stk 1).take j.height.toNat++(low c.stk 1).drop ((low c.stk 1).length-j.keep.toNat))⟩])::Qf up::Sl 2 1 ZH c.vl c.loc::Sl 2 1 ZH vs' ((low c.stk 1).take j.height.toNat++(low c.stk 1).drop ((low c.stk 1).length-j.keep.toNat))::l)):=by
 refine Fc.of Tryz.func114 rfl k_e ?_
 have hx:=Yj hcs
 have VW:=Ye hcs
 have QJ:(low c.stk 1).length=c.stk.length-1:=Pv
 refine ZN H<|fun p1 w1 H=>ZX H rfl<|fun p2 w2 H=>Z9 rfl<|zz (H.el 8 rfl E hx) 1 zy<|ZU zO<|Z9 rfl<|Yg H 8 rfl E hx 1 (⟨c.fn,c.at_+1,c.vl,c.loc,c.vs,c.stk⟩) rfl rfl rfl rfl<|fun w1 H=>Z9 rfl<|zG H 1 0 zD<|bk ?_
 simp only [VW] at H
 have hx1:(up++[(⟨c.fn,c.at_+1,c.vl,c.loc,c.vs,c.stk⟩:CV)])[up.length]?=some (⟨c.fn,c.at_+1,c.vl,c.loc,c.vs,c.stk⟩:CV):=Yj rfl
 clear hx
 have VY:∀z,(up++[(⟨c.fn,c.at_+1,c.vl,c.loc,c.vs,c.stk⟩:CV)]).set up.length z=up++[z]:=Ye rfl
 refine cF (Z4 zO)<|cF (Z4 zO)<|cF (Z4 zO)<|cF (Z4 zO)<|cF (Z4 zO)<|cF (Z4 zO)<|cF (Z4 zO)<|cF (Z4 zO)<|cT (ZM zN)<|H.Z7 [11,9]<|fun H=>?_
 refine Z8.mk (Fc.imp (Rn.Pd E _ hx1 H zO ?_) ?_)
 .grind
 rintro _ w2 ⟨Zx,⟨t1,⟨rfl,⟨h2,H⟩⟩⟩⟩
 simp only [VY] at H
 replace h2:t1=top c.stk 0:=h2
 clear hx1
 have QY:(up++[(⟨c.fn,c.at_+1,c.vl,c.loc,Zx,low c.stk 1⟩:CV)])[up.length]?=some (⟨c.fn,c.at_+1,c.vl,c.loc,Zx,low c.stk 1⟩:CV):=Yj rfl
 have PX:∀z,(up++[(⟨c.fn,c.at_+1,c.vl,c.loc,Zx,low c.stk 1⟩:CV)]).set up.length z=up++[z]:=Ye rfl
 have FL:ws[(min (t1 % 4294967296) (ws.length-1)).toNat]?=some j:=by grind
 have ao5:XC t1:=by rw [h2];exact T3
 refine Yq rfl rfl<|Xn zO rfl rfl<|ZD hj rfl<|ZU zO<|ajN ?_
 obtain ⟨b1,o1,E1,F1,ZC⟩:=Z6.YQ hj FL
 refine ZF E1 zO rfl rfl<|ZK (H.X9 F1) 0 rfl rfl rfl ?_
 refine Z8.mk (Fc.imp (Rn.JC E _ QY H _ zO zO zO ?_) ?_)
 .grind
 rintro v' w3 ⟨VF,H⟩
 refine Zq rfl rfl rfl<|ZJ H 2 rfl rfl rfl rfl<|fun w4 H=>XF (H.at 2 rfl) 0 rfl rfl rfl<|Z5.mk ?_
 refine ⟨VF,?_⟩
 refine ⟨rfl,?_⟩
 refine H.Z7 [1,11,11,3,11,11,11,11,11,11]<|fun H=>zw H [11,10]<|fun H=>?_
 refine H.cg (YF rfl (YF rfl (YF rfl (YF rfl (YF rfl (YF rfl (YF (PV ?_) (YF rfl (YF rfl (YF rfl (rfl)))))))))))
 exact PX _
end
end Rn
namespace Rn
open Go Y2 Go.RowKit
open YZ Zn X4 YS Valid Mem
section
variable {g:ZB} {w:World} {l:List As} {m:Zg} {pr cp mp:Nat} {vw vc vt vg vp Sr vj:Value} {host f e:Int} {cs up:List CV} {Zw Zl s2:zm} {ps:List W1} {c u:CV} {x:ZW} {i b o:Nat} {ws:List Yl} {j:Yl}
theorem ajb (H:Sat g w (Pt pr [zI cp,vw,vc,zJ 0] 148::Pt cp (zL m [zI mp,vt,vg]) 158::Pt mp [vp,zJ m.most] 221::Sl 223 256 Xi vp ps::Sl 3 1 ZH vt Zw::Sl 2 1 ZH vg Zl::Sl 79 4 WD vc cs::Qf up::Sl 2 1 ZH c.vl c.loc::Sl 2 1 ZH c.vs c.stk::l)) (hcs:cs=up++[c]) (E:El vc 4 up.length b o) (TU:0<=c.at_/\c.at_<=1000) (hlen:c.stk.length<=10000) (hm:Xu g m) (P:UN m.d) (ho:x.op=16\/x.op=17) (Rh:∀n∈Zw,-1<=n/\n<(m.Zz.length:Int)+m.funcs.length) (h1:x.op=17->1<=c.stk.length/\0<=x.a/\x.a<m.types.length) (T3:∀v∈c.stk,XC v) (Nc:Zw.length<=1000) (Sf:cs.length<=40) (hq:Zb m.d Zw x c.stk=(f,s2,e)) (he:e≠0):zn 114 #[zI pr,.pointer (some ⟨b,o,none⟩),.agg #[.int .u8 x.op,zJ x.a,zJ x.b,Sr],vj] w (fun r w'=>r=.agg #[zJ 2,.slice none 0 0,zJ e,zJ 0,zJ 0]/\Sat g w' (Pt pr [zI cp,vw,vc,zJ 0] 148::Pt cp (zL m [zI mp,vt,vg]) 158::Pt mp [vp,zJ m.most] 221::Sl 223 256 Xi vp ps::Sl 3 1 ZH vt Zw::Sl 2 1 ZH vg Zl::l)):=by
 refine Fc.of Tryz.func114 rfl k_e ?_
 have hx:=Yj hcs
 have VW:=Ye hcs
 have hvl:=H.one 8 rfl
 have Dr:up.length+1=cs.length:=by grind
 refine ZN H<|fun p1 w1 H=>ZX H rfl<|fun p2 w2 H=>Z9 rfl<|zz (H.el 8 rfl E hx) 1 zy<|ZU zO<|Z9 rfl<|Yg H 8 rfl E hx 1 (⟨c.fn,c.at_+1,c.vl,c.loc,c.vs,c.stk⟩) rfl rfl rfl rfl<|fun w1 H=>Z9 rfl<|zG H 1 0 zD<|bk ?_
 simp only [VW] at H
 have hx1:(up++[(⟨c.fn,c.at_+1,c.vl,c.loc,c.vs,c.stk⟩:CV)])[up.length]?=some (⟨c.fn,c.at_+1,c.vl,c.loc,c.vs,c.stk⟩:CV):=Yj rfl
 clear hx
 have VY:∀z,(up++[(⟨c.fn,c.at_+1,c.vl,c.loc,c.vs,c.stk⟩:CV)]).set up.length z=up++[z]:=Ye rfl
 have ET:(up++[(⟨c.fn,c.at_+1,c.vl,c.loc,c.vs,c.stk⟩:CV)]).length=cs.length:=by grind
 rcases ho with ho|ho
 .refine cF (Z4 zO)<|cF (Z4 zO)<|cF (Z4 zO)<|cF (Z4 zO)<|cF (Z4 zO)<|cF (Z4 zO)<|cF (Z4 zO)<|cF (Z4 zO)<|cF (Z4 zO)<|cT (ZM zN)<|cT (ZM zN)<|ZK (H.at 1 rfl) 0 rfl rfl rfl<|H.Z7 [11,9,8,6,6]<|fun H=>?_
  refine Z8.mk (Fc.imp (Rn.afl E _ hx1 H zO zO zO zO zO zO zO zO zO zO hq zO) ?_)
  rintro _ w2 ⟨rfl,H⟩
  refine ZJ H 3 rfl rfl rfl rfl<|fun w3 H=>XF (H.at 3 rfl) 0 rfl rfl rfl<|Z5.mk ?_
  refine ⟨rfl,?_⟩
  exact H.Z7 [7,3,7,7,5,5]<|fun H=>zw H [9,8,7,6]<|fun H=>H
 .refine cF (Z4 zO)<|cF (Z4 zO)<|cF (Z4 zO)<|cF (Z4 zO)<|cF (Z4 zO)<|cF (Z4 zO)<|cF (Z4 zO)<|cF (Z4 zO)<|cF (Z4 zO)<|cF (Z4 zO)<|cT (ZM zN)<|ZK (H.at 1 rfl) 0 rfl rfl rfl<|H.Z7 [11,9,8,6,6]<|fun H=>?_
  refine Z8.mk (Fc.imp (Rn.afl E _ hx1 H zO zO zO zO zO zO zO zO zO zO hq zO) ?_)
  rintro _ w2 ⟨rfl,H⟩
  refine ZJ H 3 rfl rfl rfl rfl<|fun w3 H=>XF (H.at 3 rfl) 0 rfl rfl rfl<|Z5.mk ?_
  refine ⟨rfl,?_⟩
  exact H.Z7 [7,3,7,7,5,5]<|fun H=>zw H [9,8,7,6]<|fun H=>H
theorem ajc (H:Sat g w (Pt pr [zI cp,vw,vc,zJ 0] 148::Pt cp (zL m [zI mp,vt,vg]) 158::Pt mp [vp,zJ m.most] 221::Sl 223 256 Xi vp ps::Sl 3 1 ZH vt Zw::Sl 2 1 ZH vg Zl::Sl 79 4 WD vc cs::Qf up::Sl 2 1 ZH c.vl c.loc::Sl 2 1 ZH c.vs c.stk::l)) (hcs:cs=up++[c]) (E:El vc 4 up.length b o) (TU:0<=c.at_/\c.at_<=1000) (hlen:c.stk.length<=10000) (hm:Xu g m) (P:UN m.d) (ho:x.op=16\/x.op=17) (Rh:∀n∈Zw,-1<=n/\n<(m.Zz.length:Int)+m.funcs.length) (h1:x.op=17->1<=c.stk.length/\0<=x.a/\x.a<m.types.length) (T3:∀v∈c.stk,XC v) (Nc:Zw.length<=1000) (Sf:cs.length<=40) (hq:Zb m.d Zw x c.stk=(f,s2,0)) (hf:0<=f/\f<(m.Zz.length:Int)+m.funcs.length) (IB:(YN m.d f).Za.length<=s2.length) (PT:s2.length<=10000) (BL:(m.Zz.length:Int)<=f) (EU:cs.length=40):zn 114 #[zI pr,.pointer (some ⟨b,o,none⟩),.agg #[.int .u8 x.op,zJ x.a,zJ x.b,Sr],vj] w (fun r w'=>r=.agg #[zJ 2,.slice none 0 0,zJ 26,zJ 0,zJ 0]/\Sat g w' (Pt pr [zI cp,vw,vc,zJ 0] 148::Pt cp (zL m [zI mp,vt,vg]) 158::Pt mp [vp,zJ m.most] 221::Sl 223 256 Xi vp ps::Sl 3 1 ZH vt Zw::Sl 2 1 ZH vg Zl::l)):=by
 refine Fc.of Tryz.func114 rfl k_e ?_
 have hx:=Yj hcs
 have VW:=Ye hcs
 have hvl:=H.one 8 rfl
 have Dr:up.length+1=cs.length:=by grind
 refine ZN H<|fun p1 w1 H=>ZX H rfl<|fun p2 w2 H=>Z9 rfl<|zz (H.el 8 rfl E hx) 1 zy<|ZU zO<|Z9 rfl<|Yg H 8 rfl E hx 1 (⟨c.fn,c.at_+1,c.vl,c.loc,c.vs,c.stk⟩) rfl rfl rfl rfl<|fun w1 H=>Z9 rfl<|zG H 1 0 zD<|bk ?_
 simp only [VW] at H
 have hx1:(up++[(⟨c.fn,c.at_+1,c.vl,c.loc,c.vs,c.stk⟩:CV)])[up.length]?=some (⟨c.fn,c.at_+1,c.vl,c.loc,c.vs,c.stk⟩:CV):=Yj rfl
 clear hx
 have VY:∀z,(up++[(⟨c.fn,c.at_+1,c.vl,c.loc,c.vs,c.stk⟩:CV)]).set up.length z=up++[z]:=Ye rfl
 have ET:(up++[(⟨c.fn,c.at_+1,c.vl,c.loc,c.vs,c.stk⟩:CV)]).length=cs.length:=by grind
 rcases ho with ho|ho
 .refine cF (Z4 zO)<|cF (Z4 zO)<|cF (Z4 zO)<|cF (Z4 zO)<|cF (Z4 zO)<|cF (Z4 zO)<|cF (Z4 zO)<|cF (Z4 zO)<|cF (Z4 zO)<|cT (ZM zN)<|cT (ZM zN)<|ZK (H.at 1 rfl) 0 rfl rfl rfl<|H.Z7 [11,9,8,6,6]<|fun H=>?_
  refine Z8.mk (Fc.imp (Rn.afm E _ hx1 H zO zO zO zO zO zO zO zO zO zO hq zO zO zO zO zO) ?_)
  rintro _ w2 ⟨rfl,H⟩
  refine ZJ H 3 rfl rfl rfl rfl<|fun w3 H=>XF (H.at 3 rfl) 0 rfl rfl rfl<|Z5.mk ?_
  refine ⟨rfl,?_⟩
  exact H.Z7 [7,3,7,7,5,5]<|fun H=>zw H [9,8,7,6]<|fun H=>H
 .refine cF (Z4 zO)<|cF (Z4 zO)<|cF (Z4 zO)<|cF (Z4 zO)<|cF (Z4 zO)<|cF (Z4 zO)<|cF (Z4 zO)<|cF (Z4 zO)<|cF (Z4 zO)<|cF (Z4 zO)<|cT (ZM zN)<|ZK (H.at 1 rfl) 0 rfl rfl rfl<|H.Z7 [11,9,8,6,6]<|fun H=>?_
  refine Z8.mk (Fc.imp (Rn.afm E _ hx1 H zO zO zO zO zO zO zO zO zO zO hq zO zO zO zO zO) ?_)
  rintro _ w2 ⟨rfl,H⟩
  refine ZJ H 3 rfl rfl rfl rfl<|fun w3 H=>XF (H.at 3 rfl) 0 rfl rfl rfl<|Z5.mk ?_
  refine ⟨rfl,?_⟩
  exact H.Z7 [7,3,7,7,5,5]<|fun H=>zw H [9,8,7,6]<|fun H=>H
theorem ajd (H:Sat g w (Pt pr [zI cp,vw,vc,zJ 0] 148::Pt cp (zL m [zI mp,vt,vg]) 158::Pt mp [vp,zJ m.most] 221::Sl 223 256 Xi vp ps::Sl 3 1 ZH vt Zw::Sl 2 1 ZH vg Zl::Sl 79 4 WD vc cs::Qf up::Sl 2 1 ZH c.vl c.loc::Sl 2 1 ZH c.vs c.stk::l)) (hcs:cs=up++[c]) (E:El vc 4 up.length b o) (TU:0<=c.at_/\c.at_<=1000) (hlen:c.stk.length<=10000) (hm:Xu g m) (P:UN m.d) (ho:x.op=16\/x.op=17) (Rh:∀n∈Zw,-1<=n/\n<(m.Zz.length:Int)+m.funcs.length) (h1:x.op=17->1<=c.stk.length/\0<=x.a/\x.a<m.types.length) (T3:∀v∈c.stk,XC v) (Nc:Zw.length<=1000) (Sf:cs.length<=40) (hq:Zb m.d Zw x c.stk=(f,s2,0)) (hf:0<=f/\f<(m.Zz.length:Int)+m.funcs.length) (IB:(YN m.d f).Za.length<=s2.length) (PT:s2.length<=10000) (BL:f<m.Zz.length):zn 114 #[zI pr,.pointer (some ⟨b,o,none⟩),.agg #[.int .u8 x.op,zJ x.a,zJ x.b,Sr],vj] w (fun r w'=>∃vs' vv,r=.agg #[zJ 4,vv,zJ 0,zJ f,zJ 0]/\Sat g w' (Pt pr [zI cp,vw,vc,zJ (f+1)] 148::Pt cp (zL m [zI mp,vt,vg]) 158::Pt mp [vp,zJ m.most] 221::Sl 223 256 Xi vp ps::Sl 3 1 ZH vt Zw::Sl 2 1 ZH vg Zl::Sl 79 4 WD vc (up++[⟨c.fn,c.at_+1,c.vl,c.loc,vs',s2.take (s2.length-(YN m.d f).Za.length)⟩])::Qf up::Sl 2 1 ZH c.vl c.loc::Sl 2 1 ZH vs' (s2.take (s2.length-(YN m.d f).Za.length))::Sl 2 1 ZH vv (s2.drop (s2.length-(YN m.d f).Za.length))::l)):=by
 refine Fc.of Tryz.func114 rfl k_e ?_
 have hx:=Yj hcs
 have VW:=Ye hcs
 have hvl:=H.one 8 rfl
 have Dr:up.length+1=cs.length:=by grind
 refine ZN H<|fun p1 w1 H=>ZX H rfl<|fun p2 w2 H=>Z9 rfl<|zz (H.el 8 rfl E hx) 1 zy<|ZU zO<|Z9 rfl<|Yg H 8 rfl E hx 1 (⟨c.fn,c.at_+1,c.vl,c.loc,c.vs,c.stk⟩) rfl rfl rfl rfl<|fun w1 H=>Z9 rfl<|zG H 1 0 zD<|bk ?_
 simp only [VW] at H
 have hx1:(up++[(⟨c.fn,c.at_+1,c.vl,c.loc,c.vs,c.stk⟩:CV)])[up.length]?=some (⟨c.fn,c.at_+1,c.vl,c.loc,c.vs,c.stk⟩:CV):=Yj rfl
 clear hx
 have VY:∀z,(up++[(⟨c.fn,c.at_+1,c.vl,c.loc,c.vs,c.stk⟩:CV)]).set up.length z=up++[z]:=Ye rfl
 have ET:(up++[(⟨c.fn,c.at_+1,c.vl,c.loc,c.vs,c.stk⟩:CV)]).length=cs.length:=by grind
 rcases ho with ho|ho
 .refine cF (Z4 zO)<|cF (Z4 zO)<|cF (Z4 zO)<|cF (Z4 zO)<|cF (Z4 zO)<|cF (Z4 zO)<|cF (Z4 zO)<|cF (Z4 zO)<|cF (Z4 zO)<|cT (ZM zN)<|cT (ZM zN)<|ZK (H.at 1 rfl) 0 rfl rfl rfl<|H.Z7 [11,9,8,6,6]<|fun H=>?_
  refine Z8.mk (Fc.imp (Rn.afn E _ hx1 H zO zO zO zO zO zO zO zO zO zO hq zO zO zO zO) ?_)
  rintro _ w2 ⟨Zx,⟨BK,⟨rfl,H⟩⟩⟩
  refine ZJ H 6 rfl rfl rfl (by simp only [List.all_cons,List.all_nil,H.one 2 rfl,H.one 3 rfl,H.one 4 rfl,H.one 5 rfl,H.one 9 rfl,H.one 10 rfl,H.one 12 rfl,hvl];rfl)<|fun w3 H=>XF (H.at 6 rfl) 0 rfl rfl rfl<|Z5.mk ?_
  refine ⟨Zx,BK,?_⟩
  refine ⟨rfl,?_⟩
  refine H.Z7 [5,5,12,12,7,12,8,12,12,10,10]<|fun H=>zw H [12,11]<|fun H=>?_
  refine H.cg (YF rfl (YF rfl (YF rfl (YF rfl (YF rfl (YF rfl (YF (PV ?_) (YF rfl (YF rfl (YF rfl (YF rfl (rfl))))))))))))
  exact VY _
 .refine cF (Z4 zO)<|cF (Z4 zO)<|cF (Z4 zO)<|cF (Z4 zO)<|cF (Z4 zO)<|cF (Z4 zO)<|cF (Z4 zO)<|cF (Z4 zO)<|cF (Z4 zO)<|cF (Z4 zO)<|cT (ZM zN)<|ZK (H.at 1 rfl) 0 rfl rfl rfl<|H.Z7 [11,9,8,6,6]<|fun H=>?_
  refine Z8.mk (Fc.imp (Rn.afn E _ hx1 H zO zO zO zO zO zO zO zO zO zO hq zO zO zO zO) ?_)
  rintro _ w2 ⟨Zx,⟨BK,⟨rfl,H⟩⟩⟩
  refine ZJ H 6 rfl rfl rfl (by simp only [List.all_cons,List.all_nil,H.one 2 rfl,H.one 3 rfl,H.one 4 rfl,H.one 5 rfl,H.one 9 rfl,H.one 10 rfl,H.one 12 rfl,hvl];rfl)<|fun w3 H=>XF (H.at 6 rfl) 0 rfl rfl rfl<|Z5.mk ?_
  refine ⟨Zx,BK,?_⟩
  refine ⟨rfl,?_⟩
  refine H.Z7 [5,5,12,12,7,12,8,12,12,10,10]<|fun H=>zw H [12,11]<|fun H=>?_
  refine H.cg (YF rfl (YF rfl (YF rfl (YF rfl (YF rfl (YF rfl (YF (PV ?_) (YF rfl (YF rfl (YF rfl (YF rfl (rfl))))))))))))
  exact VY _
theorem aje (H:Sat g w (Pt pr [zI cp,vw,vc,zJ 0] 148::Pt cp (zL m [zI mp,vt,vg]) 158::Pt mp [vp,zJ m.most] 221::Sl 223 256 Xi vp ps::Sl 3 1 ZH vt Zw::Sl 2 1 ZH vg Zl::Sl 79 4 WD vc cs::Qf up::Sl 2 1 ZH c.vl c.loc::Sl 2 1 ZH c.vs c.stk::l)) (hcs:cs=up++[c]) (E:El vc 4 up.length b o) (TU:0<=c.at_/\c.at_<=1000) (hlen:c.stk.length<=10000) (hm:Xu g m) (P:UN m.d) (ho:x.op=16\/x.op=17) (Rh:∀n∈Zw,-1<=n/\n<(m.Zz.length:Int)+m.funcs.length) (h1:x.op=17->1<=c.stk.length/\0<=x.a/\x.a<m.types.length) (T3:∀v∈c.stk,XC v) (Nc:Zw.length<=1000) (Sf:cs.length<=40) (hq:Zb m.d Zw x c.stk=(f,s2,0)) (hf:0<=f/\f<(m.Zz.length:Int)+m.funcs.length) (IB:(YN m.d f).Za.length<=s2.length) (PT:s2.length<=10000) (k:Nat) (F:Yt) (Fk:f=m.Zz.length+k) (hF:m.funcs[k]?=some F) (hFl:F.loc.length<=16) (h4:(YN m.d f).Za.length<=4) (EU:cs.length<40):zn 114 #[zI pr,.pointer (some ⟨b,o,none⟩),.agg #[.int .u8 x.op,zJ x.a,zJ x.b,Sr],vj] w (fun r w'=>∃L4 vs' PU,r=.agg #[zJ 0,.slice none 0 0,zJ 0,zJ 0,zJ 0]/\Sat g w' (Pt pr [zI cp,vw,L4,zJ 0] 148::Pt cp (zL m [zI mp,vt,vg]) 158::Pt mp [vp,zJ m.most] 221::Sl 223 256 Xi vp ps::Sl 3 1 ZH vt Zw::Sl 2 1 ZH vg Zl::Sl 79 4 WD L4 (up++[⟨c.fn,c.at_+1,c.vl,c.loc,vs',s2.take (s2.length-(YN m.d f).Za.length)⟩]++[⟨k,0,PU,s2.drop (s2.length-(YN m.d f).Za.length)++List.replicate F.loc.length 0,.slice none 0 0,[]⟩])::Qf up::Sl 2 1 ZH c.vl c.loc::Sl 2 1 ZH vs' (s2.take (s2.length-(YN m.d f).Za.length))::Sl 2 1 ZH PU (s2.drop (s2.length-(YN m.d f).Za.length)++List.replicate F.loc.length 0)::Sl 2 1 ZH (.slice none 0 0) []::l)):=by
 refine Fc.of Tryz.func114 rfl k_e ?_
 have hx:=Yj hcs
 have VW:=Ye hcs
 have hvl:=H.one 8 rfl
 have Dr:up.length+1=cs.length:=by grind
 refine ZN H<|fun p1 w1 H=>ZX H rfl<|fun p2 w2 H=>Z9 rfl<|zz (H.el 8 rfl E hx) 1 zy<|ZU zO<|Z9 rfl<|Yg H 8 rfl E hx 1 (⟨c.fn,c.at_+1,c.vl,c.loc,c.vs,c.stk⟩) rfl rfl rfl rfl<|fun w1 H=>Z9 rfl<|zG H 1 0 zD<|bk ?_
 simp only [VW] at H
 have hx1:(up++[(⟨c.fn,c.at_+1,c.vl,c.loc,c.vs,c.stk⟩:CV)])[up.length]?=some (⟨c.fn,c.at_+1,c.vl,c.loc,c.vs,c.stk⟩:CV):=Yj rfl
 clear hx
 have VY:∀z,(up++[(⟨c.fn,c.at_+1,c.vl,c.loc,c.vs,c.stk⟩:CV)]).set up.length z=up++[z]:=Ye rfl
 have ET:(up++[(⟨c.fn,c.at_+1,c.vl,c.loc,c.vs,c.stk⟩:CV)]).length=cs.length:=by grind
 rcases ho with ho|ho
 .refine cF (Z4 zO)<|cF (Z4 zO)<|cF (Z4 zO)<|cF (Z4 zO)<|cF (Z4 zO)<|cF (Z4 zO)<|cF (Z4 zO)<|cF (Z4 zO)<|cF (Z4 zO)<|cT (ZM zN)<|cT (ZM zN)<|ZK (H.at 1 rfl) 0 rfl rfl rfl<|H.Z7 [11,9,8,6,6]<|fun H=>?_
  refine Z8.mk (Fc.imp (Rn.afo E _ hx1 H zO zO zO zO zO zO zO zO zO zO hq zO zO zO (k) _ Fk hF zO zO zO) ?_)
  rintro _ w2 ⟨Gx,⟨Zx,⟨TN,⟨rfl,H⟩⟩⟩⟩
  refine ZJ H 7 rfl rfl rfl rfl<|fun w3 H=>XF (H.at 7 rfl) 0 rfl rfl rfl ?_
  simp only [VY] at H
  refine Z5.mk ⟨Gx,Zx,TN,rfl,?_⟩
  exact H.Z7 [6,6,6,13,13,8,13,9,13,13,11,11]<|fun H=>zw H [13,12]<|fun H=>H
 .refine cF (Z4 zO)<|cF (Z4 zO)<|cF (Z4 zO)<|cF (Z4 zO)<|cF (Z4 zO)<|cF (Z4 zO)<|cF (Z4 zO)<|cF (Z4 zO)<|cF (Z4 zO)<|cF (Z4 zO)<|cT (ZM zN)<|ZK (H.at 1 rfl) 0 rfl rfl rfl<|H.Z7 [11,9,8,6,6]<|fun H=>?_
  refine Z8.mk (Fc.imp (Rn.afo E _ hx1 H zO zO zO zO zO zO zO zO zO zO hq zO zO zO (k) _ Fk hF zO zO zO) ?_)
  rintro _ w2 ⟨Gx,⟨Zx,⟨TN,⟨rfl,H⟩⟩⟩⟩
  refine ZJ H 7 rfl rfl rfl rfl<|fun w3 H=>XF (H.at 7 rfl) 0 rfl rfl rfl ?_
  simp only [VY] at H
  refine Z5.mk ⟨Gx,Zx,TN,rfl,?_⟩
  exact H.Z7 [6,6,6,13,13,8,13,9,13,13,11,11]<|fun H=>zw H [13,12]<|fun H=>H
theorem ajf (H:Sat g w (Pt pr [zI cp,vw,vc,zJ 0] 148::Pt cp (zL m [zI mp,vt,vg]) 158::Pt mp [vp,zJ m.most] 221::Sl 223 256 Xi vp ps::Sl 3 1 ZH vt Zw::Sl 2 1 ZH vg Zl::Sl 79 4 WD vc cs::Qf up::Sl 2 1 ZH c.vl c.loc::Sl 2 1 ZH c.vs c.stk::l)) (hcs:cs=up++[c]) (E:El vc 4 up.length b o) (TU:0<=c.at_/\c.at_<=1000) (hlen:c.stk.length<=10000) (hD:GJ x ⟨flat ps,Zw,Zl⟩ c.loc c.stk) (hT:Fold.ID g) (Du:18<=x.op) (hop:x.op<=255) (hmo:ps.length<=m.most/\m.most<=8):zn 114 #[zI pr,.pointer (some ⟨b,o,none⟩),.agg #[.int .u8 x.op,zJ x.a,zJ x.b,Sr],vj] w (fun r w'=>∃e vs' Ti ps' W5 loc' Y0,r=(if e≠0 then .agg #[zJ 2,.slice none 0 0,zJ e,zJ 0,zJ 0] else .agg #[zJ 0,.slice none 0 0,zJ 0,zJ 0,zJ 0])/\N7 (WG m.most x ⟨flat ps,Zw,Zl⟩ c.loc c.stk) e (flat ps') W5 loc' Y0/\ps'.length<=8/\Sat g w' (Pt pr [zI cp,vw,vc,zJ 0] 148::Pt cp (zL m [zI mp,vt,vg]) 158::Pt mp [Ti,zJ m.most] 221::Sl 223 256 Xi Ti ps'::Sl 3 1 ZH vt Zw::Sl 2 1 ZH vg W5::Sl 79 4 WD vc (up++[⟨c.fn,c.at_+1,c.vl,loc',vs',Y0⟩])::Qf up::Sl 2 1 ZH c.vl loc'::Sl 2 1 ZH vs' Y0::l)):=by
 refine Fc.of Tryz.func114 rfl k_e ?_
 have hx:=Yj hcs
 have VW:=Ye hcs
 have hvl:=H.one 8 rfl
 refine ZN H<|fun p1 w1 H=>ZX H rfl<|fun p2 w2 H=>Z9 rfl<|zz (H.el 8 rfl E hx) 1 zy<|ZU zO<|Z9 rfl<|Yg H 8 rfl E hx 1 (⟨c.fn,c.at_+1,c.vl,c.loc,c.vs,c.stk⟩) rfl rfl rfl rfl<|fun w1 H=>Z9 rfl<|zG H 1 0 zD<|bk ?_
 simp only [VW] at H
 have hx1:(up++[(⟨c.fn,c.at_+1,c.vl,c.loc,c.vs,c.stk⟩:CV)])[up.length]?=some (⟨c.fn,c.at_+1,c.vl,c.loc,c.vs,c.stk⟩:CV):=Yj rfl
 clear hx
 have VY:∀z,(up++[(⟨c.fn,c.at_+1,c.vl,c.loc,c.vs,c.stk⟩:CV)]).set up.length z=up++[z]:=Ye rfl
 have ET:(up++[(⟨c.fn,c.at_+1,c.vl,c.loc,c.vs,c.stk⟩:CV)]).length=cs.length:=by grind
 refine cF (Z4 zO)<|cF (Z4 zO)<|cF (Z4 zO)<|cF (Z4 zO)<|cF (Z4 zO)<|cF (Z4 zO)<|cF (Z4 zO)<|cF (Z4 zO)<|cF (Z4 zO)<|cF (Z4 zO)<|cF (Z4 zO)<|ZI H [] [zHp0,zHp1,zHp2,zHh3,zHh4,zHp5,zHp6,zHp7,zHh8,zHp9,zHp10,zHp11,zHh12,zHfr13,zHp14,zHp15,zHp16,zHp17,zHp18] mixed k_e k_e<|fun w2 H=>zE rfl rfl<|zF 2 0 zD rfl<|tk (fun _ Z=>ZK (Z.at 1 rfl) 0 rfl rfl rfl zK)<|zE rfl rfl<|tk (fun _ Z=>zz (Z.el 8 rfl E hx1) 2 zy zK)<|zE rfl rfl<|tk (fun _ Z=>zz (Z.el 8 rfl E hx1) 3 zy zK)<|H.Z7 [11,11,9,9,9,9,9]<|fun H=>?_
 refine Z8.mk (Fc.imp (Rn.do_ H zO zO zO zO zO) ?_)
 rintro _ w1 ⟨e1,⟨Zx,⟨Dq,⟨Qp,⟨JB,⟨LJ,⟨Tz,⟨rfl,⟨h1,⟨h2,H⟩⟩⟩⟩⟩⟩⟩⟩⟩⟩
 refine Z9 rfl<|Yg H 10 rfl E hx1 3 (⟨c.fn,c.at_+1,c.vl,LJ,(Zx),Tz⟩) rfl (by simp only [Bool.and_true,H.one 2 rfl,H.one 3 rfl,H.one 4 rfl,H.one 5 rfl,H.one 6 rfl,H.one 10 rfl,hvl]) rfl rfl<|fun w3 H=>?_
 refine cI (fun c1=>?_) (fun c1=>?_)
 focus
  replace c1:=YI (c1)
  refine Zq rfl rfl rfl<|ZJ H 7 rfl rfl rfl rfl<|fun w1 H=>XF (H.at 7 rfl) 0 rfl rfl rfl ?_
 rotate_left 1
 focus
  replace c1:=YH (c1)
  refine Zq rfl rfl rfl<|ZJ H 7 rfl rfl rfl rfl<|fun w1 H=>XF (H.at 7 rfl) 0 rfl rfl rfl ?_
 rotate_left 1
 .simp only [VY] at H
  refine Z5.mk ⟨e1,Zx,Dq,Qp,JB,LJ,Tz,(if_pos zN).symm,by assumption,by assumption,?_⟩
  exact H.Z7 [6,6,11,11,8,8,8,8,8,11]<|fun H=>zw H [11,10]<|fun H=>H
 .simp only [VY] at H
  refine Z5.mk ⟨e1,Zx,Dq,Qp,JB,LJ,Tz,(if_neg zO).symm,by assumption,by assumption,?_⟩
  exact H.Z7 [6,6,11,11,8,8,8,8,8,11]<|fun H=>zw H [11,10]<|fun H=>H
end
end Rn
end Go.Proofs.YtakpnepblgfknaaGreatDoor
