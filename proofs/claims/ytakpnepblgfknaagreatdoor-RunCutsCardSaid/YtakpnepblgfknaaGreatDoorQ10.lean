/- Texts of this claim, one behind the other. -/
import Derived.Test.YtakpnepblgfknaaGreatDoorQ9
import Derived.Test.YtakpnepblgfknaaGreatDoorQ8
import Derived.Test.YtakpnepblgfknaaGreatDoorQ7
import Derived.Test.YtakpnepblgfknaaGreatDoorQ3
set_option maxRecDepth 100000
set_option maxHeartbeats 4000000
set_option linter.unusedVariables false
set_option linter.unusedSimpArgs false
set_option linter.defProp false
namespace Go.Proofs.YtakpnepblgfknaaGreatDoor
namespace Rn
open Go YZ Go.RowKit
open YY Zl XZ YP Valid Mem
section
variable {g:Zx} {w:World} {l:List As} {m:Ze} {cp mp:Nat} {vp vt vg vl vs SW:Value} {ps:List WY} {Zs Zm loc stk:List Int} {x:ZU}
theorem adu {ps:List WY} {n:Nat}:flat (ps++List.replicate n zp)=flat ps++List.replicate (256 * n) 0:=by
 unfold flat
 rw [lIa]
 congr 1
 induction n with
 | zero=>rfl
 | succ n ih =>
  rw [lDb,lMa,ih,show 256 * (n+1)=256+256 * n by omega,←List.replicate_append_replicate];rfl
theorem bt2 {s:List Int} (h:3≤s.length):∃t a b c,s=t++[a]++[b]++[c]:=by
 obtain ⟨t,c,rfl⟩:=O6 (show 1≤s.length by omega)
 rw [lca,lHa] at h
 obtain ⟨t,b,rfl⟩:=O6 (show 1≤t.length by omega)
 rw [lca,lHa] at h
 obtain ⟨t,a,rfl⟩:=O6 (show 1≤t.length by omega)
 exact ⟨t,a,b,c,rfl⟩
theorem aov {d:List Int→DS} {e:Int} {mm:List UInt8} {gl s':List Int} (h:∀loc,NA (d loc) e mm gl loc s'):NA (d loc) e mm gl loc s':=h loc
theorem anH {I:Sw} {s':List Int} {e e1 e2:Int} {s1 s2:List Int} {c:Prop} [Decidable c] (h:(s',e)=(if c then (s1,e1) else (s2,e2))):NA (if c then ⟨I,loc,s1,e1⟩ else ⟨I,loc,s2,e2⟩) e I.mem I.Zm loc s':=by
 by_cases hc:c
 ·rw [if_pos hc] at h ⊢
  injection h with h1 h2
  exact ⟨h2,rfl,rfl,rfl,fun _=>h1⟩
 ·rw [if_neg hc] at h ⊢
  injection h with h1 h2
  exact ⟨h2,rfl,rfl,rfl,fun _=>h1⟩
theorem gr0 {e a most:Int} {ps':List WY} (h1:1≤stk.length) (h:most-(ps.length:Int)<a % 4294967296) (he:e=-1) (hp:ps'=ps):NA (if most-(ps.length:Int)<a % 4294967296 then ⟨⟨flat ps,Zs,Zm⟩,loc,low stk 1++[-1],0⟩ else ⟨⟨flat ps++List.replicate (256 * (a % 4294967296).toNat) 0,Zs,Zm⟩,loc,low stk 1++[(ps.length:Int)],0⟩) 0 (flat ps') Zm loc (stk.set (stk.length-1) e):=by
 rw [if_pos h,he,hp]
 exact ⟨rfl,rfl,rfl,rfl,fun _=>Oy h1⟩
theorem gr1 {e a most:Int} {ps':List WY} (h1:1≤stk.length) (h:¬most-(ps.length:Int)<a % 4294967296) (he:e=ps.length) (hp:ps'=ps++List.replicate (a % 4294967296).toNat zp):NA (if most-(ps.length:Int)<a % 4294967296 then ⟨⟨flat ps,Zs,Zm⟩,loc,low stk 1++[-1],0⟩ else ⟨⟨flat ps++List.replicate (256 * (a % 4294967296).toNat) 0,Zs,Zm⟩,loc,low stk 1++[(ps.length:Int)],0⟩) 0 (flat ps') Zm loc (stk.set (stk.length-1) e):=by
 rw [if_neg h,he,hp,adu]
 exact ⟨rfl,rfl,rfl,rfl,fun _=>Oy h1⟩
theorem alr (H:Sat g w (Pt cp (BU m [BR mp,vt,vg]) 158::Pt mp [vp,BS m.most] 221::Sl 223 256 Xr vp ps::Sl 3 1 ZJ vt Zs::Sl 2 1 ZJ vg Zm::Sl 2 1 ZJ vl loc::Sl 2 1 ZJ vs stk::l)) (ho:x.op=26) (h1:1≤stk.length) (hlen:stk.length≤100000) (hp:ps.length≤8):Fc Tryz.prog 160 #[BR cp,.agg #[.int .u8 x.op,BS x.a,BS x.b,SW],vl,vs] w (fun r w'=>∃e vs' T4 ps' Xd loc' Xi,r=.tuple #[vs',BS e]∧NA (VY m.most x ⟨flat ps,Zs,Zm⟩ loc stk) e (flat ps') Xd loc' Xi∧ps'.length≤8∧Sat g w' (Pt cp (BU m [BR mp,vt,vg]) 158::Pt mp [T4,BS m.most] 221::Sl 223 256 Xr T4 ps'::Sl 3 1 ZJ vt Zs::Sl 2 1 ZJ vg Xd::Sl 2 1 ZJ vl loc'::Sl 2 1 ZJ vs' Xi::l)):=by
 refine Fc.of Tryz.func160 rfl k_d ?_
 have hd:VY m.most x ⟨flat ps,Zs,Zm⟩ loc stk=⟨⟨flat ps,Zs,Zm⟩,loc,low stk 1,0⟩:=by grind [VY]
 rw [hd]
 clear hd
 refine ZI H<|fun p1 w1 H=>YS H 7 rfl rfl<|ZX BX<|bk<|Z9 rfl<|Z4 (H.at 0 rfl) 0 rfl rfl rfl<|cT (ZL BW)<|Ob H 7 rfl 0 ((stk.length)-1) rfl rfl BX BX (.inl ⟨rfl,rfl⟩) (.inr ⟨_,by first|rfl|(congr 2;omega)⟩)<|fun v1=>?_
 intro H
 refine Z6.mk ?_
 refine ⟨0,v1,vp,ps,Zm,loc,List.drop 0 (List.take (stk.length-1) stk),?_⟩
 refine ⟨rfl,?_⟩
 refine ⟨?_,?_⟩
 ·exact ⟨rfl,rfl,rfl,rfl,fun _=>Kt⟩
 refine ⟨BX,?_⟩
 refine H.Z8 [7,7,7,7,7,7,7]<|fun H=>H.drop 7<|fun H=>?_
 exact H
theorem als (H:Sat g w (Pt cp (BU m [BR mp,vt,vg]) 158::Pt mp [vp,BS m.most] 221::Sl 223 256 Xr vp ps::Sl 3 1 ZJ vt Zs::Sl 2 1 ZJ vg Zm::Sl 2 1 ZJ vl loc::Sl 2 1 ZJ vs stk::l)) (ho:x.op=27) (h1:3≤stk.length) (hlen:stk.length≤100000) (hp:ps.length≤8):Fc Tryz.prog 160 #[BR cp,.agg #[.int .u8 x.op,BS x.a,BS x.b,SW],vl,vs] w (fun r w'=>∃e vs' T4 ps' Xd loc' Xi,r=.tuple #[vs',BS e]∧NA (VY m.most x ⟨flat ps,Zs,Zm⟩ loc stk) e (flat ps') Xd loc' Xi∧ps'.length≤8∧Sat g w' (Pt cp (BU m [BR mp,vt,vg]) 158::Pt mp [T4,BS m.most] 221::Sl 223 256 Xr T4 ps'::Sl 3 1 ZJ vt Zs::Sl 2 1 ZJ vg Xd::Sl 2 1 ZJ vl loc'::Sl 2 1 ZJ vs' Xi::l)):=by
 refine Fc.of Tryz.func160 rfl k_d ?_
 obtain ⟨t,a,b,c,hs⟩:=bt2 h1
 have hl:stk.length=t.length+3:=by grind
 have hc:stk[stk.length-1]?=some c:=by grind
 have hb:stk[stk.length-1-1]?=some b:=by grind
 have ha:stk[stk.length-1-2]?=some a:=by grind
 have r1:List.drop 0 (List.take (stk.length-1-1) stk)=t++[a]:=by
  rw [hl,hs];simp
  rw [show t++[a,b,c]=(t++[a])++[b,c] by simp,lva BV,lqa BV]
 have r2:List.drop 0 (List.take (stk.length-1-1) (stk.set (stk.length-1-2) b))=t++[b]:=by
  rw [hl,hs];simp
  rw [show t++[b,b,c]=(t++[b])++[b,c] by simp,lva BV,lqa BV]
 have hd:VY m.most x ⟨flat ps,Zs,Zm⟩ loc stk=⟨⟨flat ps,Zs,Zm⟩,loc,if c=0 then t++[b] else t++[a],0⟩:=by
  unfold VY
  rw [if_neg BX,if_pos ho,hs,UK,alf,Ia BV,UK,NJ,NJ,Kz]
 rw [hd]
 clear hd
 refine ZI H<|fun p1 w1 H=>YS H 7 rfl rfl<|ZX BX<|bk<|Z9 rfl<|Z4 (H.at 0 rfl) 0 rfl rfl rfl<|cF (Z5 BX)<|Z9 rfl<|Z4 (H.at 0 rfl) 0 rfl rfl rfl<|cT (ZL BW) ?_
 obtain ⟨b1,o1,E1⟩:=H.Y7 7 rfl ((stk.length)-1) BX
 refine ZK E1 BX rfl rfl<|Z4 (H.el 7 rfl E1 hc) 0 rfl rfl rfl ?_
 refine cI (fun c1=>?_) (fun c1=>?_)
 ·replace c1:=ZS (c1)
  refine ZX BX<|ZX BX ?_
  obtain ⟨b2,o2,E2⟩:=H.Y7 7 rfl (((stk.length)-1)-1) BX
  refine ZK E2 BX rfl rfl<|Z4 (H.el 7 rfl E2 hb) 0 rfl rfl rfl ?_
  obtain ⟨b3,o3,E3⟩:=H.Y7 7 rfl (((stk.length)-1)-2) BX
  refine ZK E3 BX rfl rfl<|YF H 7 rfl E3 ha 0 (b) rfl rfl rfl rfl<|fun w2 H=>ZX BX<|Ob H 7 rfl 0 (((stk.length)-1)-1) rfl rfl (by grind) (by grind) (.inl ⟨rfl,rfl⟩) (.inr ⟨_,by first|rfl|(congr 2;(first|omega|(simp only [List.length_append,List.length_set,List.length_cons,List.length_nil];omega)|(simp;omega)|(simp;done)))⟩)<|fun v1=>?_
  intro H
  refine Z6.mk ?_
  refine ⟨0,v1,vp,ps,Zm,loc,List.drop 0 (List.take (stk.length-1-1) (stk.set (stk.length-1-2) b)),?_⟩
  refine ⟨rfl,?_⟩
  refine ⟨?_,?_⟩
  ·exact ⟨rfl,rfl,rfl,rfl,fun _=>by rw [if_pos BW];exact r2⟩
  refine ⟨BX,?_⟩
  refine H.Z8 [7,7,7,7,7,7,7]<|fun H=>H.drop 7<|fun H=>?_
  exact H
 replace c1:=ZR (c1)
 refine ZX BX<|Ob H 7 rfl 0 (((stk.length)-1)-1) rfl rfl BX BX (.inl ⟨rfl,rfl⟩) (.inr ⟨_,by first|rfl|(congr 2;omega)⟩)<|fun v1=>?_
 intro H
 refine Z6.mk ?_
 refine ⟨0,v1,vp,ps,Zm,loc,List.drop 0 (List.take (stk.length-1-1) stk),?_⟩
 refine ⟨rfl,?_⟩
 refine ⟨?_,?_⟩
 ·exact ⟨rfl,rfl,rfl,rfl,fun _=>by rw [if_neg BW];exact r1⟩
 refine ⟨BX,?_⟩
 refine H.Z8 [7,7,7,7,7,7,7]<|fun H=>H.drop 7<|fun H=>?_
 exact H
theorem alu (H:Sat g w (Pt cp (BU m [BR mp,vt,vg]) 158::Pt mp [vp,BS m.most] 221::Sl 223 256 Xr vp ps::Sl 3 1 ZJ vt Zs::Sl 2 1 ZJ vg Zm::Sl 2 1 ZJ vl loc::Sl 2 1 ZJ vs stk::l)) (ho:x.op=32) (hb:0≤x.a∧x.a<loc.length) (hlen:stk.length≤100000) (hp:ps.length≤8):Fc Tryz.prog 160 #[BR cp,.agg #[.int .u8 x.op,BS x.a,BS x.b,SW],vl,vs] w (fun r w'=>∃e vs' T4 ps' Xd loc' Xi,r=.tuple #[vs',BS e]∧NA (VY m.most x ⟨flat ps,Zs,Zm⟩ loc stk) e (flat ps') Xd loc' Xi∧ps'.length≤8∧Sat g w' (Pt cp (BU m [BR mp,vt,vg]) 158::Pt mp [T4,BS m.most] 221::Sl 223 256 Xr T4 ps'::Sl 3 1 ZJ vt Zs::Sl 2 1 ZJ vg Xd::Sl 2 1 ZJ vl loc'::Sl 2 1 ZJ vs' Xi::l)):=by
 refine Fc.of Tryz.func160 rfl k_d ?_
 obtain ⟨i,hi⟩:=lwa hb.1
 rw [hi] at hb ⊢
 obtain ⟨y,hy⟩:∃y,loc[i]?=some y:=⟨_,laa BX⟩
 have hd:VY m.most x ⟨flat ps,Zs,Zm⟩ loc stk=⟨⟨flat ps,Zs,Zm⟩,loc,stk++[y],0⟩:=by grind [VY]
 rw [hd]
 clear hd
 refine ZI H<|fun p1 w1 H=>YS H 7 rfl rfl<|ZX BX<|bk<|Z9 rfl<|Z4 (H.at 0 rfl) 0 rfl rfl rfl<|cF (Z5 BX)<|Z9 rfl<|Z4 (H.at 0 rfl) 0 rfl rfl rfl<|cF (Z5 BX)<|Z9 rfl<|Z4 (H.at 0 rfl) 0 rfl rfl rfl<|cT (ZL BW)<|Z9 rfl<|Z4 (H.at 0 rfl) 1 rfl rfl rfl ?_
 obtain ⟨b1,o1,E1⟩:=H.Y7 6 rfl (i) BX
 refine ZK E1 rfl rfl rfl<|Z4 (H.el 6 rfl E1 hy) 0 rfl rfl rfl<|ZZ H rfl rfl rfl rfl<|fun p2 w2 H=>Wq (ys:=[_]) 8 H 8 rfl (H.at 0 rfl) rfl (fun y _=>rfl) rfl rfl rfl BX BX<|fun v1=>?_
 intro w1 H
 refine Z6.mk ?_
 refine ⟨0,v1,vp,ps,Zm,loc,stk++[y],?_⟩
 refine ⟨rfl,?_⟩
 refine ⟨?_,?_⟩
 ·exact k_t
 refine ⟨BX,?_⟩
 refine H.Z8 [8,8,8,8,8,8,8]<|fun H=>H.drop 8<|fun H=>H.drop 7<|fun H=>?_
 exact H
theorem alv (H:Sat g w (Pt cp (BU m [BR mp,vt,vg]) 158::Pt mp [vp,BS m.most] 221::Sl 223 256 Xr vp ps::Sl 3 1 ZJ vt Zs::Sl 2 1 ZJ vg Zm::Sl 2 1 ZJ vl loc::Sl 2 1 ZJ vs stk::l)) (ho:x.op=33∨x.op=34) (hb:0≤x.a∧x.a<loc.length) (h1:1≤stk.length) (hlen:stk.length≤100000) (hp:ps.length≤8):Fc Tryz.prog 160 #[BR cp,.agg #[.int .u8 x.op,BS x.a,BS x.b,SW],vl,vs] w (fun r w'=>∃e vs' T4 ps' Xd loc' Xi,r=.tuple #[vs',BS e]∧NA (VY m.most x ⟨flat ps,Zs,Zm⟩ loc stk) e (flat ps') Xd loc' Xi∧ps'.length≤8∧Sat g w' (Pt cp (BU m [BR mp,vt,vg]) 158::Pt mp [T4,BS m.most] 221::Sl 223 256 Xr T4 ps'::Sl 3 1 ZJ vt Zs::Sl 2 1 ZJ vg Xd::Sl 2 1 ZJ vl loc'::Sl 2 1 ZJ vs' Xi::l)):=by
 refine Fc.of Tryz.func160 rfl k_d ?_
 obtain ⟨a,ha,IW,IL⟩:=F8 (s:=stk) BX
 obtain ⟨i,hi⟩:=lwa hb.1
 rw [hi] at hb ⊢
 obtain ⟨y,hy⟩:∃y,loc[i]?=some y:=⟨_,laa BX⟩
 have hd:VY m.most x ⟨flat ps,Zs,Zm⟩ loc stk=⟨⟨flat ps,Zs,Zm⟩,loc.set i a,if x.op=33 then low stk 1 else stk,0⟩:=by grind [VY]
 rw [hd]
 clear hd
 rcases ho with ho|ho
 ·rw [if_pos ho]
  refine ZI H<|fun p1 w1 H=>YS H 7 rfl rfl<|ZX BX<|bk<|Z9 rfl<|Z4 (H.at 0 rfl) 0 rfl rfl rfl<|cF (Z5 BX)<|Z9 rfl<|Z4 (H.at 0 rfl) 0 rfl rfl rfl<|cF (Z5 BX)<|Z9 rfl<|Z4 (H.at 0 rfl) 0 rfl rfl rfl<|cF (Z5 BX)<|Z9 rfl<|Z4 (H.at 0 rfl) 0 rfl rfl rfl<|cT (ZL BW)<|ZM H [] [BQp0,BQp1,BQh2,BQp3,BQp4,BQp5,BQh6,BQp7,BQfr8] mixed k_d k_d<|fun w2 H=>tk (fun _ Z=>Z9 rfl BT)<|tk (fun _ Z=>Z4 (Z.at 0 rfl) 1 rfl rfl rfl BT) ?_
  obtain ⟨b1,o1,E1⟩:=H.Y7 7 rfl ((stk.length)-1) BX
  refine tk (fun _ Z=>ZK E1 BX rfl rfl BT)<|tk (fun _ Z=>Z4 (Z.el 7 rfl E1 ha) 0 rfl rfl rfl BT) ?_
  obtain ⟨b2,o2,E2⟩:=H.Y7 6 rfl (i) BX
  refine tk (fun _ Z=>ZK E2 rfl rfl rfl BT)<|YF H 6 rfl E2 hy 0 (a) rfl rfl rfl rfl<|fun w1 H=>Ob H 7 rfl 0 ((stk.length)-1) rfl rfl BX BX (.inl ⟨rfl,rfl⟩) (.inr ⟨_,by first|rfl|(congr 2;omega)⟩)<|fun v1=>?_
  intro H
  refine Z6.mk ?_
  refine ⟨0,v1,vp,ps,Zm,loc.set i a,List.drop 0 (List.take (stk.length-1) stk),?_⟩
  refine ⟨rfl,?_⟩
  refine ⟨?_,?_⟩
  ·exact ⟨rfl,rfl,rfl,rfl,fun _=>Kt⟩
  refine ⟨BX,?_⟩
  refine H.Z8 [7,7,7,7,7,7,7]<|fun H=>H.drop 7<|fun H=>?_
  exact H
 ·rw [if_neg BX]
  refine ZI H<|fun p1 w1 H=>YS H 7 rfl rfl<|ZX BX<|bk<|Z9 rfl<|Z4 (H.at 0 rfl) 0 rfl rfl rfl<|cF (Z5 BX)<|Z9 rfl<|Z4 (H.at 0 rfl) 0 rfl rfl rfl<|cF (Z5 BX)<|Z9 rfl<|Z4 (H.at 0 rfl) 0 rfl rfl rfl<|cF (Z5 BX)<|Z9 rfl<|Z4 (H.at 0 rfl) 0 rfl rfl rfl<|cF (Z5 BX)<|Z9 rfl<|Z4 (H.at 0 rfl) 0 rfl rfl rfl<|cT (ZL BW)<|ZM H [] [BQp0,BQp1,BQh2,BQp3,BQp4,BQp5,BQh6,BQp7,BQfr8] mixed k_d k_d<|fun w2 H=>tk (fun _ Z=>Z9 rfl BT)<|tk (fun _ Z=>Z4 (Z.at 0 rfl) 1 rfl rfl rfl BT) ?_
  obtain ⟨b1,o1,E1⟩:=H.Y7 7 rfl ((stk.length)-1) BX
  refine tk (fun _ Z=>ZK E1 BX rfl rfl BT)<|tk (fun _ Z=>Z4 (Z.el 7 rfl E1 ha) 0 rfl rfl rfl BT) ?_
  obtain ⟨b2,o2,E2⟩:=H.Y7 6 rfl (i) BX
  refine tk (fun _ Z=>ZK E2 rfl rfl rfl BT)<|YF H 6 rfl E2 hy 0 (a) rfl rfl rfl rfl<|fun w1 H=>Z6.mk ?_
  refine ⟨0,vs,vp,ps,Zm,loc.set i a,stk,?_⟩
  refine ⟨rfl,?_⟩
  refine ⟨?_,?_⟩
  ·exact k_t
  refine ⟨BX,?_⟩
  refine H.Z8 [7,7,7,7,7,7,7]<|fun H=>H.drop 7<|fun H=>?_
  exact H
theorem alw (H:Sat g w (Pt cp (BU m [BR mp,vt,vg]) 158::Pt mp [vp,BS m.most] 221::Sl 223 256 Xr vp ps::Sl 3 1 ZJ vt Zs::Sl 2 1 ZJ vg Zm::Sl 2 1 ZJ vl loc::Sl 2 1 ZJ vs stk::l)) (ho:x.op=35) (hb:0≤x.a∧x.a<Zm.length) (hlen:stk.length≤100000) (hp:ps.length≤8):Fc Tryz.prog 160 #[BR cp,.agg #[.int .u8 x.op,BS x.a,BS x.b,SW],vl,vs] w (fun r w'=>∃e vs' T4 ps' Xd loc' Xi,r=.tuple #[vs',BS e]∧NA (VY m.most x ⟨flat ps,Zs,Zm⟩ loc stk) e (flat ps') Xd loc' Xi∧ps'.length≤8∧Sat g w' (Pt cp (BU m [BR mp,vt,vg]) 158::Pt mp [T4,BS m.most] 221::Sl 223 256 Xr T4 ps'::Sl 3 1 ZJ vt Zs::Sl 2 1 ZJ vg Xd::Sl 2 1 ZJ vl loc'::Sl 2 1 ZJ vs' Xi::l)):=by
 refine Fc.of Tryz.func160 rfl k_d ?_
 obtain ⟨i,hi⟩:=lwa hb.1
 rw [hi] at hb ⊢
 obtain ⟨y,hy⟩:∃y,Zm[i]?=some y:=⟨_,laa BX⟩
 have hd:VY m.most x ⟨flat ps,Zs,Zm⟩ loc stk=⟨⟨flat ps,Zs,Zm⟩,loc,stk++[y],0⟩:=by grind [VY]
 rw [hd]
 clear hd
 refine ZI H<|fun p1 w1 H=>YS H 7 rfl rfl<|ZX BX<|bk<|Z9 rfl<|Z4 (H.at 0 rfl) 0 rfl rfl rfl<|cF (Z5 BX)<|Z9 rfl<|Z4 (H.at 0 rfl) 0 rfl rfl rfl<|cF (Z5 BX)<|Z9 rfl<|Z4 (H.at 0 rfl) 0 rfl rfl rfl<|cF (Z5 BX)<|Z9 rfl<|Z4 (H.at 0 rfl) 0 rfl rfl rfl<|cF (Z5 BX)<|Z9 rfl<|Z4 (H.at 0 rfl) 0 rfl rfl rfl<|cF (Z5 BX)<|Z9 rfl<|Z4 (H.at 0 rfl) 0 rfl rfl rfl<|cT (ZL BW)<|ZM H [] [BQp0,BQp1,BQp2,BQp3,BQh4,BQp5,BQh6,BQp7,BQh8,BQfr9,BQfr10,BQp11,BQp12] mixed k_d k_d<|fun w2 H=>tk (fun _ Z=>Z9 rfl BT)<|tk (fun _ Z=>Z4 (Z.at 1 rfl) 13 rfl rfl rfl BT)<|tk (fun _ Z=>Z9 rfl BT)<|tk (fun _ Z=>Z4 (Z.at 0 rfl) 1 rfl rfl rfl BT) ?_
 obtain ⟨b1,o1,E1⟩:=H.Y7 5 rfl (i) BX
 refine tk (fun _ Z=>ZK E1 rfl rfl rfl BT)<|tk (fun _ Z=>Z4 (Z.el 5 rfl E1 hy) 0 rfl rfl rfl BT)<|ZZ H rfl rfl rfl rfl<|fun p2 w1 H=>Wq (ys:=[_]) 8 H 8 rfl (H.at 0 rfl) rfl (fun y _=>rfl) rfl rfl rfl BX BX<|fun v1=>?_
 intro w2 H
 refine Z6.mk ?_
 refine ⟨0,v1,vp,ps,Zm,loc,stk++[y],?_⟩
 refine ⟨rfl,?_⟩
 refine ⟨?_,?_⟩
 ·exact k_t
 refine ⟨BX,?_⟩
 refine H.Z8 [8,8,8,8,8,8,8]<|fun H=>H.drop 8<|fun H=>H.drop 7<|fun H=>?_
 exact H
theorem alx (H:Sat g w (Pt cp (BU m [BR mp,vt,vg]) 158::Pt mp [vp,BS m.most] 221::Sl 223 256 Xr vp ps::Sl 3 1 ZJ vt Zs::Sl 2 1 ZJ vg Zm::Sl 2 1 ZJ vl loc::Sl 2 1 ZJ vs stk::l)) (ho:x.op=36) (hb:0≤x.a∧x.a<Zm.length) (h1:1≤stk.length) (hlen:stk.length≤100000) (hp:ps.length≤8):Fc Tryz.prog 160 #[BR cp,.agg #[.int .u8 x.op,BS x.a,BS x.b,SW],vl,vs] w (fun r w'=>∃e vs' T4 ps' Xd loc' Xi,r=.tuple #[vs',BS e]∧NA (VY m.most x ⟨flat ps,Zs,Zm⟩ loc stk) e (flat ps') Xd loc' Xi∧ps'.length≤8∧Sat g w' (Pt cp (BU m [BR mp,vt,vg]) 158::Pt mp [T4,BS m.most] 221::Sl 223 256 Xr T4 ps'::Sl 3 1 ZJ vt Zs::Sl 2 1 ZJ vg Xd::Sl 2 1 ZJ vl loc'::Sl 2 1 ZJ vs' Xi::l)):=by
 refine Fc.of Tryz.func160 rfl k_d ?_
 obtain ⟨a,ha,IW,IL⟩:=F8 (s:=stk) BX
 obtain ⟨i,hi⟩:=lwa hb.1
 rw [hi] at hb ⊢
 obtain ⟨y,hy⟩:∃y,Zm[i]?=some y:=⟨_,laa BX⟩
 have hd:VY m.most x ⟨flat ps,Zs,Zm⟩ loc stk=⟨⟨flat ps,Zs,Zm.set i a⟩,loc,low stk 1,0⟩:=by grind [VY]
 rw [hd]
 clear hd
 refine ZI H<|fun p1 w1 H=>YS H 7 rfl rfl<|ZX BX<|bk<|Z9 rfl<|Z4 (H.at 0 rfl) 0 rfl rfl rfl<|cF (Z5 BX)<|Z9 rfl<|Z4 (H.at 0 rfl) 0 rfl rfl rfl<|cF (Z5 BX)<|Z9 rfl<|Z4 (H.at 0 rfl) 0 rfl rfl rfl<|cF (Z5 BX)<|Z9 rfl<|Z4 (H.at 0 rfl) 0 rfl rfl rfl<|cF (Z5 BX)<|Z9 rfl<|Z4 (H.at 0 rfl) 0 rfl rfl rfl<|cF (Z5 BX)<|Z9 rfl<|Z4 (H.at 0 rfl) 0 rfl rfl rfl<|cF (Z5 BX)<|Z9 rfl<|Z4 (H.at 0 rfl) 0 rfl rfl rfl<|cT (ZL BW)<|ZM H [] [BQp0,BQp1,BQp2,BQh3,BQp4,BQh5,BQp6,BQp7,BQp8,BQh9,BQp10,BQfr11] mixed k_d k_d<|fun w2 H=>tk (fun _ Z=>Z9 rfl BT)<|tk (fun _ Z=>Z4 (Z.at 1 rfl) 13 rfl rfl rfl BT)<|tk (fun _ Z=>Z9 rfl BT)<|tk (fun _ Z=>Z4 (Z.at 0 rfl) 1 rfl rfl rfl BT) ?_
 obtain ⟨b1,o1,E1⟩:=H.Y7 7 rfl ((stk.length)-1) BX
 refine tk (fun _ Z=>ZK E1 BX rfl rfl BT)<|tk (fun _ Z=>Z4 (Z.el 7 rfl E1 ha) 0 rfl rfl rfl BT) ?_
 obtain ⟨b2,o2,E2⟩:=H.Y7 5 rfl (i) BX
 refine tk (fun _ Z=>ZK E2 rfl rfl rfl BT)<|YF H 5 rfl E2 hy 0 (a) rfl rfl rfl rfl<|fun w1 H=>Ob H 7 rfl 0 ((stk.length)-1) rfl rfl BX BX (.inl ⟨rfl,rfl⟩) (.inr ⟨_,by first|rfl|(congr 2;omega)⟩)<|fun v1=>?_
 intro H
 refine Z6.mk ?_
 refine ⟨0,v1,vp,ps,Zm.set i a,loc,List.drop 0 (List.take (stk.length-1) stk),?_⟩
 refine ⟨rfl,?_⟩
 refine ⟨?_,?_⟩
 ·exact ⟨rfl,rfl,rfl,rfl,fun _=>Kt⟩
 refine ⟨BX,?_⟩
 refine H.Z8 [7,7,7,7,7,7,7]<|fun H=>H.drop 7<|fun H=>?_
 exact H
theorem aly (H:Sat g w (Pt cp (BU m [BR mp,vt,vg]) 158::Pt mp [vp,BS m.most] 221::Sl 223 256 Xr vp ps::Sl 3 1 ZJ vt Zs::Sl 2 1 ZJ vg Zm::Sl 2 1 ZJ vl loc::Sl 2 1 ZJ vs stk::l)) (ho:x.op=65∨x.op=66) (hlen:stk.length≤100000) (hp:ps.length≤8):Fc Tryz.prog 160 #[BR cp,.agg #[.int .u8 x.op,BS x.a,BS x.b,SW],vl,vs] w (fun r w'=>∃e vs' T4 ps' Xd loc' Xi,r=.tuple #[vs',BS e]∧NA (VY m.most x ⟨flat ps,Zs,Zm⟩ loc stk) e (flat ps') Xd loc' Xi∧ps'.length≤8∧Sat g w' (Pt cp (BU m [BR mp,vt,vg]) 158::Pt mp [T4,BS m.most] 221::Sl 223 256 Xr T4 ps'::Sl 3 1 ZJ vt Zs::Sl 2 1 ZJ vg Xd::Sl 2 1 ZJ vl loc'::Sl 2 1 ZJ vs' Xi::l)):=by
 refine Fc.of Tryz.func160 rfl k_d ?_
 have hd:VY m.most x ⟨flat ps,Zs,Zm⟩ loc stk=⟨⟨flat ps,Zs,Zm⟩,loc,stk++[x.a],0⟩:=by grind [VY]
 rw [hd]
 clear hd
 rcases ho with ho|ho
 ·refine ZI H<|fun p1 w1 H=>YS H 7 rfl rfl<|ZX BX<|bk<|Z9 rfl<|Z4 (H.at 0 rfl) 0 rfl rfl rfl<|cF (Z5 BX)<|Z9 rfl<|Z4 (H.at 0 rfl) 0 rfl rfl rfl<|cF (Z5 BX)<|Z9 rfl<|Z4 (H.at 0 rfl) 0 rfl rfl rfl<|cF (Z5 BX)<|Z9 rfl<|Z4 (H.at 0 rfl) 0 rfl rfl rfl<|cF (Z5 BX)<|Z9 rfl<|Z4 (H.at 0 rfl) 0 rfl rfl rfl<|cF (Z5 BX)<|Z9 rfl<|Z4 (H.at 0 rfl) 0 rfl rfl rfl<|cF (Z5 BX)<|Z9 rfl<|Z4 (H.at 0 rfl) 0 rfl rfl rfl<|cF (Z5 BX)<|Z9 rfl<|Z4 (H.at 0 rfl) 0 rfl rfl rfl<|cT (ZL BW)<|cT (ZL BW)<|Z9 rfl<|Z4 (H.at 0 rfl) 1 rfl rfl rfl<|ZZ H rfl rfl rfl rfl<|fun p2 w2 H=>Wq (ys:=[_]) 8 H 8 rfl (H.at 0 rfl) rfl (fun y _=>rfl) rfl rfl rfl BX BX<|fun v1=>?_
  intro w1 H
  refine Z6.mk ?_
  refine ⟨0,v1,vp,ps,Zm,loc,stk++[x.a],?_⟩
  refine ⟨rfl,?_⟩
  refine ⟨?_,?_⟩
  ·exact k_t
  refine ⟨BX,?_⟩
  refine H.Z8 [8,8,8,8,8,8,8]<|fun H=>H.drop 8<|fun H=>H.drop 7<|fun H=>?_
  exact H
 ·refine ZI H<|fun p1 w1 H=>YS H 7 rfl rfl<|ZX BX<|bk<|Z9 rfl<|Z4 (H.at 0 rfl) 0 rfl rfl rfl<|cF (Z5 BX)<|Z9 rfl<|Z4 (H.at 0 rfl) 0 rfl rfl rfl<|cF (Z5 BX)<|Z9 rfl<|Z4 (H.at 0 rfl) 0 rfl rfl rfl<|cF (Z5 BX)<|Z9 rfl<|Z4 (H.at 0 rfl) 0 rfl rfl rfl<|cF (Z5 BX)<|Z9 rfl<|Z4 (H.at 0 rfl) 0 rfl rfl rfl<|cF (Z5 BX)<|Z9 rfl<|Z4 (H.at 0 rfl) 0 rfl rfl rfl<|cF (Z5 BX)<|Z9 rfl<|Z4 (H.at 0 rfl) 0 rfl rfl rfl<|cF (Z5 BX)<|Z9 rfl<|Z4 (H.at 0 rfl) 0 rfl rfl rfl<|cF (Z5 BX)<|Z9 rfl<|Z4 (H.at 0 rfl) 0 rfl rfl rfl<|cT (ZL BW)<|Z9 rfl<|Z4 (H.at 0 rfl) 1 rfl rfl rfl<|ZZ H rfl rfl rfl rfl<|fun p2 w2 H=>Wq (ys:=[_]) 8 H 8 rfl (H.at 0 rfl) rfl (fun y _=>rfl) rfl rfl rfl BX BX<|fun v1=>?_
  intro w1 H
  refine Z6.mk ?_
  refine ⟨0,v1,vp,ps,Zm,loc,stk++[x.a],?_⟩
  refine ⟨rfl,?_⟩
  refine ⟨?_,?_⟩
  ·exact k_t
  refine ⟨BX,?_⟩
  refine H.Z8 [8,8,8,8,8,8,8]<|fun H=>H.drop 8<|fun H=>H.drop 7<|fun H=>?_
  exact H
theorem alz (H:Sat g w (Pt cp (BU m [BR mp,vt,vg]) 158::Pt mp [vp,BS m.most] 221::Sl 223 256 Xr vp ps::Sl 3 1 ZJ vt Zs::Sl 2 1 ZJ vg Zm::Sl 2 1 ZJ vl loc::Sl 2 1 ZJ vs stk::l)) (ho:x.op=63) (hlen:stk.length≤100000) (hp:ps.length≤8):Fc Tryz.prog 160 #[BR cp,.agg #[.int .u8 x.op,BS x.a,BS x.b,SW],vl,vs] w (fun r w'=>∃e vs' T4 ps' Xd loc' Xi,r=.tuple #[vs',BS e]∧NA (VY m.most x ⟨flat ps,Zs,Zm⟩ loc stk) e (flat ps') Xd loc' Xi∧ps'.length≤8∧Sat g w' (Pt cp (BU m [BR mp,vt,vg]) 158::Pt mp [T4,BS m.most] 221::Sl 223 256 Xr T4 ps'::Sl 3 1 ZJ vt Zs::Sl 2 1 ZJ vg Xd::Sl 2 1 ZJ vl loc'::Sl 2 1 ZJ vs' Xi::l)):=by
 refine Fc.of Tryz.func160 rfl k_d ?_
 have hd:VY m.most x ⟨flat ps,Zs,Zm⟩ loc stk=⟨⟨flat ps,Zs,Zm⟩,loc,stk++[(ps.length:Int)],0⟩:=by
  unfold VY
  rw [if_neg BX,if_neg BX,if_neg BX,if_neg BX,if_neg BX,if_neg BX,if_neg BX,if_neg BX,if_pos ho,T5]
 rw [hd]
 clear hd
 refine ZI H<|fun p1 w1 H=>YS H 7 rfl rfl<|ZX BX<|bk<|Z9 rfl<|Z4 (H.at 0 rfl) 0 rfl rfl rfl<|cF (Z5 BX)<|Z9 rfl<|Z4 (H.at 0 rfl) 0 rfl rfl rfl<|cF (Z5 BX)<|Z9 rfl<|Z4 (H.at 0 rfl) 0 rfl rfl rfl<|cF (Z5 BX)<|Z9 rfl<|Z4 (H.at 0 rfl) 0 rfl rfl rfl<|cF (Z5 BX)<|Z9 rfl<|Z4 (H.at 0 rfl) 0 rfl rfl rfl<|cF (Z5 BX)<|Z9 rfl<|Z4 (H.at 0 rfl) 0 rfl rfl rfl<|cF (Z5 BX)<|Z9 rfl<|Z4 (H.at 0 rfl) 0 rfl rfl rfl<|cF (Z5 BX)<|Z9 rfl<|Z4 (H.at 0 rfl) 0 rfl rfl rfl<|cF (Z5 BX)<|Z9 rfl<|Z4 (H.at 0 rfl) 0 rfl rfl rfl<|cF (Z5 BX)<|Z9 rfl<|Z4 (H.at 0 rfl) 0 rfl rfl rfl<|cT (ZL BW)<|Z9 rfl<|Z4 (H.at 1 rfl) 11 rfl rfl rfl<|H.Z8 [3,3]<|fun H=>?_
 refine Z7.mk (Fc.imp (Mem.size H) ?_)
 clear H
 rintro _ w2 ⟨rfl,H⟩
 refine ZZ H rfl rfl rfl rfl<|fun p2 w3 H=>Wq (ys:=[_]) 8 H 8 rfl (H.at 0 rfl) rfl (fun y _=>rfl) rfl rfl rfl BX BX<|fun v1=>?_
 intro w2 H
 refine Z6.mk ?_
 refine ⟨0,v1,vp,ps,Zm,loc,stk++[(↑ps.length:Int)],?_⟩
 refine ⟨rfl,?_⟩
 refine ⟨?_,?_⟩
 ·exact k_t
 refine ⟨BX,?_⟩
 refine H.Z8 [8,8,8,8,6,6,8]<|fun H=>H.drop 8<|fun H=>H.drop 7<|fun H=>?_
 exact H
theorem alA (H:Sat g w (Pt cp (BU m [BR mp,vt,vg]) 158::Pt mp [vp,BS m.most] 221::Sl 223 256 Xr vp ps::Sl 3 1 ZJ vt Zs::Sl 2 1 ZJ vg Zm::Sl 2 1 ZJ vl loc::Sl 2 1 ZJ vs stk::l)) (ho:x.op=64) (h1:1≤stk.length) (T7:∀v∈stk,Xw v) (hm:ps.length≤m.most∧m.most≤8) (hlen:stk.length≤100000) (hp:ps.length≤8):Fc Tryz.prog 160 #[BR cp,.agg #[.int .u8 x.op,BS x.a,BS x.b,SW],vl,vs] w (fun r w'=>∃e vs' T4 ps' Xd loc' Xi,r=.tuple #[vs',BS e]∧NA (VY m.most x ⟨flat ps,Zs,Zm⟩ loc stk) e (flat ps') Xd loc' Xi∧ps'.length≤8∧Sat g w' (Pt cp (BU m [BR mp,vt,vg]) 158::Pt mp [T4,BS m.most] 221::Sl 223 256 Xr T4 ps'::Sl 3 1 ZJ vt Zs::Sl 2 1 ZJ vg Xd::Sl 2 1 ZJ vl loc'::Sl 2 1 ZJ vs' Xi::l)):=by
 refine Fc.of Tryz.func160 rfl k_d ?_
 obtain ⟨a,ha,IW,IL⟩:=F8 (s:=stk) BX
 have GF:=T7 a IL
 have hd:VY m.most x ⟨flat ps,Zs,Zm⟩ loc stk=(if m.most-(ps.length:Int)<a % 4294967296 then ⟨⟨flat ps,Zs,Zm⟩,loc,low stk 1++[-1],0⟩ else ⟨⟨flat ps++List.replicate (256 * (a % 4294967296).toNat) 0,Zs,Zm⟩,loc,low stk 1++[(ps.length:Int)],0⟩):=by
  unfold VY
  rw [if_neg BX,if_neg BX,if_neg BX,if_neg BX,if_neg BX,if_neg BX,if_neg BX,if_neg BX,if_neg BX,if_pos ho,IW,T5]
 rw [hd]
 clear hd
 refine ZI H<|fun p1 w1 H=>YS H 7 rfl rfl<|ZX BX<|bk<|Z9 rfl<|Z4 (H.at 0 rfl) 0 rfl rfl rfl<|cF (Z5 k_h)<|Z9 rfl<|Z4 (H.at 0 rfl) 0 rfl rfl rfl<|cF (Z5 k_h)<|Z9 rfl<|Z4 (H.at 0 rfl) 0 rfl rfl rfl<|cF (Z5 k_h)<|Z9 rfl<|Z4 (H.at 0 rfl) 0 rfl rfl rfl<|cF (Z5 k_h)<|Z9 rfl<|Z4 (H.at 0 rfl) 0 rfl rfl rfl<|cF (Z5 k_h)<|Z9 rfl<|Z4 (H.at 0 rfl) 0 rfl rfl rfl<|cF (Z5 k_h)<|Z9 rfl<|Z4 (H.at 0 rfl) 0 rfl rfl rfl<|cF (Z5 k_h)<|Z9 rfl<|Z4 (H.at 0 rfl) 0 rfl rfl rfl<|cF (Z5 k_h)<|Z9 rfl<|Z4 (H.at 0 rfl) 0 rfl rfl rfl<|cF (Z5 k_h)<|Z9 rfl<|Z4 (H.at 0 rfl) 0 rfl rfl rfl<|cF (Z5 k_h)<|Z9 rfl<|Z4 (H.at 0 rfl) 0 rfl rfl rfl<|cT (ZL k_h)<|ZM H [] [BQp0,BQp1,BQp2,BQp3,BQp4,BQh5,BQp6,BQp7,BQp8,BQh9,BQfr10,BQp11,BQfr12] mixed k_d k_d<|fun w2 H=>tk (fun _ Z=>Z9 rfl BT)<|tk (fun _ Z=>Z4 (Z.at 1 rfl) 11 rfl rfl rfl BT) ?_
 obtain ⟨b1,o1,E1⟩:=H.Y7 7 rfl ((stk.length)-1) BX
 refine tk (fun _ Z=>ZK E1 BX rfl rfl BT)<|tk (fun _ Z=>Z4 (Z.el 7 rfl E1 ha) 0 rfl rfl rfl BT)<|H.Z8 [3,3]<|fun H=>?_
 refine Z7.mk (Fc.imp (Mem.grow H _ ?_ ?_ ?_) ?_)
 ·exact k_h
 ·exact k_h
 ·exact k_h
 clear H
 rintro _ w1 ⟨e1,⟨v'1,⟨OR,⟨rfl,⟨(⟨h2,⟨h3,h4⟩⟩|⟨h5,⟨h6,h7⟩⟩),H⟩⟩⟩⟩⟩
 ·refine tk (fun _ Z=>ZK E1 BX rfl rfl BT)<|YF H 7 rfl E1 ha 0 (e1) rfl rfl rfl rfl<|fun w3 H=>Z6.mk ?_
  refine ⟨0,vs,v'1,OR,Zm,loc,stk.set (stk.length-1) e1,?_⟩
  refine ⟨rfl,?_⟩
  refine ⟨?_,?_⟩
  ·exact gr0 h1 BX BW BW
  refine ⟨?_,?_⟩
  ·exact k_h
  refine H.Z8 [7,7,7,7,5,5,7]<|fun H=>H.drop 7<|fun H=>?_
  exact H
 refine tk (fun _ Z=>ZK E1 BX rfl rfl BT)<|YF H 7 rfl E1 ha 0 (e1) rfl rfl rfl rfl<|fun w3 H=>Z6.mk ?_
 refine ⟨0,vs,v'1,OR,Zm,loc,stk.set (stk.length-1) e1,?_⟩
 refine ⟨rfl,?_⟩
 refine ⟨?_,?_⟩
 ·exact gr1 h1 BX BW BW
 refine ⟨?_,?_⟩
 ·exact k_h
 refine H.Z8 [7,7,7,7,5,5,7]<|fun H=>H.drop 7<|fun H=>?_
 exact H
theorem alB (H:Sat g w (Pt cp (BU m [BR mp,vt,vg]) 158::Pt mp [vp,BS m.most] 221::Sl 223 256 Xr vp ps::Sl 3 1 ZJ vt Zs::Sl 2 1 ZJ vg Zm::Sl 2 1 ZJ vl loc::Sl 2 1 ZJ vs stk::l)) (ho:36<x.op∧x.op≤255) (hw:0<wid x.op) (T7:∀v∈stk,Xw v) (hn:U9 x.op≤stk.length) (hb:0≤x.b∧x.b≤4294967295) (hlen:stk.length≤100000) (hp:ps.length≤8):Fc Tryz.prog 160 #[BR cp,.agg #[.int .u8 x.op,BS x.a,BS x.b,SW],vl,vs] w (fun r w'=>∃e vs' T4 ps' Xd loc' Xi,r=.tuple #[vs',BS e]∧NA (VY m.most x ⟨flat ps,Zs,Zm⟩ loc stk) e (flat ps') Xd loc' Xi∧ps'.length≤8∧Sat g w' (Pt cp (BU m [BR mp,vt,vg]) 158::Pt mp [T4,BS m.most] 221::Sl 223 256 Xr T4 ps'::Sl 3 1 ZJ vt Zs::Sl 2 1 ZJ vg Xd::Sl 2 1 ZJ vl loc'::Sl 2 1 ZJ vs' Xi::l)):=by
 refine Fc.of Tryz.func160 rfl k_d ?_
 have Ho:=RV hw
 have D1:=RW x.op
 have hd:VY m.most x ⟨flat ps,Zs,Zm⟩ loc stk=_:=rfl
 rw [hd]
 clear hd
 refine ZI H<|fun p1 w1 H=>YS H 7 rfl rfl<|ZX BX<|bk<|Z9 rfl<|Z4 (H.at 0 rfl) 0 rfl rfl rfl<|cF (Z5 BX)<|Z9 rfl<|Z4 (H.at 0 rfl) 0 rfl rfl rfl<|cF (Z5 BX)<|Z9 rfl<|Z4 (H.at 0 rfl) 0 rfl rfl rfl<|cF (Z5 BX)<|Z9 rfl<|Z4 (H.at 0 rfl) 0 rfl rfl rfl<|cF (Z5 BX)<|Z9 rfl<|Z4 (H.at 0 rfl) 0 rfl rfl rfl<|cF (Z5 BX)<|Z9 rfl<|Z4 (H.at 0 rfl) 0 rfl rfl rfl<|cF (Z5 BX)<|Z9 rfl<|Z4 (H.at 0 rfl) 0 rfl rfl rfl<|cF (Z5 BX)<|Z9 rfl<|Z4 (H.at 0 rfl) 0 rfl rfl rfl<|cF (Z5 BX)<|Z9 rfl<|Z4 (H.at 0 rfl) 0 rfl rfl rfl<|cF (Z5 BX)<|Z9 rfl<|Z4 (H.at 0 rfl) 0 rfl rfl rfl<|cF (Z5 BX)<|Z9 rfl<|Z4 (H.at 0 rfl) 0 rfl rfl rfl<|cF (Z5 BX)<|Z9 rfl<|Z4 (H.at 0 rfl) 0 rfl rfl rfl ?_
 refine Z7.mk (Fc.imp (YY.LY _ _) ?_)
 rintro _ _ ⟨⟨r1,⟨rfl,h1⟩⟩,rfl⟩
 refine cT (Y2 BX)<|ZB (H.at 0 rfl) 0 rfl rfl rfl<|H.Z8 [7,6,6,6,6,6]<|fun H=>?_
 refine Z7.mk (Fc.imp (Rn.alq H BX BX BX BX BX BX BX) ?_)
 clear H
 rintro _ w2 ⟨e1,⟨Zw,⟨OR,⟨RQ,⟨rfl,⟨h2,⟨h3,H⟩⟩⟩⟩⟩⟩⟩
 refine Z6.mk ?_
 refine ⟨e1,Zw,vp,OR,Zm,loc,RQ,?_⟩
 refine ⟨rfl,?_⟩
 refine ⟨?_,?_⟩
 ·grind
 refine ⟨BX,?_⟩
 refine H.Z8 [5,7,6,6,6,6,6]<|fun H=>H.drop 7<|fun H=>?_
 exact H
theorem alC (H:Sat g w (Pt cp (BU m [BR mp,vt,vg]) 158::Pt mp [vp,BS m.most] 221::Sl 223 256 Xr vp ps::Sl 3 1 ZJ vt Zs::Sl 2 1 ZJ vg Zm::Sl 2 1 ZJ vl loc::Sl 2 1 ZJ vs stk::l)) (ho:36<x.op∧x.op≤255) (hw:¬0<wid x.op) (hq:(Xt x.op).2.2=true) (c1:x.op≠63∧x.op≠64∧x.op≠65∧x.op≠66) (T7:∀v∈stk,Xw v) (hn:U9 x.op≤stk.length) (hT:Fold.Jc g) (hlen:stk.length≤100000) (hp:ps.length≤8):Fc Tryz.prog 160 #[BR cp,.agg #[.int .u8 x.op,BS x.a,BS x.b,SW],vl,vs] w (fun r w'=>∃e vs' T4 ps' Xd loc' Xi,r=.tuple #[vs',BS e]∧NA (VY m.most x ⟨flat ps,Zs,Zm⟩ loc stk) e (flat ps') Xd loc' Xi∧ps'.length≤8∧Sat g w' (Pt cp (BU m [BR mp,vt,vg]) 158::Pt mp [T4,BS m.most] 221::Sl 223 256 Xr T4 ps'::Sl 3 1 ZJ vt Zs::Sl 2 1 ZJ vg Xd::Sl 2 1 ZJ vl loc'::Sl 2 1 ZJ vs' Xi::l)):=by
 refine Fc.of Tryz.func160 rfl k_d ?_
 have D1:=RW x.op
 obtain ⟨n1,n2,n3⟩:=acW hq hw c1.1 c1.2.1 c1.2.2.1 c1.2.2.2
 have hnn:(Xt x.op).1.length=1∨(Xt x.op).1.length=2:=by
  rw [n2]
  by_cases h:(X6 x.op).1.length=1
  ·omega
  ·exact .inr (acV (a:=0) (b:=0) n1 h).2.2.2
 unfold U9 at hn
 rw [if_neg BX,if_neg BX,if_pos BX] at hn
 have hd:VY m.most x ⟨flat ps,Zs,Zm⟩ loc stk=(if (Xt x.op).1.length=1 then ⟨⟨flat ps,Zs,Zm⟩,loc,low stk 1++[(XH.Vg x.op (top stk 0)).1],(XH.Vg x.op (top stk 0)).2⟩ else ⟨⟨flat ps,Zs,Zm⟩,loc,low stk 2++[(XH.Vh x.op (top stk 1) (top stk 0)).1],(XH.Vh x.op (top stk 1) (top stk 0)).2⟩):=by grind [VY]
 rw [hd]
 clear hd
 refine ZI H<|fun p1 w1 H=>YS H 7 rfl rfl<|ZX BX<|bk<|Z9 rfl<|Z4 (H.at 0 rfl) 0 rfl rfl rfl<|cF (Z5 BX)<|Z9 rfl<|Z4 (H.at 0 rfl) 0 rfl rfl rfl<|cF (Z5 BX)<|Z9 rfl<|Z4 (H.at 0 rfl) 0 rfl rfl rfl<|cF (Z5 BX)<|Z9 rfl<|Z4 (H.at 0 rfl) 0 rfl rfl rfl<|cF (Z5 BX)<|Z9 rfl<|Z4 (H.at 0 rfl) 0 rfl rfl rfl<|cF (Z5 BX)<|Z9 rfl<|Z4 (H.at 0 rfl) 0 rfl rfl rfl<|cF (Z5 BX)<|Z9 rfl<|Z4 (H.at 0 rfl) 0 rfl rfl rfl<|cF (Z5 BX)<|Z9 rfl<|Z4 (H.at 0 rfl) 0 rfl rfl rfl<|cF (Z5 BX)<|Z9 rfl<|Z4 (H.at 0 rfl) 0 rfl rfl rfl<|cF (Z5 BX)<|Z9 rfl<|Z4 (H.at 0 rfl) 0 rfl rfl rfl<|cF (Z5 BX)<|Z9 rfl<|Z4 (H.at 0 rfl) 0 rfl rfl rfl<|cF (Z5 BX)<|Z9 rfl<|Z4 (H.at 0 rfl) 0 rfl rfl rfl ?_
 refine Z7.mk (Fc.imp (YY.LY _ _) ?_)
 rintro _ _ ⟨⟨r1,⟨rfl,h1⟩⟩,rfl⟩
 refine cF (Zn BX)<|Z9 rfl<|Z4 (H.at 0 rfl) 0 rfl rfl rfl<|H.Z8 [7]<|fun H=>?_
 refine Z7.mk (Fc.imp (Rn.agW H BX _ BX BX BX BX BX) ?_)
 clear H
 rintro _ w2 ⟨Zw,⟨RQ,⟨e1,⟨rfl,⟨h2,H⟩⟩⟩⟩⟩
 refine Z6.mk ?_
 refine ⟨e1,Zw,vp,ps,Zm,loc,RQ,?_⟩
 refine ⟨rfl,?_⟩
 refine ⟨?_,?_⟩
 ·exact anH BW
 refine ⟨BX,?_⟩
 refine H.Z8 [0,7,7,7,7,7,7]<|fun H=>H.drop 7<|fun H=>?_
 exact H
end
end Rn
namespace Wn
open Go YZ Go.RowKit
open YY Zl XZ YP Valid
section
variable {g:Zx} {w:World} {l:List As} {m:Ze}
theorem within (H:Sat g w l) (a many all:Int) (ha:-2147483648≤a∧a≤2147483647) (hm:0≤many∧many≤1000000) (hl:0≤all∧all≤1000000):Fc Tryz.prog 43 #[BS a,BS many,BS all] w (fun r w'=>∃b,r=.bool b∧(b=true↔(0≤a∧a+many≤all))∧Sat g w' l):=by
 refine Fc.of Tryz.func43 rfl k_d<|Yu rfl rfl<|Xb BX rfl rfl<|ZX BX<|Z6.mk ?_
 exact ⟨_,rfl,by simp [YX];omega,H⟩
end
end Wn
namespace Wn
open Go YZ Go.RowKit
open YY Zl XZ YP Valid
section
variable {g:Zx} {w:World} {l:List As} {m:Ze}
theorem afb {l:List Int} {i:Nat} (h:l=List.replicate i (-1)):l++[-1]=List.replicate (i+1) (-1):=by
 rw [h,List.replicate_succ']
theorem afc {l:List Int} {xs:List (Int × Bool × Int)} {i:Nat} {x:Int × Bool × Int} (h:l=(xs.take i).map (·.2.2)) (hx:xs[i]?=some x):l++[x.2.2]=(xs.take (i+1)).map (·.2.2):=by grind [List.take_add_one]
theorem ahR {x:SB} (h:G2 x.d=0):(-2147483648≤x.pl∧x.pl≤2147483647)∧x.fs.length≤16:=by
 unfold G2 at h
 obtain ⟨h1,h2⟩:=Zo.1 h
 have h3:=(V4.1 h2).1
 unfold Ph at h1
 by_cases hq:-2147483648≤x.d.1∧x.d.1≤2147483647
 ·exact ⟨hq,by have:x.d.2.length=x.fs.length:=rfl;omega⟩
 ·omega
theorem alD {x:Int × List UInt8} (h:MZ x=0):(-2147483648≤x.1∧x.1≤2147483647)∧x.2.length≤64:=by
 unfold MZ at h
 obtain ⟨h1,h2⟩:=Zo.1 h
 unfold Ph at h1
 unfold MH at h2
 refine ⟨BX,?_⟩
 ·omega
theorem alE (H:Sat g w l) (hT:NU g) (hm:XG g m):Fc Tryz.prog 14 #[.agg (BU m []).toArray] w (fun r w'=>∃(g':Zx) (mem:List UInt8) (ts gs:List Int) (vt vg:Value) (e:Int),r=.tuple #[.agg #[.string (bs mem),vt,vg],BS e]∧Ext g g'∧Z0 g' ZJ Xg 1 vt ts∧Z0 g' ZJ Xg 1 vg gs∧GN m mem ts gs e∧Sat g' w' l):=by
 refine Fc.of Tryz.func14 rfl k_d ?_
 have ZO:=hm.types
 have ZQ:=hm.funcs
 have Y8:=hm.globals
 have Zk:=hm.ZA
 have XD:=hm.Wb
 have XT:=hm.elems
 have VK:=hm.data
 by_cases h0:Wo m.d=0
 ·obtain ⟨hcM,hI,CE⟩:=UC (Xa h0).1
  have P:=UY hcM
  have agX:=P.table
  have agY:=P.pages
  have anI:=P.most
  have ajO:=P.globals
  have amb:=P.elems
  have anJ:=P.data
  obtain ⟨tb,htb⟩:=lwa agX.1
  obtain ⟨pg,hpg⟩:=lwa agY.1
  refine ZI H<|fun p1 w1 H=>ZV H rfl<|fun p2 w2 H=>ZB (H.at 1 rfl) 0 rfl rfl rfl ?_
  refine Z7.mk (Fc.imp (Valid.LH H BX BX) ?_)
  clear H
  rintro _ w1 ⟨e1,⟨rfl,⟨h1,H⟩⟩⟩
  refine cF (WE BX)<|Z9 rfl<|Z4 (H.at 1 rfl) 9 rfl rfl rfl<|Zz XT rfl ?_
  refine YV.rule (α:=Nat) (0) (fun x_=>[(24,BS x_)]) (fun x_ w_=>(x_≤m.elems.length)∧(AI (fun x:SB=>GO x.pl x.fs.length m.table) m.elems x_)∧Sat g w_ ((Pt p2 [.string (bs []),.slice none 0 0,.slice none 0 0] 34::Pt p1 (BU m []) 30::l))) (fun x_=>m.elems.length-x_) ?_ ?_ ?_
  ·exact k_a
  ·try simp only
   refine ⟨BX,?_⟩
   refine ⟨?_,?_⟩
   ·exact AI.zero
   exact H
  clear H
  rintro i f_ w_ ⟨hi,hA,H⟩
  try simp only at hi hA H ⊢
  rcases lya i m.elems.length with hlt|hge
  ·obtain ⟨x,hx⟩:∃x,m.elems[i]?=some x:=⟨_,laa hlt⟩
   have Jj:=lda hx
   have LA:=Z0.all XT x Jj
   have Q7:=LA.fs
   have Jk:=ahR (P.JN x Jj)
   refine cT (Y2 BX)<|bk ?_
   obtain ⟨b1,o1,E1,F1,ZG⟩:=Z0.Y7 XT hx
   have Qb:=ZG.pl
   have V0:=ZG.fs
   refine ZK E1 rfl rfl rfl<|ZB (H.X7 F1) 0 rfl rfl rfl<|ZV H rfl<|fun p3 w3 H=>ZF H 0 rfl rfl rfl (by simp only [List.all_cons,List.all_nil,Z0.one V0,Z0.one Q7,Z0.one VK,Z0.one XT,Z0.one XD,Z0.one Zk,Z0.one Y8,Z0.one ZQ,Z0.one ZO];rfl)<|fun w4 H=>Z9 rfl<|Z4 (H.at 0 rfl) 0 rfl rfl rfl<|Z9 rfl<|Z4 (H.at 0 rfl) 1 rfl rfl rfl<|Zz V0 rfl<|Z9 rfl<|Z4 (H.at 2 rfl) 3 rfl rfl rfl ?_
   refine Z7.mk (Fc.imp (Wn.within H _ _ _ BX BX BX) ?_)
   clear H
   rintro _ w3 ⟨b2,⟨rfl,⟨h2,H⟩⟩⟩
   refine cI (fun c1=>?_) (fun c1=>?_)
   ·replace c1:=Uk h2 (Td (c1))
    refine Zj rfl rfl rfl<|ZF H 1 rfl rfl rfl rfl<|fun w5 H=>XK (H.at 1 rfl) 0 rfl rfl rfl<|Z6.mk ?_
    exact ⟨g,[],[],[],_,_,_,rfl,Ext.refl _,Z0.N6 _ _ _ _,Z0.N6 _ _ _ _,mk2 BX hA hx BX,((H.del 0).del 0).del 0⟩
   replace c1:=h2.1 (Tc (c1))
   refine ZX BX ?_
   refine WV.mk (i+1) (Zv rfl BX (ZW)) ?_ ?_
   ·refine ⟨BX,?_⟩
    refine ⟨?_,?_⟩
    ·exact hA.step hx (KA.2 BX)
    refine H.Z8 [2,2]<|fun H=>H.drop 2<|fun H=>?_
    exact H
   omega
  ·have hE:=hA.fin hge
   refine cF (Zn BX)<|Z9 rfl<|Z4 (H.at 1 rfl) 4 rfl rfl rfl<|ZX BX<|SF (en:=Tq) (s:=1) H ((0:UInt8)) ((m.pages * 256).toNat) ((m.pages * 256).toNat) 1 rfl rfl rfl (fun _=>rfl) BX BX BX BX BX<|fun v1=>?_
   intro w3 H
   refine Z9 rfl<|Z4 (H.at 2 rfl) 10 rfl rfl rfl<|Zz VK rfl ?_
   rw [show (m.pages * 256).toNat=256 * m.pages.toNat by omega] at H
   refine YV.rule (α:=Nat × List UInt8) (0,List.replicate (256 * m.pages.toNat) 0) (fun x_=>[(46,BS x_.1)]) (fun x_ w_=>(x_.1≤m.data.length)∧(AI (fun x:Int × List UInt8=>GO x.1 x.2.length (m.pages * 256)) m.data x_.1)∧(LM (256 * m.pages.toNat) m.data x_.1 x_.2)∧Sat g w_ ((Sl 5 1 Tq v1 x_.2::Pt p2 [.string (bs []),.slice none 0 0,.slice none 0 0] 34::Pt p1 (BU m []) 30::l))) (fun x_=>m.data.length-x_.1) ?_ ?_ ?_
   ·exact k_a
   ·try simp only
    refine ⟨BX,?_⟩
    refine ⟨?_,?_⟩
    ·exact AI.zero
    refine ⟨?_,?_⟩
    ·exact LM.zero
    exact H
   clear H
   rintro ⟨i2,cur⟩ f_ w_ ⟨hi2,hB,hL,H⟩
   try simp only at hi2 hB hL H ⊢
   have Ts:=hL.len
   rcases lya i2 m.data.length with JS|LJ
   ·obtain ⟨x,hx⟩:∃x,m.data[i2]?=some x:=⟨_,laa JS⟩
    have Jj:=lda hx
    have LA:=Z0.all VK x Jj
    have Jk:=alD (P.akQ x Jj)
    refine cT (Y2 BX)<|bk ?_
    obtain ⟨b1,o1,E1,F1,ZG⟩:=Z0.Y7 VK hx
    have Qb:=ZG.pl
    have ach:=ZG.bytes
    refine ZK E1 rfl rfl rfl<|ZB (H.X7 F1) 0 rfl rfl rfl<|ZV H rfl<|fun p3 w4 H=>ZF H 0 rfl rfl rfl rfl<|fun w5 H=>Z9 rfl<|Z4 (H.at 0 rfl) 0 rfl rfl rfl<|Z9 rfl<|Z4 (H.at 0 rfl) 1 rfl rfl rfl<|WA rfl<|YS H 1 rfl rfl ?_
    refine Z7.mk (Fc.imp (Wn.within H _ _ _ BX BX BX) ?_)
    clear H
    rintro _ w4 ⟨b2,⟨rfl,⟨h2,H⟩⟩⟩
    refine cI (fun c1=>?_) (fun c1=>?_)
    ·replace c1:=Uk h2 (Td (c1))
     refine Zj rfl rfl rfl<|ZF H 2 rfl rfl rfl rfl<|fun w6 H=>XK (H.at 2 rfl) 0 rfl rfl rfl<|Z6.mk ?_
     exact ⟨g,[],[],[],_,_,_,rfl,Ext.refl _,Z0.N6 _ _ _ _,Z0.N6 _ _ _ _,mk3 BX hE hB hx BX,(((H.del 0).del 0).del 0).del 0⟩
    replace c1:=h2.1 (Tc (c1))
    refine ZM H [] [BQp0,BQp1,BQh2,BQp3,BQp4,BQh5,BQfr6] mixed k_d k_d<|fun w6 H=>tk (fun _ Z=>Z9 rfl BT)<|tk (fun _ Z=>Z4 (Z.at 0 rfl) 0 rfl rfl rfl BT) ?_
    obtain ⟨v2,V1⟩:=H.vw 1 rfl ((x.fst).toNat) ((cur).length) BX BX
    refine tk (fun _ Z=>VO V1 rfl rfl (.inr ⟨_,by first|rfl|(congr 2;omega)⟩) (.inl BT) BT)<|tk (fun _ Z=>Z9 rfl BT)<|tk (fun _ Z=>Z4 (Z.at 0 rfl) 1 rfl rfl rfl BT)<|agj H 1 rfl V1 BX rfl rfl<|fun w9 H=>ZX BX ?_
    refine WV.mk ((i2+1,List.take x.fst.toNat cur++x.snd++List.drop (x.fst.toNat+x.snd.length) cur)) (Zv rfl BX (ZW)) ?_ ?_
    ·refine ⟨BX,?_⟩
     refine ⟨?_,?_⟩
     ·exact hB.step hx (KA.2 BX)
     refine ⟨?_,?_⟩
     ·exact hL.step hx BX
     refine H.Z8 [3,3,3]<|fun H=>H.drop 3<|fun H=>?_
     exact H
    omega
   ·have hD:=hB.fin LJ
    have hmem:=hL.fin LJ
    refine cF (Zn BX)<|ZV H rfl<|fun p3 w4 H=>Z9 rfl<|Z4 (H.at 3 rfl) 3 rfl rfl rfl ?_
    replace H:=H.UQ (en:=ZJ) (s:=1) 3 (fun _=>rfl)
    have aow:m.table.toNat=tb:=by omega
    refine YV.rule (α:=Nat × Value × List Int) (0,.slice none 0 0,[]) (fun x_=>[(70,BS x_.1)]) (fun x_ w_=>(x_.1≤tb)∧(x_.2.2=List.replicate x_.1 (-1))∧Sat g w_ ((Sl 3 1 ZJ x_.2.1 x_.2.2::Pt p3 [.string (bs []),x_.2.1,.slice none 0 0] 34::Sl 5 1 Tq v1 cur::Pt p2 [.string (bs []),.slice none 0 0,.slice none 0 0] 34::Pt p1 (BU m []) 30::l))) (fun x_=>tb-x_.1) ?_ ?_ ?_
    ·exact k_a
    ·try simp only
     refine ⟨BX,?_⟩
     refine ⟨?_,?_⟩
     ·simp
     exact H
    clear H
    rintro ⟨i3,vt,tc⟩ f_ w_ ⟨Dl,Ch,H⟩
    try simp only at Dl Ch H ⊢
    have MJ:tc.length=i3:=by grind
    rcases lya i3 tb with akW|akX
    ·refine cT (Y2 BX)<|bk<|Z9 rfl<|Z4 (H.at 1 rfl) 1 rfl rfl rfl<|ZZ H rfl rfl rfl rfl<|fun p4 w5 H=>Wq (ys:=[_]) 8 H 1 rfl (H.at 0 rfl) rfl (fun y _=>rfl) rfl rfl rfl BX BX<|fun v2=>?_
     intro w6 H
     refine Z9 rfl<|XQ H 2 rfl rfl rfl (H.one 1 rfl)<|fun w5 H=>ZX BX ?_
     refine WV.mk ((i3+1,v2,tc++[-1])) (Zv rfl BX (ZW)) ?_ ?_
     ·refine ⟨BX,?_⟩
      refine ⟨?_,?_⟩
      ·exact afb Ch
      refine H.Z8 [5,5,5,5,5]<|fun H=>H.drop 5<|fun H=>?_
      exact H
     omega
    ·have anK:i3=m.table.toNat:=by omega
     have hLT:LT m.table.toNat m.elems 0 tc:=by
      rw [Ch,anK];exact LT.zero
     refine cF (Zn BX)<|Z9 rfl<|Z4 (H.at 4 rfl) 9 rfl rfl rfl<|Zz XT rfl ?_
     refine YV.rule (α:=Nat × List Int) (0,tc) (fun x_=>[(81,BS x_.1)]) (fun x_ w_=>(x_.1≤m.elems.length)∧(LT m.table.toNat m.elems x_.1 x_.2)∧Sat g w_ ((Sl 3 1 ZJ vt x_.2::Pt p3 [.string (bs []),vt,.slice none 0 0] 34::Sl 5 1 Tq v1 cur::Pt p2 [.string (bs []),.slice none 0 0,.slice none 0 0] 34::Pt p1 (BU m []) 30::l))) (fun x_=>m.elems.length-x_.1) ?_ ?_ ?_
     ·exact k_a
     ·grind
     clear H
     rintro ⟨i4,tu⟩ f_ w_ ⟨hi4,hJ,H⟩
     try simp only at hi4 hJ H ⊢
     have aox:=hJ.len
     rcases lya i4 m.elems.length with anL|alF
     ·obtain ⟨x,hx⟩:∃x,m.elems[i4]?=some x:=⟨_,laa anL⟩
      have Jj:=lda hx
      have LA:=Z0.all XT x Jj
      have Q7:=LA.fs
      have Jk:=ahR (P.JN x Jj)
      have aoe:=KA.1 (UE.1 hE x Jj)
      refine cT (Y2 BX)<|bk ?_
      obtain ⟨b1,o1,E1,F1,ZG⟩:=Z0.Y7 XT hx
      have Qb:=ZG.pl
      have V0:=ZG.fs
      refine ZK E1 rfl rfl rfl<|ZB (H.X7 F1) 0 rfl rfl rfl<|ZV H rfl<|fun p4 w5 H=>ZF H 0 rfl rfl rfl (by simp only [List.all_cons,List.all_nil,H.one 1 rfl,H.one 3 rfl,Z0.one V0,Z0.one Q7,Z0.one VK,Z0.one XT,Z0.one XD,Z0.one Zk,Z0.one Y8,Z0.one ZQ,Z0.one ZO];rfl)<|fun w6 H=>ZM H [] [BQp0,BQh1,BQp2,BQh3,BQp4,BQp5,BQh6,BQfr7] mixed k_d k_d<|fun w5 H=>tk (fun _ Z=>Z9 rfl BT)<|tk (fun _ Z=>Z4 (Z.at 2 rfl) 1 rfl rfl rfl BT)<|tk (fun _ Z=>Z9 rfl BT)<|tk (fun _ Z=>Z4 (Z.at 0 rfl) 0 rfl rfl rfl BT) ?_
      obtain ⟨v2,V1⟩:=H.vw 1 rfl ((x.pl).toNat) ((tu).length) BX BX
      refine tk (fun _ Z=>VO V1 rfl rfl (.inr ⟨_,by first|rfl|(congr 2;omega)⟩) (.inl BT) BT)<|tk (fun _ Z=>Z9 rfl BT)<|tk (fun _ Z=>Z4 (Z.at 0 rfl) 1 rfl rfl rfl BT)<|agk H 1 rfl V1 (H.rd Q7) BX (fun y _=>rfl) rfl rfl<|fun w9 H=>ZX BX ?_
      refine WV.mk ((i4+1,List.take x.pl.toNat tu++x.fs++List.drop (x.pl.toNat+x.fs.length) tu)) (Zv rfl BX (ZW)) ?_ ?_
      ·refine ⟨BX,?_⟩
       refine ⟨?_,?_⟩
       ·exact hJ.step hx BX (Z0.all Q7)
       refine H.Z8 [5,5,5,5,5]<|fun H=>H.drop 5<|fun H=>?_
       exact H
      omega
     ·have Rh:=hJ.fin alF
      refine cF (Zn BX)<|Z9 rfl<|Z4 (H.at 4 rfl) 6 rfl rfl rfl<|Zz Y8 rfl ?_
      replace H:=H.UQ (en:=ZJ) (s:=1) 2 (fun _=>rfl)
      refine YV.rule (α:=Nat × Value × List Int) (0,.slice none 0 0,[]) (fun x_=>[(97,BS x_.1)]) (fun x_ w_=>(x_.1≤m.globals.length)∧(x_.2.2=(m.globals.take x_.1).map (·.2.2))∧Sat g w_ ((Sl 2 1 ZJ x_.2.1 x_.2.2::Sl 3 1 ZJ vt tu::Pt p3 [.string (bs []),vt,x_.2.1] 34::Sl 5 1 Tq v1 cur::Pt p2 [.string (bs []),.slice none 0 0,.slice none 0 0] 34::Pt p1 (BU m []) 30::l))) (fun x_=>m.globals.length-x_.1) ?_ ?_ ?_
      ·exact k_a
      ·grind
      clear H
      rintro ⟨i5,vg,gc⟩ f_ w_ ⟨hi5,hG,H⟩
      try simp only at hi5 hG H ⊢
      have Cp:gc.length=i5:=by grind
      rcases lya i5 m.globals.length with alG|anM
      ·obtain ⟨x,hx⟩:∃x,m.globals[i5]?=some x:=⟨_,laa alG⟩
       have LA:=Z0.all Y8 x (lda hx)
       have aof:=LA.start
       refine cT (Y2 BX)<|bk ?_
       obtain ⟨b1,o1,E1,F1,ZG⟩:=Z0.Y7 Y8 hx
       have Pb:=ZG.kind
       have QO:=ZG.start
       refine ZK E1 rfl rfl rfl<|ZB (H.X7 F1) 0 rfl rfl rfl<|ZV H rfl<|fun p4 w5 H=>ZF H 0 rfl rfl rfl rfl<|fun w6 H=>Z9 rfl<|Z4 (H.at 3 rfl) 2 rfl rfl rfl<|Z9 rfl<|Z4 (H.at 0 rfl) 2 rfl rfl rfl<|ZZ H rfl rfl rfl rfl<|fun p5 w5 H=>Wq (ys:=[_]) 8 H 2 rfl (H.at 0 rfl) rfl (fun y _=>rfl) rfl rfl rfl BX BX<|fun v2=>?_
       intro w6 H
       refine Z9 rfl<|XQ H 4 rfl rfl rfl (H.one 2 rfl)<|fun w5 H=>ZX BX ?_
       refine WV.mk ((i5+1,v2,gc++[x.snd.snd])) (Zv rfl BX (ZW)) ?_ ?_
       ·refine ⟨BX,?_⟩
        refine ⟨?_,?_⟩
        ·exact afc hG hx
        refine H.Z8 [7,7,7,7,7,7]<|fun H=>H.drop 7<|fun H=>H.drop 6<|fun H=>?_
        exact H
       omega
      ·have DL:gc=m.globals.map (·.2.2):=by grind
       have hgo:∀y∈gc,Xw y:=fun y hy=>by
        rw [DL] at hy
        obtain ⟨z,hz,rfl⟩:=leb.1 hy
        exact (Z0.all Y8 z hz).start
       refine cF (Zn BX)<|SG H 3 rfl rfl rfl rfl<|Z9 rfl<|XQ H 2 rfl rfl rfl rfl<|fun w5 H=>ZB (H.at 2 rfl) 0 rfl rfl rfl<|ZF H 4 rfl rfl rfl (by simp only [List.all_cons,List.all_nil,H.one 0 rfl,H.one 1 rfl,H.one 3 rfl,Z0.one VK,Z0.one XT,Z0.one XD,Z0.one Zk,Z0.one Y8,Z0.one ZQ,Z0.one ZO];rfl)<|fun w6 H=>XK (H.at 4 rfl) 0 rfl rfl rfl<|H.Ve 0 Xg rfl hgo<|fun g1 e1 Cg=>?_
       intro H
       refine H.Ve 0 Xg rfl hJ.ok<|fun g2 e2 htF=>?_
       intro H
       replace Cg:=Cg.ext e2
       have E:=e1.trans e2
       refine Z6.mk ?_
       exact ⟨g2,_,_,_,_,_,_,rfl,E,htF,Cg,mk4 h0.symm hE hD hmem Rh DL,(((H.del 0).del 0).del 0).del 0⟩
 ·refine ZI H<|fun p1 w1 H=>ZV H rfl<|fun p2 w2 H=>ZB (H.at 1 rfl) 0 rfl rfl rfl ?_
  refine Z7.mk (Fc.imp (Valid.LH H BX BX) ?_)
  clear H
  rintro _ w1 ⟨e1,⟨rfl,⟨h1,H⟩⟩⟩
  refine cT (VF BX)<|Zj rfl rfl rfl<|ZF H 0 rfl rfl rfl rfl<|fun w3 H=>XK (H.at 0 rfl) 0 rfl rfl rfl<|Z6.mk ?_
  exact ⟨g,[],[],[],_,_,_,rfl,Ext.refl _,Z0.N6 _ _ _ _,Z0.N6 _ _ _ _,mk1 BW BX,(H.del 0).del 0⟩
end
end Wn
namespace Wn
open Go YZ Go.RowKit
open YY Zl XZ YP Valid
section
variable {g:Zx} {w:World} {l:List As} {m:Ze}
theorem alH (H:Sat g w l) (k a:Int):Fc Tryz.prog 48 #[.int .u8 k,BS a] w (fun v w'=>∃r,v=BS r∧r=PY k a∧Sat g w' l):=by
 refine Fc.of Tryz.func48 rfl k_d ?_
 refine cI (fun h=>?_) (fun h=>?_)
 ·have h:=ZS h
  refine Zu rfl rfl<|Zu rfl rfl ?_
  exact Z6.mk ⟨_,rfl,by unfold PY;rw [if_pos h],H⟩
 have h:=ZR h
 exact Z6.mk ⟨_,rfl,by unfold PY;rw [if_neg h],H⟩
end
end Wn
namespace Rn
open Go YZ Go.RowKit
open YY Zl XZ YP Valid Mem
section
variable {g:Zx} {w:World} {l:List As} {m:Ze} {cp mp:Nat} {vp vt vg vl vs SW:Value} {ps:List WY} {Zs Zm loc stk:List Int} {x:ZU}
theorem do_ (H:Sat g w (Pt cp (BU m [BR mp,vt,vg]) 158::Pt mp [vp,BS m.most] 221::Sl 223 256 Xr vp ps::Sl 3 1 ZJ vt Zs::Sl 2 1 ZJ vg Zm::Sl 2 1 ZJ vl loc::Sl 2 1 ZJ vs stk::l)) (hD:H8 x ⟨flat ps,Zs,Zm⟩ loc stk) (hT:Fold.Jc g) (hop:x.op≤255) (hm:ps.length≤m.most∧m.most≤8) (hlen:stk.length≤100000):Fc Tryz.prog 160 #[BR cp,.agg #[.int .u8 x.op,BS x.a,BS x.b,SW],vl,vs] w (fun r w'=>∃e vs' T4 ps' Xd loc' Xi,r=.tuple #[vs',BS e]∧NA (VY m.most x ⟨flat ps,Zs,Zm⟩ loc stk) e (flat ps') Xd loc' Xi∧ps'.length≤8∧Sat g w' (Pt cp (BU m [BR mp,vt,vg]) 158::Pt mp [T4,BS m.most] 221::Sl 223 256 Xr T4 ps'::Sl 3 1 ZJ vt Zs::Sl 2 1 ZJ vg Xd::Sl 2 1 ZJ vl loc'::Sl 2 1 ZJ vs' Xi::l)):=by
 have hp:ps.length≤8:=by omega
 have hn:=hD.need
 have n1:x.op=26∨x.op=33∨x.op=34∨x.op=36→1≤stk.length:=fun h=>by unfold U9 at hn;rw [if_pos h] at hn;exact hn
 rcases hD.op with h|h|h|⟨MW,hq⟩
 ·exact alr H h (n1 (.inl h)) hlen hp
 ·exact als H h (by unfold U9 at hn;rw [if_neg BX,if_pos h] at hn;exact hn) hlen hp
 ·by_cases h2:x.op=32
  ·exact alu H h2 (hD.loc h.1 BX) hlen hp
  by_cases h3:x.op=33∨x.op=34
  ·exact alv H h3 (hD.loc h.1 BX) (n1 BX) hlen hp
  by_cases h5:x.op=35
  ·exact alw H h5 (hD.Zm (.inl h5)) hlen hp
  ·exact alx H BX (hD.Zm BX) (n1 BX) hlen hp
 ·by_cases h5:x.op=65∨x.op=66
  ·exact aly H h5 hlen hp
  by_cases h3:x.op=63
  ·exact alz H h3 hlen hp
  by_cases h4:x.op=64
  ·have h1:1≤stk.length:=by
    unfold U9 at hn
    rw [if_neg BX,if_neg BX,if_pos BX,h4,show Xt 64=([127],[127],true) by decide] at hn;exact hn
   exact alA H h4 h1 hD.IN hm hlen hp
  by_cases hw:0<wid x.op
  ·exact alB H ⟨MW,hop⟩ hw hD.IN hn (hD.off hw) hlen hp
  ·exact alC H ⟨MW,hop⟩ hw hq ⟨h3,h4,by omega,by omega⟩ hD.IN hn hT hlen hp
theorem alI (P:Tv m.d) {n:Int} (h0:0≤n) (h1:n<(m.ZA.length:Int)+m.funcs.length):∃(i:Nat) (t:Xz),m.types[i]?=some t∧t.d=YC m.d n ∧
  (n<m.ZA.length→∃y,m.ZA[n.toNat]?=some y∧y.2=i)∧(¬n<m.ZA.length→∃f,m.funcs[n.toNat-m.ZA.length]?=some f∧f.ty=i):=by
 have hfl:m.d.funcs.length=m.funcs.length:=lea ..
 have hil:m.d.ZA.length=m.ZA.length:=rfl
 have MJ:m.d.types.length=m.types.length:=lea ..
 by_cases h:n<m.ZA.length
 ·have hi:n.toNat<m.ZA.length:=by omega
  have hm:=P.imp _ (lob (show n.toNat<m.d.ZA.length from hi))
  have hm:0≤m.ZA[n.toNat].2∧m.ZA[n.toNat].2<m.d.types.length:=hm
  obtain ⟨i,DK⟩:=lwa hm.1
  have hit:i<m.types.length:=by omega
  refine ⟨i,m.types[i],laa hit,?_,fun _=>⟨_,laa hi,DK⟩,fun h'=>absurd h h'⟩
  obtain ⟨t,e1,e2,_⟩:=OE P h0 (show n<Y4 m.d from h)
  rw [e2]
  unfold Xy QN at e1
  rw [if_neg BX] at e1
  have Ge:(ZD m.d).ZA.length=m.ZA.length:=lea ..
  rw [Ge,if_pos h] at e1
  have e3:(ZD m.d).ZA[n.toNat]?=some m.ZA[n.toNat].2:=by
   show (m.ZA.map (·.2))[_]?=_
   rw [lCa,laa hi];rfl
  rw [e3,DK] at e1
  have e1:(m.types.map Xz.d)[i]?=some t:=e1
  rw [lCa,laa hit] at e1
  exact Option.some.inj e1
 ·have hi:n.toNat-m.ZA.length<m.funcs.length:=by omega
  have hmem:m.funcs[n.toNat-m.ZA.length].d∈m.d.funcs:=leb.2 ⟨_,lob hi,rfl⟩
  have hm:=(P.fn _ hmem).ty
  have hm:0≤m.funcs[n.toNat-m.ZA.length].ty∧m.funcs[n.toNat-m.ZA.length].ty<m.d.types.length:=hm
  obtain ⟨i,DK⟩:=lwa hm.1
  have hit:i<m.types.length:=by omega
  refine ⟨i,m.types[i],laa hit,?_,fun h'=>absurd h' h,fun _=>⟨_,laa hi,DK⟩⟩
  obtain ⟨_,e2⟩:=PU P (n:=n-Y4 m.d) (by grind [Y4]) (by grind [Y4])
  rw [show Y4 m.d+(n-Y4 m.d)=n by omega] at e2
  rw [e2]
  have e3:WZ m.d (n-Y4 m.d)=m.funcs[n.toNat-m.ZA.length].d:=by
   unfold WZ Y4
   rw [show (n-(m.d.ZA.length:Int)).toNat=n.toNat-m.ZA.length by omega]
   show (m.funcs.map YD.d).getD _ _=_
   rw [lia0,lCa,laa hi];rfl
  rw [e3]
  unfold Rr
  show _=(m.types.map Xz.d).getD m.funcs[n.toNat-m.ZA.length].ty.toNat _
  rw [DK,lla,lia0,lCa,laa hit];rfl
theorem alJ (H:Sat g w l) (u v:Value) (xs ys:List Int) (hx:Z0 g YL U8 1 u xs) (hy:Z0 g YL U8 1 v ys) (hl:xs.length≤1000) :
  Fc Tryz.prog 166 #[u,v] w (fun r w'=>∃b,r=.bool b∧(b=true↔xs=ys)∧Sat g w' l):=by
 refine Fc.of Tryz.func166 rfl k_d<|Zz hx rfl<|Zz hy rfl ?_
 refine cI (fun c1=>?_) (fun c1=>?_)
 ·replace c1:=Yw (c1)
  refine Z6.mk ?_
  exact ⟨false,rfl,⟨nofun,fun h=>absurd (congrArg List.length h) BX⟩,H⟩
 replace c1:=Yv (c1)
 refine Zz hx rfl ?_
 refine YV.rule (α:=Nat) (0) (fun x_=>[(13,BS x_)]) (fun x_ w_=>(x_≤xs.length)∧(∀q,q<x_→xs[q]?=ys[q]?)∧Sat g w_ (l)) (fun x_=>xs.length-x_) ?_ ?_ ?_
 ·exact k_a
 ·grind
 clear H
 rintro i f_ w_ ⟨hi,he,H⟩
 try simp only at hi he H ⊢
 refine cI (fun c2=>?_) (fun c2=>?_)
 ·replace c2:=YN (c2)
  refine bk<|ZM H [] [BQp0,BQp1,BQp2,BQh3,BQp4,BQp5,BQp6,BQh7,BQp8] mixed k_d k_d<|fun w1 H=>?_
  obtain ⟨x1,hx1⟩:∃x,(xs)[(i)]?=some x:=⟨_,laa BX⟩
  obtain ⟨b1,o1,E1,F1,ZG⟩:=Z0.Y7 hx hx1
  refine tk (fun _ Z=>ZK E1 rfl rfl rfl BT)<|tk (fun _ Z=>Z4 (Z.X7 F1) 0 rfl rfl rfl BT) ?_
  obtain ⟨x2,To⟩:∃x,(ys)[(i)]?=some x:=⟨_,laa BX⟩
  obtain ⟨b2,o2,E2,F2,Yn⟩:=Z0.Y7 hy To
  refine tk (fun _ Z=>ZK E2 rfl rfl rfl BT)<|tk (fun _ Z=>Z4 (Z.X7 F2) 0 rfl rfl rfl BT) ?_
  refine cI (fun c3=>?_) (fun c3=>?_)
  ·replace c3:=Yw (c3)
   refine Z6.mk ?_
   exact ⟨false,rfl,⟨nofun,fun h=>absurd (by subst h;exact Option.some.inj (hx1.symm.trans To)) BW⟩,H⟩
  replace c3:=Yv (c3)
  refine ZX BX ?_
  refine WV.mk (i+1) (Zv rfl BX (ZW)) ?_ ?_
  ·grind
  omega
 replace c2:=YM (c2)
 refine Z6.mk ?_
 exact ⟨true,rfl,⟨fun _=>Ref.QS BX BX he,fun _=>rfl⟩,H⟩
theorem alK (H:Sat g w l) (a b:Xz) (ha:Wa g a) (hb:Wa g b) (h1:a.Zc.length≤1000) (h2:a.out.length≤1000) :
  Fc Tryz.prog 120 #[.agg #[a.vi,a.vo],.agg #[b.vi,b.vo]] w (fun r w'=>∃q,r=.bool q∧(q=true↔a.Zc=b.Zc∧a.out=b.out)∧Sat g w' l):=by
 refine Fc.of Tryz.func120 rfl k_d ?_
 have ajd:=ha.Zc
 have aje:=ha.out
 have ajf:=hb.Zc
 have ajg:=hb.out
 refine ZI H<|fun p1 w1 H=>ZI H<|fun p2 w2 H=>Z9 rfl<|Z4 (H.at 1 rfl) 0 rfl rfl rfl<|Z9 rfl<|Z4 (H.at 0 rfl) 0 rfl rfl rfl ?_
 refine Z7.mk (Fc.imp (Rn.alJ H _ _ _ _ ajd ajf ?_) ?_)
 ·grind
 clear H
 rintro _ w1 ⟨b1,⟨rfl,⟨h3,H⟩⟩⟩
 refine br (fun c1=>?_) (fun c1=>?_)
 ·replace c1:=h3.1 (c1)
  refine Z9 rfl<|Z4 (H.at 1 rfl) 1 rfl rfl rfl<|Z9 rfl<|Z4 (H.at 0 rfl) 1 rfl rfl rfl ?_
  refine Z7.mk (Fc.imp (Rn.alJ H _ _ _ _ aje ajg ?_) ?_)
  ·grind
  clear H
  rintro _ w3 ⟨b2,⟨rfl,⟨h4,H⟩⟩⟩
  refine Z6.mk ?_
  refine ⟨b2,?_⟩
  refine ⟨?_,?_⟩
  ·grind
  refine ⟨?_,?_⟩
  ·grind
  refine H.drop 1<|fun H=>H.drop 0<|fun H=>?_
  exact H
 replace c1:=Uk h3 (c1)
 refine Z6.mk ?_
 refine ⟨false,?_⟩
 refine ⟨?_,?_⟩
 ·grind
 refine ⟨?_,?_⟩
 ·grind
 refine H.drop 1<|fun H=>H.drop 0<|fun H=>?_
 exact H
theorem Mr (H:Sat g w (Pt cp (BU m [BR mp,vt,vg]) 158::l)) (hm:XG g m) (P:Tv m.d) (n:Int) (h0:0≤n) (h1:n<(m.ZA.length:Int)+m.funcs.length) :
  Fc Tryz.prog 75 #[BR cp,BS n] w (fun r w'=>∃t:Xz,r=.agg #[t.vi,t.vo]∧t∈m.types∧Wa g t∧t.d=YC m.d n∧t.Zc.length≤4∧t.out.length≤1∧Sat g w' (Pt cp (BU m [BR mp,vt,vg]) 158::l)):=by
 refine Fc.of Tryz.func75 rfl k_d ?_
 have ZO:=hm.types
 have Zk:=hm.ZA
 have ZQ:=hm.funcs
 obtain ⟨i,t,k1,k2,k3,k4⟩:=alI P h0 h1
 have ML:=lda k1
 have hto:=Z0.all ZO t ML
 have IK:t.Zc.length≤4:=(P.sig t.d (leb.2 ⟨t,ML,rfl⟩)).1
 have aoy:t.out.length≤1:=(P.sig t.d (leb.2 ⟨t,ML,rfl⟩)).2
 have hni:=P.ni
 have hnf:=P.nf
 have hfl:m.d.funcs.length=m.funcs.length:=lea ..
 have hil:m.d.ZA.length=m.ZA.length:=rfl
 obtain ⟨k,rfl⟩:=lwa h0
 rw [lla] at k3 k4
 by_cases h:(k:Int)<m.ZA.length
 ·obtain ⟨y,q1,q2⟩:=k3 h
  have hlt:=(lba.1 k1).1
  have hyb:0≤y.2∧y.2<m.types.length:=by omega
  have Cf:m.types[y.2.toNat]?=some t:=by grind
  refine ZV H rfl<|fun p1 w1 H=>Z9 rfl<|Z9 rfl<|Z4 (H.at 1 rfl) 1 rfl rfl rfl<|Zz Zk rfl<|cT (Y2 BW)<|ZM H [] [BQp0,BQp1,BQp2,BQp3,BQh4,BQp5,BQp6,BQp7,BQp8,BQh9,BQp10,BQp11,BQp12,BQh13,BQp14,BQh15,BQfr16] mixed k_d k_d<|fun w2 H=>tk (fun _ Z=>Z9 rfl BT)<|tk (fun _ Z=>Z9 rfl BT)<|tk (fun _ Z=>Z4 (Z.at 1 rfl) 0 rfl rfl rfl BT)<|tk (fun _ Z=>Z9 rfl BT)<|tk (fun _ Z=>Z9 rfl BT)<|tk (fun _ Z=>Z4 (Z.at 1 rfl) 1 rfl rfl rfl BT) ?_
  obtain ⟨b1,o1,E1,F1,ZG⟩:=Z0.Y7 Zk q1
  have U2:=ZG.name
  have XV:=ZG.ty
  refine tk (fun _ Z=>ZK E1 rfl rfl rfl BT)<|tk (fun _ Z=>Z9 rfl BT)<|tk (fun _ Z=>Z4 (Z.X7 F1) 1 rfl rfl rfl BT) ?_
  obtain ⟨b2,o2,E2,F2,Yn⟩:=Z0.Y7 ZO Cf
  have X0:=Yn.Zc
  have Yo:=Yn.out
  refine tk (fun _ Z=>ZK E2 BX rfl rfl BT)<|tk (fun _ Z=>ZB (Z.X7 F2) 0 rfl rfl rfl BT)<|ZF H 0 rfl rfl rfl (by grind [Z0.one])<|fun w1 H=>XK (H.at 0 rfl) 0 rfl rfl rfl<|Z6.mk ?_
  refine ⟨t,?_⟩
  refine ⟨rfl,?_⟩
  refine ⟨BX,?_⟩
  refine ⟨BX,?_⟩
  refine ⟨BX,?_⟩
  refine ⟨BX,?_⟩
  refine ⟨BX,?_⟩
  refine H.Z8 [1]<|fun H=>H.drop 1<|fun H=>?_
  exact H
 ·obtain ⟨f,q1,q2⟩:=k4 h
  have hlt:=(lba.1 k1).1
  have hyb:0≤f.ty∧f.ty<m.types.length:=by omega
  have Cf:m.types[f.ty.toNat]?=some t:=by grind
  refine ZV H rfl<|fun p1 w1 H=>Z9 rfl<|Z9 rfl<|Z4 (H.at 1 rfl) 1 rfl rfl rfl<|Zz Zk rfl<|cF (Zn BX)<|ZM H [] [BQp0,BQp1,BQp2,BQp3,BQh4,BQp5,BQp6,BQp7,BQp8,BQh9,BQp10,BQp11,BQp12,BQp13,BQp14,BQh15,BQp16,BQp17,BQp18,BQp19,BQh20,BQp21,BQh22,BQfr23] mixed k_d k_d<|fun w2 H=>tk (fun _ Z=>Z9 rfl BT)<|tk (fun _ Z=>Z9 rfl BT)<|tk (fun _ Z=>Z4 (Z.at 1 rfl) 0 rfl rfl rfl BT)<|tk (fun _ Z=>Z9 rfl BT)<|tk (fun _ Z=>Z9 rfl BT)<|tk (fun _ Z=>Z4 (Z.at 1 rfl) 2 rfl rfl rfl BT)<|tk (fun _ Z=>Z9 rfl BT)<|tk (fun _ Z=>Z9 rfl BT)<|tk (fun _ Z=>Z4 (Z.at 1 rfl) 1 rfl rfl rfl BT)<|tk (fun _ Z=>Zz Zk rfl BT)<|ZX BX ?_
  obtain ⟨b1,o1,E1,F1,ZG⟩:=Z0.Y7 ZQ q1
  have XV:=ZG.ty
  have Zt:=ZG.loc
  have ZE:=ZG.body
  refine tk (fun _ Z=>ZK E1 BX rfl rfl BT)<|tk (fun _ Z=>Z9 rfl BT)<|tk (fun _ Z=>Z4 (Z.X7 F1) 0 rfl rfl rfl BT) ?_
  obtain ⟨b2,o2,E2,F2,Yn⟩:=Z0.Y7 ZO Cf
  have X0:=Yn.Zc
  have Yo:=Yn.out
  refine tk (fun _ Z=>ZK E2 BX rfl rfl BT)<|tk (fun _ Z=>ZB (Z.X7 F2) 0 rfl rfl rfl BT)<|ZF H 0 rfl rfl rfl (by grind [Z0.one])<|fun w1 H=>XK (H.at 0 rfl) 0 rfl rfl rfl<|Z6.mk ?_
  refine ⟨t,?_⟩
  refine ⟨rfl,?_⟩
  refine ⟨BX,?_⟩
  refine ⟨BX,?_⟩
  refine ⟨BX,?_⟩
  refine ⟨BX,?_⟩
  refine ⟨BX,?_⟩
  refine H.Z8 [1]<|fun H=>H.drop 1<|fun H=>?_
  exact H
theorem ce0 {t tx:Xz} {D:Xo} {f:Int} (h:t.d=D) (hc:¬(t.Zc=tx.Zc∧t.out=tx.out)):((0:Int),List.drop 0 (List.take (stk.length-1) stk),(25:Int))=if D.Zc≠tx.d.Zc∨D.out≠tx.d.out then (0,low stk 1,25) else (f,low stk 1,0):=by
 subst h
 rw [Kt,if_pos]
 refine Decidable.by_contra fun hn=>hc ⟨Decidable.by_contra fun h1=>hn (.inl h1),Decidable.by_contra fun h2=>hn (.inr h2)⟩
theorem ce1 {t tx:Xz} {D:Xo} {f:Int} (h:t.d=D) (hc:t.Zc=tx.Zc∧t.out=tx.out):(f,List.drop 0 (List.take (stk.length-1) stk),(0:Int))=if D.Zc≠tx.d.Zc∨D.out≠tx.d.out then (0,low stk 1,25) else (f,low stk 1,0):=by
 subst h
 rw [Kt,if_neg]
 rintro (h|h)
 ·exact h hc.1
 ·exact h hc.2
theorem Ox (H:Sat g w (Pt cp (BU m [BR mp,vt,vg]) 158::Sl 3 1 ZJ vt Zs::Sl 2 1 ZJ vs stk::l)) (hm:XG g m) (P:Tv m.d) (ho:x.op=16∨x.op=17) (Rh:∀n∈Zs,-1≤n∧n<(m.ZA.length:Int)+m.funcs.length) (h1:x.op=17→1≤stk.length∧0≤x.a∧x.a<m.types.length)
  (T7:∀v∈stk,Xw v) (hlen:stk.length≤100000) (MJ:Zs.length≤1000) :
  Fc Tryz.prog 196 #[BR cp,.agg #[.int .u8 x.op,BS x.a,BS x.b,SW],vs] w (fun r w'=>∃f vs' Xi e,r=.tuple #[BS f,vs',BS e]∧(f,Xi,e)=Y0 m.d Zs x stk∧Sat g w' (Pt cp (BU m [BR mp,vt,vg]) 158::Sl 3 1 ZJ vt Zs::Sl 2 1 ZJ vs' Xi::l)):=by
 refine Fc.of Tryz.func196 rfl k_d ?_
 have ZO:=hm.types
 have Zk:=hm.ZA
 have ZQ:=hm.funcs
 unfold Y0
 rcases ho with ho|ho
 ·rw [if_pos ho]
  refine ZI H<|fun p1 w1 H=>Z9 rfl<|Z4 (H.at 0 rfl) 0 rfl rfl rfl<|cT (ZL BW)<|Z9 rfl<|Z4 (H.at 0 rfl) 1 rfl rfl rfl<|Z6.mk ?_
  refine ⟨x.a,vs,stk,0,?_⟩
  refine ⟨rfl,?_⟩
  refine ⟨rfl,?_⟩
  refine H.Z8 [3,3,3]<|fun H=>H.drop 3<|fun H=>?_
  exact H
 ·rw [if_neg BX]
  obtain ⟨h1,h2,h3⟩:=h1 ho
  obtain ⟨a,ha,IW,IL⟩:=F8 (s:=stk) BX
  have GF:=T7 a IL
  rw [IW]
  have hN0:0≤a % 4294967296:=by omega
  have Ce:m.types[x.a.toNat]?=some m.types[x.a.toNat]:=laa BX
  have LA:=Z0.all ZO _ (lda Ce)
  have Tl:m.d.types.getD x.a.toNat sz=m.types[x.a.toNat].d:=by
   show (m.types.map Xz.d).getD _ _=_
   rw [lia0,lCa,Ce];rfl
  rw [Tl]
  generalize m.types[x.a.toNat]=tx at *
  by_cases hNl:(a % 4294967296).toNat<Zs.length
  ·obtain ⟨f,DJ⟩:∃f,Zs[(a % 4294967296).toNat]?=some f:=⟨_,laa hNl⟩
   have hNb:=Rh f (lda DJ)
   rw [ae8 DJ]
   by_cases hf:f<0
   ·rw [if_pos (.inr hf)]
    refine ZI H<|fun p1 w1 H=>Z9 rfl<|Z4 (H.at 0 rfl) 0 rfl rfl rfl<|cF (Z5 BX)<|YS H 3 rfl rfl<|ZX BX ?_
    obtain ⟨b1,o1,E1⟩:=H.Y7 3 rfl ((stk.length)-1) BX
    refine ZK E1 BX rfl rfl<|Z4 (H.el 3 rfl E1 ha) 0 rfl rfl rfl<|Yu rfl rfl<|Xb BX rfl rfl<|YS H 3 rfl rfl<|ZX BX<|Ob H 3 rfl 0 ((stk.length)-1) rfl rfl BX BX (.inl ⟨rfl,rfl⟩) (.inr ⟨_,by first|rfl|(congr 2;omega)⟩)<|fun v1=>?_
    intro H
    refine Z9 rfl<|Z4 (H.at 1 rfl) 12 rfl rfl rfl<|YS H 2 rfl rfl<|XB (YJ BX)<|Z9 rfl<|Z4 (H.at 1 rfl) 12 rfl rfl rfl ?_
    obtain ⟨b2,o2,E2⟩:=H.Y7 2 rfl (a % 4294967296).toNat BX
    refine ZK E2 BX rfl rfl<|Z4 (H.el 2 rfl E2 DJ) 0 rfl rfl rfl<|cT (Y2 BW)<|Z6.mk ?_
    refine ⟨0,v1,List.drop 0 (List.take (stk.length-1) stk),24,?_⟩
    refine ⟨rfl,?_⟩
    refine ⟨rfl,?_⟩
    refine H.Z8 [3,3,3]<|fun H=>H.drop 3<|fun H=>?_
    exact H
   ·rw [if_neg BX]
    refine ZI H<|fun p1 w1 H=>Z9 rfl<|Z4 (H.at 0 rfl) 0 rfl rfl rfl<|cF (Z5 BX)<|YS H 3 rfl rfl<|ZX BX ?_
    obtain ⟨b1,o1,E1⟩:=H.Y7 3 rfl ((stk.length)-1) BX
    refine ZK E1 BX rfl rfl<|Z4 (H.el 3 rfl E1 ha) 0 rfl rfl rfl<|Yu rfl rfl<|Xb BX rfl rfl<|YS H 3 rfl rfl<|ZX BX<|Ob H 3 rfl 0 ((stk.length)-1) rfl rfl BX BX (.inl ⟨rfl,rfl⟩) (.inr ⟨_,by first|rfl|(congr 2;omega)⟩)<|fun v1=>?_
    intro H
    refine Z9 rfl<|Z4 (H.at 1 rfl) 12 rfl rfl rfl<|YS H 2 rfl rfl<|XB (YJ BX)<|Z9 rfl<|Z4 (H.at 1 rfl) 12 rfl rfl rfl ?_
    obtain ⟨b2,o2,E2⟩:=H.Y7 2 rfl (a % 4294967296).toNat BX
    refine ZK E2 BX rfl rfl<|Z4 (H.el 2 rfl E2 DJ) 0 rfl rfl rfl<|cF (Zn BX)<|Z9 rfl<|Z4 (H.at 1 rfl) 12 rfl rfl rfl<|ZK E2 BX rfl rfl<|Z4 (H.el 2 rfl E2 DJ) 0 rfl rfl rfl<|ZM H [] [BQp0,BQp1,BQp3,BQp4,BQp5,BQp6,BQh7,BQp8,BQh9,BQp10,BQh11,BQf2,BQfr12,BQp13] mixed k_d k_d<|fun w2 H=>tk (fun _ Z=>Z9 rfl BT)<|tk (fun _ Z=>Z9 rfl BT)<|tk (fun _ Z=>Z4 (Z.at 1 rfl) 0 rfl rfl rfl BT)<|tk (fun _ Z=>Z9 rfl BT)<|tk (fun _ Z=>Z4 (Z.at 0 rfl) 1 rfl rfl rfl BT) ?_
    obtain ⟨b3,o3,E3,F1,ZG⟩:=Z0.Y7 ZO Ce
    have Qd:=ZG.Zc
    have Qc:=ZG.out
    refine tk (fun _ Z=>ZK E3 BX rfl rfl BT)<|tk (fun _ Z=>ZB (Z.X7 F1) 0 rfl rfl rfl BT)<|H.Z8 [1]<|fun H=>?_
    refine Z7.mk (Fc.imp (Rn.Mr H BX BX _ BX BX) ?_)
    clear H
    rintro _ w1 ⟨t1,⟨rfl,⟨h4,⟨h5,⟨h6,⟨h7,⟨h8,H⟩⟩⟩⟩⟩⟩⟩
    refine H.Z8 [3,3,2,3]<|fun H=>YB.mk (H) ?_
    refine Z7.mk (Fc.imp (Rn.alK H _ _ BX BX BX BX) ?_)
    clear H
    rintro _ w3 ⟨q1,⟨rfl,⟨h9,H⟩⟩⟩
    refine cI (fun c1=>?_) (fun c1=>?_)
    ·replace c1:=Uk h9 (Td (c1))
     refine Z6.mk ?_
     refine ⟨0,v1,List.drop 0 (List.take (stk.length-1) stk),25,?_⟩
     refine ⟨rfl,?_⟩
     refine ⟨?_,?_⟩
     ·exact ce0 BW BW
     refine H.Z8 [3,3,3]<|fun H=>H.drop 3<|fun H=>?_
     exact H
    replace c1:=h9.1 (Tc (c1))
    refine Z6.mk ?_
    refine ⟨f,v1,List.drop 0 (List.take (stk.length-1) stk),0,?_⟩
    refine ⟨rfl,?_⟩
    refine ⟨?_,?_⟩
    ·exact ce1 BW BW
    refine H.Z8 [3,3,3]<|fun H=>H.drop 3<|fun H=>?_
    exact H
  ·rw [if_pos (.inl BX)]
   refine ZI H<|fun p1 w1 H=>Z9 rfl<|Z4 (H.at 0 rfl) 0 rfl rfl rfl<|cF (Z5 BX)<|YS H 3 rfl rfl<|ZX BX ?_
   obtain ⟨b1,o1,E1⟩:=H.Y7 3 rfl ((stk.length)-1) BX
   refine ZK E1 BX rfl rfl<|Z4 (H.el 3 rfl E1 ha) 0 rfl rfl rfl<|Yu rfl rfl<|Xb BX rfl rfl<|YS H 3 rfl rfl<|ZX BX<|Ob H 3 rfl 0 ((stk.length)-1) rfl rfl BX BX (.inl ⟨rfl,rfl⟩) (.inr ⟨_,by first|rfl|(congr 2;omega)⟩)<|fun v1=>?_
   intro H
   refine Z9 rfl<|Z4 (H.at 1 rfl) 12 rfl rfl rfl<|YS H 2 rfl rfl<|Vy (Ym BX)<|cT rfl<|Z6.mk ?_
   refine ⟨0,v1,List.drop 0 (List.take (stk.length-1) stk),24,?_⟩
   refine ⟨rfl,?_⟩
   refine ⟨rfl,?_⟩
   refine H.Z8 [3,3,3]<|fun H=>H.drop 3<|fun H=>?_
   exact H
end
end Rn
namespace Rn
open Go YZ Go.RowKit
open YY Zl XZ YP Valid Mem
structure CV where
 fn:Int
 at_:Int
 vl:Value
 loc:List Int
 vs:Value
 stk:List Int
def Yx (c:CV):List Value:=[.int .i64 c.fn,.int .i64 c.at_,c.vl,c.vs]
def CV.d (c:CV):YQ:=⟨c.fn,c.at_,c.loc,c.stk⟩
section
variable {g:Zx} {w:World} {l:List As} {vc:Value} {cs:List CV} {i b o:Nat}
theorem Ks (E:El vc 4 i b o) (c:CV) (hx:cs[i]?=some c) (H:Sat g w (Sl 79 4 Yx vc cs::Sl 2 1 ZJ c.vs c.stk::l)) (h1:1≤c.stk.length) (hlen:c.stk.length≤100000) :
  Fc Tryz.prog 162 #[.pointer (some ⟨b,o,none⟩)] w (fun r w'=>∃vs' t,r=BS t∧t=top c.stk 0∧Sat g w' (Sl 79 4 Yx vc (cs.set i ⟨c.fn,c.at_,c.vl,c.loc,vs',low c.stk 1⟩)::Sl 2 1 ZJ vs' (low c.stk 1)::l)):=by
 refine Fc.of Tryz.func162 rfl k_d ?_
 obtain ⟨a,ha,IW,IL⟩:=F8 (s:=c.stk) BX
 rw [IW]
 have hst:=H.one 1 rfl
 refine ZM H [] [BQp0,BQp1,BQp2,BQh3,BQp4,BQp5,BQp6,BQh7,BQp8,BQp9,BQp10,BQh11,BQp12] mixed k_d k_d<|fun w1 H=>tk (fun _ Z=>Z9 rfl BT)<|tk (fun _ Z=>Z4 (Z.el 0 rfl E hx) 3 rfl rfl rfl BT)<|tk (fun _ Z=>Z9 rfl BT)<|tk (fun _ Z=>Z4 (Z.el 0 rfl E hx) 3 rfl rfl rfl BT) ?_
 obtain ⟨a1,c1,V1⟩:=H.form 1 rfl
 refine tk (fun _ Z=>XU V1 rfl BT)<|ZX BX ?_
 obtain ⟨b1,o1,E1⟩:=H.Y7 1 rfl ((c.stk.length)-1) BX
 refine tk (fun _ Z=>ZK E1 BX rfl rfl BT)<|tk (fun _ Z=>Z4 (Z.el 1 rfl E1 ha) 0 rfl rfl rfl BT)<|ZM H [] [BQp0,BQp1,BQp2,BQp3,BQh4,BQp5,BQp6,BQp7,BQh8,BQp9,BQp10,BQp11,BQp12,BQp13,BQfr14] mixed k_d k_d<|fun w2 H=>tk (fun _ Z=>Z9 rfl BT)<|tk (fun _ Z=>Z4 (Z.el 0 rfl E hx) 3 rfl rfl rfl BT)<|tk (fun _ Z=>Z9 rfl BT)<|tk (fun _ Z=>Z4 (Z.el 0 rfl E hx) 3 rfl rfl rfl BT)<|tk (fun _ Z=>XU V1 rfl BT)<|ZX BX ?_
 obtain ⟨v1,V2⟩:=H.vw 1 rfl (0) (((c.stk.length)-1)) BX BX
 refine tk (fun _ Z=>VO V2 rfl rfl (.inl BT) (.inr ⟨_,by first|rfl|(congr 2;omega)⟩) BT)<|tk (fun _ Z=>Z9 rfl BT)<|YF H 0 rfl E hx 3 (⟨c.fn,c.at_,c.vl,c.loc,(v1),low c.stk 1⟩) rfl (by simp only [Bool.and_true,H.one 0 rfl,H.one 1 rfl,Vw.one V2,hst]) rfl rfl<|fun w1 H=>Z6.mk ?_
 refine ⟨v1,a,?_⟩
 refine ⟨?_,?_⟩
 ·simp
 refine ⟨BX,?_⟩
 exact H.Iv 1 rfl V2
theorem Mq (E:El vc 4 i b o) (c:CV) (hx:cs[i]?=some c) (H:Sat g w (Sl 79 4 Yx vc cs::Sl 2 1 ZJ c.vs c.stk::l)) (j:XX) (h0:0≤j.height) (h1:0≤j.keep) (hf:j.height+j.keep≤c.stk.length) (hlen:c.stk.length≤100000) :
  Fc Tryz.prog 113 #[.pointer (some ⟨b,o,none⟩),.agg #[BS j.at_,BS j.keep,BS j.height]] w (fun r w'=>∃vs',Sat g w' (Sl 79 4 Yx vc (cs.set i ⟨c.fn,j.at_,c.vl,c.loc,vs',c.stk.take j.height.toNat++c.stk.drop (c.stk.length-j.keep.toNat)⟩)::Sl 2 1 ZJ vs' (c.stk.take j.height.toNat++c.stk.drop (c.stk.length-j.keep.toNat))::l)):=by
 refine Fc.of Tryz.func113 rfl k_d ?_
 have hst:=H.one 1 rfl
 obtain ⟨kk,hkk⟩:=lwa h1
 obtain ⟨hh,hhh⟩:=lwa h0
 rw [hkk,hhh,lla,lla]
 refine ZI H<|fun p1 w1 H=>ZM H [] [BQp0,BQp1,BQp2,BQh3,BQp4,BQp5,BQp6,BQh7,BQp8,BQp9,BQh10,BQp11,BQp12,BQp13] mixed k_d k_d<|fun w2 H=>tk (fun _ Z=>Z9 rfl BT)<|tk (fun _ Z=>Z4 (Z.el 1 rfl E hx) 3 rfl rfl rfl BT)<|tk (fun _ Z=>Z9 rfl BT)<|tk (fun _ Z=>Z4 (Z.el 1 rfl E hx) 3 rfl rfl rfl BT) ?_
 obtain ⟨a1,c1,V1⟩:=H.form 2 rfl
 refine tk (fun _ Z=>XU V1 rfl BT)<|tk (fun _ Z=>Z9 rfl BT)<|tk (fun _ Z=>Z4 (Z.at 0 rfl) 1 rfl rfl rfl BT)<|ZX BX ?_
 obtain ⟨v1,V2⟩:=H.vw 2 rfl (((c.stk.length)-(kk))) ((c.stk).length) BX BX
 refine tk (fun _ Z=>VO V2 rfl rfl (.inr ⟨_,by first|rfl|(congr 2;omega)⟩) (.inl BT) BT)<|ZM H [] [BQp0,BQp1,BQp2,BQp3,BQh4,BQp5,BQh6,BQp7,BQp8,BQfr9,BQp10,BQp11,BQfr12] mixed k_d k_d<|fun w1 H=>tk (fun _ Z=>Z9 rfl BT)<|tk (fun _ Z=>Z4 (Z.el 1 rfl E hx) 3 rfl rfl rfl BT)<|tk (fun _ Z=>Z9 rfl BT)<|tk (fun _ Z=>Z4 (Z.at 0 rfl) 2 rfl rfl rfl BT) ?_
 obtain ⟨v2,V3⟩:=H.vw 2 rfl (0) ((hh)) BX BX
 refine tk (fun _ Z=>VO V3 rfl rfl (.inl BT) (.inr ⟨_,by first|rfl|(congr 2;omega)⟩) BT)<|akt 8 H 2 rfl V3 V2 (fun y _=>rfl) rfl rfl rfl BX BX<|fun v3=>?_
 intro w2 H
 refine tk (fun _ Z=>Z9 rfl BT)<|YF H 1 rfl E hx 3 (⟨c.fn,c.at_,c.vl,c.loc,(v3),c.stk.take hh++c.stk.drop (c.stk.length-kk)⟩) rfl (by simp only [Bool.and_true,H.one 1 rfl,H.one 2 rfl,Vw.one V3,Vw.one V2,hst]) rfl rfl<|fun w1 H=>Z9 rfl<|Z4 (H.at 0 rfl) 0 rfl rfl rfl<|Z9 rfl ?_
 have hx1:(cs.set i { fn:=c.fn,at_:=c.at_,vl:=c.vl,loc:=c.loc,vs:=v3,stk:=List.take hh c.stk++List.drop (c.stk.length-kk) c.stk })[i]?=some _:=WO hx
 refine YF H 1 rfl E hx1 1 (⟨c.fn,j.at_,c.vl,c.loc,_,c.stk.take hh++c.stk.drop (c.stk.length-kk)⟩) rfl rfl rfl rfl<|fun w2 H=>Z6.mk ?_
 refine ⟨v3,?_⟩
 refine H.Z8 [2,2]<|fun H=>H.drop 2<|fun H=>?_
 refine H.cg (YR (QV ?_) (YR rfl (rfl)))
 (simp;done)
end
end Rn
namespace Rn
open Go YZ Go.RowKit
open YY Zl XZ YP Valid Mem
section
variable {g:Zx} {w:World} {l:List As} {m:Ze} {pr cp mp:Nat} {vw vc vt vg va:Value} {host:Int} {cs:List CV} {args:List Int} {c u:CV}
theorem afd (H:Sat g w (Pt pr [BR cp,vw,vc,BS host] 148::Pt cp (BU m [BR mp,vt,vg]) 158::Sl 79 4 Yx vc cs::Sl 2 1 ZJ va args::l)) (hm:XG g m) (n:Nat) (f:YD) (hf:m.funcs[n]?=some f) (h1:f.loc.length≤16) (h2:args.length≤16) (h3:cs.length≤100) (hnf:m.funcs.length≤16) :
  Fc Tryz.prog 79 #[BR pr,BS n,va] w (fun r w'=>∃Qa IT,Sat g w' (Pt pr [BR cp,vw,Qa,BS host] 148::Pt cp (BU m [BR mp,vt,vg]) 158::Sl 79 4 Yx Qa (cs++[⟨n,0,IT,args++List.replicate f.loc.length 0,.slice none 0 0,[]⟩])::Sl 2 1 ZJ IT (args++List.replicate f.loc.length 0)::Sl 2 1 ZJ (.slice none 0 0) []::l)):=by
 refine Fc.of Tryz.func79 rfl k_d ?_
 have ZQ:=hm.funcs
 have hfo:=Z0.all ZQ f (lda hf)
 have agZ:=hfo.loc
 replace H:=H.UQ (en:=ZJ) (s:=1) 2 (fun _=>rfl)
 refine Z9 rfl<|Z4 (H.at 1 rfl) 0 rfl rfl rfl<|Z9 rfl<|Z9 rfl<|Z4 (H.at 2 rfl) 2 rfl rfl rfl ?_
 obtain ⟨b1,o1,E1,F1,ZG⟩:=Z0.Y7 ZQ hf
 have XV:=ZG.ty
 have Zt:=ZG.loc
 have ZE:=ZG.body
 refine ZK E1 rfl rfl rfl<|Z9 rfl<|Z4 (H.X7 F1) 1 rfl rfl rfl<|Zz Zt rfl<|amO (zx:=(0:Int)) 8 H 4 rfl rfl rfl rfl rfl rfl rfl BX BX<|fun v1=>?_
 intro w1 H
 refine Z9 rfl<|Z4 (H.at 1 rfl) 2 rfl rfl rfl ?_
 obtain ⟨a1,c1,rfl⟩:=H.form 4 rfl
 refine Zj rfl rfl rfl<|ZZ H rfl rfl rfl rfl<|fun p1 w2 H=>Wq (ys:=[⟨n,0,_,args++List.replicate f.loc.length 0,.slice none 0 0,[]⟩]) 64 H 4 rfl (H.at 0 rfl) rfl (fun y hy=>by rw [lta.1 hy];simp only [Rn.Yx,List.all_cons,List.all_nil,H.one 1 rfl,H.one 4 rfl,H.one 5 rfl,Z0.one ZE,Z0.one Zt,Z0.one agZ,Z0.one ZQ];rfl) rfl rfl rfl BX BX<|fun v1=>?_
 intro w1 H
 refine Z9 rfl<|XQ H 2 rfl rfl rfl (H.one 4 rfl)<|fun w2 H=>Z6.mk ?_
 refine ⟨v1,Value.slice a1 (args++List.replicate f.loc.length 0).length c1,?_⟩
 refine H.Z8 [1,5,5,5,5]<|fun H=>H.drop 5<|fun H=>?_
 exact H
theorem PM (H:Sat g w (Sl 2 1 ZJ va args::l)) (hl:args.length≤100000):Fc Tryz.prog 50 #[va] w (fun u w'=>Sat g w' (Sl 2 1 ZJ u args::Sl 2 1 ZJ va args::l)):=by
 refine Fc.of Tryz.func50 rfl k_d ?_
 rcases H.Te 0 rfl with ⟨Nz,Ny⟩|⟨b1,o1,c1,V1⟩
 ·subst Nz
  subst Ny
  refine XN rfl<|cT rfl<|Z6.mk ?_
  replace H:=H.UQ (en:=ZJ) (s:=1) (2) (fun _=>rfl)
  exact H
 subst V1
 refine XN rfl<|cF rfl<|ZZ H rfl rfl rfl rfl<|fun p1 w1 H=>H.WL (n:=0) (en:=ZJ) (s:=1) 0 rfl [] rfl rfl (fun _=>rfl) rfl<|fun H=>Uw 8 H 0 rfl (H.FM (ok:=fun _=>True) 1 rfl (fun _ _=>trivial)) (fun y _=>rfl) rfl rfl rfl (by grind) (by grind)<|fun v1=>?_
 intro w2 H
 refine Z6.mk ?_
 exact H
theorem Lj {v v1:Value} {xs:List Int} {a:Nat} (H:Sat g w (Sl 2 1 ZJ v xs::l)) (V:Vw v 1 xs.length a xs.length v1) (hl:xs.length≤100000):Fc Tryz.prog 50 #[v1] w (fun u w'=>Sat g w' (Sl 2 1 ZJ u (xs.drop a)::Sl 2 1 ZJ v xs::l)):=by
 refine Fc.of Tryz.func50 rfl k_d ?_
 have hle:=V.le
 obtain ⟨A,q,he,h0⟩:∃A q,v1=.slice A (xs.length-a) q∧(A=none→xs.drop a=[]):=by
  obtain ⟨ad,cap,hv,_,_,_,_,Rj⟩:=V
  refine ⟨_,_,Rj,fun hn=>?_⟩
  cases ad with
  | none =>
   rcases (H.off 0 rfl).1 with ⟨_,hx⟩|⟨_,_,_,_,h,_⟩
   ·grind
   ·grind
  | some p =>
   split at hn
   ·grind
   ·grind
 cases A with
 | none =>
  rw [h0 rfl]
  subst he
  replace H:=H.UQ (en:=ZJ) (s:=1) 2 (fun _=>rfl)
  refine XN rfl<|cT rfl<|Z6.mk ?_
  exact H
 | some p =>
  subst he
  refine XN rfl<|cF rfl<|ZZ H rfl rfl rfl rfl<|fun p1 w1 H=>H.WL (n:=0) (en:=ZJ) (s:=1) 0 rfl [] rfl rfl (fun _=>rfl) rfl<|fun H=>Uw 8 H 0 rfl (H.rdv (ok:=fun _=>True) 1 rfl V (fun _ _=>trivial)) (fun y _=>rfl) rfl rfl rfl (by grind) (by grind)<|fun v1=>?_
  intro w2 H
  refine Z6.mk ?_
  refine H.cg (YR (QV ?_) (YR rfl (rfl)))
  (simp;done)
theorem afe (H:Sat g w (Pt pr [BR cp,vw,vc,BS host] 148::Sl 79 4 Yx vc cs::Sl 2 1 ZJ c.vs c.stk::l)) (hcs:cs=[c]) (hvl:c.vl.oneCell'=true) (hvs:c.vs.oneCell'=true) (hl:c.stk.length≤100000) :
  Fc Tryz.prog 112 #[BR pr] w (fun r w'=>∃Qa v',r=.tuple #[v',.bool true]∧Sat g w' (Pt pr [BR cp,vw,Qa,BS host] 148::Sl 79 4 Yx Qa ([]:List CV)::Sl 2 1 ZJ v' c.stk::l)):=by
 refine Fc.of Tryz.func112 rfl k_d ?_
 have hn:cs.length=1:=by grind
 have hx:cs[cs.length-1]?=some c:=by grind
 have Q6:List.drop 0 (cs.take (cs.length-1))=([]:List CV):=by grind
 refine ZM H [] [BQp0,BQp1,BQp2,BQh3,BQp4,BQp5,BQp6,BQh7,BQp8,BQp9,BQp10,BQh11,BQf12,BQfr13] mixed k_d k_d<|fun w1 H=>tk (fun _ Z=>Z9 rfl BT)<|tk (fun _ Z=>Z4 (Z.at 0 rfl) 2 rfl rfl rfl BT)<|tk (fun _ Z=>Z9 rfl BT)<|tk (fun _ Z=>Z4 (Z.at 0 rfl) 2 rfl rfl rfl BT) ?_
 obtain ⟨a1,c1,V1⟩:=H.form 1 rfl
 refine tk (fun _ Z=>XU V1 rfl BT)<|ZX BX ?_
 obtain ⟨b1,o1,E1⟩:=H.Y7 1 rfl ((cs.length)-1) BX
 refine tk (fun _ Z=>ZK E1 BX rfl rfl BT)<|tk (fun _ Z=>ZB (Z.el 1 rfl E1 hx) 0 rfl rfl rfl BT)<|ZV H rfl<|fun p1 w2 H=>YB.mk (H.drop 0 (fun H=>H))<|ZF H 0 rfl rfl rfl (by simp only [List.all_cons,List.all_nil,H.one 2 rfl,H.one 3 rfl,hvs,hvl];rfl)<|fun w1 H=>Z9 rfl<|Z4 (H.at 0 rfl) 3 rfl rfl rfl<|H.Z8 [3]<|fun H=>?_
 refine Z7.mk (Fc.imp (Rn.PM H BX) ?_)
 clear H
 rintro v' w2 H
 refine ZM H [] [BQp0,BQp1,BQp2,BQp3,BQh4,BQp5,BQp6,BQp7,BQh8,BQp9,BQp10,BQp11,BQp12,BQp13,BQfr14] mixed k_d k_d<|fun w3 H=>tk (fun _ Z=>Z9 rfl BT)<|tk (fun _ Z=>Z4 (Z.at 3 rfl) 2 rfl rfl rfl BT)<|tk (fun _ Z=>Z9 rfl BT)<|tk (fun _ Z=>Z4 (Z.at 3 rfl) 2 rfl rfl rfl BT)<|tk (fun _ Z=>XU V1 rfl BT)<|ZX BX ?_
 obtain ⟨v1,V2⟩:=H.vw 4 rfl (0) (((cs.length)-1)) BX BX
 refine tk (fun _ Z=>VO V2 rfl rfl (.inl BT) (.inr ⟨_,by first|rfl|(congr 2;omega)⟩) BT)<|tk (fun _ Z=>Z9 rfl BT)<|XQ H 3 rfl rfl rfl (by simp only [Bool.and_true,H.one 0 rfl,H.one 1 rfl,H.one 4 rfl,Vw.one V2,hvs,hvl])<|fun w2 H=>Z9 rfl<|Z4 (H.at 3 rfl) 2 rfl rfl rfl<|J5 V2 rfl ?_
 replace H:=H.Iv 4 rfl V2
 simp only [List.set_cons_succ,List.set_cons_zero,Q6] at H
 refine cT (ZL BX)<|Z6.mk ?_
 refine ⟨v1,v',?_⟩
 refine ⟨rfl,?_⟩
 refine H.Z8 [0,4,4]<|fun H=>H.drop 4<|fun H=>H.drop 3<|fun H=>?_
 exact H
theorem aff {up:List CV} (H:Sat g w (Pt pr [BR cp,vw,vc,BS host] 148::Sl 79 4 Yx vc cs::Sl 2 1 ZJ c.vs c.stk::Sl 2 1 ZJ u.vs u.stk::l)) (hcs:cs=up++[u]++[c]) (hvl:c.vl.oneCell'=true) (hvs:c.vs.oneCell'=true) (hl:c.stk.length≤10000) (K8:u.stk.length≤10000) (hle:cs.length≤1000) :
  Fc Tryz.prog 112 #[BR pr] w (fun r w'=>∃Qa vs',r=.tuple #[.slice none 0 0,.bool false]∧Sat g w' (Pt pr [BR cp,vw,Qa,BS host] 148::Sl 79 4 Yx Qa (up++[⟨u.fn,u.at_,u.vl,u.loc,vs',u.stk++c.stk⟩])::Sl 2 1 ZJ vs' (u.stk++c.stk)::l)):=by
 refine Fc.of Tryz.func112 rfl k_d ?_
 have hn:cs.length=up.length+2:=by grind
 have hx:cs[cs.length-1]?=some c:=by grind
 have hu0:(cs.take (cs.length-1)).length=up.length+1:=by grind
 have Q6:List.drop 0 (cs.take (cs.length-1))=up++[u]:=by grind
 refine ZM H [] [BQp0,BQp1,BQp2,BQh3,BQp4,BQp5,BQp6,BQh7,BQp8,BQp9,BQp10,BQh11,BQf12,BQfr13] mixed k_d k_d<|fun w1 H=>tk (fun _ Z=>Z9 rfl BT)<|tk (fun _ Z=>Z4 (Z.at 0 rfl) 2 rfl rfl rfl BT)<|tk (fun _ Z=>Z9 rfl BT)<|tk (fun _ Z=>Z4 (Z.at 0 rfl) 2 rfl rfl rfl BT) ?_
 obtain ⟨a1,c1,V1⟩:=H.form 1 rfl
 refine tk (fun _ Z=>XU V1 rfl BT)<|ZX BX ?_
 obtain ⟨b1,o1,E1⟩:=H.Y7 1 rfl ((cs.length)-1) BX
 refine tk (fun _ Z=>ZK E1 BX rfl rfl BT)<|tk (fun _ Z=>ZB (Z.el 1 rfl E1 hx) 0 rfl rfl rfl BT)<|ZV H rfl<|fun p1 w2 H=>YB.mk (H.drop 0 (fun H=>H))<|ZF H 0 rfl rfl rfl (by simp only [List.all_cons,List.all_nil,H.one 2 rfl,H.one 3 rfl,H.one 4 rfl,hvs,hvl];rfl)<|fun w1 H=>Z9 rfl<|Z4 (H.at 0 rfl) 3 rfl rfl rfl<|H.Z8 [3]<|fun H=>?_
 refine Z7.mk (Fc.imp (Rn.PM H BX) ?_)
 clear H
 rintro v' w2 H
 refine ZM H [] [BQp0,BQp1,BQp2,BQp3,BQh4,BQp5,BQp6,BQp7,BQh8,BQp9,BQp10,BQp11,BQp12,BQp13,BQfr14] mixed k_d k_d<|fun w3 H=>tk (fun _ Z=>Z9 rfl BT)<|tk (fun _ Z=>Z4 (Z.at 3 rfl) 2 rfl rfl rfl BT)<|tk (fun _ Z=>Z9 rfl BT)<|tk (fun _ Z=>Z4 (Z.at 3 rfl) 2 rfl rfl rfl BT)<|tk (fun _ Z=>XU V1 rfl BT)<|ZX BX ?_
 obtain ⟨v1,V2⟩:=H.vw 4 rfl (0) (((cs.length)-1)) BX BX
 refine tk (fun _ Z=>VO V2 rfl rfl (.inl BT) (.inr ⟨_,by first|rfl|(congr 2;omega)⟩) BT)<|tk (fun _ Z=>Z9 rfl BT)<|XQ H 3 rfl rfl rfl (by simp only [Bool.and_true,H.one 0 rfl,H.one 1 rfl,H.one 4 rfl,H.one 5 rfl,Vw.one V2,hvs,hvl])<|fun w2 H=>Z9 rfl<|Z4 (H.at 3 rfl) 2 rfl rfl rfl<|J5 V2 rfl ?_
 replace H:=H.Iv 4 rfl V2
 rw [Q6] at H
 simp only [List.set_cons_succ,List.set_cons_zero] at H
 have GR:cs.length-1-0-1=up.length:=by omega
 have hux:(up++[u])[cs.length-1-0-1]?=some u:=by grind
 have WU:∀z,(up++[u]).set (cs.length-1-0-1) z=up++[z]:=fun z=>by rw [GR];simp
 refine cF (Z5 BX)<|ZM H [] [BQp0,BQp1,BQp2,BQh3,BQp4,BQp5,BQp6,BQh7,BQp8,BQp9,BQp10,BQp11] mixed k_d k_d<|fun w3 H=>tk (fun _ Z=>Z9 rfl BT)<|tk (fun _ Z=>Z4 (Z.at 3 rfl) 2 rfl rfl rfl BT)<|tk (fun _ Z=>Z9 rfl BT)<|tk (fun _ Z=>Z4 (Z.at 3 rfl) 2 rfl rfl rfl BT)<|tk (fun _ Z=>J5 V2 rfl BT)<|ZX BX ?_
 obtain ⟨b2,o2,E2⟩:=H.Y7 4 rfl ((cs.length-1-0)-1) (by grind)
 refine tk (fun _ Z=>ZK E2 BX rfl rfl BT)<|Z9 rfl<|Z4 (H.el 4 rfl E2 hux) 3 rfl rfl rfl<|Uw 8 H 5 rfl (H.FM (ok:=fun _=>True) 0 rfl (fun _ _=>trivial)) (fun y _=>rfl) rfl rfl rfl BX BX<|fun v2=>?_
 intro w2 H
 refine Z9 rfl<|YF H 4 rfl E2 hux 3 (⟨u.fn,u.at_,u.vl,u.loc,_,u.stk++c.stk⟩) rfl (by simp only [Bool.and_true,H.one 0 rfl,H.one 1 rfl,H.one 4 rfl,H.one 5 rfl,Vw.one V2,hvs,hvl]) rfl rfl<|fun w3 H=>?_
 simp only [WU] at H
 refine Z6.mk ⟨v1,v2,rfl,?_⟩
 refine H.Z8 [5,5,5]<|fun H=>H.drop 5<|fun H=>H.drop 4<|fun H=>H.drop 3<|fun H=>?_
 exact H
end
end Rn
namespace Rn
open Go YZ Go.RowKit
open YY Zl XZ YP Valid Mem
section
variable {g:Zx} {w:World} {l:List As} {m:Ze} {pr cp mp:Nat} {vw vc vt vg SW:Value} {host f e:Int} {cs:List CV} {Zs s2:List Int} {u:CV} {x:ZU} {i b o:Nat}
theorem Rp {n1 n2:Int} {q:Int × List Int × Int} {s:List Int} (h:(n1,s,n2)=q) (hq:q=(f,s2,e)):f=n1∧s2=s∧e=n2:=by grind
theorem ag0 {n:Int} (h0:(m.ZA.length:Int)≤n) (h1:n<(m.ZA.length:Int)+m.funcs.length):∃(k:Nat) (F:YD),n=m.ZA.length+k∧m.funcs[k]?=some F∧WZ m.d (n-Y4 m.d)=F.d:=by
 obtain ⟨k,hk⟩:=lwa (show 0≤n-m.ZA.length by omega)
 have I1:k<m.funcs.length:=by omega
 refine ⟨k,m.funcs[k],by omega,laa I1,?_⟩
 unfold WZ Y4
 show (m.funcs.map YD.d).getD (n-(m.ZA.length:Int)).toNat _=_
 rw [hk,lla,lia0,lCa,laa I1];rfl
theorem afg (E:El vc 4 i b o) (c:CV) (hx:cs[i]?=some c) (H:Sat g w (Pt pr [BR cp,vw,vc,BS host] 148::Pt cp (BU m [BR mp,vt,vg]) 158::Sl 3 1 ZJ vt Zs::Sl 79 4 Yx vc cs::Sl 2 1 ZJ c.vs c.stk::l)) (hm:XG g m) (P:Tv m.d) (ho:x.op=16∨x.op=17) (Rh:∀n∈Zs,-1≤n∧n<(m.ZA.length:Int)+m.funcs.length) (h1:x.op=17→1≤c.stk.length∧0≤x.a∧x.a<m.types.length) (T7:∀v∈c.stk,Xw v) (hlen:c.stk.length≤10000) (MJ:Zs.length≤1000) (Ts:cs.length≤40) (hvl:c.vl.oneCell'=true) (hq:Y0 m.d Zs x c.stk=(f,s2,e)) (he:e≠0):Fc Tryz.prog 163 #[BR pr,.pointer (some ⟨b,o,none⟩),.agg #[.int .u8 x.op,BS x.a,BS x.b,SW]] w (fun r w'=>r=.agg #[BS 2,.slice none 0 0,BS e,BS 0,BS 0]∧Sat g w' (Pt pr [BR cp,vw,vc,BS host] 148::Pt cp (BU m [BR mp,vt,vg]) 158::Sl 3 1 ZJ vt Zs::l)):=by
 refine Fc.of Tryz.func163 rfl k_d ?_
 have ZO:=hm.types
 have Zk:=hm.ZA
 have ZQ:=hm.funcs
 have hvs:=H.one 4 rfl
 have hni:m.ZA.length≤16:=P.ni
 have hnf:m.funcs.length≤16:=by have:=P.nf;rwa [show m.d.funcs.length=m.funcs.length from lea ..] at this
 refine ZI H<|fun p1 w1 H=>ZV H rfl<|fun p2 w2 H=>ZM H [] [BQp0,BQp1,BQp2,BQh3,BQh4,BQp5,BQp6,BQp7,BQh8,BQfr9,BQp10,BQp11,BQp12,BQp13,BQp14,BQp15,BQp16] mixed k_d k_d<|fun w1 H=>tk (fun _ Z=>Z9 rfl BT)<|tk (fun _ Z=>Z4 (Z.at 2 rfl) 0 rfl rfl rfl BT)<|tk (fun _ Z=>ZB (Z.at 1 rfl) 0 rfl rfl rfl BT)<|tk (fun _ Z=>Z9 rfl BT)<|tk (fun _ Z=>Z4 (Z.el 5 rfl E hx) 3 rfl rfl rfl BT)<|H.Z8 [6,5,5]<|fun H=>?_
 refine Z7.mk (Fc.imp (Rn.Ox H BX BX BX BX BX BX BX BX) ?_)
 clear H
 rintro _ w2 ⟨f1,⟨Zw,⟨RQ,⟨e1,⟨rfl,⟨h2,H⟩⟩⟩⟩⟩⟩
 obtain ⟨rfl,rfl,rfl⟩:=Rp h2 hq
 refine Z9 rfl<|YF H 6 rfl E hx 3 (⟨c.fn,c.at_,c.vl,c.loc,(Zw),s2⟩) rfl k_o rfl rfl<|fun w3 H=>cT (VF BW)<|Zj rfl rfl rfl<|ZF H 3 rfl rfl rfl rfl<|fun w2 H=>XK (H.at 3 rfl) 0 rfl rfl rfl<|Z6.mk ?_
 refine ⟨rfl,?_⟩
 refine H.Z8 [1,1,5]<|fun H=>H.drop 6<|fun H=>H.drop 5<|fun H=>H.drop 4<|fun H=>H.drop 3<|fun H=>?_
 exact H
theorem afh (E:El vc 4 i b o) (c:CV) (hx:cs[i]?=some c) (H:Sat g w (Pt pr [BR cp,vw,vc,BS host] 148::Pt cp (BU m [BR mp,vt,vg]) 158::Sl 3 1 ZJ vt Zs::Sl 79 4 Yx vc cs::Sl 2 1 ZJ c.vs c.stk::l)) (hm:XG g m) (P:Tv m.d) (ho:x.op=16∨x.op=17) (Rh:∀n∈Zs,-1≤n∧n<(m.ZA.length:Int)+m.funcs.length) (h1:x.op=17→1≤c.stk.length∧0≤x.a∧x.a<m.types.length) (T7:∀v∈c.stk,Xw v) (hlen:c.stk.length≤10000) (MJ:Zs.length≤1000) (Ts:cs.length≤40) (hvl:c.vl.oneCell'=true) (hq:Y0 m.d Zs x c.stk=(f,s2,0)) (hf:0≤f∧f<(m.ZA.length:Int)+m.funcs.length) (IK:(YC m.d f).Zc.length≤s2.length) (I3:s2.length≤10000) (Cd:(m.ZA.length:Int)≤f) (Cc:cs.length=40):Fc Tryz.prog 163 #[BR pr,.pointer (some ⟨b,o,none⟩),.agg #[.int .u8 x.op,BS x.a,BS x.b,SW]] w (fun r w'=>r=.agg #[BS 2,.slice none 0 0,BS 26,BS 0,BS 0]∧Sat g w' (Pt pr [BR cp,vw,vc,BS host] 148::Pt cp (BU m [BR mp,vt,vg]) 158::Sl 3 1 ZJ vt Zs::l)):=by
 refine Fc.of Tryz.func163 rfl k_d ?_
 have ZO:=hm.types
 have Zk:=hm.ZA
 have ZQ:=hm.funcs
 have hvs:=H.one 4 rfl
 have hni:m.ZA.length≤16:=P.ni
 have hnf:m.funcs.length≤16:=by have:=P.nf;rwa [show m.d.funcs.length=m.funcs.length from lea ..] at this
 have hty:∀t:Xz,t.d=YC m.d f→t.Zc.length=(YC m.d f).Zc.length:=fun t h=>by rw [←h];rfl
 refine ZI H<|fun p1 w1 H=>ZV H rfl<|fun p2 w2 H=>ZM H [] [BQp0,BQp1,BQp2,BQh3,BQh4,BQp5,BQp6,BQp7,BQh8,BQfr9,BQp10,BQp11,BQp12,BQp13,BQp14,BQp15,BQp16] mixed k_d k_d<|fun w1 H=>tk (fun _ Z=>Z9 rfl BT)<|tk (fun _ Z=>Z4 (Z.at 2 rfl) 0 rfl rfl rfl BT)<|tk (fun _ Z=>ZB (Z.at 1 rfl) 0 rfl rfl rfl BT)<|tk (fun _ Z=>Z9 rfl BT)<|tk (fun _ Z=>Z4 (Z.el 5 rfl E hx) 3 rfl rfl rfl BT)<|H.Z8 [6,5,5]<|fun H=>?_
 refine Z7.mk (Fc.imp (Rn.Ox H BX BX BX BX BX BX BX BX) ?_)
 clear H
 rintro _ w2 ⟨f1,⟨Zw,⟨RQ,⟨e1,⟨rfl,⟨h2,H⟩⟩⟩⟩⟩⟩
 obtain ⟨rfl,rfl,rfl⟩:=Rp h2 hq
 refine Z9 rfl<|YF H 6 rfl E hx 3 (⟨c.fn,c.at_,c.vl,c.loc,(Zw),s2⟩) rfl k_o rfl rfl<|fun w3 H=>cF (WE BX)<|ZM H [] [BQp0,BQp1,BQp2,BQh3,BQp4,BQp5,BQp6,BQp7,BQh8,BQp9,BQf10,BQp11,BQp12,BQp13,BQp14] mixed k_d k_d<|fun w2 H=>tk (fun _ Z=>Z9 rfl BT) ?_
 have hx1:(cs.set i { fn:=c.fn,at_:=c.at_,vl:=c.vl,loc:=c.loc,vs:=Zw,stk:=s2 })[i]?=some _:=WO hx
 refine tk (fun _ Z=>Z4 (Z.el 6 rfl E hx1) 3 rfl rfl rfl BT) ?_
 obtain ⟨a1,c1,V1⟩:=H.form 2 rfl
 refine tk (fun _ Z=>XU V1 rfl BT)<|tk (fun _ Z=>Z9 rfl BT)<|tk (fun _ Z=>Z4 (Z.at 5 rfl) 0 rfl rfl rfl BT) ?_
 refine Z7.mk (Fc.imp (Rn.Mr H BX BX _ BX BX) ?_)
 clear H
 rintro _ w3 ⟨t1,⟨rfl,⟨h3,⟨h4,⟨h5,⟨h6,⟨h7,H⟩⟩⟩⟩⟩⟩⟩
 have HU:=hty _ BW
 have JA:=Wa.Zc (by assumption:Wa g _)
 refine YB.mk (H)<|tk (fun _ Z=>QY rfl BT)<|tk (fun _ Z=>Zz JA rfl BT)<|ZX BX<|Z9 rfl<|Z4 (H.el 6 rfl E hx1) 3 rfl rfl rfl ?_
 obtain ⟨v1,V2⟩:=H.vw 2 rfl (((s2.length)-(t1.Zc.length))) ((s2).length) BX BX
 refine VO V2 rfl rfl (.inr ⟨_,by first|rfl|(congr 2;omega)⟩) (.inl ⟨rfl,rfl⟩)<|H.Z8 [2]<|fun H=>?_
 refine Z7.mk (Fc.imp (Rn.Lj H V2 BX) ?_)
 clear H
 rintro v' w4 H
 refine Z9 rfl<|Z4 (H.at 6 rfl) 0 rfl rfl rfl<|Z9 rfl<|Z9 rfl<|Z4 (H.at 2 rfl) 1 rfl rfl rfl<|Zz Zk rfl<|ZX BX<|Vy (Ym BX)<|Z9 rfl<|Z4 (H.at 6 rfl) 2 rfl rfl rfl<|YS H 7 rfl rfl<|cT (ZL (by grind))<|Zj rfl rfl rfl<|ZF H 4 rfl rfl rfl rfl<|fun w5 H=>XK (H.at 4 rfl) 0 rfl rfl rfl<|Z6.mk ?_
 refine ⟨rfl,?_⟩
 refine H.Z8 [3,3,6]<|fun H=>H.drop 7<|fun H=>H.drop 6<|fun H=>H.drop 5<|fun H=>H.drop 4<|fun H=>H.drop 3<|fun H=>?_
 exact H
theorem afi (E:El vc 4 i b o) (c:CV) (hx:cs[i]?=some c) (H:Sat g w (Pt pr [BR cp,vw,vc,BS host] 148::Pt cp (BU m [BR mp,vt,vg]) 158::Sl 3 1 ZJ vt Zs::Sl 79 4 Yx vc cs::Sl 2 1 ZJ c.vs c.stk::l)) (hm:XG g m) (P:Tv m.d) (ho:x.op=16∨x.op=17) (Rh:∀n∈Zs,-1≤n∧n<(m.ZA.length:Int)+m.funcs.length) (h1:x.op=17→1≤c.stk.length∧0≤x.a∧x.a<m.types.length) (T7:∀v∈c.stk,Xw v) (hlen:c.stk.length≤10000) (MJ:Zs.length≤1000) (Ts:cs.length≤40) (hvl:c.vl.oneCell'=true) (hq:Y0 m.d Zs x c.stk=(f,s2,0)) (hf:0≤f∧f<(m.ZA.length:Int)+m.funcs.length) (IK:(YC m.d f).Zc.length≤s2.length) (I3:s2.length≤10000) (Cd:f<m.ZA.length):Fc Tryz.prog 163 #[BR pr,.pointer (some ⟨b,o,none⟩),.agg #[.int .u8 x.op,BS x.a,BS x.b,SW]] w (fun r w'=>∃vs' vv,r=.agg #[BS 4,vv,BS 0,BS f,BS 0]∧Sat g w' (Pt pr [BR cp,vw,vc,BS (f+1)] 148::Pt cp (BU m [BR mp,vt,vg]) 158::Sl 3 1 ZJ vt Zs::Sl 79 4 Yx vc (cs.set i ⟨c.fn,c.at_,c.vl,c.loc,vs',s2.take (s2.length-(YC m.d f).Zc.length)⟩)::Sl 2 1 ZJ vs' (s2.take (s2.length-(YC m.d f).Zc.length))::Sl 2 1 ZJ vv (s2.drop (s2.length-(YC m.d f).Zc.length))::l)):=by
 refine Fc.of Tryz.func163 rfl k_d ?_
 have ZO:=hm.types
 have Zk:=hm.ZA
 have ZQ:=hm.funcs
 have hvs:=H.one 4 rfl
 have hni:m.ZA.length≤16:=P.ni
 have hnf:m.funcs.length≤16:=by have:=P.nf;rwa [show m.d.funcs.length=m.funcs.length from lea ..] at this
 have hty:∀t:Xz,t.d=YC m.d f→t.Zc.length=(YC m.d f).Zc.length:=fun t h=>by rw [←h];rfl
 refine ZI H<|fun p1 w1 H=>ZV H rfl<|fun p2 w2 H=>ZM H [] [BQp0,BQp1,BQp2,BQh3,BQh4,BQp5,BQp6,BQp7,BQh8,BQfr9,BQp10,BQp11,BQp12,BQp13,BQp14,BQp15,BQp16] mixed k_d k_d<|fun w1 H=>tk (fun _ Z=>Z9 rfl BT)<|tk (fun _ Z=>Z4 (Z.at 2 rfl) 0 rfl rfl rfl BT)<|tk (fun _ Z=>ZB (Z.at 1 rfl) 0 rfl rfl rfl BT)<|tk (fun _ Z=>Z9 rfl BT)<|tk (fun _ Z=>Z4 (Z.el 5 rfl E hx) 3 rfl rfl rfl BT)<|H.Z8 [6,5,5]<|fun H=>?_
 refine Z7.mk (Fc.imp (Rn.Ox H BX BX BX BX BX BX BX BX) ?_)
 clear H
 rintro _ w2 ⟨f1,⟨Zw,⟨RQ,⟨e1,⟨rfl,⟨h2,H⟩⟩⟩⟩⟩⟩
 obtain ⟨rfl,rfl,rfl⟩:=Rp h2 hq
 refine Z9 rfl<|YF H 6 rfl E hx 3 (⟨c.fn,c.at_,c.vl,c.loc,(Zw),s2.take (s2.length-(YC m.d f).Zc.length)⟩) rfl k_o rfl rfl<|fun w3 H=>cF (WE BX)<|ZM H [] [BQp0,BQp1,BQp2,BQh3,BQp4,BQp5,BQp6,BQp7,BQh8,BQp9,BQf10,BQp11,BQp12,BQp13,BQp14] mixed k_d k_d<|fun w2 H=>tk (fun _ Z=>Z9 rfl BT) ?_
 have hx1:(cs.set i { fn:=c.fn,at_:=c.at_,vl:=c.vl,loc:=c.loc,vs:=Zw,stk:=List.take (s2.length-(YC m.d f).Zc.length) s2 })[i]?=some _:=WO hx
 refine tk (fun _ Z=>Z4 (Z.el 6 rfl E hx1) 3 rfl rfl rfl BT) ?_
 obtain ⟨a1,c1,V1⟩:=H.form 2 rfl
 refine tk (fun _ Z=>XU V1 rfl BT)<|tk (fun _ Z=>Z9 rfl BT)<|tk (fun _ Z=>Z4 (Z.at 5 rfl) 0 rfl rfl rfl BT) ?_
 refine Z7.mk (Fc.imp (Rn.Mr H BX BX _ BX BX) ?_)
 clear H
 rintro _ w3 ⟨t1,⟨rfl,⟨h3,⟨h4,⟨h5,⟨h6,⟨h7,H⟩⟩⟩⟩⟩⟩⟩
 have HU:=hty _ BW
 have JA:=Wa.Zc (by assumption:Wa g _)
 refine YB.mk (H)<|tk (fun _ Z=>QY rfl BT)<|tk (fun _ Z=>Zz JA rfl BT)<|ZX BX<|Z9 rfl<|Z4 (H.el 6 rfl E hx1) 3 rfl rfl rfl ?_
 obtain ⟨v1,V2⟩:=H.vw 2 rfl (((s2.length)-(t1.Zc.length))) ((s2).length) BX BX
 refine VO V2 rfl rfl (.inr ⟨_,by first|rfl|(congr 2;omega)⟩) (.inl ⟨rfl,rfl⟩)<|H.Z8 [2]<|fun H=>?_
 refine Z7.mk (Fc.imp (Rn.Lj H V2 BX) ?_)
 clear H
 rintro v' w4 H
 refine Z9 rfl<|Z4 (H.at 6 rfl) 0 rfl rfl rfl<|Z9 rfl<|Z9 rfl<|Z4 (H.at 2 rfl) 1 rfl rfl rfl<|Zz Zk rfl<|ZX BX<|XB (YJ BX)<|cF rfl<|Z9 rfl<|Z4 (H.el 7 rfl E hx1) 3 rfl rfl rfl ?_
 obtain ⟨v2,V3⟩:=H.vw 1 rfl (0) (((s2.length)-(t1.Zc.length))) BX BX
 refine VO V3 rfl rfl (.inl ⟨rfl,rfl⟩) (.inr ⟨_,by first|rfl|(congr 2;omega)⟩)<|Z9 rfl<|YF H 7 rfl E hx1 3 (⟨c.fn,c.at_,c.vl,c.loc,(v2),s2.take (s2.length-(YC m.d f).Zc.length)⟩) rfl (by simp only [Bool.and_true,H.one 0 rfl,H.one 1 rfl,H.one 3 rfl,H.one 7 rfl,Vw.one V3,Vw.one V2,Z0.one JA,hvs,Z0.one ZQ,Z0.one Zk,Z0.one ZO,hvl]) rfl rfl<|fun w5 H=>cT (Y2 BX)<|ZX BX<|Z9 rfl<|XQ H 6 rfl rfl rfl rfl<|fun w4 H=>?_
 obtain ⟨a2,c2,rfl⟩:=H.form 0 rfl
 refine Zj rfl rfl rfl<|ZF H 4 rfl rfl rfl rfl<|fun w5 H=>XK (H.at 4 rfl) 0 rfl rfl rfl ?_
 replace H:=H.Iv 1 rfl V3
 simp only [List.set_cons_succ,List.set_cons_zero,List.drop_zero,HU,List.set_set] at H
 refine Z6.mk ⟨v2,_,(by rw [HU]),?_⟩
 refine H.Z8 [0,1,7,4,4,7]<|fun H=>H.drop 7<|fun H=>H.drop 6<|fun H=>?_
 exact H
theorem afj (E:El vc 4 i b o) (c:CV) (hx:cs[i]?=some c) (H:Sat g w (Pt pr [BR cp,vw,vc,BS host] 148::Pt cp (BU m [BR mp,vt,vg]) 158::Sl 3 1 ZJ vt Zs::Sl 79 4 Yx vc cs::Sl 2 1 ZJ c.vs c.stk::l)) (hm:XG g m) (P:Tv m.d) (ho:x.op=16∨x.op=17) (Rh:∀n∈Zs,-1≤n∧n<(m.ZA.length:Int)+m.funcs.length) (h1:x.op=17→1≤c.stk.length∧0≤x.a∧x.a<m.types.length) (T7:∀v∈c.stk,Xw v) (hlen:c.stk.length≤10000) (MJ:Zs.length≤1000) (Ts:cs.length≤40) (hvl:c.vl.oneCell'=true) (hq:Y0 m.d Zs x c.stk=(f,s2,0)) (hf:0≤f∧f<(m.ZA.length:Int)+m.funcs.length) (IK:(YC m.d f).Zc.length≤s2.length) (I3:s2.length≤10000) (k:Nat) (F:YD) (Hr:f=m.ZA.length+k) (hF:m.funcs[k]?=some F) (Et:F.loc.length≤16) (h4:(YC m.d f).Zc.length≤4) (Cc:cs.length<40):Fc Tryz.prog 163 #[BR pr,.pointer (some ⟨b,o,none⟩),.agg #[.int .u8 x.op,BS x.a,BS x.b,SW]] w (fun r w'=>∃Qa vs' IT,r=.agg #[BS 0,.slice none 0 0,BS 0,BS 0,BS 0]∧Sat g w' (Pt pr [BR cp,vw,Qa,BS host] 148::Pt cp (BU m [BR mp,vt,vg]) 158::Sl 3 1 ZJ vt Zs::Sl 79 4 Yx Qa (cs.set i ⟨c.fn,c.at_,c.vl,c.loc,vs',s2.take (s2.length-(YC m.d f).Zc.length)⟩++[⟨k,0,IT,(s2.drop (s2.length-(YC m.d f).Zc.length))++List.replicate F.loc.length 0,.slice none 0 0,[]⟩])::Sl 2 1 ZJ vs' (s2.take (s2.length-(YC m.d f).Zc.length))::Sl 2 1 ZJ IT ((s2.drop (s2.length-(YC m.d f).Zc.length))++List.replicate F.loc.length 0)::Sl 2 1 ZJ (.slice none 0 0) []::l)):=by
 refine Fc.of Tryz.func163 rfl k_d ?_
 have ZO:=hm.types
 have Zk:=hm.ZA
 have ZQ:=hm.funcs
 have hvs:=H.one 4 rfl
 have hni:m.ZA.length≤16:=P.ni
 have hnf:m.funcs.length≤16:=by have:=P.nf;rwa [show m.d.funcs.length=m.funcs.length from lea ..] at this
 have hty:∀t:Xz,t.d=YC m.d f→t.Zc.length=(YC m.d f).Zc.length:=fun t h=>by rw [←h];rfl
 refine ZI H<|fun p1 w1 H=>ZV H rfl<|fun p2 w2 H=>ZM H [] [BQp0,BQp1,BQp2,BQh3,BQh4,BQp5,BQp6,BQp7,BQh8,BQfr9,BQp10,BQp11,BQp12,BQp13,BQp14,BQp15,BQp16] mixed k_d k_d<|fun w1 H=>tk (fun _ Z=>Z9 rfl BT)<|tk (fun _ Z=>Z4 (Z.at 2 rfl) 0 rfl rfl rfl BT)<|tk (fun _ Z=>ZB (Z.at 1 rfl) 0 rfl rfl rfl BT)<|tk (fun _ Z=>Z9 rfl BT)<|tk (fun _ Z=>Z4 (Z.el 5 rfl E hx) 3 rfl rfl rfl BT)<|H.Z8 [6,5,5]<|fun H=>?_
 refine Z7.mk (Fc.imp (Rn.Ox H BX BX BX BX BX BX BX BX) ?_)
 clear H
 rintro _ w2 ⟨f1,⟨Zw,⟨RQ,⟨e1,⟨rfl,⟨h2,H⟩⟩⟩⟩⟩⟩
 obtain ⟨rfl,rfl,rfl⟩:=Rp h2 hq
 refine Z9 rfl<|YF H 6 rfl E hx 3 (⟨c.fn,c.at_,c.vl,c.loc,(Zw),s2.take (s2.length-(YC m.d f).Zc.length)⟩) rfl k_o rfl rfl<|fun w3 H=>cF (WE BX)<|ZM H [] [BQp0,BQp1,BQp2,BQh3,BQp4,BQp5,BQp6,BQp7,BQh8,BQp9,BQf10,BQp11,BQp12,BQp13,BQp14] mixed k_d k_d<|fun w2 H=>tk (fun _ Z=>Z9 rfl BT) ?_
 have hx1:(cs.set i { fn:=c.fn,at_:=c.at_,vl:=c.vl,loc:=c.loc,vs:=Zw,stk:=List.take (s2.length-(YC m.d f).Zc.length) s2 })[i]?=some _:=WO hx
 refine tk (fun _ Z=>Z4 (Z.el 6 rfl E hx1) 3 rfl rfl rfl BT) ?_
 obtain ⟨a1,c1,V1⟩:=H.form 2 rfl
 refine tk (fun _ Z=>XU V1 rfl BT)<|tk (fun _ Z=>Z9 rfl BT)<|tk (fun _ Z=>Z4 (Z.at 5 rfl) 0 rfl rfl rfl BT) ?_
 refine Z7.mk (Fc.imp (Rn.Mr H BX BX _ BX BX) ?_)
 clear H
 rintro _ w3 ⟨t1,⟨rfl,⟨h3,⟨h5,⟨h6,⟨h7,⟨h8,H⟩⟩⟩⟩⟩⟩⟩
 have HU:=hty _ BW
 have JA:=Wa.Zc (by assumption:Wa g _)
 refine YB.mk (H)<|tk (fun _ Z=>QY rfl BT)<|tk (fun _ Z=>Zz JA rfl BT)<|ZX BX<|Z9 rfl<|Z4 (H.el 6 rfl E hx1) 3 rfl rfl rfl ?_
 obtain ⟨v1,V2⟩:=H.vw 2 rfl (((s2.length)-(t1.Zc.length))) ((s2).length) BX BX
 refine VO V2 rfl rfl (.inr ⟨_,by first|rfl|(congr 2;omega)⟩) (.inl ⟨rfl,rfl⟩)<|H.Z8 [2]<|fun H=>?_
 refine Z7.mk (Fc.imp (Rn.Lj H V2 BX) ?_)
 clear H
 rintro v' w4 H
 refine Z9 rfl<|Z4 (H.at 6 rfl) 0 rfl rfl rfl<|Z9 rfl<|Z9 rfl<|Z4 (H.at 2 rfl) 1 rfl rfl rfl<|Zz Zk rfl<|ZX BX<|Vy (Ym BX)<|Z9 rfl<|Z4 (H.at 6 rfl) 2 rfl rfl rfl<|YS H 7 rfl rfl<|cF (Z5 (by grind))<|Z9 rfl<|Z4 (H.el 7 rfl E hx1) 3 rfl rfl rfl ?_
 obtain ⟨v2,V3⟩:=H.vw 1 rfl (0) (((s2.length)-(t1.Zc.length))) BX BX
 refine VO V3 rfl rfl (.inl ⟨rfl,rfl⟩) (.inr ⟨_,by first|rfl|(congr 2;omega)⟩)<|Z9 rfl<|YF H 7 rfl E hx1 3 (⟨c.fn,c.at_,c.vl,c.loc,(v2),s2.take (s2.length-(YC m.d f).Zc.length)⟩) rfl (by simp only [Bool.and_true,H.one 0 rfl,H.one 1 rfl,H.one 3 rfl,H.one 7 rfl,Vw.one V3,Vw.one V2,Z0.one JA,hvs,Z0.one ZQ,Z0.one Zk,Z0.one ZO,hvl]) rfl rfl<|fun w5 H=>cF (Zn BX) ?_
 replace H:=H.Iv 1 rfl V3
 simp only [List.set_cons_succ,List.set_cons_zero,List.drop_zero,HU,List.set_set] at H
 rw [show f-(m.ZA.length:Int)=(k:Int) by omega]
 refine H.Z8 [0,7,3,7]<|fun H=>?_
 refine Z7.mk (Fc.imp (Rn.afd H BX (k) _ hF BX ?_ ?_ ?_) ?_)
 ·grind
 ·grind
 ·omega
 clear H
 rintro UN w4 ⟨HT,⟨Ue,H⟩⟩
 refine Zj rfl rfl rfl<|ZF H 7 rfl rfl rfl rfl<|fun w6 H=>XK (H.at 7 rfl) 0 rfl rfl rfl ?_
 refine Z6.mk ⟨HT,v2,Ue,rfl,?_⟩
 refine H.Z8 [4,4,5,5,6,6,6]<|fun H=>H.drop 8<|fun H=>H.drop 7<|fun H=>?_
 exact H
end
end Rn
namespace Rn
open Go YZ Go.RowKit
open YY Zl XZ YP Valid Mem
def fr (c:CV):List As:=[Sl 2 1 ZJ c.vl c.loc,Sl 2 1 ZJ c.vs c.stk]
def Wm (cs:List CV):As:=Re (cs.flatMap fr)
section
variable {g:Zx} {w:World} {l:List As} {m:Ze} {pr cp mp:Nat} {vw vc vt vg vp SW vj:Value} {host f e:Int} {cs up:List CV} {Zs Zm s2:List Int} {ps:List WY} {c u:CV} {x:ZU} {i b o:Nat} {ws:List XX} {j:XX}
theorem Jz (H:Sat g w (Wm (up++[c])::l)):Sat g w (Sl 2 1 ZJ c.vl c.loc::Sl 2 1 ZJ c.vs c.stk::Wm up::l):=by
 have H:=H.unbox
 rw [lIa,lha] at H
 have H:=(H.box (l1:=up.flatMap fr))
 have H:Sat g w (Wm up::Sl 2 1 ZJ c.vl c.loc::Sl 2 1 ZJ c.vs c.stk::l):=H
 exact H.Z8 [2,2] fun H=>H
theorem PL (H:Sat g w (Sl 2 1 ZJ c.vl c.loc::Sl 2 1 ZJ c.vs c.stk::Wm up::l)):Sat g w (Wm (up++[c])::l):=by
 refine H.Z8 [2]<|fun H=>?_
 have H:Sat g w (Re (up.flatMap fr)::([Sl 2 1 ZJ c.vl c.loc,Sl 2 1 ZJ c.vs c.stk]++l)):=H
 have H:=H.unbox
 rw [←lha] at H
 have H:=H.box
 show Sat g w (Re ((up++[c]).flatMap fr)::l)
 rw [lIa]
 exact H
theorem Ys (hcs:cs=up++[c]):cs[up.length]?=some c:=by grind
theorem Yr (hcs:cs=up++[c]) (z:CV):cs.set up.length z=up++[z]:=by grind
theorem alL (H:Sat g w (Pt pr [BR cp,vw,vc,BS 0] 148::Pt cp (BU m [BR mp,vt,vg]) 158::Pt mp [vp,BS m.most] 221::Sl 223 256 Xr vp ps::Sl 3 1 ZJ vt Zs::Sl 2 1 ZJ vg Zm::Sl 79 4 Yx vc cs::Wm up::Sl 2 1 ZJ c.vl c.loc::Sl 2 1 ZJ c.vs c.stk::l)) (hcs:cs=up++[c]) (E:El vc 4 up.length b o) (Un:0≤c.at_∧c.at_≤1000) (hlen:c.stk.length≤10000) (ho:x.op=0):Fc Tryz.prog 114 #[BR pr,.pointer (some ⟨b,o,none⟩),.agg #[.int .u8 x.op,BS x.a,BS x.b,SW],vj] w (fun r w'=>r=.agg #[BS 2,.slice none 0 0,BS 20,BS 0,BS 0]∧Sat g w' (Pt pr [BR cp,vw,vc,BS 0] 148::Pt cp (BU m [BR mp,vt,vg]) 158::Pt mp [vp,BS m.most] 221::Sl 223 256 Xr vp ps::Sl 3 1 ZJ vt Zs::Sl 2 1 ZJ vg Zm::l)):=by
 refine Fc.of Tryz.func114 rfl k_d ?_
 have hx:=Ys hcs
 refine ZI H<|fun p1 w1 H=>ZV H rfl<|fun p2 w2 H=>Z9 rfl<|Z4 (H.el 8 rfl E hx) 1 rfl rfl rfl<|ZX BX<|Z9 rfl<|YF H 8 rfl E hx 1 (⟨c.fn,c.at_+1,c.vl,c.loc,c.vs,c.stk⟩) rfl rfl rfl rfl<|fun w1 H=>Z9 rfl<|Z4 (H.at 1 rfl) 0 rfl rfl rfl<|bk<|cT (ZL BW)<|Zj rfl rfl rfl<|ZF H 0 rfl rfl rfl rfl<|fun w2 H=>XK (H.at 0 rfl) 0 rfl rfl rfl<|Z6.mk ?_
 refine ⟨rfl,?_⟩
 refine H.Z8 [7,7,7,7,7,7]<|fun H=>H.drop 11<|fun H=>H.drop 10<|fun H=>H.drop 9<|fun H=>H.drop 8<|fun H=>H.drop 7<|fun H=>H.drop 6<|fun H=>?_
 exact H
theorem alM (H:Sat g w (Pt pr [BR cp,vw,vc,BS 0] 148::Pt cp (BU m [BR mp,vt,vg]) 158::Pt mp [vp,BS m.most] 221::Sl 223 256 Xr vp ps::Sl 3 1 ZJ vt Zs::Sl 2 1 ZJ vg Zm::Sl 79 4 Yx vc cs::Wm up::Sl 2 1 ZJ c.vl c.loc::Sl 2 1 ZJ c.vs c.stk::l)) (hcs:cs=up++[c]) (E:El vc 4 up.length b o) (Un:0≤c.at_∧c.at_≤1000) (hlen:c.stk.length≤10000) (ho:x.op=1∨x.op=2∨x.op=3):Fc Tryz.prog 114 #[BR pr,.pointer (some ⟨b,o,none⟩),.agg #[.int .u8 x.op,BS x.a,BS x.b,SW],vj] w (fun r w'=>r=.agg #[BS 0,.slice none 0 0,BS 0,BS 0,BS 0]∧Sat g w' (Pt pr [BR cp,vw,vc,BS 0] 148::Pt cp (BU m [BR mp,vt,vg]) 158::Pt mp [vp,BS m.most] 221::Sl 223 256 Xr vp ps::Sl 3 1 ZJ vt Zs::Sl 2 1 ZJ vg Zm::Sl 79 4 Yx vc (up++[⟨c.fn,c.at_+1,c.vl,c.loc,c.vs,c.stk⟩])::Wm up::Sl 2 1 ZJ c.vl c.loc::Sl 2 1 ZJ c.vs c.stk::l)):=by
 refine Fc.of Tryz.func114 rfl k_d ?_
 have hx:=Ys hcs
 have WU:=Yr hcs
 rcases ho with ho|ho|ho
 ·refine ZI H<|fun p1 w1 H=>ZV H rfl<|fun p2 w2 H=>Z9 rfl<|Z4 (H.el 8 rfl E hx) 1 rfl rfl rfl<|ZX BX<|Z9 rfl<|YF H 8 rfl E hx 1 (⟨c.fn,c.at_+1,c.vl,c.loc,c.vs,c.stk⟩) rfl rfl rfl rfl<|fun w1 H=>Z9 rfl<|Z4 (H.at 1 rfl) 0 rfl rfl rfl<|bk<|cF (Z5 BX)<|cT (ZL BW)<|cT (ZL BW)<|Zj rfl rfl rfl<|ZF H 0 rfl rfl rfl rfl<|fun w2 H=>XK (H.at 0 rfl) 0 rfl rfl rfl<|Z6.mk ?_
  refine ⟨rfl,?_⟩
  refine H.Z8 [11,11,11,11,11,11,11,11,11,11]<|fun H=>H.drop 11<|fun H=>H.drop 10<|fun H=>?_
  refine H.cg (YR rfl (YR rfl (YR rfl (YR rfl (YR rfl (YR rfl (YR (QV ?_) (YR rfl (YR rfl (YR rfl (rfl)))))))))))
  exact WU _
 ·refine ZI H<|fun p1 w1 H=>ZV H rfl<|fun p2 w2 H=>Z9 rfl<|Z4 (H.el 8 rfl E hx) 1 rfl rfl rfl<|ZX BX<|Z9 rfl<|YF H 8 rfl E hx 1 (⟨c.fn,c.at_+1,c.vl,c.loc,c.vs,c.stk⟩) rfl rfl rfl rfl<|fun w1 H=>Z9 rfl<|Z4 (H.at 1 rfl) 0 rfl rfl rfl<|bk<|cF (Z5 BX)<|cF (Z5 BX)<|cT (ZL BW)<|cT (ZL BW)<|Zj rfl rfl rfl<|ZF H 0 rfl rfl rfl rfl<|fun w2 H=>XK (H.at 0 rfl) 0 rfl rfl rfl<|Z6.mk ?_
  refine ⟨rfl,?_⟩
  refine H.Z8 [11,11,11,11,11,11,11,11,11,11]<|fun H=>H.drop 11<|fun H=>H.drop 10<|fun H=>?_
  refine H.cg (YR rfl (YR rfl (YR rfl (YR rfl (YR rfl (YR rfl (YR (QV ?_) (YR rfl (YR rfl (YR rfl (rfl)))))))))))
  exact WU _
 ·refine ZI H<|fun p1 w1 H=>ZV H rfl<|fun p2 w2 H=>Z9 rfl<|Z4 (H.el 8 rfl E hx) 1 rfl rfl rfl<|ZX BX<|Z9 rfl<|YF H 8 rfl E hx 1 (⟨c.fn,c.at_+1,c.vl,c.loc,c.vs,c.stk⟩) rfl rfl rfl rfl<|fun w1 H=>Z9 rfl<|Z4 (H.at 1 rfl) 0 rfl rfl rfl<|bk<|cF (Z5 BX)<|cF (Z5 BX)<|cF (Z5 BX)<|cT (ZL BW)<|Zj rfl rfl rfl<|ZF H 0 rfl rfl rfl rfl<|fun w2 H=>XK (H.at 0 rfl) 0 rfl rfl rfl<|Z6.mk ?_
  refine ⟨rfl,?_⟩
  refine H.Z8 [11,11,11,11,11,11,11,11,11,11]<|fun H=>H.drop 11<|fun H=>H.drop 10<|fun H=>?_
  refine H.cg (YR rfl (YR rfl (YR rfl (YR rfl (YR rfl (YR rfl (YR (QV ?_) (YR rfl (YR rfl (YR rfl (rfl)))))))))))
  exact WU _
theorem ajh (H:Sat g w (Pt pr [BR cp,vw,vc,BS 0] 148::Pt cp (BU m [BR mp,vt,vg]) 158::Pt mp [vp,BS m.most] 221::Sl 223 256 Xr vp ps::Sl 3 1 ZJ vt Zs::Sl 2 1 ZJ vg Zm::Sl 79 4 Yx vc cs::Wm up::Sl 2 1 ZJ c.vl c.loc::Sl 2 1 ZJ c.vs c.stk::l)) (hcs:cs=up++[c]) (E:El vc 4 up.length b o) (Un:0≤c.at_∧c.at_≤1000) (hlen:c.stk.length≤10000) (hj:Z0 g OA EB 3 vj ws) (hjn:0≤j.height) (CP:0≤j.keep) (Ho:ws.length≤100) (ho:x.op=12∨x.op=15) (hw:ws[0]?=some j) (hjf:j.height+j.keep≤c.stk.length):Fc Tryz.prog 114 #[BR pr,.pointer (some ⟨b,o,none⟩),.agg #[.int .u8 x.op,BS x.a,BS x.b,SW],vj] w (fun r w'=>∃vs',r=.agg #[BS 0,.slice none 0 0,BS 0,BS 0,BS 0]∧Sat g w' (Pt pr [BR cp,vw,vc,BS 0] 148::Pt cp (BU m [BR mp,vt,vg]) 158::Pt mp [vp,BS m.most] 221::Sl 223 256 Xr vp ps::Sl 3 1 ZJ vt Zs::Sl 2 1 ZJ vg Zm::Sl 79 4 Yx vc (up++[⟨c.fn,j.at_,c.vl,c.loc,vs',(c.stk.take j.height.toNat++c.stk.drop (c.stk.length-j.keep.toNat))⟩])::Wm up::Sl 2 1 ZJ c.vl c.loc::Sl 2 1 ZJ vs' (c.stk.take j.height.toNat++c.stk.drop (c.stk.length-j.keep.toNat))::l)):=by
 refine Fc.of Tryz.func114 rfl k_d ?_
 have hx:=Ys hcs
 have WU:=Yr hcs
 rcases ho with ho|ho
 ·refine ZI H<|fun p1 w1 H=>ZV H rfl<|fun p2 w2 H=>Z9 rfl<|Z4 (H.el 8 rfl E hx) 1 rfl rfl rfl<|ZX BX<|Z9 rfl<|YF H 8 rfl E hx 1 (⟨c.fn,c.at_+1,c.vl,c.loc,c.vs,c.stk⟩) rfl rfl rfl rfl<|fun w1 H=>Z9 rfl<|Z4 (H.at 1 rfl) 0 rfl rfl rfl<|bk ?_
  simp only [WU] at H
  have hx1:(up++[(⟨c.fn,c.at_+1,c.vl,c.loc,c.vs,c.stk⟩:CV)])[up.length]?=some (⟨c.fn,c.at_+1,c.vl,c.loc,c.vs,c.stk⟩:CV):=Ys rfl
  clear hx
  have WB:∀z,(up++[(⟨c.fn,c.at_+1,c.vl,c.loc,c.vs,c.stk⟩:CV)]).set up.length z=up++[z]:=Yr rfl
  refine cF (Z5 BX)<|cF (Z5 BX)<|cF (Z5 BX)<|cF (Z5 BX)<|cF (Z5 BX)<|cT (ZL BW)<|cT (ZL BW) ?_
  obtain ⟨b1,o1,E1,F1,ZG⟩:=Z0.Y7 hj hw
  refine ZK E1 rfl rfl rfl<|ZB (H.X7 F1) 0 rfl rfl rfl<|H.Z8 [11,9]<|fun H=>?_
  refine Z7.mk (Fc.imp (Rn.Mq E _ hx1 H _ BX BX BX ?_) ?_)
  ·grind
  clear H
  rintro v' w2 ⟨Zw,H⟩
  refine Zj rfl rfl rfl<|ZF H 2 rfl rfl rfl rfl<|fun w3 H=>XK (H.at 2 rfl) 0 rfl rfl rfl<|Z6.mk ?_
  refine ⟨Zw,?_⟩
  refine ⟨rfl,?_⟩
  refine H.Z8 [1,11,11,3,11,11,11,11,11,11]<|fun H=>H.drop 11<|fun H=>H.drop 10<|fun H=>?_
  refine H.cg (YR rfl (YR rfl (YR rfl (YR rfl (YR rfl (YR rfl (YR (QV ?_) (YR rfl (YR rfl (YR rfl (rfl)))))))))))
  exact WB _
 ·refine ZI H<|fun p1 w1 H=>ZV H rfl<|fun p2 w2 H=>Z9 rfl<|Z4 (H.el 8 rfl E hx) 1 rfl rfl rfl<|ZX BX<|Z9 rfl<|YF H 8 rfl E hx 1 (⟨c.fn,c.at_+1,c.vl,c.loc,c.vs,c.stk⟩) rfl rfl rfl rfl<|fun w1 H=>Z9 rfl<|Z4 (H.at 1 rfl) 0 rfl rfl rfl<|bk ?_
  simp only [WU] at H
  have hx1:(up++[(⟨c.fn,c.at_+1,c.vl,c.loc,c.vs,c.stk⟩:CV)])[up.length]?=some (⟨c.fn,c.at_+1,c.vl,c.loc,c.vs,c.stk⟩:CV):=Ys rfl
  clear hx
  have WB:∀z,(up++[(⟨c.fn,c.at_+1,c.vl,c.loc,c.vs,c.stk⟩:CV)]).set up.length z=up++[z]:=Yr rfl
  refine cF (Z5 BX)<|cF (Z5 BX)<|cF (Z5 BX)<|cF (Z5 BX)<|cF (Z5 BX)<|cF (Z5 BX)<|cT (ZL BW) ?_
  obtain ⟨b1,o1,E1,F1,ZG⟩:=Z0.Y7 hj hw
  refine ZK E1 rfl rfl rfl<|ZB (H.X7 F1) 0 rfl rfl rfl<|H.Z8 [11,9]<|fun H=>?_
  refine Z7.mk (Fc.imp (Rn.Mq E _ hx1 H _ BX BX BX ?_) ?_)
  ·grind
  clear H
  rintro v' w2 ⟨Zw,H⟩
  refine Zj rfl rfl rfl<|ZF H 2 rfl rfl rfl rfl<|fun w3 H=>XK (H.at 2 rfl) 0 rfl rfl rfl<|Z6.mk ?_
  refine ⟨Zw,?_⟩
  refine ⟨rfl,?_⟩
  refine H.Z8 [1,11,11,3,11,11,11,11,11,11]<|fun H=>H.drop 11<|fun H=>H.drop 10<|fun H=>?_
  refine H.cg (YR rfl (YR rfl (YR rfl (YR rfl (YR rfl (YR rfl (YR (QV ?_) (YR rfl (YR rfl (YR rfl (rfl)))))))))))
  exact WB _
theorem ahS (H:Sat g w (Pt pr [BR cp,vw,vc,BS 0] 148::Pt cp (BU m [BR mp,vt,vg]) 158::Pt mp [vp,BS m.most] 221::Sl 223 256 Xr vp ps::Sl 3 1 ZJ vt Zs::Sl 2 1 ZJ vg Zm::Sl 79 4 Yx vc cs::Wm up::Sl 2 1 ZJ c.vl c.loc::Sl 2 1 ZJ c.vs c.stk::l)) (hcs:cs=up++[c]) (E:El vc 4 up.length b o) (Un:0≤c.at_∧c.at_≤1000) (hlen:c.stk.length≤10000) (hj:Z0 g OA EB 3 vj ws) (hjn:0≤j.height) (CP:0≤j.keep) (Ho:ws.length≤100) (h1:1≤c.stk.length) (ho:(x.op=4∧top c.stk 0=0)∨(x.op=13∧top c.stk 0≠0)) (hw:ws[0]?=some j) (hjf:j.height+j.keep≤(low c.stk 1).length):Fc Tryz.prog 114 #[BR pr,.pointer (some ⟨b,o,none⟩),.agg #[.int .u8 x.op,BS x.a,BS x.b,SW],vj] w (fun r w'=>∃vs',r=.agg #[BS 0,.slice none 0 0,BS 0,BS 0,BS 0]∧Sat g w' (Pt pr [BR cp,vw,vc,BS 0] 148::Pt cp (BU m [BR mp,vt,vg]) 158::Pt mp [vp,BS m.most] 221::Sl 223 256 Xr vp ps::Sl 3 1 ZJ vt Zs::Sl 2 1 ZJ vg Zm::Sl 79 4 Yx vc (up++[⟨c.fn,j.at_,c.vl,c.loc,vs',((low c.stk 1).take j.height.toNat++(low c.stk 1).drop ((low c.stk 1).length-j.keep.toNat))⟩])::Wm up::Sl 2 1 ZJ c.vl c.loc::Sl 2 1 ZJ vs' ((low c.stk 1).take j.height.toNat++(low c.stk 1).drop ((low c.stk 1).length-j.keep.toNat))::l)):=by
 refine Fc.of Tryz.func114 rfl k_d ?_
 have hx:=Ys hcs
 have WU:=Yr hcs
 have Ri:(low c.stk 1).length=c.stk.length-1:=Oz
 rcases ho with ⟨ho,hz⟩|⟨ho,hz⟩
 ·refine ZI H<|fun p1 w1 H=>ZV H rfl<|fun p2 w2 H=>Z9 rfl<|Z4 (H.el 8 rfl E hx) 1 rfl rfl rfl<|ZX BX<|Z9 rfl<|YF H 8 rfl E hx 1 (⟨c.fn,c.at_+1,c.vl,c.loc,c.vs,c.stk⟩) rfl rfl rfl rfl<|fun w1 H=>Z9 rfl<|Z4 (H.at 1 rfl) 0 rfl rfl rfl<|bk ?_
  simp only [WU] at H
  have hx1:(up++[(⟨c.fn,c.at_+1,c.vl,c.loc,c.vs,c.stk⟩:CV)])[up.length]?=some (⟨c.fn,c.at_+1,c.vl,c.loc,c.vs,c.stk⟩:CV):=Ys rfl
  clear hx
  have WB:∀z,(up++[(⟨c.fn,c.at_+1,c.vl,c.loc,c.vs,c.stk⟩:CV)]).set up.length z=up++[z]:=Yr rfl
  refine cF (Z5 BX)<|cF (Z5 BX)<|cF (Z5 BX)<|cF (Z5 BX)<|cT (ZL BW)<|H.Z8 [11,9]<|fun H=>?_
  refine Z7.mk (Fc.imp (Rn.Ks E _ hx1 H BX ?_) ?_)
  ·grind
  clear H
  rintro _ w2 ⟨Zw,⟨t1,⟨rfl,⟨h2,H⟩⟩⟩⟩
  simp only [WB] at H
  replace h2:t1=top c.stk 0:=h2
  clear hx1
  have To:(up++[(⟨c.fn,c.at_+1,c.vl,c.loc,Zw,low c.stk 1⟩:CV)])[up.length]?=some (⟨c.fn,c.at_+1,c.vl,c.loc,Zw,low c.stk 1⟩:CV):=Ys rfl
  have Qo:∀z,(up++[(⟨c.fn,c.at_+1,c.vl,c.loc,Zw,low c.stk 1⟩:CV)]).set up.length z=up++[z]:=Yr rfl
  refine cT (ZL BX) ?_
  obtain ⟨b1,o1,E1,F1,ZG⟩:=Z0.Y7 hj hw
  refine ZK E1 rfl rfl rfl<|ZB (H.X7 F1) 0 rfl rfl rfl ?_
  refine Z7.mk (Fc.imp (Rn.Mq E _ To H _ BX BX BX ?_) ?_)
  ·grind
  clear H
  rintro v' w3 ⟨VZ,H⟩
  refine Zj rfl rfl rfl<|ZF H 2 rfl rfl rfl rfl<|fun w4 H=>XK (H.at 2 rfl) 0 rfl rfl rfl<|Z6.mk ?_
  refine ⟨VZ,?_⟩
  refine ⟨rfl,?_⟩
  refine H.Z8 [1,11,11,3,11,11,11,11,11,11]<|fun H=>H.drop 11<|fun H=>H.drop 10<|fun H=>?_
  refine H.cg (YR rfl (YR rfl (YR rfl (YR rfl (YR rfl (YR rfl (YR (QV ?_) (YR rfl (YR rfl (YR rfl (rfl)))))))))))
  exact Qo _
 ·refine ZI H<|fun p1 w1 H=>ZV H rfl<|fun p2 w2 H=>Z9 rfl<|Z4 (H.el 8 rfl E hx) 1 rfl rfl rfl<|ZX BX<|Z9 rfl<|YF H 8 rfl E hx 1 (⟨c.fn,c.at_+1,c.vl,c.loc,c.vs,c.stk⟩) rfl rfl rfl rfl<|fun w1 H=>Z9 rfl<|Z4 (H.at 1 rfl) 0 rfl rfl rfl<|bk ?_
  simp only [WU] at H
  have hx1:(up++[(⟨c.fn,c.at_+1,c.vl,c.loc,c.vs,c.stk⟩:CV)])[up.length]?=some (⟨c.fn,c.at_+1,c.vl,c.loc,c.vs,c.stk⟩:CV):=Ys rfl
  clear hx
  have WB:∀z,(up++[(⟨c.fn,c.at_+1,c.vl,c.loc,c.vs,c.stk⟩:CV)]).set up.length z=up++[z]:=Yr rfl
  refine cF (Z5 BX)<|cF (Z5 BX)<|cF (Z5 BX)<|cF (Z5 BX)<|cF (Z5 BX)<|cF (Z5 BX)<|cF (Z5 BX)<|cT (ZL BW)<|H.Z8 [11,9]<|fun H=>?_
  refine Z7.mk (Fc.imp (Rn.Ks E _ hx1 H BX ?_) ?_)
  ·grind
  clear H
  rintro _ w2 ⟨Zw,⟨t1,⟨rfl,⟨h2,H⟩⟩⟩⟩
  simp only [WB] at H
  replace h2:t1=top c.stk 0:=h2
  clear hx1
  have To:(up++[(⟨c.fn,c.at_+1,c.vl,c.loc,Zw,low c.stk 1⟩:CV)])[up.length]?=some (⟨c.fn,c.at_+1,c.vl,c.loc,Zw,low c.stk 1⟩:CV):=Ys rfl
  have Qo:∀z,(up++[(⟨c.fn,c.at_+1,c.vl,c.loc,Zw,low c.stk 1⟩:CV)]).set up.length z=up++[z]:=Yr rfl
  refine cT (VF BX) ?_
  obtain ⟨b1,o1,E1,F1,ZG⟩:=Z0.Y7 hj hw
  refine ZK E1 rfl rfl rfl<|ZB (H.X7 F1) 0 rfl rfl rfl ?_
  refine Z7.mk (Fc.imp (Rn.Mq E _ To H _ BX BX BX ?_) ?_)
  ·grind
  clear H
  rintro v' w3 ⟨VZ,H⟩
  refine Zj rfl rfl rfl<|ZF H 2 rfl rfl rfl rfl<|fun w4 H=>XK (H.at 2 rfl) 0 rfl rfl rfl<|Z6.mk ?_
  refine ⟨VZ,?_⟩
  refine ⟨rfl,?_⟩
  refine H.Z8 [1,11,11,3,11,11,11,11,11,11]<|fun H=>H.drop 11<|fun H=>H.drop 10<|fun H=>?_
  refine H.cg (YR rfl (YR rfl (YR rfl (YR rfl (YR rfl (YR rfl (YR (QV ?_) (YR rfl (YR rfl (YR rfl (rfl)))))))))))
  exact Qo _
theorem ahT (H:Sat g w (Pt pr [BR cp,vw,vc,BS 0] 148::Pt cp (BU m [BR mp,vt,vg]) 158::Pt mp [vp,BS m.most] 221::Sl 223 256 Xr vp ps::Sl 3 1 ZJ vt Zs::Sl 2 1 ZJ vg Zm::Sl 79 4 Yx vc cs::Wm up::Sl 2 1 ZJ c.vl c.loc::Sl 2 1 ZJ c.vs c.stk::l)) (hcs:cs=up++[c]) (E:El vc 4 up.length b o) (Un:0≤c.at_∧c.at_≤1000) (hlen:c.stk.length≤10000) (h1:1≤c.stk.length) (ho:(x.op=4∧top c.stk 0≠0)∨(x.op=13∧top c.stk 0=0)):Fc Tryz.prog 114 #[BR pr,.pointer (some ⟨b,o,none⟩),.agg #[.int .u8 x.op,BS x.a,BS x.b,SW],vj] w (fun r w'=>∃vs',r=.agg #[BS 0,.slice none 0 0,BS 0,BS 0,BS 0]∧Sat g w' (Pt pr [BR cp,vw,vc,BS 0] 148::Pt cp (BU m [BR mp,vt,vg]) 158::Pt mp [vp,BS m.most] 221::Sl 223 256 Xr vp ps::Sl 3 1 ZJ vt Zs::Sl 2 1 ZJ vg Zm::Sl 79 4 Yx vc (up++[⟨c.fn,c.at_+1,c.vl,c.loc,vs',(low c.stk 1)⟩])::Wm up::Sl 2 1 ZJ c.vl c.loc::Sl 2 1 ZJ vs' (low c.stk 1)::l)):=by
 refine Fc.of Tryz.func114 rfl k_d ?_
 have hx:=Ys hcs
 have WU:=Yr hcs
 have Ri:(low c.stk 1).length=c.stk.length-1:=Oz
 rcases ho with ⟨ho,hz⟩|⟨ho,hz⟩
 ·refine ZI H<|fun p1 w1 H=>ZV H rfl<|fun p2 w2 H=>Z9 rfl<|Z4 (H.el 8 rfl E hx) 1 rfl rfl rfl<|ZX BX<|Z9 rfl<|YF H 8 rfl E hx 1 (⟨c.fn,c.at_+1,c.vl,c.loc,c.vs,c.stk⟩) rfl rfl rfl rfl<|fun w1 H=>Z9 rfl<|Z4 (H.at 1 rfl) 0 rfl rfl rfl<|bk ?_
  simp only [WU] at H
  have hx1:(up++[(⟨c.fn,c.at_+1,c.vl,c.loc,c.vs,c.stk⟩:CV)])[up.length]?=some (⟨c.fn,c.at_+1,c.vl,c.loc,c.vs,c.stk⟩:CV):=Ys rfl
  clear hx
  have WB:∀z,(up++[(⟨c.fn,c.at_+1,c.vl,c.loc,c.vs,c.stk⟩:CV)]).set up.length z=up++[z]:=Yr rfl
  refine cF (Z5 BX)<|cF (Z5 BX)<|cF (Z5 BX)<|cF (Z5 BX)<|cT (ZL BW)<|H.Z8 [11,9]<|fun H=>?_
  refine Z7.mk (Fc.imp (Rn.Ks E _ hx1 H BX ?_) ?_)
  ·grind
  clear H
  rintro _ w2 ⟨Zw,⟨t1,⟨rfl,⟨h2,H⟩⟩⟩⟩
  simp only [WB] at H
  replace h2:t1=top c.stk 0:=h2
  clear hx1
  have To:(up++[(⟨c.fn,c.at_+1,c.vl,c.loc,Zw,low c.stk 1⟩:CV)])[up.length]?=some (⟨c.fn,c.at_+1,c.vl,c.loc,Zw,low c.stk 1⟩:CV):=Ys rfl
  have Qo:∀z,(up++[(⟨c.fn,c.at_+1,c.vl,c.loc,Zw,low c.stk 1⟩:CV)]).set up.length z=up++[z]:=Yr rfl
  refine cF (Z5 BX)<|Zj rfl rfl rfl<|ZF H 2 rfl rfl rfl rfl<|fun w3 H=>XK (H.at 2 rfl) 0 rfl rfl rfl<|Z6.mk ?_
  refine ⟨Zw,?_⟩
  refine ⟨rfl,?_⟩
  refine H.Z8 [1,11,11,3,11,11,11,11,11,11]<|fun H=>H.drop 11<|fun H=>H.drop 10<|fun H=>?_
  exact H
 ·refine ZI H<|fun p1 w1 H=>ZV H rfl<|fun p2 w2 H=>Z9 rfl<|Z4 (H.el 8 rfl E hx) 1 rfl rfl rfl<|ZX BX<|Z9 rfl<|YF H 8 rfl E hx 1 (⟨c.fn,c.at_+1,c.vl,c.loc,c.vs,c.stk⟩) rfl rfl rfl rfl<|fun w1 H=>Z9 rfl<|Z4 (H.at 1 rfl) 0 rfl rfl rfl<|bk ?_
  simp only [WU] at H
  have hx1:(up++[(⟨c.fn,c.at_+1,c.vl,c.loc,c.vs,c.stk⟩:CV)])[up.length]?=some (⟨c.fn,c.at_+1,c.vl,c.loc,c.vs,c.stk⟩:CV):=Ys rfl
  clear hx
  have WB:∀z,(up++[(⟨c.fn,c.at_+1,c.vl,c.loc,c.vs,c.stk⟩:CV)]).set up.length z=up++[z]:=Yr rfl
  refine cF (Z5 BX)<|cF (Z5 BX)<|cF (Z5 BX)<|cF (Z5 BX)<|cF (Z5 BX)<|cF (Z5 BX)<|cF (Z5 BX)<|cT (ZL BW)<|H.Z8 [11,9]<|fun H=>?_
  refine Z7.mk (Fc.imp (Rn.Ks E _ hx1 H BX ?_) ?_)
  ·grind
  clear H
  rintro _ w2 ⟨Zw,⟨t1,⟨rfl,⟨h2,H⟩⟩⟩⟩
  simp only [WB] at H
  replace h2:t1=top c.stk 0:=h2
  clear hx1
  have To:(up++[(⟨c.fn,c.at_+1,c.vl,c.loc,Zw,low c.stk 1⟩:CV)])[up.length]?=some (⟨c.fn,c.at_+1,c.vl,c.loc,Zw,low c.stk 1⟩:CV):=Ys rfl
  have Qo:∀z,(up++[(⟨c.fn,c.at_+1,c.vl,c.loc,Zw,low c.stk 1⟩:CV)]).set up.length z=up++[z]:=Yr rfl
  refine cF (WE BX)<|Zj rfl rfl rfl<|ZF H 2 rfl rfl rfl rfl<|fun w3 H=>XK (H.at 2 rfl) 0 rfl rfl rfl<|Z6.mk ?_
  refine ⟨Zw,?_⟩
  refine ⟨rfl,?_⟩
  refine H.Z8 [1,11,11,3,11,11,11,11,11,11]<|fun H=>H.drop 11<|fun H=>H.drop 10<|fun H=>?_
  exact H
theorem aji (H:Sat g w (Pt pr [BR cp,vw,vc,BS 0] 148::Pt cp (BU m [BR mp,vt,vg]) 158::Pt mp [vp,BS m.most] 221::Sl 223 256 Xr vp ps::Sl 3 1 ZJ vt Zs::Sl 2 1 ZJ vg Zm::Sl 79 4 Yx vc cs::Wm up::Sl 2 1 ZJ c.vl c.loc::Sl 2 1 ZJ c.vs c.stk::l)) (hcs:cs=up++[c]) (E:El vc 4 up.length b o) (Un:0≤c.at_∧c.at_≤1000) (hlen:c.stk.length≤10000) (hj:Z0 g OA EB 3 vj ws) (hjn:0≤j.height) (CP:0≤j.keep) (Ho:ws.length≤100) (h1:1≤c.stk.length) (T7:Xw (top c.stk 0)) (ho:x.op=14) (hw0:1≤ws.length) (hw:ws[(min (top c.stk 0 % 4294967296) (ws.length-1)).toNat]?=some j) (hjf:j.height+j.keep≤(low c.stk 1).length):Fc Tryz.prog 114 #[BR pr,.pointer (some ⟨b,o,none⟩),.agg #[.int .u8 x.op,BS x.a,BS x.b,SW],vj] w (fun r w'=>∃vs',r=.agg #[BS 0,.slice none 0 0,BS 0,BS 0,BS 0]∧Sat g w' (Pt pr [BR cp,vw,vc,BS 0] 148::Pt cp (BU m [BR mp,vt,vg]) 158::Pt mp [vp,BS m.most] 221::Sl 223 256 Xr vp ps::Sl 3 1 ZJ vt Zs::Sl 2 1 ZJ vg Zm::Sl 79 4 Yx vc (up++[⟨c.fn,j.at_,c.vl,c.loc,vs',((low c.stk 1).take j.height.toNat++(low c.stk 1).drop ((low c.stk 1).length-j.keep.toNat))⟩])::Wm up::Sl 2 1 ZJ c.vl c.loc::Sl 2 1 ZJ vs' ((low c.stk 1).take j.height.toNat++(low c.stk 1).drop ((low c.stk 1).length-j.keep.toNat))::l)):=by
 refine Fc.of Tryz.func114 rfl k_d ?_
 have hx:=Ys hcs
 have WU:=Yr hcs
 have Ri:(low c.stk 1).length=c.stk.length-1:=Oz
 refine ZI H<|fun p1 w1 H=>ZV H rfl<|fun p2 w2 H=>Z9 rfl<|Z4 (H.el 8 rfl E hx) 1 rfl rfl rfl<|ZX BX<|Z9 rfl<|YF H 8 rfl E hx 1 (⟨c.fn,c.at_+1,c.vl,c.loc,c.vs,c.stk⟩) rfl rfl rfl rfl<|fun w1 H=>Z9 rfl<|Z4 (H.at 1 rfl) 0 rfl rfl rfl<|bk ?_
 simp only [WU] at H
 have hx1:(up++[(⟨c.fn,c.at_+1,c.vl,c.loc,c.vs,c.stk⟩:CV)])[up.length]?=some (⟨c.fn,c.at_+1,c.vl,c.loc,c.vs,c.stk⟩:CV):=Ys rfl
 clear hx
 have WB:∀z,(up++[(⟨c.fn,c.at_+1,c.vl,c.loc,c.vs,c.stk⟩:CV)]).set up.length z=up++[z]:=Yr rfl
 refine cF (Z5 BX)<|cF (Z5 BX)<|cF (Z5 BX)<|cF (Z5 BX)<|cF (Z5 BX)<|cF (Z5 BX)<|cF (Z5 BX)<|cF (Z5 BX)<|cT (ZL BW)<|H.Z8 [11,9]<|fun H=>?_
 refine Z7.mk (Fc.imp (Rn.Ks E _ hx1 H BX ?_) ?_)
 ·grind
 clear H
 rintro _ w2 ⟨Zw,⟨t1,⟨rfl,⟨h2,H⟩⟩⟩⟩
 simp only [WB] at H
 replace h2:t1=top c.stk 0:=h2
 clear hx1
 have To:(up++[(⟨c.fn,c.at_+1,c.vl,c.loc,Zw,low c.stk 1⟩:CV)])[up.length]?=some (⟨c.fn,c.at_+1,c.vl,c.loc,Zw,low c.stk 1⟩:CV):=Ys rfl
 have Qo:∀z,(up++[(⟨c.fn,c.at_+1,c.vl,c.loc,Zw,low c.stk 1⟩:CV)]).set up.length z=up++[z]:=Yr rfl
 have Hg:ws[(min (t1 % 4294967296) (ws.length-1)).toNat]?=some j:=by grind
 have aoz:Xw t1:=by rw [h2];exact T7
 refine Yu rfl rfl<|Xb BX rfl rfl<|Zz hj rfl<|ZX BX<|ajS ?_
 obtain ⟨b1,o1,E1,F1,ZG⟩:=Z0.Y7 hj Hg
 refine ZK E1 BX rfl rfl<|ZB (H.X7 F1) 0 rfl rfl rfl ?_
 refine Z7.mk (Fc.imp (Rn.Mq E _ To H _ BX BX BX ?_) ?_)
 ·grind
 clear H
 rintro v' w3 ⟨VZ,H⟩
 refine Zj rfl rfl rfl<|ZF H 2 rfl rfl rfl rfl<|fun w4 H=>XK (H.at 2 rfl) 0 rfl rfl rfl<|Z6.mk ?_
 refine ⟨VZ,?_⟩
 refine ⟨rfl,?_⟩
 refine H.Z8 [1,11,11,3,11,11,11,11,11,11]<|fun H=>H.drop 11<|fun H=>H.drop 10<|fun H=>?_
 refine H.cg (YR rfl (YR rfl (YR rfl (YR rfl (YR rfl (YR rfl (YR (QV ?_) (YR rfl (YR rfl (YR rfl (rfl)))))))))))
 exact Qo _
end
end Rn
namespace Rn
open Go YZ Go.RowKit
open YY Zl XZ YP Valid Mem
section
variable {g:Zx} {w:World} {l:List As} {m:Ze} {pr cp mp:Nat} {vw vc vt vg vp SW vj:Value} {host f e:Int} {cs up:List CV} {Zs Zm s2:List Int} {ps:List WY} {c u:CV} {x:ZU} {i b o:Nat} {ws:List XX} {j:XX}
theorem ajj (H:Sat g w (Pt pr [BR cp,vw,vc,BS 0] 148::Pt cp (BU m [BR mp,vt,vg]) 158::Pt mp [vp,BS m.most] 221::Sl 223 256 Xr vp ps::Sl 3 1 ZJ vt Zs::Sl 2 1 ZJ vg Zm::Sl 79 4 Yx vc cs::Wm up::Sl 2 1 ZJ c.vl c.loc::Sl 2 1 ZJ c.vs c.stk::l)) (hcs:cs=up++[c]) (E:El vc 4 up.length b o) (Un:0≤c.at_∧c.at_≤1000) (hlen:c.stk.length≤10000) (hm:XG g m) (P:Tv m.d) (ho:x.op=16∨x.op=17) (Rh:∀n∈Zs,-1≤n∧n<(m.ZA.length:Int)+m.funcs.length) (h1:x.op=17→1≤c.stk.length∧0≤x.a∧x.a<m.types.length) (T7:∀v∈c.stk,Xw v) (MJ:Zs.length≤1000) (Ts:cs.length≤40) (hq:Y0 m.d Zs x c.stk=(f,s2,e)) (he:e≠0):Fc Tryz.prog 114 #[BR pr,.pointer (some ⟨b,o,none⟩),.agg #[.int .u8 x.op,BS x.a,BS x.b,SW],vj] w (fun r w'=>r=.agg #[BS 2,.slice none 0 0,BS e,BS 0,BS 0]∧Sat g w' (Pt pr [BR cp,vw,vc,BS 0] 148::Pt cp (BU m [BR mp,vt,vg]) 158::Pt mp [vp,BS m.most] 221::Sl 223 256 Xr vp ps::Sl 3 1 ZJ vt Zs::Sl 2 1 ZJ vg Zm::l)):=by
 refine Fc.of Tryz.func114 rfl k_d ?_
 have hx:=Ys hcs
 have WU:=Yr hcs
 have hvl:=H.one 8 rfl
 have Fg:up.length+1=cs.length:=by grind
 refine ZI H<|fun p1 w1 H=>ZV H rfl<|fun p2 w2 H=>Z9 rfl<|Z4 (H.el 8 rfl E hx) 1 rfl rfl rfl<|ZX BX<|Z9 rfl<|YF H 8 rfl E hx 1 (⟨c.fn,c.at_+1,c.vl,c.loc,c.vs,c.stk⟩) rfl rfl rfl rfl<|fun w1 H=>Z9 rfl<|Z4 (H.at 1 rfl) 0 rfl rfl rfl<|bk ?_
 simp only [WU] at H
 have hx1:(up++[(⟨c.fn,c.at_+1,c.vl,c.loc,c.vs,c.stk⟩:CV)])[up.length]?=some (⟨c.fn,c.at_+1,c.vl,c.loc,c.vs,c.stk⟩:CV):=Ys rfl
 clear hx
 have WB:∀z,(up++[(⟨c.fn,c.at_+1,c.vl,c.loc,c.vs,c.stk⟩:CV)]).set up.length z=up++[z]:=Yr rfl
 have GD:(up++[(⟨c.fn,c.at_+1,c.vl,c.loc,c.vs,c.stk⟩:CV)]).length=cs.length:=by grind
 rcases ho with ho|ho
 ·refine cF (Z5 BX)<|cF (Z5 BX)<|cF (Z5 BX)<|cF (Z5 BX)<|cF (Z5 BX)<|cF (Z5 BX)<|cF (Z5 BX)<|cF (Z5 BX)<|cF (Z5 BX)<|cT (ZL BW)<|cT (ZL BW)<|ZB (H.at 1 rfl) 0 rfl rfl rfl<|H.Z8 [11,9,8,6,6]<|fun H=>?_
  refine Z7.mk (Fc.imp (Rn.afg E _ hx1 H BX BX BX BX BX BX BX BX BX BX hq BX) ?_)
  clear H
  rintro _ w2 ⟨rfl,H⟩
  refine ZF H 3 rfl rfl rfl rfl<|fun w3 H=>XK (H.at 3 rfl) 0 rfl rfl rfl<|Z6.mk ?_
  refine ⟨rfl,?_⟩
  refine H.Z8 [7,3,7,7,5,5]<|fun H=>H.drop 9<|fun H=>H.drop 8<|fun H=>H.drop 7<|fun H=>H.drop 6<|fun H=>?_
  exact H
 ·refine cF (Z5 BX)<|cF (Z5 BX)<|cF (Z5 BX)<|cF (Z5 BX)<|cF (Z5 BX)<|cF (Z5 BX)<|cF (Z5 BX)<|cF (Z5 BX)<|cF (Z5 BX)<|cF (Z5 BX)<|cT (ZL BW)<|ZB (H.at 1 rfl) 0 rfl rfl rfl<|H.Z8 [11,9,8,6,6]<|fun H=>?_
  refine Z7.mk (Fc.imp (Rn.afg E _ hx1 H BX BX BX BX BX BX BX BX BX BX hq BX) ?_)
  clear H
  rintro _ w2 ⟨rfl,H⟩
  refine ZF H 3 rfl rfl rfl rfl<|fun w3 H=>XK (H.at 3 rfl) 0 rfl rfl rfl<|Z6.mk ?_
  refine ⟨rfl,?_⟩
  refine H.Z8 [7,3,7,7,5,5]<|fun H=>H.drop 9<|fun H=>H.drop 8<|fun H=>H.drop 7<|fun H=>H.drop 6<|fun H=>?_
  exact H
theorem ajk (H:Sat g w (Pt pr [BR cp,vw,vc,BS 0] 148::Pt cp (BU m [BR mp,vt,vg]) 158::Pt mp [vp,BS m.most] 221::Sl 223 256 Xr vp ps::Sl 3 1 ZJ vt Zs::Sl 2 1 ZJ vg Zm::Sl 79 4 Yx vc cs::Wm up::Sl 2 1 ZJ c.vl c.loc::Sl 2 1 ZJ c.vs c.stk::l)) (hcs:cs=up++[c]) (E:El vc 4 up.length b o) (Un:0≤c.at_∧c.at_≤1000) (hlen:c.stk.length≤10000) (hm:XG g m) (P:Tv m.d) (ho:x.op=16∨x.op=17) (Rh:∀n∈Zs,-1≤n∧n<(m.ZA.length:Int)+m.funcs.length) (h1:x.op=17→1≤c.stk.length∧0≤x.a∧x.a<m.types.length) (T7:∀v∈c.stk,Xw v) (MJ:Zs.length≤1000) (Ts:cs.length≤40) (hq:Y0 m.d Zs x c.stk=(f,s2,0)) (hf:0≤f∧f<(m.ZA.length:Int)+m.funcs.length) (IK:(YC m.d f).Zc.length≤s2.length) (I3:s2.length≤10000) (Cd:(m.ZA.length:Int)≤f) (Cc:cs.length=40):Fc Tryz.prog 114 #[BR pr,.pointer (some ⟨b,o,none⟩),.agg #[.int .u8 x.op,BS x.a,BS x.b,SW],vj] w (fun r w'=>r=.agg #[BS 2,.slice none 0 0,BS 26,BS 0,BS 0]∧Sat g w' (Pt pr [BR cp,vw,vc,BS 0] 148::Pt cp (BU m [BR mp,vt,vg]) 158::Pt mp [vp,BS m.most] 221::Sl 223 256 Xr vp ps::Sl 3 1 ZJ vt Zs::Sl 2 1 ZJ vg Zm::l)):=by
 refine Fc.of Tryz.func114 rfl k_d ?_
 have hx:=Ys hcs
 have WU:=Yr hcs
 have hvl:=H.one 8 rfl
 have Fg:up.length+1=cs.length:=by grind
 refine ZI H<|fun p1 w1 H=>ZV H rfl<|fun p2 w2 H=>Z9 rfl<|Z4 (H.el 8 rfl E hx) 1 rfl rfl rfl<|ZX BX<|Z9 rfl<|YF H 8 rfl E hx 1 (⟨c.fn,c.at_+1,c.vl,c.loc,c.vs,c.stk⟩) rfl rfl rfl rfl<|fun w1 H=>Z9 rfl<|Z4 (H.at 1 rfl) 0 rfl rfl rfl<|bk ?_
 simp only [WU] at H
 have hx1:(up++[(⟨c.fn,c.at_+1,c.vl,c.loc,c.vs,c.stk⟩:CV)])[up.length]?=some (⟨c.fn,c.at_+1,c.vl,c.loc,c.vs,c.stk⟩:CV):=Ys rfl
 clear hx
 have WB:∀z,(up++[(⟨c.fn,c.at_+1,c.vl,c.loc,c.vs,c.stk⟩:CV)]).set up.length z=up++[z]:=Yr rfl
 have GD:(up++[(⟨c.fn,c.at_+1,c.vl,c.loc,c.vs,c.stk⟩:CV)]).length=cs.length:=by grind
 rcases ho with ho|ho
 ·refine cF (Z5 BX)<|cF (Z5 BX)<|cF (Z5 BX)<|cF (Z5 BX)<|cF (Z5 BX)<|cF (Z5 BX)<|cF (Z5 BX)<|cF (Z5 BX)<|cF (Z5 BX)<|cT (ZL BW)<|cT (ZL BW)<|ZB (H.at 1 rfl) 0 rfl rfl rfl<|H.Z8 [11,9,8,6,6]<|fun H=>?_
  refine Z7.mk (Fc.imp (Rn.afh E _ hx1 H BX BX BX BX BX BX BX BX BX BX hq BX BX BX BX BX) ?_)
  clear H
  rintro _ w2 ⟨rfl,H⟩
  refine ZF H 3 rfl rfl rfl rfl<|fun w3 H=>XK (H.at 3 rfl) 0 rfl rfl rfl<|Z6.mk ?_
  refine ⟨rfl,?_⟩
  refine H.Z8 [7,3,7,7,5,5]<|fun H=>H.drop 9<|fun H=>H.drop 8<|fun H=>H.drop 7<|fun H=>H.drop 6<|fun H=>?_
  exact H
 ·refine cF (Z5 BX)<|cF (Z5 BX)<|cF (Z5 BX)<|cF (Z5 BX)<|cF (Z5 BX)<|cF (Z5 BX)<|cF (Z5 BX)<|cF (Z5 BX)<|cF (Z5 BX)<|cF (Z5 BX)<|cT (ZL BW)<|ZB (H.at 1 rfl) 0 rfl rfl rfl<|H.Z8 [11,9,8,6,6]<|fun H=>?_
  refine Z7.mk (Fc.imp (Rn.afh E _ hx1 H BX BX BX BX BX BX BX BX BX BX hq BX BX BX BX BX) ?_)
  clear H
  rintro _ w2 ⟨rfl,H⟩
  refine ZF H 3 rfl rfl rfl rfl<|fun w3 H=>XK (H.at 3 rfl) 0 rfl rfl rfl<|Z6.mk ?_
  refine ⟨rfl,?_⟩
  refine H.Z8 [7,3,7,7,5,5]<|fun H=>H.drop 9<|fun H=>H.drop 8<|fun H=>H.drop 7<|fun H=>H.drop 6<|fun H=>?_
  exact H
theorem ajl (H:Sat g w (Pt pr [BR cp,vw,vc,BS 0] 148::Pt cp (BU m [BR mp,vt,vg]) 158::Pt mp [vp,BS m.most] 221::Sl 223 256 Xr vp ps::Sl 3 1 ZJ vt Zs::Sl 2 1 ZJ vg Zm::Sl 79 4 Yx vc cs::Wm up::Sl 2 1 ZJ c.vl c.loc::Sl 2 1 ZJ c.vs c.stk::l)) (hcs:cs=up++[c]) (E:El vc 4 up.length b o) (Un:0≤c.at_∧c.at_≤1000) (hlen:c.stk.length≤10000) (hm:XG g m) (P:Tv m.d) (ho:x.op=16∨x.op=17) (Rh:∀n∈Zs,-1≤n∧n<(m.ZA.length:Int)+m.funcs.length) (h1:x.op=17→1≤c.stk.length∧0≤x.a∧x.a<m.types.length) (T7:∀v∈c.stk,Xw v) (MJ:Zs.length≤1000) (Ts:cs.length≤40) (hq:Y0 m.d Zs x c.stk=(f,s2,0)) (hf:0≤f∧f<(m.ZA.length:Int)+m.funcs.length) (IK:(YC m.d f).Zc.length≤s2.length) (I3:s2.length≤10000) (Cd:f<m.ZA.length):Fc Tryz.prog 114 #[BR pr,.pointer (some ⟨b,o,none⟩),.agg #[.int .u8 x.op,BS x.a,BS x.b,SW],vj] w (fun r w'=>∃vs' vv,r=.agg #[BS 4,vv,BS 0,BS f,BS 0]∧Sat g w' (Pt pr [BR cp,vw,vc,BS (f+1)] 148::Pt cp (BU m [BR mp,vt,vg]) 158::Pt mp [vp,BS m.most] 221::Sl 223 256 Xr vp ps::Sl 3 1 ZJ vt Zs::Sl 2 1 ZJ vg Zm::Sl 79 4 Yx vc (up++[⟨c.fn,c.at_+1,c.vl,c.loc,vs',s2.take (s2.length-(YC m.d f).Zc.length)⟩])::Wm up::Sl 2 1 ZJ c.vl c.loc::Sl 2 1 ZJ vs' (s2.take (s2.length-(YC m.d f).Zc.length))::Sl 2 1 ZJ vv (s2.drop (s2.length-(YC m.d f).Zc.length))::l)):=by
 refine Fc.of Tryz.func114 rfl k_d ?_
 have hx:=Ys hcs
 have WU:=Yr hcs
 have hvl:=H.one 8 rfl
 have Fg:up.length+1=cs.length:=by grind
 refine ZI H<|fun p1 w1 H=>ZV H rfl<|fun p2 w2 H=>Z9 rfl<|Z4 (H.el 8 rfl E hx) 1 rfl rfl rfl<|ZX BX<|Z9 rfl<|YF H 8 rfl E hx 1 (⟨c.fn,c.at_+1,c.vl,c.loc,c.vs,c.stk⟩) rfl rfl rfl rfl<|fun w1 H=>Z9 rfl<|Z4 (H.at 1 rfl) 0 rfl rfl rfl<|bk ?_
 simp only [WU] at H
 have hx1:(up++[(⟨c.fn,c.at_+1,c.vl,c.loc,c.vs,c.stk⟩:CV)])[up.length]?=some (⟨c.fn,c.at_+1,c.vl,c.loc,c.vs,c.stk⟩:CV):=Ys rfl
 clear hx
 have WB:∀z,(up++[(⟨c.fn,c.at_+1,c.vl,c.loc,c.vs,c.stk⟩:CV)]).set up.length z=up++[z]:=Yr rfl
 have GD:(up++[(⟨c.fn,c.at_+1,c.vl,c.loc,c.vs,c.stk⟩:CV)]).length=cs.length:=by grind
 rcases ho with ho|ho
 ·refine cF (Z5 BX)<|cF (Z5 BX)<|cF (Z5 BX)<|cF (Z5 BX)<|cF (Z5 BX)<|cF (Z5 BX)<|cF (Z5 BX)<|cF (Z5 BX)<|cF (Z5 BX)<|cT (ZL BW)<|cT (ZL BW)<|ZB (H.at 1 rfl) 0 rfl rfl rfl<|H.Z8 [11,9,8,6,6]<|fun H=>?_
  refine Z7.mk (Fc.imp (Rn.afi E _ hx1 H BX BX BX BX BX BX BX BX BX BX hq BX BX BX BX) ?_)
  clear H
  rintro _ w2 ⟨Zw,⟨C9,⟨rfl,H⟩⟩⟩
  refine ZF H 6 rfl rfl rfl (by simp only [List.all_cons,List.all_nil,H.one 2 rfl,H.one 3 rfl,H.one 4 rfl,H.one 5 rfl,H.one 9 rfl,H.one 10 rfl,H.one 12 rfl,hvl];rfl)<|fun w3 H=>XK (H.at 6 rfl) 0 rfl rfl rfl<|Z6.mk ?_
  refine ⟨Zw,C9,?_⟩
  refine ⟨rfl,?_⟩
  refine H.Z8 [5,5,12,12,7,12,8,12,12,10,10]<|fun H=>H.drop 12<|fun H=>H.drop 11<|fun H=>?_
  refine H.cg (YR rfl (YR rfl (YR rfl (YR rfl (YR rfl (YR rfl (YR (QV ?_) (YR rfl (YR rfl (YR rfl (YR rfl (rfl))))))))))))
  exact WB _
 ·refine cF (Z5 BX)<|cF (Z5 BX)<|cF (Z5 BX)<|cF (Z5 BX)<|cF (Z5 BX)<|cF (Z5 BX)<|cF (Z5 BX)<|cF (Z5 BX)<|cF (Z5 BX)<|cF (Z5 BX)<|cT (ZL BW)<|ZB (H.at 1 rfl) 0 rfl rfl rfl<|H.Z8 [11,9,8,6,6]<|fun H=>?_
  refine Z7.mk (Fc.imp (Rn.afi E _ hx1 H BX BX BX BX BX BX BX BX BX BX hq BX BX BX BX) ?_)
  clear H
  rintro _ w2 ⟨Zw,⟨C9,⟨rfl,H⟩⟩⟩
  refine ZF H 6 rfl rfl rfl (by simp only [List.all_cons,List.all_nil,H.one 2 rfl,H.one 3 rfl,H.one 4 rfl,H.one 5 rfl,H.one 9 rfl,H.one 10 rfl,H.one 12 rfl,hvl];rfl)<|fun w3 H=>XK (H.at 6 rfl) 0 rfl rfl rfl<|Z6.mk ?_
  refine ⟨Zw,C9,?_⟩
  refine ⟨rfl,?_⟩
  refine H.Z8 [5,5,12,12,7,12,8,12,12,10,10]<|fun H=>H.drop 12<|fun H=>H.drop 11<|fun H=>?_
  refine H.cg (YR rfl (YR rfl (YR rfl (YR rfl (YR rfl (YR rfl (YR (QV ?_) (YR rfl (YR rfl (YR rfl (YR rfl (rfl))))))))))))
  exact WB _
theorem ajm (H:Sat g w (Pt pr [BR cp,vw,vc,BS 0] 148::Pt cp (BU m [BR mp,vt,vg]) 158::Pt mp [vp,BS m.most] 221::Sl 223 256 Xr vp ps::Sl 3 1 ZJ vt Zs::Sl 2 1 ZJ vg Zm::Sl 79 4 Yx vc cs::Wm up::Sl 2 1 ZJ c.vl c.loc::Sl 2 1 ZJ c.vs c.stk::l)) (hcs:cs=up++[c]) (E:El vc 4 up.length b o) (Un:0≤c.at_∧c.at_≤1000) (hlen:c.stk.length≤10000) (hm:XG g m) (P:Tv m.d) (ho:x.op=16∨x.op=17) (Rh:∀n∈Zs,-1≤n∧n<(m.ZA.length:Int)+m.funcs.length) (h1:x.op=17→1≤c.stk.length∧0≤x.a∧x.a<m.types.length) (T7:∀v∈c.stk,Xw v) (MJ:Zs.length≤1000) (Ts:cs.length≤40) (hq:Y0 m.d Zs x c.stk=(f,s2,0)) (hf:0≤f∧f<(m.ZA.length:Int)+m.funcs.length) (IK:(YC m.d f).Zc.length≤s2.length) (I3:s2.length≤10000) (k:Nat) (F:YD) (Hr:f=m.ZA.length+k) (hF:m.funcs[k]?=some F) (Et:F.loc.length≤16) (h4:(YC m.d f).Zc.length≤4) (Cc:cs.length<40):Fc Tryz.prog 114 #[BR pr,.pointer (some ⟨b,o,none⟩),.agg #[.int .u8 x.op,BS x.a,BS x.b,SW],vj] w (fun r w'=>∃Qa vs' IT,r=.agg #[BS 0,.slice none 0 0,BS 0,BS 0,BS 0]∧Sat g w' (Pt pr [BR cp,vw,Qa,BS 0] 148::Pt cp (BU m [BR mp,vt,vg]) 158::Pt mp [vp,BS m.most] 221::Sl 223 256 Xr vp ps::Sl 3 1 ZJ vt Zs::Sl 2 1 ZJ vg Zm::Sl 79 4 Yx Qa (up++[⟨c.fn,c.at_+1,c.vl,c.loc,vs',s2.take (s2.length-(YC m.d f).Zc.length)⟩]++[⟨k,0,IT,s2.drop (s2.length-(YC m.d f).Zc.length)++List.replicate F.loc.length 0,.slice none 0 0,[]⟩])::Wm up::Sl 2 1 ZJ c.vl c.loc::Sl 2 1 ZJ vs' (s2.take (s2.length-(YC m.d f).Zc.length))::Sl 2 1 ZJ IT (s2.drop (s2.length-(YC m.d f).Zc.length)++List.replicate F.loc.length 0)::Sl 2 1 ZJ (.slice none 0 0) []::l)):=by
 refine Fc.of Tryz.func114 rfl k_d ?_
 have hx:=Ys hcs
 have WU:=Yr hcs
 have hvl:=H.one 8 rfl
 have Fg:up.length+1=cs.length:=by grind
 refine ZI H<|fun p1 w1 H=>ZV H rfl<|fun p2 w2 H=>Z9 rfl<|Z4 (H.el 8 rfl E hx) 1 rfl rfl rfl<|ZX BX<|Z9 rfl<|YF H 8 rfl E hx 1 (⟨c.fn,c.at_+1,c.vl,c.loc,c.vs,c.stk⟩) rfl rfl rfl rfl<|fun w1 H=>Z9 rfl<|Z4 (H.at 1 rfl) 0 rfl rfl rfl<|bk ?_
 simp only [WU] at H
 have hx1:(up++[(⟨c.fn,c.at_+1,c.vl,c.loc,c.vs,c.stk⟩:CV)])[up.length]?=some (⟨c.fn,c.at_+1,c.vl,c.loc,c.vs,c.stk⟩:CV):=Ys rfl
 clear hx
 have WB:∀z,(up++[(⟨c.fn,c.at_+1,c.vl,c.loc,c.vs,c.stk⟩:CV)]).set up.length z=up++[z]:=Yr rfl
 have GD:(up++[(⟨c.fn,c.at_+1,c.vl,c.loc,c.vs,c.stk⟩:CV)]).length=cs.length:=by grind
 rcases ho with ho|ho
 ·refine cF (Z5 BX)<|cF (Z5 BX)<|cF (Z5 BX)<|cF (Z5 BX)<|cF (Z5 BX)<|cF (Z5 BX)<|cF (Z5 BX)<|cF (Z5 BX)<|cF (Z5 BX)<|cT (ZL BW)<|cT (ZL BW)<|ZB (H.at 1 rfl) 0 rfl rfl rfl<|H.Z8 [11,9,8,6,6]<|fun H=>?_
  refine Z7.mk (Fc.imp (Rn.afj E _ hx1 H BX BX BX BX BX BX BX BX BX BX hq BX BX BX (k) _ Hr hF BX BX BX) ?_)
  clear H
  rintro _ w2 ⟨HT,⟨Zw,⟨Ue,⟨rfl,H⟩⟩⟩⟩
  refine ZF H 7 rfl rfl rfl rfl<|fun w3 H=>XK (H.at 7 rfl) 0 rfl rfl rfl ?_
  simp only [WB] at H
  refine Z6.mk ⟨HT,Zw,Ue,rfl,?_⟩
  refine H.Z8 [6,6,6,13,13,8,13,9,13,13,11,11]<|fun H=>H.drop 13<|fun H=>H.drop 12<|fun H=>?_
  exact H
 ·refine cF (Z5 BX)<|cF (Z5 BX)<|cF (Z5 BX)<|cF (Z5 BX)<|cF (Z5 BX)<|cF (Z5 BX)<|cF (Z5 BX)<|cF (Z5 BX)<|cF (Z5 BX)<|cF (Z5 BX)<|cT (ZL BW)<|ZB (H.at 1 rfl) 0 rfl rfl rfl<|H.Z8 [11,9,8,6,6]<|fun H=>?_
  refine Z7.mk (Fc.imp (Rn.afj E _ hx1 H BX BX BX BX BX BX BX BX BX BX hq BX BX BX (k) _ Hr hF BX BX BX) ?_)
  clear H
  rintro _ w2 ⟨HT,⟨Zw,⟨Ue,⟨rfl,H⟩⟩⟩⟩
  refine ZF H 7 rfl rfl rfl rfl<|fun w3 H=>XK (H.at 7 rfl) 0 rfl rfl rfl ?_
  simp only [WB] at H
  refine Z6.mk ⟨HT,Zw,Ue,rfl,?_⟩
  refine H.Z8 [6,6,6,13,13,8,13,9,13,13,11,11]<|fun H=>H.drop 13<|fun H=>H.drop 12<|fun H=>?_
  exact H
theorem ajn (H:Sat g w (Pt pr [BR cp,vw,vc,BS 0] 148::Pt cp (BU m [BR mp,vt,vg]) 158::Pt mp [vp,BS m.most] 221::Sl 223 256 Xr vp ps::Sl 3 1 ZJ vt Zs::Sl 2 1 ZJ vg Zm::Sl 79 4 Yx vc cs::Wm up::Sl 2 1 ZJ c.vl c.loc::Sl 2 1 ZJ c.vs c.stk::l)) (hcs:cs=up++[c]) (E:El vc 4 up.length b o) (Un:0≤c.at_∧c.at_≤1000) (hlen:c.stk.length≤10000) (hD:H8 x ⟨flat ps,Zs,Zm⟩ c.loc c.stk) (hT:Fold.Jc g) (DO:18≤x.op) (hop:x.op≤255) (hmo:ps.length≤m.most∧m.most≤8):Fc Tryz.prog 114 #[BR pr,.pointer (some ⟨b,o,none⟩),.agg #[.int .u8 x.op,BS x.a,BS x.b,SW],vj] w (fun r w'=>∃e vs' T4 ps' Xd loc' Xi,r=(if e≠0 then .agg #[BS 2,.slice none 0 0,BS e,BS 0,BS 0] else .agg #[BS 0,.slice none 0 0,BS 0,BS 0,BS 0])∧NA (VY m.most x ⟨flat ps,Zs,Zm⟩ c.loc c.stk) e (flat ps') Xd loc' Xi∧ps'.length≤8∧Sat g w' (Pt pr [BR cp,vw,vc,BS 0] 148::Pt cp (BU m [BR mp,vt,vg]) 158::Pt mp [T4,BS m.most] 221::Sl 223 256 Xr T4 ps'::Sl 3 1 ZJ vt Zs::Sl 2 1 ZJ vg Xd::Sl 79 4 Yx vc (up++[⟨c.fn,c.at_+1,c.vl,loc',vs',Xi⟩])::Wm up::Sl 2 1 ZJ c.vl loc'::Sl 2 1 ZJ vs' Xi::l)):=by
 refine Fc.of Tryz.func114 rfl k_d ?_
 have hx:=Ys hcs
 have WU:=Yr hcs
 have hvl:=H.one 8 rfl
 refine ZI H<|fun p1 w1 H=>ZV H rfl<|fun p2 w2 H=>Z9 rfl<|Z4 (H.el 8 rfl E hx) 1 rfl rfl rfl<|ZX BX<|Z9 rfl<|YF H 8 rfl E hx 1 (⟨c.fn,c.at_+1,c.vl,c.loc,c.vs,c.stk⟩) rfl rfl rfl rfl<|fun w1 H=>Z9 rfl<|Z4 (H.at 1 rfl) 0 rfl rfl rfl<|bk ?_
 simp only [WU] at H
 have hx1:(up++[(⟨c.fn,c.at_+1,c.vl,c.loc,c.vs,c.stk⟩:CV)])[up.length]?=some (⟨c.fn,c.at_+1,c.vl,c.loc,c.vs,c.stk⟩:CV):=Ys rfl
 clear hx
 have WB:∀z,(up++[(⟨c.fn,c.at_+1,c.vl,c.loc,c.vs,c.stk⟩:CV)]).set up.length z=up++[z]:=Yr rfl
 have GD:(up++[(⟨c.fn,c.at_+1,c.vl,c.loc,c.vs,c.stk⟩:CV)]).length=cs.length:=by grind
 refine cF (Z5 BX)<|cF (Z5 BX)<|cF (Z5 BX)<|cF (Z5 BX)<|cF (Z5 BX)<|cF (Z5 BX)<|cF (Z5 BX)<|cF (Z5 BX)<|cF (Z5 BX)<|cF (Z5 BX)<|cF (Z5 BX)<|ZM H [] [BQp0,BQp1,BQp2,BQh3,BQh4,BQp5,BQp6,BQp7,BQh8,BQp9,BQp10,BQp11,BQh12,BQfr13,BQp14,BQp15,BQp16,BQp17,BQp18] mixed k_d k_d<|fun w2 H=>tk (fun _ Z=>Z9 rfl BT)<|tk (fun _ Z=>Z4 (Z.at 2 rfl) 0 rfl rfl rfl BT)<|tk (fun _ Z=>ZB (Z.at 1 rfl) 0 rfl rfl rfl BT)<|tk (fun _ Z=>Z9 rfl BT)<|tk (fun _ Z=>Z4 (Z.el 8 rfl E hx1) 2 rfl rfl rfl BT)<|tk (fun _ Z=>Z9 rfl BT)<|tk (fun _ Z=>Z4 (Z.el 8 rfl E hx1) 3 rfl rfl rfl BT)<|H.Z8 [11,11,9,9,9,9,9]<|fun H=>?_
 refine Z7.mk (Fc.imp (Rn.do_ H BX BX BX BX BX) ?_)
 clear H
 rintro _ w1 ⟨e1,⟨Zw,⟨alN,⟨OR,⟨ahU,⟨HR,⟨RQ,⟨rfl,⟨h1,⟨h2,H⟩⟩⟩⟩⟩⟩⟩⟩⟩⟩
 refine Z9 rfl<|YF H 10 rfl E hx1 3 (⟨c.fn,c.at_+1,c.vl,HR,(Zw),RQ⟩) rfl (by simp only [Bool.and_true,H.one 2 rfl,H.one 3 rfl,H.one 4 rfl,H.one 5 rfl,H.one 6 rfl,H.one 10 rfl,hvl]) rfl rfl<|fun w3 H=>?_
 refine cI (fun c1=>?_) (fun c1=>?_)
 focus
  replace c1:=Yw (c1)
  refine Zj rfl rfl rfl<|ZF H 7 rfl rfl rfl rfl<|fun w1 H=>XK (H.at 7 rfl) 0 rfl rfl rfl ?_
 rotate_left 1
 focus
  replace c1:=Yv (c1)
  refine Zj rfl rfl rfl<|ZF H 7 rfl rfl rfl rfl<|fun w1 H=>XK (H.at 7 rfl) 0 rfl rfl rfl ?_
 rotate_left 1
 ·simp only [WB] at H
  refine Z6.mk ⟨e1,Zw,alN,OR,ahU,HR,RQ,(if_pos BW).symm,by assumption,by assumption,?_⟩
  refine H.Z8 [6,6,11,11,8,8,8,8,8,11]<|fun H=>H.drop 11<|fun H=>H.drop 10<|fun H=>?_
  exact H
 ·simp only [WB] at H
  refine Z6.mk ⟨e1,Zw,alN,OR,ahU,HR,RQ,(if_neg BX).symm,by assumption,by assumption,?_⟩
  refine H.Z8 [6,6,11,11,8,8,8,8,8,11]<|fun H=>H.drop 11<|fun H=>H.drop 10<|fun H=>?_
  exact H
end
end Rn
end Go.Proofs.YtakpnepblgfknaaGreatDoor
