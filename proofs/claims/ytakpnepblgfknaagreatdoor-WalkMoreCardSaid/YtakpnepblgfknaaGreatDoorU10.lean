/- Texts of this claim, one behind the other. -/
import Derived.Test.YtakpnepblgfknaaGreatDoorU9
import Derived.Test.YtakpnepblgfknaaGreatDoorU8
import Derived.Test.YtakpnepblgfknaaGreatDoorU7
import Derived.Test.YtakpnepblgfknaaGreatDoorU3
set_option maxRecDepth 100000
set_option maxHeartbeats 4000000
set_option linter.unusedVariables false
set_option linter.unusedSimpArgs false
set_option linter.defProp false
namespace Go.Proofs.YtakpnepblgfknaaGreatDoor
namespace Rn
open Go Y4 Go.RowKit
open YZ Zo X4 YS Valid Mem
section
variable {g:ZB} {w:World} {l:List As} {m:Zh} {cp mp:Nat} {vp vt vg vl vs SD:Value} {ps:List W0} {Zw Zm loc stk:List Int} {x:ZX}
theorem adz {ps:List W0} {n:Nat}:flat (ps++List.replicate n zp)=flat ps++List.replicate (256 * n) 0:=by
 unfold flat
 rw [lPa]
 congr 1
 induction n with
 | zero=>rfl
 | succ n ih =>
  rw [lEb,lNa,ih,show 256 * (n+1)=256+256 * n by omega,<-List.replicate_append_replicate];rfl
theorem bt2 {s:List Int} (h:3<=s.length):∃t a b c,s=t++[a]++[b]++[c]:=by
 obtain ⟨t,c,rfl⟩:=OE (show 1<=s.length by omega)
 rw [lca,loa] at h
 obtain ⟨t,b,rfl⟩:=OE (show 1<=t.length by omega)
 rw [lca,loa] at h
 obtain ⟨t,a,rfl⟩:=OE (show 1<=t.length by omega)
 exact ⟨t,a,b,c,rfl⟩
theorem aoW {d:List Int->Cb} {e:Int} {mm:List UInt8} {gl s':List Int} (h:∀loc,Oh (d loc) e mm gl loc s'):Oh (d loc) e mm gl loc s':=h loc
theorem an3 {I:WQ} {s':List Int} {e e1 e2:Int} {s1 s2:List Int} {c:Prop} [Decidable c] (h:(s',e)=(if c then (s1,e1) else (s2,e2))):Oh (if c then ⟨I,loc,s1,e1⟩ else ⟨I,loc,s2,e2⟩) e I.mem I.Zm loc s':=by
 by_cases hc:c
 .rw [if_pos hc] at h ⊢
  injection h with h1 h2
  exact ⟨h2,rfl,rfl,rfl,fun _=>h1⟩
 .rw [if_neg hc] at h ⊢
  injection h with h1 h2
  exact ⟨h2,rfl,rfl,rfl,fun _=>h1⟩
theorem gr0 {e a most:Int} {ps':List W0} (h1:1<=stk.length) (h:most-(ps.length:Int)<a % 4294967296) (he:e=-1) (hp:ps'=ps):Oh (if most-(ps.length:Int)<a % 4294967296 then ⟨⟨flat ps,Zw,Zm⟩,loc,low stk 1++[-1],0⟩ else ⟨⟨flat ps++List.replicate (256 * (a % 4294967296).toNat) 0,Zw,Zm⟩,loc,low stk 1++[(ps.length:Int)],0⟩) 0 (flat ps') Zm loc (stk.set (stk.length-1) e):=by
 rw [if_pos h,he,hp]
 exact ⟨rfl,rfl,rfl,rfl,fun _=>NY h1⟩
theorem gr1 {e a most:Int} {ps':List W0} (h1:1<=stk.length) (h:¬most-(ps.length:Int)<a % 4294967296) (he:e=ps.length) (hp:ps'=ps++List.replicate (a % 4294967296).toNat zp):Oh (if most-(ps.length:Int)<a % 4294967296 then ⟨⟨flat ps,Zw,Zm⟩,loc,low stk 1++[-1],0⟩ else ⟨⟨flat ps++List.replicate (256 * (a % 4294967296).toNat) 0,Zw,Zm⟩,loc,low stk 1++[(ps.length:Int)],0⟩) 0 (flat ps') Zm loc (stk.set (stk.length-1) e):=by
 rw [if_neg h,he,hp,adz]
 exact ⟨rfl,rfl,rfl,rfl,fun _=>NY h1⟩
theorem alm (H:Sat g w (Pt cp (zY m [zV mp,vt,vg]) 158::Pt mp [vp,zW m.most] 221::Sl 223 256 Xg vp ps::Sl 3 1 ZJ vt Zw::Sl 2 1 ZJ vg Zm::Sl 2 1 ZJ vl loc::Sl 2 1 ZJ vs stk::l)) (ho:x.op=26) (h1:1<=stk.length) (hlen:stk.length<=100000) (hp:ps.length<=8):Fc Tryz.prog 160 #[zV cp,.agg #[.int .u8 x.op,zW x.a,zW x.b,SD],vl,vs] w (fun r w'=>∃e vs' Tv ps' W4 loc' Y1,r=.tuple #[vs',zW e]/\Oh (WJ m.most x ⟨flat ps,Zw,Zm⟩ loc stk) e (flat ps') W4 loc' Y1/\ps'.length<=8/\Sat g w' (Pt cp (zY m [zV mp,vt,vg]) 158::Pt mp [Tv,zW m.most] 221::Sl 223 256 Xg Tv ps'::Sl 3 1 ZJ vt Zw::Sl 2 1 ZJ vg W4::Sl 2 1 ZJ vl loc'::Sl 2 1 ZJ vs' Y1::l)):=by
 refine Fc.of Tryz.func160 rfl k_d ?_
 have hd:WJ m.most x ⟨flat ps,Zw,Zm⟩ loc stk=⟨⟨flat ps,Zw,Zm⟩,loc,low stk 1,0⟩:=by grind [WJ]
 rw [hd]
 clear hd
 refine ZN H<|fun p1 w1 H=>Yv H 7 rfl rfl<|ZU Ab<|bk<|Z9 rfl<|zT H 0 0 zQ<|cT (ZL Aa)<|NF H 7 rfl 0 ((stk.length)-1) rfl rfl Ab Ab (.inl ⟨rfl,rfl⟩) (.inr ⟨_,by first|rfl|(congr 2;omega)⟩)<|fun v1=>?_
 intro H
 refine Z6.mk ?_
 refine ⟨0,v1,vp,ps,Zm,loc,List.drop 0 (List.take (stk.length-1) stk),?_⟩
 refine ⟨rfl,?_⟩
 refine ⟨?_,?_⟩
 .exact ⟨rfl,rfl,rfl,rfl,fun _=>JS⟩
 refine ⟨Ab,?_⟩
 refine H.Z8 [7,7,7,7,7,7,7]<|fun H=>H.drop 7<|fun H=>?_
 exact H
theorem aln (H:Sat g w (Pt cp (zY m [zV mp,vt,vg]) 158::Pt mp [vp,zW m.most] 221::Sl 223 256 Xg vp ps::Sl 3 1 ZJ vt Zw::Sl 2 1 ZJ vg Zm::Sl 2 1 ZJ vl loc::Sl 2 1 ZJ vs stk::l)) (ho:x.op=27) (h1:3<=stk.length) (hlen:stk.length<=100000) (hp:ps.length<=8):Fc Tryz.prog 160 #[zV cp,.agg #[.int .u8 x.op,zW x.a,zW x.b,SD],vl,vs] w (fun r w'=>∃e vs' Tv ps' W4 loc' Y1,r=.tuple #[vs',zW e]/\Oh (WJ m.most x ⟨flat ps,Zw,Zm⟩ loc stk) e (flat ps') W4 loc' Y1/\ps'.length<=8/\Sat g w' (Pt cp (zY m [zV mp,vt,vg]) 158::Pt mp [Tv,zW m.most] 221::Sl 223 256 Xg Tv ps'::Sl 3 1 ZJ vt Zw::Sl 2 1 ZJ vg W4::Sl 2 1 ZJ vl loc'::Sl 2 1 ZJ vs' Y1::l)):=by
 refine Fc.of Tryz.func160 rfl k_d ?_
 obtain ⟨t,a,b,c,hs⟩:=bt2 h1
 have hl:stk.length=t.length+3:=by grind
 have hc:stk[stk.length-1]?=some c:=by grind
 have hb:stk[stk.length-1-1]?=some b:=by grind
 have ha:stk[stk.length-1-2]?=some a:=by grind
 have r1:List.drop 0 (List.take (stk.length-1-1) stk)=t++[a]:=by
  rw [hl,hs];simp
  rw [show t++[a,b,c]=(t++[a])++[b,c] by simp,lwa zZ,lua zZ]
 have r2:List.drop 0 (List.take (stk.length-1-1) (stk.set (stk.length-1-2) b))=t++[b]:=by
  rw [hl,hs];simp
  rw [show t++[b,b,c]=(t++[b])++[b,c] by simp,lwa zZ,lua zZ]
 have hd:WJ m.most x ⟨flat ps,Zw,Zm⟩ loc stk=⟨⟨flat ps,Zw,Zm⟩,loc,if c=0 then t++[b] else t++[a],0⟩:=by
  unfold WJ
  rw [if_neg Ab,if_pos ho,hs,Wp,alb,G5 zZ,Wp,M8,M8,JY]
 rw [hd]
 clear hd
 refine ZN H<|fun p1 w1 H=>Yv H 7 rfl rfl<|ZU Ab<|bk<|Z9 rfl<|zT H 0 0 zQ<|cF (Z5 Ab)<|Z9 rfl<|zT H 0 0 zQ<|cT (ZL Aa) ?_
 obtain ⟨b1,o1,E1⟩:=H.YQ 7 rfl ((stk.length)-1) Ab
 refine ZG E1 Ab rfl rfl<|zM (H.el 7 rfl E1 hc) 0 zL ?_
 refine cI (fun c1=>?_) (fun c1=>?_)
 .replace c1:=ZS (c1)
  refine ZU Ab<|ZU Ab ?_
  obtain ⟨b2,o2,E2⟩:=H.YQ 7 rfl (((stk.length)-1)-1) Ab
  refine ZG E2 Ab rfl rfl<|zM (H.el 7 rfl E2 hb) 0 zL ?_
  obtain ⟨b3,o3,E3⟩:=H.YQ 7 rfl (((stk.length)-1)-2) Ab
  refine ZG E3 Ab rfl rfl<|Yf H 7 rfl E3 ha 0 (b) rfl rfl rfl rfl<|fun w2 H=>ZU Ab<|NF H 7 rfl 0 (((stk.length)-1)-1) rfl rfl (by grind) (by grind) (.inl ⟨rfl,rfl⟩) (.inr ⟨_,by first|rfl|(congr 2;(first|omega|(simp only [List.length_append,List.length_set,List.length_cons,List.length_nil];omega)|(simp;omega)|(simp;done)))⟩)<|fun v1=>?_
  intro H
  refine Z6.mk ?_
  refine ⟨0,v1,vp,ps,Zm,loc,List.drop 0 (List.take (stk.length-1-1) (stk.set (stk.length-1-2) b)),?_⟩
  refine ⟨rfl,?_⟩
  refine ⟨?_,?_⟩
  .exact ⟨rfl,rfl,rfl,rfl,fun _=>by rw [if_pos Aa];exact r2⟩
  refine ⟨Ab,?_⟩
  refine H.Z8 [7,7,7,7,7,7,7]<|fun H=>H.drop 7<|fun H=>?_
  exact H
 replace c1:=ZR (c1)
 refine ZU Ab<|NF H 7 rfl 0 (((stk.length)-1)-1) rfl rfl Ab Ab (.inl ⟨rfl,rfl⟩) (.inr ⟨_,by first|rfl|(congr 2;omega)⟩)<|fun v1=>?_
 intro H
 refine Z6.mk ?_
 refine ⟨0,v1,vp,ps,Zm,loc,List.drop 0 (List.take (stk.length-1-1) stk),?_⟩
 refine ⟨rfl,?_⟩
 refine ⟨?_,?_⟩
 .exact ⟨rfl,rfl,rfl,rfl,fun _=>by rw [if_neg Aa];exact r1⟩
 refine ⟨Ab,?_⟩
 refine H.Z8 [7,7,7,7,7,7,7]<|fun H=>H.drop 7<|fun H=>?_
 exact H
theorem alo (H:Sat g w (Pt cp (zY m [zV mp,vt,vg]) 158::Pt mp [vp,zW m.most] 221::Sl 223 256 Xg vp ps::Sl 3 1 ZJ vt Zw::Sl 2 1 ZJ vg Zm::Sl 2 1 ZJ vl loc::Sl 2 1 ZJ vs stk::l)) (ho:x.op=32) (hb:0<=x.a/\x.a<loc.length) (hlen:stk.length<=100000) (hp:ps.length<=8):Fc Tryz.prog 160 #[zV cp,.agg #[.int .u8 x.op,zW x.a,zW x.b,SD],vl,vs] w (fun r w'=>∃e vs' Tv ps' W4 loc' Y1,r=.tuple #[vs',zW e]/\Oh (WJ m.most x ⟨flat ps,Zw,Zm⟩ loc stk) e (flat ps') W4 loc' Y1/\ps'.length<=8/\Sat g w' (Pt cp (zY m [zV mp,vt,vg]) 158::Pt mp [Tv,zW m.most] 221::Sl 223 256 Xg Tv ps'::Sl 3 1 ZJ vt Zw::Sl 2 1 ZJ vg W4::Sl 2 1 ZJ vl loc'::Sl 2 1 ZJ vs' Y1::l)):=by
 refine Fc.of Tryz.func160 rfl k_d ?_
 obtain ⟨i,hi⟩:=lqa hb.1
 rw [hi] at hb ⊢
 obtain ⟨y,hy⟩:∃y,loc[i]?=some y:=⟨_,laa Ab⟩
 have hd:WJ m.most x ⟨flat ps,Zw,Zm⟩ loc stk=⟨⟨flat ps,Zw,Zm⟩,loc,stk++[y],0⟩:=by grind [WJ]
 rw [hd]
 clear hd
 refine ZN H<|fun p1 w1 H=>Yv H 7 rfl rfl<|ZU Ab<|bk<|Z9 rfl<|zT H 0 0 zQ<|cF (Z5 Ab)<|Z9 rfl<|zT H 0 0 zQ<|cF (Z5 Ab)<|Z9 rfl<|zT H 0 0 zQ<|cT (ZL Aa)<|Z9 rfl<|zT H 0 1 zQ ?_
 obtain ⟨b1,o1,E1⟩:=H.YQ 6 rfl (i) Ab
 refine ZG E1 rfl rfl rfl<|zM (H.el 6 rfl E1 hy) 0 zL<|ZZ H rfl rfl rfl rfl<|fun p2 w2 H=>WN (ys:=[_]) 8 H 8 rfl (H.at 0 rfl) rfl (fun y _=>rfl) rfl rfl rfl Ab Ab<|fun v1=>?_
 intro w1 H
 refine Z6.mk ?_
 refine ⟨0,v1,vp,ps,Zm,loc,stk++[y],?_⟩
 refine ⟨rfl,?_⟩
 refine ⟨?_,?_⟩
 .exact k_s
 refine ⟨Ab,?_⟩
 refine H.Z8 [8,8,8,8,8,8,8]<|fun H=>H.drop 8<|fun H=>H.drop 7<|fun H=>?_
 exact H
theorem alp (H:Sat g w (Pt cp (zY m [zV mp,vt,vg]) 158::Pt mp [vp,zW m.most] 221::Sl 223 256 Xg vp ps::Sl 3 1 ZJ vt Zw::Sl 2 1 ZJ vg Zm::Sl 2 1 ZJ vl loc::Sl 2 1 ZJ vs stk::l)) (ho:x.op=33\/x.op=34) (hb:0<=x.a/\x.a<loc.length) (h1:1<=stk.length) (hlen:stk.length<=100000) (hp:ps.length<=8):Fc Tryz.prog 160 #[zV cp,.agg #[.int .u8 x.op,zW x.a,zW x.b,SD],vl,vs] w (fun r w'=>∃e vs' Tv ps' W4 loc' Y1,r=.tuple #[vs',zW e]/\Oh (WJ m.most x ⟨flat ps,Zw,Zm⟩ loc stk) e (flat ps') W4 loc' Y1/\ps'.length<=8/\Sat g w' (Pt cp (zY m [zV mp,vt,vg]) 158::Pt mp [Tv,zW m.most] 221::Sl 223 256 Xg Tv ps'::Sl 3 1 ZJ vt Zw::Sl 2 1 ZJ vg W4::Sl 2 1 ZJ vl loc'::Sl 2 1 ZJ vs' Y1::l)):=by
 refine Fc.of Tryz.func160 rfl k_d ?_
 obtain ⟨a,ha,IU,HZ⟩:=Fs (s:=stk) Ab
 obtain ⟨i,hi⟩:=lqa hb.1
 rw [hi] at hb ⊢
 obtain ⟨y,hy⟩:∃y,loc[i]?=some y:=⟨_,laa Ab⟩
 have hd:WJ m.most x ⟨flat ps,Zw,Zm⟩ loc stk=⟨⟨flat ps,Zw,Zm⟩,loc.set i a,if x.op=33 then low stk 1 else stk,0⟩:=by grind [WJ]
 rw [hd]
 clear hd
 rcases ho with ho|ho
 .rw [if_pos ho]
  refine ZN H<|fun p1 w1 H=>Yv H 7 rfl rfl<|ZU Ab<|bk<|Z9 rfl<|zT H 0 0 zQ<|cF (Z5 Ab)<|Z9 rfl<|zT H 0 0 zQ<|cF (Z5 Ab)<|Z9 rfl<|zT H 0 0 zQ<|cF (Z5 Ab)<|Z9 rfl<|zT H 0 0 zQ<|cT (ZL Aa)<|ZK H [] [zUp0,zUp1,zUh2,zUp3,zUp4,zUp5,zUh6,zUp7,zUfr8] mixed k_d k_d<|fun w2 H=>zR rfl rfl<|zS 0 1 zQ rfl ?_
  obtain ⟨b1,o1,E1⟩:=H.YQ 7 rfl ((stk.length)-1) Ab
  refine tk (fun _ Z=>ZG E1 Ab rfl rfl zX)<|tk (fun _ Z=>zM (Z.el 7 rfl E1 ha) 0 zL zX) ?_
  obtain ⟨b2,o2,E2⟩:=H.YQ 6 rfl (i) Ab
  refine tk (fun _ Z=>ZG E2 rfl rfl rfl zX)<|Yf H 6 rfl E2 hy 0 (a) rfl rfl rfl rfl<|fun w1 H=>NF H 7 rfl 0 ((stk.length)-1) rfl rfl Ab Ab (.inl ⟨rfl,rfl⟩) (.inr ⟨_,by first|rfl|(congr 2;omega)⟩)<|fun v1=>?_
  intro H
  refine Z6.mk ?_
  refine ⟨0,v1,vp,ps,Zm,loc.set i a,List.drop 0 (List.take (stk.length-1) stk),?_⟩
  refine ⟨rfl,?_⟩
  refine ⟨?_,?_⟩
  .exact ⟨rfl,rfl,rfl,rfl,fun _=>JS⟩
  refine ⟨Ab,?_⟩
  refine H.Z8 [7,7,7,7,7,7,7]<|fun H=>H.drop 7<|fun H=>?_
  exact H
 .rw [if_neg Ab]
  refine ZN H<|fun p1 w1 H=>Yv H 7 rfl rfl<|ZU Ab<|bk<|Z9 rfl<|zT H 0 0 zQ<|cF (Z5 Ab)<|Z9 rfl<|zT H 0 0 zQ<|cF (Z5 Ab)<|Z9 rfl<|zT H 0 0 zQ<|cF (Z5 Ab)<|Z9 rfl<|zT H 0 0 zQ<|cF (Z5 Ab)<|Z9 rfl<|zT H 0 0 zQ<|cT (ZL Aa)<|ZK H [] [zUp0,zUp1,zUh2,zUp3,zUp4,zUp5,zUh6,zUp7,zUfr8] mixed k_d k_d<|fun w2 H=>zR rfl rfl<|zS 0 1 zQ rfl ?_
  obtain ⟨b1,o1,E1⟩:=H.YQ 7 rfl ((stk.length)-1) Ab
  refine tk (fun _ Z=>ZG E1 Ab rfl rfl zX)<|tk (fun _ Z=>zM (Z.el 7 rfl E1 ha) 0 zL zX) ?_
  obtain ⟨b2,o2,E2⟩:=H.YQ 6 rfl (i) Ab
  refine tk (fun _ Z=>ZG E2 rfl rfl rfl zX)<|Yf H 6 rfl E2 hy 0 (a) rfl rfl rfl rfl<|fun w1 H=>Z6.mk ?_
  refine ⟨0,vs,vp,ps,Zm,loc.set i a,stk,?_⟩
  refine ⟨rfl,?_⟩
  refine ⟨?_,?_⟩
  .exact k_s
  refine ⟨Ab,?_⟩
  refine H.Z8 [7,7,7,7,7,7,7]<|fun H=>H.drop 7<|fun H=>?_
  exact H
theorem alq (H:Sat g w (Pt cp (zY m [zV mp,vt,vg]) 158::Pt mp [vp,zW m.most] 221::Sl 223 256 Xg vp ps::Sl 3 1 ZJ vt Zw::Sl 2 1 ZJ vg Zm::Sl 2 1 ZJ vl loc::Sl 2 1 ZJ vs stk::l)) (ho:x.op=35) (hb:0<=x.a/\x.a<Zm.length) (hlen:stk.length<=100000) (hp:ps.length<=8):Fc Tryz.prog 160 #[zV cp,.agg #[.int .u8 x.op,zW x.a,zW x.b,SD],vl,vs] w (fun r w'=>∃e vs' Tv ps' W4 loc' Y1,r=.tuple #[vs',zW e]/\Oh (WJ m.most x ⟨flat ps,Zw,Zm⟩ loc stk) e (flat ps') W4 loc' Y1/\ps'.length<=8/\Sat g w' (Pt cp (zY m [zV mp,vt,vg]) 158::Pt mp [Tv,zW m.most] 221::Sl 223 256 Xg Tv ps'::Sl 3 1 ZJ vt Zw::Sl 2 1 ZJ vg W4::Sl 2 1 ZJ vl loc'::Sl 2 1 ZJ vs' Y1::l)):=by
 refine Fc.of Tryz.func160 rfl k_d ?_
 obtain ⟨i,hi⟩:=lqa hb.1
 rw [hi] at hb ⊢
 obtain ⟨y,hy⟩:∃y,Zm[i]?=some y:=⟨_,laa Ab⟩
 have hd:WJ m.most x ⟨flat ps,Zw,Zm⟩ loc stk=⟨⟨flat ps,Zw,Zm⟩,loc,stk++[y],0⟩:=by grind [WJ]
 rw [hd]
 clear hd
 refine ZN H<|fun p1 w1 H=>Yv H 7 rfl rfl<|ZU Ab<|bk<|Z9 rfl<|zT H 0 0 zQ<|cF (Z5 Ab)<|Z9 rfl<|zT H 0 0 zQ<|cF (Z5 Ab)<|Z9 rfl<|zT H 0 0 zQ<|cF (Z5 Ab)<|Z9 rfl<|zT H 0 0 zQ<|cF (Z5 Ab)<|Z9 rfl<|zT H 0 0 zQ<|cF (Z5 Ab)<|Z9 rfl<|zT H 0 0 zQ<|cT (ZL Aa)<|ZK H [] [zUp0,zUp1,zUp2,zUp3,zUh4,zUp5,zUh6,zUp7,zUh8,zUfr9,zUfr10,zUp11,zUp12] mixed k_d k_d<|fun w2 H=>zR rfl rfl<|zS 1 13 zQ rfl<|zR rfl rfl<|zS 0 1 zQ rfl ?_
 obtain ⟨b1,o1,E1⟩:=H.YQ 5 rfl (i) Ab
 refine tk (fun _ Z=>ZG E1 rfl rfl rfl zX)<|tk (fun _ Z=>zM (Z.el 5 rfl E1 hy) 0 zL zX)<|ZZ H rfl rfl rfl rfl<|fun p2 w1 H=>WN (ys:=[_]) 8 H 8 rfl (H.at 0 rfl) rfl (fun y _=>rfl) rfl rfl rfl Ab Ab<|fun v1=>?_
 intro w2 H
 refine Z6.mk ?_
 refine ⟨0,v1,vp,ps,Zm,loc,stk++[y],?_⟩
 refine ⟨rfl,?_⟩
 refine ⟨?_,?_⟩
 .exact k_s
 refine ⟨Ab,?_⟩
 refine H.Z8 [8,8,8,8,8,8,8]<|fun H=>H.drop 8<|fun H=>H.drop 7<|fun H=>?_
 exact H
theorem alr (H:Sat g w (Pt cp (zY m [zV mp,vt,vg]) 158::Pt mp [vp,zW m.most] 221::Sl 223 256 Xg vp ps::Sl 3 1 ZJ vt Zw::Sl 2 1 ZJ vg Zm::Sl 2 1 ZJ vl loc::Sl 2 1 ZJ vs stk::l)) (ho:x.op=36) (hb:0<=x.a/\x.a<Zm.length) (h1:1<=stk.length) (hlen:stk.length<=100000) (hp:ps.length<=8):Fc Tryz.prog 160 #[zV cp,.agg #[.int .u8 x.op,zW x.a,zW x.b,SD],vl,vs] w (fun r w'=>∃e vs' Tv ps' W4 loc' Y1,r=.tuple #[vs',zW e]/\Oh (WJ m.most x ⟨flat ps,Zw,Zm⟩ loc stk) e (flat ps') W4 loc' Y1/\ps'.length<=8/\Sat g w' (Pt cp (zY m [zV mp,vt,vg]) 158::Pt mp [Tv,zW m.most] 221::Sl 223 256 Xg Tv ps'::Sl 3 1 ZJ vt Zw::Sl 2 1 ZJ vg W4::Sl 2 1 ZJ vl loc'::Sl 2 1 ZJ vs' Y1::l)):=by
 refine Fc.of Tryz.func160 rfl k_d ?_
 obtain ⟨a,ha,IU,HZ⟩:=Fs (s:=stk) Ab
 obtain ⟨i,hi⟩:=lqa hb.1
 rw [hi] at hb ⊢
 obtain ⟨y,hy⟩:∃y,Zm[i]?=some y:=⟨_,laa Ab⟩
 have hd:WJ m.most x ⟨flat ps,Zw,Zm⟩ loc stk=⟨⟨flat ps,Zw,Zm.set i a⟩,loc,low stk 1,0⟩:=by grind [WJ]
 rw [hd]
 clear hd
 refine ZN H<|fun p1 w1 H=>Yv H 7 rfl rfl<|ZU Ab<|bk<|Z9 rfl<|zT H 0 0 zQ<|cF (Z5 Ab)<|Z9 rfl<|zT H 0 0 zQ<|cF (Z5 Ab)<|Z9 rfl<|zT H 0 0 zQ<|cF (Z5 Ab)<|Z9 rfl<|zT H 0 0 zQ<|cF (Z5 Ab)<|Z9 rfl<|zT H 0 0 zQ<|cF (Z5 Ab)<|Z9 rfl<|zT H 0 0 zQ<|cF (Z5 Ab)<|Z9 rfl<|zT H 0 0 zQ<|cT (ZL Aa)<|ZK H [] [zUp0,zUp1,zUp2,zUh3,zUp4,zUh5,zUp6,zUp7,zUp8,zUh9,zUp10,zUfr11] mixed k_d k_d<|fun w2 H=>zR rfl rfl<|zS 1 13 zQ rfl<|zR rfl rfl<|zS 0 1 zQ rfl ?_
 obtain ⟨b1,o1,E1⟩:=H.YQ 7 rfl ((stk.length)-1) Ab
 refine tk (fun _ Z=>ZG E1 Ab rfl rfl zX)<|tk (fun _ Z=>zM (Z.el 7 rfl E1 ha) 0 zL zX) ?_
 obtain ⟨b2,o2,E2⟩:=H.YQ 5 rfl (i) Ab
 refine tk (fun _ Z=>ZG E2 rfl rfl rfl zX)<|Yf H 5 rfl E2 hy 0 (a) rfl rfl rfl rfl<|fun w1 H=>NF H 7 rfl 0 ((stk.length)-1) rfl rfl Ab Ab (.inl ⟨rfl,rfl⟩) (.inr ⟨_,by first|rfl|(congr 2;omega)⟩)<|fun v1=>?_
 intro H
 refine Z6.mk ?_
 refine ⟨0,v1,vp,ps,Zm.set i a,loc,List.drop 0 (List.take (stk.length-1) stk),?_⟩
 refine ⟨rfl,?_⟩
 refine ⟨?_,?_⟩
 .exact ⟨rfl,rfl,rfl,rfl,fun _=>JS⟩
 refine ⟨Ab,?_⟩
 refine H.Z8 [7,7,7,7,7,7,7]<|fun H=>H.drop 7<|fun H=>?_
 exact H
theorem als (H:Sat g w (Pt cp (zY m [zV mp,vt,vg]) 158::Pt mp [vp,zW m.most] 221::Sl 223 256 Xg vp ps::Sl 3 1 ZJ vt Zw::Sl 2 1 ZJ vg Zm::Sl 2 1 ZJ vl loc::Sl 2 1 ZJ vs stk::l)) (ho:x.op=65\/x.op=66) (hlen:stk.length<=100000) (hp:ps.length<=8):Fc Tryz.prog 160 #[zV cp,.agg #[.int .u8 x.op,zW x.a,zW x.b,SD],vl,vs] w (fun r w'=>∃e vs' Tv ps' W4 loc' Y1,r=.tuple #[vs',zW e]/\Oh (WJ m.most x ⟨flat ps,Zw,Zm⟩ loc stk) e (flat ps') W4 loc' Y1/\ps'.length<=8/\Sat g w' (Pt cp (zY m [zV mp,vt,vg]) 158::Pt mp [Tv,zW m.most] 221::Sl 223 256 Xg Tv ps'::Sl 3 1 ZJ vt Zw::Sl 2 1 ZJ vg W4::Sl 2 1 ZJ vl loc'::Sl 2 1 ZJ vs' Y1::l)):=by
 refine Fc.of Tryz.func160 rfl k_d ?_
 have hd:WJ m.most x ⟨flat ps,Zw,Zm⟩ loc stk=⟨⟨flat ps,Zw,Zm⟩,loc,stk++[x.a],0⟩:=by grind [WJ]
 rw [hd]
 clear hd
 rcases ho with ho|ho
 .refine ZN H<|fun p1 w1 H=>Yv H 7 rfl rfl<|ZU Ab<|bk<|Z9 rfl<|zT H 0 0 zQ<|cF (Z5 Ab)<|Z9 rfl<|zT H 0 0 zQ<|cF (Z5 Ab)<|Z9 rfl<|zT H 0 0 zQ<|cF (Z5 Ab)<|Z9 rfl<|zT H 0 0 zQ<|cF (Z5 Ab)<|Z9 rfl<|zT H 0 0 zQ<|cF (Z5 Ab)<|Z9 rfl<|zT H 0 0 zQ<|cF (Z5 Ab)<|Z9 rfl<|zT H 0 0 zQ<|cF (Z5 Ab)<|Z9 rfl<|zT H 0 0 zQ<|cT (ZL Aa)<|cT (ZL Aa)<|Z9 rfl<|zT H 0 1 zQ<|ZZ H rfl rfl rfl rfl<|fun p2 w2 H=>WN (ys:=[_]) 8 H 8 rfl (H.at 0 rfl) rfl (fun y _=>rfl) rfl rfl rfl Ab Ab<|fun v1=>?_
  intro w1 H
  refine Z6.mk ?_
  refine ⟨0,v1,vp,ps,Zm,loc,stk++[x.a],?_⟩
  refine ⟨rfl,?_⟩
  refine ⟨?_,?_⟩
  .exact k_s
  refine ⟨Ab,?_⟩
  refine H.Z8 [8,8,8,8,8,8,8]<|fun H=>H.drop 8<|fun H=>H.drop 7<|fun H=>?_
  exact H
 .refine ZN H<|fun p1 w1 H=>Yv H 7 rfl rfl<|ZU Ab<|bk<|Z9 rfl<|zT H 0 0 zQ<|cF (Z5 Ab)<|Z9 rfl<|zT H 0 0 zQ<|cF (Z5 Ab)<|Z9 rfl<|zT H 0 0 zQ<|cF (Z5 Ab)<|Z9 rfl<|zT H 0 0 zQ<|cF (Z5 Ab)<|Z9 rfl<|zT H 0 0 zQ<|cF (Z5 Ab)<|Z9 rfl<|zT H 0 0 zQ<|cF (Z5 Ab)<|Z9 rfl<|zT H 0 0 zQ<|cF (Z5 Ab)<|Z9 rfl<|zT H 0 0 zQ<|cF (Z5 Ab)<|Z9 rfl<|zT H 0 0 zQ<|cT (ZL Aa)<|Z9 rfl<|zT H 0 1 zQ<|ZZ H rfl rfl rfl rfl<|fun p2 w2 H=>WN (ys:=[_]) 8 H 8 rfl (H.at 0 rfl) rfl (fun y _=>rfl) rfl rfl rfl Ab Ab<|fun v1=>?_
  intro w1 H
  refine Z6.mk ?_
  refine ⟨0,v1,vp,ps,Zm,loc,stk++[x.a],?_⟩
  refine ⟨rfl,?_⟩
  refine ⟨?_,?_⟩
  .exact k_s
  refine ⟨Ab,?_⟩
  refine H.Z8 [8,8,8,8,8,8,8]<|fun H=>H.drop 8<|fun H=>H.drop 7<|fun H=>?_
  exact H
theorem alu (H:Sat g w (Pt cp (zY m [zV mp,vt,vg]) 158::Pt mp [vp,zW m.most] 221::Sl 223 256 Xg vp ps::Sl 3 1 ZJ vt Zw::Sl 2 1 ZJ vg Zm::Sl 2 1 ZJ vl loc::Sl 2 1 ZJ vs stk::l)) (ho:x.op=63) (hlen:stk.length<=100000) (hp:ps.length<=8):Fc Tryz.prog 160 #[zV cp,.agg #[.int .u8 x.op,zW x.a,zW x.b,SD],vl,vs] w (fun r w'=>∃e vs' Tv ps' W4 loc' Y1,r=.tuple #[vs',zW e]/\Oh (WJ m.most x ⟨flat ps,Zw,Zm⟩ loc stk) e (flat ps') W4 loc' Y1/\ps'.length<=8/\Sat g w' (Pt cp (zY m [zV mp,vt,vg]) 158::Pt mp [Tv,zW m.most] 221::Sl 223 256 Xg Tv ps'::Sl 3 1 ZJ vt Zw::Sl 2 1 ZJ vg W4::Sl 2 1 ZJ vl loc'::Sl 2 1 ZJ vs' Y1::l)):=by
 refine Fc.of Tryz.func160 rfl k_d ?_
 have hd:WJ m.most x ⟨flat ps,Zw,Zm⟩ loc stk=⟨⟨flat ps,Zw,Zm⟩,loc,stk++[(ps.length:Int)],0⟩:=by
  unfold WJ
  rw [if_neg Ab,if_neg Ab,if_neg Ab,if_neg Ab,if_neg Ab,if_neg Ab,if_neg Ab,if_neg Ab,if_pos ho,TL]
 rw [hd]
 clear hd
 refine ZN H<|fun p1 w1 H=>Yv H 7 rfl rfl<|ZU Ab<|bk<|Z9 rfl<|zT H 0 0 zQ<|cF (Z5 Ab)<|Z9 rfl<|zT H 0 0 zQ<|cF (Z5 Ab)<|Z9 rfl<|zT H 0 0 zQ<|cF (Z5 Ab)<|Z9 rfl<|zT H 0 0 zQ<|cF (Z5 Ab)<|Z9 rfl<|zT H 0 0 zQ<|cF (Z5 Ab)<|Z9 rfl<|zT H 0 0 zQ<|cF (Z5 Ab)<|Z9 rfl<|zT H 0 0 zQ<|cF (Z5 Ab)<|Z9 rfl<|zT H 0 0 zQ<|cF (Z5 Ab)<|Z9 rfl<|zT H 0 0 zQ<|cF (Z5 Ab)<|Z9 rfl<|zT H 0 0 zQ<|cT (ZL Aa)<|Z9 rfl<|zT H 1 11 zQ<|H.Z8 [3,3]<|fun H=>?_
 refine Z7.mk (Fc.imp (Mem.size H) ?_)
 clear H
 rintro _ w2 ⟨rfl,H⟩
 refine ZZ H rfl rfl rfl rfl<|fun p2 w3 H=>WN (ys:=[_]) 8 H 8 rfl (H.at 0 rfl) rfl (fun y _=>rfl) rfl rfl rfl Ab Ab<|fun v1=>?_
 intro w2 H
 refine Z6.mk ?_
 refine ⟨0,v1,vp,ps,Zm,loc,stk++[(↑ps.length:Int)],?_⟩
 refine ⟨rfl,?_⟩
 refine ⟨?_,?_⟩
 .exact k_s
 refine ⟨Ab,?_⟩
 refine H.Z8 [8,8,8,8,6,6,8]<|fun H=>H.drop 8<|fun H=>H.drop 7<|fun H=>?_
 exact H
theorem alv (H:Sat g w (Pt cp (zY m [zV mp,vt,vg]) 158::Pt mp [vp,zW m.most] 221::Sl 223 256 Xg vp ps::Sl 3 1 ZJ vt Zw::Sl 2 1 ZJ vg Zm::Sl 2 1 ZJ vl loc::Sl 2 1 ZJ vs stk::l)) (ho:x.op=64) (h1:1<=stk.length) (Ud:∀v∈stk,XB v) (hm:ps.length<=m.most/\m.most<=8) (hlen:stk.length<=100000) (hp:ps.length<=8):Fc Tryz.prog 160 #[zV cp,.agg #[.int .u8 x.op,zW x.a,zW x.b,SD],vl,vs] w (fun r w'=>∃e vs' Tv ps' W4 loc' Y1,r=.tuple #[vs',zW e]/\Oh (WJ m.most x ⟨flat ps,Zw,Zm⟩ loc stk) e (flat ps') W4 loc' Y1/\ps'.length<=8/\Sat g w' (Pt cp (zY m [zV mp,vt,vg]) 158::Pt mp [Tv,zW m.most] 221::Sl 223 256 Xg Tv ps'::Sl 3 1 ZJ vt Zw::Sl 2 1 ZJ vg W4::Sl 2 1 ZJ vl loc'::Sl 2 1 ZJ vs' Y1::l)):=by
 refine Fc.of Tryz.func160 rfl k_d ?_
 obtain ⟨a,ha,IU,HZ⟩:=Fs (s:=stk) Ab
 have Fq:=Ud a HZ
 have hd:WJ m.most x ⟨flat ps,Zw,Zm⟩ loc stk=(if m.most-(ps.length:Int)<a % 4294967296 then ⟨⟨flat ps,Zw,Zm⟩,loc,low stk 1++[-1],0⟩ else ⟨⟨flat ps++List.replicate (256 * (a % 4294967296).toNat) 0,Zw,Zm⟩,loc,low stk 1++[(ps.length:Int)],0⟩):=by
  unfold WJ
  rw [if_neg Ab,if_neg Ab,if_neg Ab,if_neg Ab,if_neg Ab,if_neg Ab,if_neg Ab,if_neg Ab,if_neg Ab,if_pos ho,IU,TL]
 rw [hd]
 clear hd
 refine ZN H<|fun p1 w1 H=>Yv H 7 rfl rfl<|ZU Ab<|bk<|Z9 rfl<|zT H 0 0 zQ<|cF (Z5 k_f)<|Z9 rfl<|zT H 0 0 zQ<|cF (Z5 k_f)<|Z9 rfl<|zT H 0 0 zQ<|cF (Z5 k_f)<|Z9 rfl<|zT H 0 0 zQ<|cF (Z5 k_f)<|Z9 rfl<|zT H 0 0 zQ<|cF (Z5 k_f)<|Z9 rfl<|zT H 0 0 zQ<|cF (Z5 k_f)<|Z9 rfl<|zT H 0 0 zQ<|cF (Z5 k_f)<|Z9 rfl<|zT H 0 0 zQ<|cF (Z5 k_f)<|Z9 rfl<|zT H 0 0 zQ<|cF (Z5 k_f)<|Z9 rfl<|zT H 0 0 zQ<|cF (Z5 k_f)<|Z9 rfl<|zT H 0 0 zQ<|cT (ZL k_f)<|ZK H [] [zUp0,zUp1,zUp2,zUp3,zUp4,zUh5,zUp6,zUp7,zUp8,zUh9,zUfr10,zUp11,zUfr12] mixed k_d k_d<|fun w2 H=>zR rfl rfl<|zS 1 11 zQ rfl ?_
 obtain ⟨b1,o1,E1⟩:=H.YQ 7 rfl ((stk.length)-1) Ab
 refine tk (fun _ Z=>ZG E1 Ab rfl rfl zX)<|tk (fun _ Z=>zM (Z.el 7 rfl E1 ha) 0 zL zX)<|H.Z8 [3,3]<|fun H=>?_
 refine Z7.mk (Fc.imp (Mem.grow H _ ?_ ?_ ?_) ?_)
 .exact k_f
 .exact k_f
 .exact k_f
 clear H
 rintro _ w1 ⟨e1,⟨v'1,⟨QD,⟨rfl,⟨(⟨h2,⟨h3,h4⟩⟩|⟨h5,⟨h6,h7⟩⟩),H⟩⟩⟩⟩⟩
 .refine tk (fun _ Z=>ZG E1 Ab rfl rfl zX)<|Yf H 7 rfl E1 ha 0 (e1) rfl rfl rfl rfl<|fun w3 H=>Z6.mk ?_
  refine ⟨0,vs,v'1,QD,Zm,loc,stk.set (stk.length-1) e1,?_⟩
  refine ⟨rfl,?_⟩
  refine ⟨?_,?_⟩
  .exact gr0 h1 Ab Aa Aa
  refine ⟨?_,?_⟩
  .exact k_f
  refine H.Z8 [7,7,7,7,5,5,7]<|fun H=>H.drop 7<|fun H=>?_
  exact H
 refine tk (fun _ Z=>ZG E1 Ab rfl rfl zX)<|Yf H 7 rfl E1 ha 0 (e1) rfl rfl rfl rfl<|fun w3 H=>Z6.mk ?_
 refine ⟨0,vs,v'1,QD,Zm,loc,stk.set (stk.length-1) e1,?_⟩
 refine ⟨rfl,?_⟩
 refine ⟨?_,?_⟩
 .exact gr1 h1 Ab Aa Aa
 refine ⟨?_,?_⟩
 .exact k_f
 refine H.Z8 [7,7,7,7,5,5,7]<|fun H=>H.drop 7<|fun H=>?_
 exact H
theorem alw (H:Sat g w (Pt cp (zY m [zV mp,vt,vg]) 158::Pt mp [vp,zW m.most] 221::Sl 223 256 Xg vp ps::Sl 3 1 ZJ vt Zw::Sl 2 1 ZJ vg Zm::Sl 2 1 ZJ vl loc::Sl 2 1 ZJ vs stk::l)) (ho:36<x.op/\x.op<=255) (hw:0<wid x.op) (Ud:∀v∈stk,XB v) (hn:UQ x.op<=stk.length) (hb:0<=x.b/\x.b<=4294967295) (hlen:stk.length<=100000) (hp:ps.length<=8):Fc Tryz.prog 160 #[zV cp,.agg #[.int .u8 x.op,zW x.a,zW x.b,SD],vl,vs] w (fun r w'=>∃e vs' Tv ps' W4 loc' Y1,r=.tuple #[vs',zW e]/\Oh (WJ m.most x ⟨flat ps,Zw,Zm⟩ loc stk) e (flat ps') W4 loc' Y1/\ps'.length<=8/\Sat g w' (Pt cp (zY m [zV mp,vt,vg]) 158::Pt mp [Tv,zW m.most] 221::Sl 223 256 Xg Tv ps'::Sl 3 1 ZJ vt Zw::Sl 2 1 ZJ vg W4::Sl 2 1 ZJ vl loc'::Sl 2 1 ZJ vs' Y1::l)):=by
 refine Fc.of Tryz.func160 rfl k_d ?_
 have CP:=Sd hw
 have Cn:=Rx x.op
 have hd:WJ m.most x ⟨flat ps,Zw,Zm⟩ loc stk=_:=rfl
 rw [hd]
 clear hd
 refine ZN H<|fun p1 w1 H=>Yv H 7 rfl rfl<|ZU Ab<|bk<|Z9 rfl<|zT H 0 0 zQ<|cF (Z5 Ab)<|Z9 rfl<|zT H 0 0 zQ<|cF (Z5 Ab)<|Z9 rfl<|zT H 0 0 zQ<|cF (Z5 Ab)<|Z9 rfl<|zT H 0 0 zQ<|cF (Z5 Ab)<|Z9 rfl<|zT H 0 0 zQ<|cF (Z5 Ab)<|Z9 rfl<|zT H 0 0 zQ<|cF (Z5 Ab)<|Z9 rfl<|zT H 0 0 zQ<|cF (Z5 Ab)<|Z9 rfl<|zT H 0 0 zQ<|cF (Z5 Ab)<|Z9 rfl<|zT H 0 0 zQ<|cF (Z5 Ab)<|Z9 rfl<|zT H 0 0 zQ<|cF (Z5 Ab)<|Z9 rfl<|zT H 0 0 zQ<|cF (Z5 Ab)<|Z9 rfl<|zT H 0 0 zQ ?_
 refine Z7.mk (Fc.imp (YZ.Lp _ _) ?_)
 rintro _ _ ⟨⟨r1,⟨rfl,h1⟩⟩,rfl⟩
 refine cT (Y9 Ab)<|ZC (H.at 0 rfl) 0 rfl rfl rfl<|H.Z8 [7,6,6,6,6,6]<|fun H=>?_
 refine Z7.mk (Fc.imp (Rn.alk H Ab Ab Ab Ab Ab Ab Ab) ?_)
 clear H
 rintro _ w2 ⟨e1,⟨Zx,⟨QD,⟨TK,⟨rfl,⟨h2,⟨h3,H⟩⟩⟩⟩⟩⟩⟩
 refine Z6.mk ?_
 refine ⟨e1,Zx,vp,QD,Zm,loc,TK,?_⟩
 refine ⟨rfl,?_⟩
 refine ⟨?_,?_⟩
 .grind
 refine ⟨Ab,?_⟩
 refine H.Z8 [5,7,6,6,6,6,6]<|fun H=>H.drop 7<|fun H=>?_
 exact H
theorem alx (H:Sat g w (Pt cp (zY m [zV mp,vt,vg]) 158::Pt mp [vp,zW m.most] 221::Sl 223 256 Xg vp ps::Sl 3 1 ZJ vt Zw::Sl 2 1 ZJ vg Zm::Sl 2 1 ZJ vl loc::Sl 2 1 ZJ vs stk::l)) (ho:36<x.op/\x.op<=255) (hw:¬0<wid x.op) (hq:(Xi x.op).2.2=true) (c1:x.op≠63/\x.op≠64/\x.op≠65/\x.op≠66) (Ud:∀v∈stk,XB v) (hn:UQ x.op<=stk.length) (hT:Fold.IV g) (hlen:stk.length<=100000) (hp:ps.length<=8):Fc Tryz.prog 160 #[zV cp,.agg #[.int .u8 x.op,zW x.a,zW x.b,SD],vl,vs] w (fun r w'=>∃e vs' Tv ps' W4 loc' Y1,r=.tuple #[vs',zW e]/\Oh (WJ m.most x ⟨flat ps,Zw,Zm⟩ loc stk) e (flat ps') W4 loc' Y1/\ps'.length<=8/\Sat g w' (Pt cp (zY m [zV mp,vt,vg]) 158::Pt mp [Tv,zW m.most] 221::Sl 223 256 Xg Tv ps'::Sl 3 1 ZJ vt Zw::Sl 2 1 ZJ vg W4::Sl 2 1 ZJ vl loc'::Sl 2 1 ZJ vs' Y1::l)):=by
 refine Fc.of Tryz.func160 rfl k_d ?_
 have Cn:=Rx x.op
 obtain ⟨n1,n2,n3⟩:=acZ hq hw c1.1 c1.2.1 c1.2.2.1 c1.2.2.2
 have hnn:(Xi x.op).1.length=1\/(Xi x.op).1.length=2:=by
  rw [n2]
  by_cases h:(XW x.op).1.length=1
  .omega
  .exact .inr (acY (a:=0) (b:=0) n1 h).2.2.2
 unfold UQ at hn
 rw [if_neg Ab,if_neg Ab,if_pos Ab] at hn
 have hd:WJ m.most x ⟨flat ps,Zw,Zm⟩ loc stk=(if (Xi x.op).1.length=1 then ⟨⟨flat ps,Zw,Zm⟩,loc,low stk 1++[(Xw.U4 x.op (top stk 0)).1],(Xw.U4 x.op (top stk 0)).2⟩ else ⟨⟨flat ps,Zw,Zm⟩,loc,low stk 2++[(Xw.U5 x.op (top stk 1) (top stk 0)).1],(Xw.U5 x.op (top stk 1) (top stk 0)).2⟩):=by grind [WJ]
 rw [hd]
 clear hd
 refine ZN H<|fun p1 w1 H=>Yv H 7 rfl rfl<|ZU Ab<|bk<|Z9 rfl<|zT H 0 0 zQ<|cF (Z5 Ab)<|Z9 rfl<|zT H 0 0 zQ<|cF (Z5 Ab)<|Z9 rfl<|zT H 0 0 zQ<|cF (Z5 Ab)<|Z9 rfl<|zT H 0 0 zQ<|cF (Z5 Ab)<|Z9 rfl<|zT H 0 0 zQ<|cF (Z5 Ab)<|Z9 rfl<|zT H 0 0 zQ<|cF (Z5 Ab)<|Z9 rfl<|zT H 0 0 zQ<|cF (Z5 Ab)<|Z9 rfl<|zT H 0 0 zQ<|cF (Z5 Ab)<|Z9 rfl<|zT H 0 0 zQ<|cF (Z5 Ab)<|Z9 rfl<|zT H 0 0 zQ<|cF (Z5 Ab)<|Z9 rfl<|zT H 0 0 zQ<|cF (Z5 Ab)<|Z9 rfl<|zT H 0 0 zQ ?_
 refine Z7.mk (Fc.imp (YZ.Lp _ _) ?_)
 rintro _ _ ⟨⟨r1,⟨rfl,h1⟩⟩,rfl⟩
 refine cF (Zk Ab)<|Z9 rfl<|zT H 0 0 zQ<|H.Z8 [7]<|fun H=>?_
 refine Z7.mk (Fc.imp (Rn.agT H Ab _ Ab Ab Ab Ab Ab) ?_)
 clear H
 rintro _ w2 ⟨Zx,⟨TK,⟨e1,⟨rfl,⟨h2,H⟩⟩⟩⟩⟩
 refine Z6.mk ?_
 refine ⟨e1,Zx,vp,ps,Zm,loc,TK,?_⟩
 refine ⟨rfl,?_⟩
 refine ⟨?_,?_⟩
 .exact an3 Aa
 refine ⟨Ab,?_⟩
 refine H.Z8 [0,7,7,7,7,7,7]<|fun H=>H.drop 7<|fun H=>?_
 exact H
end
end Rn
namespace WY
open Go Y4 Go.RowKit
open YZ Zo X4 YS Valid
section
variable {g:ZB} {w:World} {l:List As} {m:Zh}
theorem within (H:Sat g w l) (a many all:Int) (ha:-2147483648<=a/\a<=2147483647) (hm:0<=many/\many<=1000000) (hl:0<=all/\all<=1000000):Fc Tryz.prog 43 #[zW a,zW many,zW all] w (fun r w'=>∃b,r=.bool b/\(b=true↔(0<=a/\a+many<=all))/\Sat g w' l):=by
 refine Fc.of Tryz.func43 rfl k_d<|Yq rfl rfl<|Xl Ab rfl rfl<|ZU Ab<|Z6.mk ?_
 exact ⟨_,rfl,by simp [YN];omega,H⟩
end
end WY
namespace WY
open Go Y4 Go.RowKit
open YZ Zo X4 YS Valid
section
variable {g:ZB} {w:World} {l:List As} {m:Zh}
theorem afj {l:List Int} {i:Nat} (h:l=List.replicate i (-1)):l++[-1]=List.replicate (i+1) (-1):=by
 rw [h,List.replicate_succ']
theorem afk {l:List Int} {xs:List (Int × Bool × Int)} {i:Nat} {x:Int × Bool × Int} (h:l=(xs.take i).map (·.2.2)) (hx:xs[i]?=some x):l++[x.2.2]=(xs.take (i+1)).map (·.2.2):=by grind [List.take_add_one]
theorem ahI {x:Sk} (h:FP x.d=0):(-2147483648<=x.pl/\x.pl<=2147483647)/\x.fs.length<=16:=by
 unfold FP at h
 obtain ⟨h1,h2⟩:=Zl.1 h
 have h3:=(VN.1 h2).1
 unfold OO at h1
 by_cases hq:-2147483648<=x.d.1/\x.d.1<=2147483647
 .exact ⟨hq,by have:x.d.2.length=x.fs.length:=rfl;omega⟩
 .omega
theorem aly {x:Int × List UInt8} (h:Mw x=0):(-2147483648<=x.1/\x.1<=2147483647)/\x.2.length<=64:=by
 unfold Mw at h
 obtain ⟨h1,h2⟩:=Zl.1 h
 unfold OO at h1
 unfold Mi at h2
 refine ⟨Ab,?_⟩
 .omega
theorem alz (H:Sat g w l) (hT:Nn g) (hm:Xu g m):Fc Tryz.prog 14 #[.agg (zY m []).toArray] w (fun r w'=>∃(g':ZB) (mem:List UInt8) (ts gs:List Int) (vt vg:Value) (e:Int),r=.tuple #[.agg #[.string (bs mem),vt,vg],zW e]/\Ext g g'/\Z0 g' ZJ Wu 1 vt ts/\Z0 g' ZJ Wu 1 vg gs/\Fy m mem ts gs e/\Sat g' w' l):=by
 refine Fc.of Tryz.func14 rfl k_d ?_
 have ZQ:=hm.types
 have ZP:=hm.funcs
 have Zi:=hm.globals
 have Zv:=hm.Zz
 have XE:=hm.V0
 have XP:=hm.elems
 have VL:=hm.data
 by_cases h0:Wy m.d=0
 .obtain ⟨AB,hI,Bx⟩:=Uk (WZ h0).1
  have P:=UF AB
  have ac4:=P.table
  have ac5:=P.pages
  have ai1:=P.most
  have adA:=P.globals
  have amA:=P.elems
  have an4:=P.data
  obtain ⟨tb,htb⟩:=lqa ac4.1
  obtain ⟨pg,hpg⟩:=lqa ac5.1
  refine ZN H<|fun p1 w1 H=>ZW H rfl<|fun p2 w2 H=>ZC (H.at 1 rfl) 0 rfl rfl rfl ?_
  refine Z7.mk (Fc.imp (Valid.Sh H Ab Ab) ?_)
  clear H
  rintro _ w1 ⟨e1,⟨rfl,⟨h1,H⟩⟩⟩
  refine cF (XC Ab)<|Z9 rfl<|zT H 1 9 zQ<|ZF XP rfl ?_
  refine YO.rule (α:=Nat) (0) (fun x_=>[(24,zW x_)]) (fun x_ w_=>(x_<=m.elems.length)/\(AI (fun x:Sk=>FA x.pl x.fs.length m.table) m.elems x_)/\Sat g w_ ((Pt p2 [.string (bs []),.slice none 0 0,.slice none 0 0] 34::Pt p1 (zY m []) 30::l))) (fun x_=>m.elems.length-x_) ?_ ?_ ?_
  .exact k_a
  .try simp only
   refine ⟨Ab,?_⟩
   refine ⟨?_,?_⟩
   .exact AI.zero
   exact H
  clear H
  rintro i f_ w_ ⟨hi,hA,H⟩
  try simp only at hi hA H ⊢
  rcases lAa i m.elems.length with hlt|hge
  .obtain ⟨x,hx⟩:∃x,m.elems[i]?=some x:=⟨_,laa hlt⟩
   have Iy:=lda hx
   have K4:=Z0.all XP x Iy
   have QL:=K4.fs
   have IA:=ahI (P.Ja x Iy)
   refine cT (Y9 Ab)<|bk ?_
   obtain ⟨b1,o1,E1,F1,ZD⟩:=Z0.YQ XP hx
   have PW:=ZD.pl
   have VM:=ZD.fs
   refine ZG E1 rfl rfl rfl<|ZC (H.X9 F1) 0 rfl rfl rfl<|ZW H rfl<|fun p3 w3 H=>ZH H 0 rfl rfl rfl (by simp only [List.all_cons,List.all_nil,Z0.one VM,Z0.one QL,Z0.one VL,Z0.one XP,Z0.one XE,Z0.one Zv,Z0.one Zi,Z0.one ZP,Z0.one ZQ];rfl)<|fun w4 H=>Z9 rfl<|zT H 0 0 zQ<|Z9 rfl<|zT H 0 1 zQ<|ZF VM rfl<|Z9 rfl<|zT H 2 3 zQ ?_
   refine Z7.mk (Fc.imp (WY.within H _ _ _ Ab Ab Ab) ?_)
   clear H
   rintro _ w3 ⟨b2,⟨rfl,⟨h2,H⟩⟩⟩
   refine cI (fun c1=>?_) (fun c1=>?_)
   .replace c1:=TE h2 (SU (c1))
    refine Zr rfl rfl rfl<|ZH H 1 rfl rfl rfl rfl<|fun w5 H=>XG (H.at 1 rfl) 0 rfl rfl rfl<|Z6.mk ?_
    exact ⟨g,[],[],[],_,_,_,rfl,Ext.refl _,Z0.OX _ _ _ _,Z0.OX _ _ _ _,mk2 Ab hA hx Ab,((H.del 0).del 0).del 0⟩
   replace c1:=h2.1 (SS (c1))
   refine ZU Ab ?_
   refine WO.mk (i+1) (Zs rfl Ab (ZV)) ?_ ?_
   .refine ⟨Ab,?_⟩
    refine ⟨?_,?_⟩
    .exact hA.step hx (J0.2 Ab)
    refine H.Z8 [2,2]<|fun H=>H.drop 2<|fun H=>?_
    exact H
   omega
  .have hE:=hA.fin hge
   refine cF (Zk Ab)<|Z9 rfl<|zT H 1 4 zQ<|ZU Ab<|Sp (en:=Te) (s:=1) H ((0:UInt8)) ((m.pages * 256).toNat) ((m.pages * 256).toNat) 1 rfl rfl rfl (fun _=>rfl) Ab Ab Ab Ab Ab<|fun v1=>?_
   intro w3 H
   refine Z9 rfl<|zT H 2 10 zQ<|ZF VL rfl ?_
   rw [show (m.pages * 256).toNat=256 * m.pages.toNat by omega] at H
   refine YO.rule (α:=Nat × List UInt8) (0,List.replicate (256 * m.pages.toNat) 0) (fun x_=>[(46,zW x_.1)]) (fun x_ w_=>(x_.1<=m.data.length)/\(AI (fun x:Int × List UInt8=>FA x.1 x.2.length (m.pages * 256)) m.data x_.1)/\(LM (256 * m.pages.toNat) m.data x_.1 x_.2)/\Sat g w_ ((Sl 5 1 Te v1 x_.2::Pt p2 [.string (bs []),.slice none 0 0,.slice none 0 0] 34::Pt p1 (zY m []) 30::l))) (fun x_=>m.data.length-x_.1) ?_ ?_ ?_
   .exact k_a
   .try simp only
    refine ⟨Ab,?_⟩
    refine ⟨?_,?_⟩
    .exact AI.zero
    refine ⟨?_,?_⟩
    .exact LM.zero
    exact H
   clear H
   rintro ⟨i2,cur⟩ f_ w_ ⟨hi2,hB,hL,H⟩
   try simp only at hi2 hB hL H ⊢
   have R9:=hL.len
   rcases lAa i2 m.data.length with Lg|Ld
   .obtain ⟨x,hx⟩:∃x,m.data[i2]?=some x:=⟨_,laa Lg⟩
    have Iy:=lda hx
    have K4:=Z0.all VL x Iy
    have IA:=aly (P.akK x Iy)
    refine cT (Y9 Ab)<|bk ?_
    obtain ⟨b1,o1,E1,F1,ZD⟩:=Z0.YQ VL hx
    have PW:=ZD.pl
    have acs:=ZD.bytes
    refine ZG E1 rfl rfl rfl<|ZC (H.X9 F1) 0 rfl rfl rfl<|ZW H rfl<|fun p3 w4 H=>ZH H 0 rfl rfl rfl rfl<|fun w5 H=>Z9 rfl<|zT H 0 0 zQ<|Z9 rfl<|zT H 0 1 zQ<|XF rfl<|Yv H 1 rfl rfl ?_
    refine Z7.mk (Fc.imp (WY.within H _ _ _ Ab Ab Ab) ?_)
    clear H
    rintro _ w4 ⟨b2,⟨rfl,⟨h2,H⟩⟩⟩
    refine cI (fun c1=>?_) (fun c1=>?_)
    .replace c1:=TE h2 (SU (c1))
     refine Zr rfl rfl rfl<|ZH H 2 rfl rfl rfl rfl<|fun w6 H=>XG (H.at 2 rfl) 0 rfl rfl rfl<|Z6.mk ?_
     exact ⟨g,[],[],[],_,_,_,rfl,Ext.refl _,Z0.OX _ _ _ _,Z0.OX _ _ _ _,mk3 Ab hE hB hx Ab,(((H.del 0).del 0).del 0).del 0⟩
    replace c1:=h2.1 (SS (c1))
    refine ZK H [] [zUp0,zUp1,zUh2,zUp3,zUp4,zUh5,zUfr6] mixed k_d k_d<|fun w6 H=>zR rfl rfl<|zS 0 0 zQ rfl ?_
    obtain ⟨v2,V1⟩:=H.vw 1 rfl ((x.fst).toNat) ((cur).length) Ab Ab
    refine tk (fun _ Z=>Wr V1 rfl rfl (.inr ⟨_,by first|rfl|(congr 2;omega)⟩) (.inl zX) zX)<|zR rfl rfl<|zS 0 1 zQ rfl<|agh H 1 rfl V1 Ab rfl rfl<|fun w9 H=>ZU Ab ?_
    refine WO.mk ((i2+1,List.take x.fst.toNat cur++x.snd++List.drop (x.fst.toNat+x.snd.length) cur)) (Zs rfl Ab (ZV)) ?_ ?_
    .refine ⟨Ab,?_⟩
     refine ⟨?_,?_⟩
     .exact hB.step hx (J0.2 Ab)
     refine ⟨?_,?_⟩
     .exact hL.step hx Ab
     refine H.Z8 [3,3,3]<|fun H=>H.drop 3<|fun H=>?_
     exact H
    omega
   .have hD:=hB.fin Ld
    have hmem:=hL.fin Ld
    refine cF (Zk Ab)<|ZW H rfl<|fun p3 w4 H=>Z9 rfl<|zT H 3 3 zQ ?_
    replace H:=H.UY (en:=ZJ) (s:=1) 3 (fun _=>rfl)
    have aoX:m.table.toNat=tb:=by omega
    refine YO.rule (α:=Nat × Value × List Int) (0,.slice none 0 0,[]) (fun x_=>[(70,zW x_.1)]) (fun x_ w_=>(x_.1<=tb)/\(x_.2.2=List.replicate x_.1 (-1))/\Sat g w_ ((Sl 3 1 ZJ x_.2.1 x_.2.2::Pt p3 [.string (bs []),x_.2.1,.slice none 0 0] 34::Sl 5 1 Te v1 cur::Pt p2 [.string (bs []),.slice none 0 0,.slice none 0 0] 34::Pt p1 (zY m []) 30::l))) (fun x_=>tb-x_.1) ?_ ?_ ?_
    .exact k_a
    .try simp only
     refine ⟨Ab,?_⟩
     refine ⟨?_,?_⟩
     .simp
     exact H
    clear H
    rintro ⟨i3,vt,tc⟩ f_ w_ ⟨AU,DJ,H⟩
    try simp only at AU DJ H ⊢
    have Nq:tc.length=i3:=by grind
    rcases lAa i3 tb with akQ|akR
    .refine cT (Y9 Ab)<|bk<|Z9 rfl<|zT H 1 1 zQ<|ZZ H rfl rfl rfl rfl<|fun p4 w5 H=>WN (ys:=[_]) 8 H 1 rfl (H.at 0 rfl) rfl (fun y _=>rfl) rfl rfl rfl Ab Ab<|fun v2=>?_
     intro w6 H
     refine Z9 rfl<|Yh H 2 rfl rfl rfl (H.one 1 rfl)<|fun w5 H=>ZU Ab ?_
     refine WO.mk ((i3+1,v2,tc++[-1])) (Zs rfl Ab (ZV)) ?_ ?_
     .refine ⟨Ab,?_⟩
      refine ⟨?_,?_⟩
      .exact afj DJ
      refine H.Z8 [5,5,5,5,5]<|fun H=>H.drop 5<|fun H=>?_
      exact H
     omega
    .have an5:i3=m.table.toNat:=by omega
     have hLT:LT m.table.toNat m.elems 0 tc:=by
      rw [DJ,an5];exact LT.zero
     refine cF (Zk Ab)<|Z9 rfl<|zT H 4 9 zQ<|ZF XP rfl ?_
     refine YO.rule (α:=Nat × List Int) (0,tc) (fun x_=>[(81,zW x_.1)]) (fun x_ w_=>(x_.1<=m.elems.length)/\(LT m.table.toNat m.elems x_.1 x_.2)/\Sat g w_ ((Sl 3 1 ZJ vt x_.2::Pt p3 [.string (bs []),vt,.slice none 0 0] 34::Sl 5 1 Te v1 cur::Pt p2 [.string (bs []),.slice none 0 0,.slice none 0 0] 34::Pt p1 (zY m []) 30::l))) (fun x_=>m.elems.length-x_.1) ?_ ?_ ?_
     .exact k_a
     .grind
     clear H
     rintro ⟨i4,tu⟩ f_ w_ ⟨hi4,hJ,H⟩
     try simp only at hi4 hJ H ⊢
     have aoY:=hJ.len
     rcases lAa i4 m.elems.length with an6|alA
     .obtain ⟨x,hx⟩:∃x,m.elems[i4]?=some x:=⟨_,laa an6⟩
      have Iy:=lda hx
      have K4:=Z0.all XP x Iy
      have QL:=K4.fs
      have IA:=ahI (P.Ja x Iy)
      have aoH:=J0.1 (Um.1 hE x Iy)
      refine cT (Y9 Ab)<|bk ?_
      obtain ⟨b1,o1,E1,F1,ZD⟩:=Z0.YQ XP hx
      have PW:=ZD.pl
      have VM:=ZD.fs
      refine ZG E1 rfl rfl rfl<|ZC (H.X9 F1) 0 rfl rfl rfl<|ZW H rfl<|fun p4 w5 H=>ZH H 0 rfl rfl rfl (by simp only [List.all_cons,List.all_nil,H.one 1 rfl,H.one 3 rfl,Z0.one VM,Z0.one QL,Z0.one VL,Z0.one XP,Z0.one XE,Z0.one Zv,Z0.one Zi,Z0.one ZP,Z0.one ZQ];rfl)<|fun w6 H=>ZK H [] [zUp0,zUh1,zUp2,zUh3,zUp4,zUp5,zUh6,zUfr7] mixed k_d k_d<|fun w5 H=>zR rfl rfl<|zS 2 1 zQ rfl<|zR rfl rfl<|zS 0 0 zQ rfl ?_
      obtain ⟨v2,V1⟩:=H.vw 1 rfl ((x.pl).toNat) ((tu).length) Ab Ab
      refine tk (fun _ Z=>Wr V1 rfl rfl (.inr ⟨_,by first|rfl|(congr 2;omega)⟩) (.inl zX) zX)<|zR rfl rfl<|zS 0 1 zQ rfl<|agi H 1 rfl V1 (H.rd QL) Ab (fun y _=>rfl) rfl rfl<|fun w9 H=>ZU Ab ?_
      refine WO.mk ((i4+1,List.take x.pl.toNat tu++x.fs++List.drop (x.pl.toNat+x.fs.length) tu)) (Zs rfl Ab (ZV)) ?_ ?_
      .refine ⟨Ab,?_⟩
       refine ⟨?_,?_⟩
       .exact hJ.step hx Ab (Z0.all QL)
       refine H.Z8 [5,5,5,5,5]<|fun H=>H.drop 5<|fun H=>?_
       exact H
      omega
     .have Rt:=hJ.fin alA
      refine cF (Zk Ab)<|Z9 rfl<|zT H 4 6 zQ<|ZF Zi rfl ?_
      replace H:=H.UY (en:=ZJ) (s:=1) 2 (fun _=>rfl)
      refine YO.rule (α:=Nat × Value × List Int) (0,.slice none 0 0,[]) (fun x_=>[(97,zW x_.1)]) (fun x_ w_=>(x_.1<=m.globals.length)/\(x_.2.2=(m.globals.take x_.1).map (·.2.2))/\Sat g w_ ((Sl 2 1 ZJ x_.2.1 x_.2.2::Sl 3 1 ZJ vt tu::Pt p3 [.string (bs []),vt,x_.2.1] 34::Sl 5 1 Te v1 cur::Pt p2 [.string (bs []),.slice none 0 0,.slice none 0 0] 34::Pt p1 (zY m []) 30::l))) (fun x_=>m.globals.length-x_.1) ?_ ?_ ?_
      .exact k_a
      .grind
      clear H
      rintro ⟨i5,vg,gc⟩ f_ w_ ⟨hi5,hG,H⟩
      try simp only at hi5 hG H ⊢
      have hgl:gc.length=i5:=by grind
      rcases lAa i5 m.globals.length with alB|an7
      .obtain ⟨x,hx⟩:∃x,m.globals[i5]?=some x:=⟨_,laa alB⟩
       have K4:=Z0.all Zi x (lda hx)
       have aoI:=K4.start
       refine cT (Y9 Ab)<|bk ?_
       obtain ⟨b1,o1,E1,F1,ZD⟩:=Z0.YQ Zi hx
       have Q9:=ZD.kind
       have Sj:=ZD.start
       refine ZG E1 rfl rfl rfl<|ZC (H.X9 F1) 0 rfl rfl rfl<|ZW H rfl<|fun p4 w5 H=>ZH H 0 rfl rfl rfl rfl<|fun w6 H=>Z9 rfl<|zT H 3 2 zQ<|Z9 rfl<|zT H 0 2 zQ<|ZZ H rfl rfl rfl rfl<|fun p5 w5 H=>WN (ys:=[_]) 8 H 2 rfl (H.at 0 rfl) rfl (fun y _=>rfl) rfl rfl rfl Ab Ab<|fun v2=>?_
       intro w6 H
       refine Z9 rfl<|Yh H 4 rfl rfl rfl (H.one 2 rfl)<|fun w5 H=>ZU Ab ?_
       refine WO.mk ((i5+1,v2,gc++[x.snd.snd])) (Zs rfl Ab (ZV)) ?_ ?_
       .refine ⟨Ab,?_⟩
        refine ⟨?_,?_⟩
        .exact afk hG hx
        refine H.Z8 [7,7,7,7,7,7]<|fun H=>H.drop 7<|fun H=>H.drop 6<|fun H=>?_
        exact H
       omega
      .have It:gc=m.globals.map (·.2.2):=by grind
       have hgo:∀y∈gc,XB y:=fun y hy=>by
        rw [It] at hy
        obtain ⟨z,hz,rfl⟩:=lXa.1 hy
        exact (Z0.all Zi z hz).start
       refine cF (Zk Ab)<|Sq H 3 rfl rfl rfl rfl<|Z9 rfl<|Yh H 2 rfl rfl rfl rfl<|fun w5 H=>ZC (H.at 2 rfl) 0 rfl rfl rfl<|ZH H 4 rfl rfl rfl (by simp only [List.all_cons,List.all_nil,H.one 0 rfl,H.one 1 rfl,H.one 3 rfl,Z0.one VL,Z0.one XP,Z0.one XE,Z0.one Zv,Z0.one Zi,Z0.one ZP,Z0.one ZQ];rfl)<|fun w6 H=>XG (H.at 4 rfl) 0 rfl rfl rfl<|H.Vh 0 Wu rfl hgo<|fun g1 e1 AA=>?_
       intro H
       refine H.Vh 0 Wu rfl hJ.ok<|fun g2 e2 htF=>?_
       intro H
       replace AA:=AA.ext e2
       have E:=e1.trans e2
       refine Z6.mk ?_
       exact ⟨g2,_,_,_,_,_,_,rfl,E,htF,AA,mk4 h0.symm hE hD hmem Rt It,(((H.del 0).del 0).del 0).del 0⟩
 .refine ZN H<|fun p1 w1 H=>ZW H rfl<|fun p2 w2 H=>ZC (H.at 1 rfl) 0 rfl rfl rfl ?_
  refine Z7.mk (Fc.imp (Valid.Sh H Ab Ab) ?_)
  clear H
  rintro _ w1 ⟨e1,⟨rfl,⟨h1,H⟩⟩⟩
  refine cT (Wd Ab)<|Zr rfl rfl rfl<|ZH H 0 rfl rfl rfl rfl<|fun w3 H=>XG (H.at 0 rfl) 0 rfl rfl rfl<|Z6.mk ?_
  exact ⟨g,[],[],[],_,_,_,rfl,Ext.refl _,Z0.OX _ _ _ _,Z0.OX _ _ _ _,mk1 Aa Ab,(H.del 0).del 0⟩
end
end WY
namespace WY
open Go Y4 Go.RowKit
open YZ Zo X4 YS Valid
section
variable {g:ZB} {w:World} {l:List As} {m:Zh}
theorem sameZero (H:Sat g w l) (vt vg:Value) (ht:Z0 g ZJ Wu 1 vt []) (hg:Z0 g ZJ Wu 1 vg []):Fc Tryz.prog 15 #[.agg #[.string (bs []),vt,vg],.agg #[.string (bs []),.slice none 0 0,.slice none 0 0]] w (fun r w'=>r=.bool true/\Sat g w' l):=by
 refine Fc.of Tryz.func15 rfl k_d<|ZN H<|fun p1 w1 H=>ZN H<|fun p2 w2 H=>Z9 rfl<|zT H 1 0 zQ<|Z9 rfl<|zT H 0 0 zQ<|ad0<|Z9 rfl<|zT H 1 1 zQ<|Z9 rfl<|zT H 0 1 zQ ?_
 refine Z7.mk (Fc.imp (YS.eqN H _ _ _ _ ht (VZ.nil _ _ _)) ?_)
 clear H
 rintro _ w1 ⟨b1,⟨rfl,⟨h1,H⟩⟩⟩
 refine br (fun c1=>?_) (fun c1=>?_)
 .replace c1:=h1.1 (c1)
  refine Z9 rfl<|zT H 1 2 zQ<|Z9 rfl<|zT H 0 2 zQ ?_
  refine Z7.mk (Fc.imp (YZ.FV _ _ _ _ _ (Rd.tt (H.rd hg)) (VZ.nil _ _ _)) ?_)
  rintro _ w3 ⟨b2,⟨rfl,⟨h2,H'⟩⟩⟩
  refine H.X8 H' ?_
  clear H H'
  intro H
  refine Z6.mk ?_
  refine ⟨?_,?_⟩
  .exact congrArg Value.bool (h2.2 Aa)
  refine H.drop 1<|fun H=>H.drop 0<|fun H=>?_
  exact H
 replace c1:=TE h1 (c1)
 refine Z6.mk ?_
 exact absurd rfl Aa
theorem Fp (H:Sat g w l) (k a:Int):Fc Tryz.prog 48 #[.int .u8 k,zW a] w (fun v w'=>∃r,v=zW r/\r=SJ k a/\Sat g w' l):=by
 refine Fc.of Tryz.func48 rfl k_d ?_
 refine cI (fun h=>?_) (fun h=>?_)
 .have h:=ZS h
  refine Zt rfl rfl<|Zt rfl rfl ?_
  exact Z6.mk ⟨_,rfl,by unfold SJ;rw [if_pos h],H⟩
 have h:=ZR h
 exact Z6.mk ⟨_,rfl,by unfold SJ;rw [if_neg h],H⟩
end
end WY
namespace Rn
open Go Y4 Go.RowKit
open YZ Zo X4 YS Valid Mem
section
variable {g:ZB} {w:World} {l:List As} {m:Zh} {cp mp:Nat} {vp vt vg vl vs SD:Value} {ps:List W0} {Zw Zm loc stk:List Int} {x:ZX}
theorem do_ (H:Sat g w (Pt cp (zY m [zV mp,vt,vg]) 158::Pt mp [vp,zW m.most] 221::Sl 223 256 Xg vp ps::Sl 3 1 ZJ vt Zw::Sl 2 1 ZJ vg Zm::Sl 2 1 ZJ vl loc::Sl 2 1 ZJ vs stk::l)) (hD:G0 x ⟨flat ps,Zw,Zm⟩ loc stk) (hT:Fold.IV g) (hop:x.op<=255) (hm:ps.length<=m.most/\m.most<=8) (hlen:stk.length<=100000):Fc Tryz.prog 160 #[zV cp,.agg #[.int .u8 x.op,zW x.a,zW x.b,SD],vl,vs] w (fun r w'=>∃e vs' Tv ps' W4 loc' Y1,r=.tuple #[vs',zW e]/\Oh (WJ m.most x ⟨flat ps,Zw,Zm⟩ loc stk) e (flat ps') W4 loc' Y1/\ps'.length<=8/\Sat g w' (Pt cp (zY m [zV mp,vt,vg]) 158::Pt mp [Tv,zW m.most] 221::Sl 223 256 Xg Tv ps'::Sl 3 1 ZJ vt Zw::Sl 2 1 ZJ vg W4::Sl 2 1 ZJ vl loc'::Sl 2 1 ZJ vs' Y1::l)):=by
 have hp:ps.length<=8:=by omega
 have hn:=hD.need
 have n1:x.op=26\/x.op=33\/x.op=34\/x.op=36->1<=stk.length:=fun h=>by unfold UQ at hn;rw [if_pos h] at hn;exact hn
 rcases hD.op with h|h|h|⟨Mu,hq⟩
 .exact alm H h (n1 (.inl h)) hlen hp
 .exact aln H h (by unfold UQ at hn;rw [if_neg Ab,if_pos h] at hn;exact hn) hlen hp
 .by_cases h2:x.op=32
  .exact alo H h2 (hD.loc h.1 Ab) hlen hp
  by_cases h3:x.op=33\/x.op=34
  .exact alp H h3 (hD.loc h.1 Ab) (n1 Ab) hlen hp
  by_cases h5:x.op=35
  .exact alq H h5 (hD.Zm (.inl h5)) hlen hp
  .exact alr H Ab (hD.Zm Ab) (n1 Ab) hlen hp
 .by_cases h5:x.op=65\/x.op=66
  .exact als H h5 hlen hp
  by_cases h3:x.op=63
  .exact alu H h3 hlen hp
  by_cases h4:x.op=64
  .have h1:1<=stk.length:=by
    unfold UQ at hn
    rw [if_neg Ab,if_neg Ab,if_pos Ab,h4,show Xi 64=([127],[127],true) by decide] at hn;exact hn
   exact alv H h4 h1 hD.HN hm hlen hp
  by_cases hw:0<wid x.op
  .exact alw H ⟨Mu,hop⟩ hw hD.HN hn (hD.off hw) hlen hp
  .exact alx H ⟨Mu,hop⟩ hw hq ⟨h3,h4,by omega,by omega⟩ hD.HN hn hT hlen hp
theorem alC (P:UW m.d) {n:Int} (h0:0<=n) (h1:n<(m.Zz.length:Int)+m.funcs.length):∃(i:Nat) (t:XK),m.types[i]?=some t/\t.d=YP m.d n /\
  (n<m.Zz.length->∃y,m.Zz[n.toNat]?=some y/\y.2=i)/\(¬n<m.Zz.length->∃f,m.funcs[n.toNat-m.Zz.length]?=some f/\f.ty=i):=by
 have hfl:m.d.funcs.length=m.funcs.length:=lea ..
 have hil:m.d.Zz.length=m.Zz.length:=rfl
 have Nq:m.d.types.length=m.types.length:=lea ..
 by_cases h:n<m.Zz.length
 .have hi:n.toNat<m.Zz.length:=by omega
  have hm:=P.imp _ (lnb (show n.toNat<m.d.Zz.length from hi))
  have hm:0<=m.Zz[n.toNat].2/\m.Zz[n.toNat].2<m.d.types.length:=hm
  obtain ⟨i,B4⟩:=lqa hm.1
  have hit:i<m.types.length:=by omega
  refine ⟨i,m.types[i],laa hit,?_,fun _=>⟨_,laa hi,B4⟩,fun h'=>absurd h h'⟩
  obtain ⟨t,e1,e2,_⟩:=N7 P h0 (show n<YW m.d from h)
  rw [e2]
  unfold Xo QC at e1
  rw [if_neg Ab] at e1
  have EI:(ZE m.d).Zz.length=m.Zz.length:=lea ..
  rw [EI,if_pos h] at e1
  have e3:(ZE m.d).Zz[n.toNat]?=some m.Zz[n.toNat].2:=by
   show (m.Zz.map (·.2))[_]?=_
   rw [lya,laa hi];rfl
  rw [e3,B4] at e1
  have e1:(m.types.map XK.d)[i]?=some t:=e1
  rw [lya,laa hit] at e1
  exact Option.some.inj e1
 .have hi:n.toNat-m.Zz.length<m.funcs.length:=by omega
  have hmem:m.funcs[n.toNat-m.Zz.length].d∈m.d.funcs:=lXa.2 ⟨_,lnb hi,rfl⟩
  have hm:=(P.fn _ hmem).ty
  have hm:0<=m.funcs[n.toNat-m.Zz.length].ty/\m.funcs[n.toNat-m.Zz.length].ty<m.d.types.length:=hm
  obtain ⟨i,B4⟩:=lqa hm.1
  have hit:i<m.types.length:=by omega
  refine ⟨i,m.types[i],laa hit,?_,fun h'=>absurd h' h,fun _=>⟨_,laa hi,B4⟩⟩
  obtain ⟨_,e2⟩:=PF P (n:=n-YW m.d) (by grind [YW]) (by grind [YW])
  rw [show YW m.d+(n-YW m.d)=n by omega] at e2
  rw [e2]
  have e3:Zf m.d (n-YW m.d)=m.funcs[n.toNat-m.Zz.length].d:=by
   unfold Zf YW
   rw [show (n-(m.d.Zz.length:Int)).toNat=n.toNat-m.Zz.length by omega]
   show (m.funcs.map Yt.d).getD _ _=_
   rw [lia0,lya,laa hi];rfl
  rw [e3]
  unfold UX
  show _=(m.types.map XK.d).getD m.funcs[n.toNat-m.Zz.length].ty.toNat _
  rw [B4,lga,lia0,lya,laa hit];rfl
theorem alD (H:Sat g w l) (u v:Value) (xs ys:List Int) (hx:Z0 g Yz U8 1 u xs) (hy:Z0 g Yz U8 1 v ys) (hl:xs.length<=1000) :
  Fc Tryz.prog 166 #[u,v] w (fun r w'=>∃b,r=.bool b/\(b=true↔xs=ys)/\Sat g w' l):=by
 refine Fc.of Tryz.func166 rfl k_d<|ZF hx rfl<|ZF hy rfl ?_
 refine cI (fun c1=>?_) (fun c1=>?_)
 .replace c1:=YI (c1)
  refine Z6.mk ?_
  exact ⟨false,rfl,⟨nofun,fun h=>absurd (congrArg List.length h) Ab⟩,H⟩
 replace c1:=YH (c1)
 refine ZF hx rfl ?_
 refine YO.rule (α:=Nat) (0) (fun x_=>[(13,zW x_)]) (fun x_ w_=>(x_<=xs.length)/\(∀q,q<x_->xs[q]?=ys[q]?)/\Sat g w_ (l)) (fun x_=>xs.length-x_) ?_ ?_ ?_
 .exact k_a
 .grind
 clear H
 rintro i f_ w_ ⟨hi,he,H⟩
 try simp only at hi he H ⊢
 refine cI (fun c2=>?_) (fun c2=>?_)
 .replace c2:=YF (c2)
  refine bk<|ZK H [] [zUp0,zUp1,zUp2,zUh3,zUp4,zUp5,zUp6,zUh7,zUp8] mixed k_d k_d<|fun w1 H=>?_
  obtain ⟨x1,hx1⟩:∃x,(xs)[(i)]?=some x:=⟨_,laa Ab⟩
  obtain ⟨b1,o1,E1,F1,ZD⟩:=Z0.YQ hx hx1
  refine tk (fun _ Z=>ZG E1 rfl rfl rfl zX)<|tk (fun _ Z=>zM (Z.X9 F1) 0 zL zX) ?_
  obtain ⟨x2,Re⟩:∃x,(ys)[(i)]?=some x:=⟨_,laa Ab⟩
  obtain ⟨b2,o2,E2,F2,XA⟩:=Z0.YQ hy Re
  refine tk (fun _ Z=>ZG E2 rfl rfl rfl zX)<|tk (fun _ Z=>zM (Z.X9 F2) 0 zL zX) ?_
  refine cI (fun c3=>?_) (fun c3=>?_)
  .replace c3:=YI (c3)
   refine Z6.mk ?_
   exact ⟨false,rfl,⟨nofun,fun h=>absurd (by subst h;exact Option.some.inj (hx1.symm.trans Re)) Aa⟩,H⟩
  replace c3:=YH (c3)
  refine ZU Ab ?_
  refine WO.mk (i+1) (Zs rfl Ab (ZV)) ?_ ?_
  .grind
  omega
 replace c2:=YE (c2)
 refine Z6.mk ?_
 exact ⟨true,rfl,⟨fun _=>Ref.OU Ab Ab he,fun _=>rfl⟩,H⟩
theorem alE (H:Sat g w l) (a b:XK) (ha:WA g a) (hb:WA g b) (h1:a.Zb.length<=1000) (h2:a.out.length<=1000) :
  Fc Tryz.prog 120 #[.agg #[a.vi,a.vo],.agg #[b.vi,b.vo]] w (fun r w'=>∃q,r=.bool q/\(q=true↔a.Zb=b.Zb/\a.out=b.out)/\Sat g w' l):=by
 refine Fc.of Tryz.func120 rfl k_d ?_
 have ai2:=ha.Zb
 have ai3:=ha.out
 have ai4:=hb.Zb
 have ai5:=hb.out
 refine ZN H<|fun p1 w1 H=>ZN H<|fun p2 w2 H=>Z9 rfl<|zT H 1 0 zQ<|Z9 rfl<|zT H 0 0 zQ ?_
 refine Z7.mk (Fc.imp (Rn.alD H _ _ _ _ ai2 ai4 ?_) ?_)
 .grind
 clear H
 rintro _ w1 ⟨b1,⟨rfl,⟨h3,H⟩⟩⟩
 refine br (fun c1=>?_) (fun c1=>?_)
 .replace c1:=h3.1 (c1)
  refine Z9 rfl<|zT H 1 1 zQ<|Z9 rfl<|zT H 0 1 zQ ?_
  refine Z7.mk (Fc.imp (Rn.alD H _ _ _ _ ai3 ai5 ?_) ?_)
  .grind
  clear H
  rintro _ w3 ⟨b2,⟨rfl,⟨h4,H⟩⟩⟩
  refine Z6.mk ?_
  refine ⟨b2,?_⟩
  refine ⟨?_,?_⟩
  .grind
  refine ⟨?_,?_⟩
  .grind
  refine H.drop 1<|fun H=>H.drop 0<|fun H=>?_
  exact H
 replace c1:=TE h3 (c1)
 refine Z6.mk ?_
 refine ⟨false,?_⟩
 refine ⟨?_,?_⟩
 .grind
 refine ⟨?_,?_⟩
 .grind
 refine H.drop 1<|fun H=>H.drop 0<|fun H=>?_
 exact H
theorem L2 (H:Sat g w (Pt cp (zY m [zV mp,vt,vg]) 158::l)) (hm:Xu g m) (P:UW m.d) (n:Int) (h0:0<=n) (h1:n<(m.Zz.length:Int)+m.funcs.length) :
  Fc Tryz.prog 75 #[zV cp,zW n] w (fun r w'=>∃t:XK,r=.agg #[t.vi,t.vo]/\t∈m.types/\WA g t/\t.d=YP m.d n/\t.Zb.length<=4/\t.out.length<=1/\Sat g w' (Pt cp (zY m [zV mp,vt,vg]) 158::l)):=by
 refine Fc.of Tryz.func75 rfl k_d ?_
 have ZQ:=hm.types
 have Zv:=hm.Zz
 have ZP:=hm.funcs
 obtain ⟨i,t,k1,k2,k3,k4⟩:=alC P h0 h1
 have Mj:=lda k1
 have hto:=Z0.all ZQ t Mj
 have IT:t.Zb.length<=4:=(P.sig t.d (lXa.2 ⟨t,Mj,rfl⟩)).1
 have alF:t.out.length<=1:=(P.sig t.d (lXa.2 ⟨t,Mj,rfl⟩)).2
 have hni:=P.ni
 have hnf:=P.nf
 have hfl:m.d.funcs.length=m.funcs.length:=lea ..
 have hil:m.d.Zz.length=m.Zz.length:=rfl
 obtain ⟨k,rfl⟩:=lqa h0
 rw [lga] at k3 k4
 by_cases h:(k:Int)<m.Zz.length
 .obtain ⟨y,q1,q2⟩:=k3 h
  have hlt:=(lba.1 k1).1
  have hyb:0<=y.2/\y.2<m.types.length:=by omega
  have Az:m.types[y.2.toNat]?=some t:=by grind
  refine ZW H rfl<|fun p1 w1 H=>Z9 rfl<|Z9 rfl<|zT H 1 1 zQ<|ZF Zv rfl<|cT (Y9 Aa)<|ZK H [] [zUp0,zUp1,zUp2,zUp3,zUh4,zUp5,zUp6,zUp7,zUp8,zUh9,zUp10,zUp11,zUp12,zUh13,zUp14,zUh15,zUfr16] mixed k_d k_d<|fun w2 H=>zR rfl rfl<|zR rfl rfl<|zS 1 0 zQ rfl<|zR rfl rfl<|zR rfl rfl<|zS 1 1 zQ rfl ?_
  obtain ⟨b1,o1,E1,F1,ZD⟩:=Z0.YQ Zv q1
  have UI:=ZD.name
  have Xd:=ZD.ty
  refine tk (fun _ Z=>ZG E1 rfl rfl rfl zX)<|zR rfl rfl<|tk (fun _ Z=>zM (Z.X9 F1) 1 zL zX) ?_
  obtain ⟨b2,o2,E2,F2,XA⟩:=Z0.YQ ZQ Az
  have YK:=XA.Zb
  have YX:=XA.out
  refine tk (fun _ Z=>ZG E2 Ab rfl rfl zX)<|tk (fun _ Z=>ZC (Z.X9 F2) 0 rfl rfl rfl zX)<|ZH H 0 rfl rfl rfl (by grind [Z0.one])<|fun w1 H=>XG (H.at 0 rfl) 0 rfl rfl rfl<|Z6.mk ?_
  refine ⟨t,?_⟩
  refine ⟨rfl,?_⟩
  refine ⟨Ab,?_⟩
  refine ⟨Ab,?_⟩
  refine ⟨Ab,?_⟩
  refine ⟨Ab,?_⟩
  refine ⟨Ab,?_⟩
  refine H.Z8 [1]<|fun H=>H.drop 1<|fun H=>?_
  exact H
 .obtain ⟨f,q1,q2⟩:=k4 h
  have hlt:=(lba.1 k1).1
  have hyb:0<=f.ty/\f.ty<m.types.length:=by omega
  have Az:m.types[f.ty.toNat]?=some t:=by grind
  refine ZW H rfl<|fun p1 w1 H=>Z9 rfl<|Z9 rfl<|zT H 1 1 zQ<|ZF Zv rfl<|cF (Zk Ab)<|ZK H [] [zUp0,zUp1,zUp2,zUp3,zUh4,zUp5,zUp6,zUp7,zUp8,zUh9,zUp10,zUp11,zUp12,zUp13,zUp14,zUh15,zUp16,zUp17,zUp18,zUp19,zUh20,zUp21,zUh22,zUfr23] mixed k_d k_d<|fun w2 H=>zR rfl rfl<|zR rfl rfl<|zS 1 0 zQ rfl<|zR rfl rfl<|zR rfl rfl<|zS 1 2 zQ rfl<|zR rfl rfl<|zR rfl rfl<|zS 1 1 zQ rfl<|tk (fun _ Z=>ZF Zv rfl zX)<|ZU Ab ?_
  obtain ⟨b1,o1,E1,F1,ZD⟩:=Z0.YQ ZP q1
  have Xd:=ZD.ty
  have Zj:=ZD.loc
  have Zp:=ZD.body
  refine tk (fun _ Z=>ZG E1 Ab rfl rfl zX)<|zR rfl rfl<|tk (fun _ Z=>zM (Z.X9 F1) 0 zL zX) ?_
  obtain ⟨b2,o2,E2,F2,XA⟩:=Z0.YQ ZQ Az
  have YK:=XA.Zb
  have YX:=XA.out
  refine tk (fun _ Z=>ZG E2 Ab rfl rfl zX)<|tk (fun _ Z=>ZC (Z.X9 F2) 0 rfl rfl rfl zX)<|ZH H 0 rfl rfl rfl (by grind [Z0.one])<|fun w1 H=>XG (H.at 0 rfl) 0 rfl rfl rfl<|Z6.mk ?_
  refine ⟨t,?_⟩
  refine ⟨rfl,?_⟩
  refine ⟨Ab,?_⟩
  refine ⟨Ab,?_⟩
  refine ⟨Ab,?_⟩
  refine ⟨Ab,?_⟩
  refine ⟨Ab,?_⟩
  refine H.Z8 [1]<|fun H=>H.drop 1<|fun H=>?_
  exact H
theorem ce0 {t tx:XK} {D:Xv} {f:Int} (h:t.d=D) (hc:¬(t.Zb=tx.Zb/\t.out=tx.out)):((0:Int),List.drop 0 (List.take (stk.length-1) stk),(25:Int))=if D.Zb≠tx.d.Zb\/D.out≠tx.d.out then (0,low stk 1,25) else (f,low stk 1,0):=by
 subst h
 rw [JS,if_pos]
 refine Decidable.by_contra fun hn=>hc ⟨Decidable.by_contra fun h1=>hn (.inl h1),Decidable.by_contra fun h2=>hn (.inr h2)⟩
theorem ce1 {t tx:XK} {D:Xv} {f:Int} (h:t.d=D) (hc:t.Zb=tx.Zb/\t.out=tx.out):(f,List.drop 0 (List.take (stk.length-1) stk),(0:Int))=if D.Zb≠tx.d.Zb\/D.out≠tx.d.out then (0,low stk 1,25) else (f,low stk 1,0):=by
 subst h
 rw [JS,if_neg]
 rintro (h|h)
 .exact h hc.1
 .exact h hc.2
theorem Pz (H:Sat g w (Pt cp (zY m [zV mp,vt,vg]) 158::Sl 3 1 ZJ vt Zw::Sl 2 1 ZJ vs stk::l)) (hm:Xu g m) (P:UW m.d) (ho:x.op=16\/x.op=17) (Rt:∀n∈Zw,-1<=n/\n<(m.Zz.length:Int)+m.funcs.length) (h1:x.op=17->1<=stk.length/\0<=x.a/\x.a<m.types.length)
  (Ud:∀v∈stk,XB v) (hlen:stk.length<=100000) (Nq:Zw.length<=1000) :
  Fc Tryz.prog 196 #[zV cp,.agg #[.int .u8 x.op,zW x.a,zW x.b,SD],vs] w (fun r w'=>∃f vs' Y1 e,r=.tuple #[zW f,vs',zW e]/\(f,Y1,e)=Zc m.d Zw x stk/\Sat g w' (Pt cp (zY m [zV mp,vt,vg]) 158::Sl 3 1 ZJ vt Zw::Sl 2 1 ZJ vs' Y1::l)):=by
 refine Fc.of Tryz.func196 rfl k_d ?_
 have ZQ:=hm.types
 have Zv:=hm.Zz
 have ZP:=hm.funcs
 unfold Zc
 rcases ho with ho|ho
 .rw [if_pos ho]
  refine ZN H<|fun p1 w1 H=>Z9 rfl<|zT H 0 0 zQ<|cT (ZL Aa)<|Z9 rfl<|zT H 0 1 zQ<|Z6.mk ?_
  refine ⟨x.a,vs,stk,0,?_⟩
  refine ⟨rfl,?_⟩
  refine ⟨rfl,?_⟩
  refine H.Z8 [3,3,3]<|fun H=>H.drop 3<|fun H=>?_
  exact H
 .rw [if_neg Ab]
  obtain ⟨h1,h2,h3⟩:=h1 ho
  obtain ⟨a,ha,IU,HZ⟩:=Fs (s:=stk) Ab
  have Fq:=Ud a HZ
  rw [IU]
  have hN0:0<=a % 4294967296:=by omega
  have Ay:m.types[x.a.toNat]?=some m.types[x.a.toNat]:=laa Ab
  have K4:=Z0.all ZQ _ (lda Ay)
  have Tc:m.d.types.getD x.a.toNat sz=m.types[x.a.toNat].d:=by
   show (m.types.map XK.d).getD _ _=_
   rw [lia0,lya,Ay];rfl
  rw [Tc]
  generalize m.types[x.a.toNat]=tx at *
  by_cases hNl:(a % 4294967296).toNat<Zw.length
  .obtain ⟨f,BZ⟩:∃f,Zw[(a % 4294967296).toNat]?=some f:=⟨_,laa hNl⟩
   have hNb:=Rt f (lda BZ)
   rw [afg BZ]
   by_cases hf:f<0
   .rw [if_pos (.inr hf)]
    refine ZN H<|fun p1 w1 H=>Z9 rfl<|zT H 0 0 zQ<|cF (Z5 Ab)<|Yv H 3 rfl rfl<|ZU Ab ?_
    obtain ⟨b1,o1,E1⟩:=H.YQ 3 rfl ((stk.length)-1) Ab
    refine ZG E1 Ab rfl rfl<|zM (H.el 3 rfl E1 ha) 0 zL<|Yq rfl rfl<|Xl Ab rfl rfl<|Yv H 3 rfl rfl<|ZU Ab<|NF H 3 rfl 0 ((stk.length)-1) rfl rfl Ab Ab (.inl ⟨rfl,rfl⟩) (.inr ⟨_,by first|rfl|(congr 2;omega)⟩)<|fun v1=>?_
    intro H
    refine Z9 rfl<|zT H 1 12 zQ<|Yv H 2 rfl rfl<|Xm (YA Ab)<|Z9 rfl<|zT H 1 12 zQ ?_
    obtain ⟨b2,o2,E2⟩:=H.YQ 2 rfl (a % 4294967296).toNat Ab
    refine ZG E2 Ab rfl rfl<|zM (H.el 2 rfl E2 BZ) 0 zL<|cT (Y9 Aa)<|Z6.mk ?_
    refine ⟨0,v1,List.drop 0 (List.take (stk.length-1) stk),24,?_⟩
    refine ⟨rfl,?_⟩
    refine ⟨rfl,?_⟩
    refine H.Z8 [3,3,3]<|fun H=>H.drop 3<|fun H=>?_
    exact H
   .rw [if_neg Ab]
    refine ZN H<|fun p1 w1 H=>Z9 rfl<|zT H 0 0 zQ<|cF (Z5 Ab)<|Yv H 3 rfl rfl<|ZU Ab ?_
    obtain ⟨b1,o1,E1⟩:=H.YQ 3 rfl ((stk.length)-1) Ab
    refine ZG E1 Ab rfl rfl<|zM (H.el 3 rfl E1 ha) 0 zL<|Yq rfl rfl<|Xl Ab rfl rfl<|Yv H 3 rfl rfl<|ZU Ab<|NF H 3 rfl 0 ((stk.length)-1) rfl rfl Ab Ab (.inl ⟨rfl,rfl⟩) (.inr ⟨_,by first|rfl|(congr 2;omega)⟩)<|fun v1=>?_
    intro H
    refine Z9 rfl<|zT H 1 12 zQ<|Yv H 2 rfl rfl<|Xm (YA Ab)<|Z9 rfl<|zT H 1 12 zQ ?_
    obtain ⟨b2,o2,E2⟩:=H.YQ 2 rfl (a % 4294967296).toNat Ab
    refine ZG E2 Ab rfl rfl<|zM (H.el 2 rfl E2 BZ) 0 zL<|cF (Zk Ab)<|Z9 rfl<|zT H 1 12 zQ<|ZG E2 Ab rfl rfl<|zM (H.el 2 rfl E2 BZ) 0 zL<|ZK H [] [zUp0,zUp1,zUp3,zUp4,zUp5,zUp6,zUh7,zUp8,zUh9,zUp10,zUh11,zUf2,zUfr12,zUp13] mixed k_d k_d<|fun w2 H=>zR rfl rfl<|zR rfl rfl<|zS 1 0 zQ rfl<|zR rfl rfl<|zS 0 1 zQ rfl ?_
    obtain ⟨b3,o3,E3,F1,ZD⟩:=Z0.YQ ZQ Ay
    have PY:=ZD.Zb
    have PX:=ZD.out
    refine tk (fun _ Z=>ZG E3 Ab rfl rfl zX)<|tk (fun _ Z=>ZC (Z.X9 F1) 0 rfl rfl rfl zX)<|H.Z8 [1]<|fun H=>?_
    refine Z7.mk (Fc.imp (Rn.L2 H Ab Ab _ Ab Ab) ?_)
    clear H
    rintro _ w1 ⟨t1,⟨rfl,⟨h4,⟨h5,⟨h6,⟨h7,⟨h8,H⟩⟩⟩⟩⟩⟩⟩
    refine H.Z8 [3,3,2,3]<|fun H=>Y3.mk (H) ?_
    refine Z7.mk (Fc.imp (Rn.alE H _ _ Ab Ab Ab Ab) ?_)
    clear H
    rintro _ w3 ⟨q1,⟨rfl,⟨h9,H⟩⟩⟩
    refine cI (fun c1=>?_) (fun c1=>?_)
    .replace c1:=TE h9 (SU (c1))
     refine Z6.mk ?_
     refine ⟨0,v1,List.drop 0 (List.take (stk.length-1) stk),25,?_⟩
     refine ⟨rfl,?_⟩
     refine ⟨?_,?_⟩
     .exact ce0 Aa Aa
     refine H.Z8 [3,3,3]<|fun H=>H.drop 3<|fun H=>?_
     exact H
    replace c1:=h9.1 (SS (c1))
    refine Z6.mk ?_
    refine ⟨f,v1,List.drop 0 (List.take (stk.length-1) stk),0,?_⟩
    refine ⟨rfl,?_⟩
    refine ⟨?_,?_⟩
    .exact ce1 Aa Aa
    refine H.Z8 [3,3,3]<|fun H=>H.drop 3<|fun H=>?_
    exact H
  .rw [if_pos (.inl Ab)]
   refine ZN H<|fun p1 w1 H=>Z9 rfl<|zT H 0 0 zQ<|cF (Z5 Ab)<|Yv H 3 rfl rfl<|ZU Ab ?_
   obtain ⟨b1,o1,E1⟩:=H.YQ 3 rfl ((stk.length)-1) Ab
   refine ZG E1 Ab rfl rfl<|zM (H.el 3 rfl E1 ha) 0 zL<|Yq rfl rfl<|Xl Ab rfl rfl<|Yv H 3 rfl rfl<|ZU Ab<|NF H 3 rfl 0 ((stk.length)-1) rfl rfl Ab Ab (.inl ⟨rfl,rfl⟩) (.inr ⟨_,by first|rfl|(congr 2;omega)⟩)<|fun v1=>?_
   intro H
   refine Z9 rfl<|zT H 1 12 zQ<|Yv H 2 rfl rfl<|VG (Yg Ab)<|cT rfl<|Z6.mk ?_
   refine ⟨0,v1,List.drop 0 (List.take (stk.length-1) stk),24,?_⟩
   refine ⟨rfl,?_⟩
   refine ⟨rfl,?_⟩
   refine H.Z8 [3,3,3]<|fun H=>H.drop 3<|fun H=>?_
   exact H
end
end Rn
namespace Rn
open Go Y4 Go.RowKit
open YZ Zo X4 YS Valid Mem
structure CV where
 fn:Int
 at_:Int
 vl:Value
 loc:List Int
 vs:Value
 stk:List Int
def WH (c:CV):List Value:=[.int .i64 c.fn,.int .i64 c.at_,c.vl,c.vs]
def CV.d (c:CV):YU:=⟨c.fn,c.at_,c.loc,c.stk⟩
section
variable {g:ZB} {w:World} {l:List As} {vc:Value} {cs:List CV} {i b o:Nat}
theorem Py (E:El vc 4 i b o) (c:CV) (hx:cs[i]?=some c) (H:Sat g w (Sl 79 4 WH vc cs::Sl 2 1 ZJ c.vs c.stk::l)) (h1:1<=c.stk.length) (hlen:c.stk.length<=100000) :
  Fc Tryz.prog 162 #[.pointer (some ⟨b,o,none⟩)] w (fun r w'=>∃vs' t,r=zW t/\t=top c.stk 0/\Sat g w' (Sl 79 4 WH vc (cs.set i ⟨c.fn,c.at_,c.vl,c.loc,vs',low c.stk 1⟩)::Sl 2 1 ZJ vs' (low c.stk 1)::l)):=by
 refine Fc.of Tryz.func162 rfl k_d ?_
 obtain ⟨a,ha,IU,HZ⟩:=Fs (s:=c.stk) Ab
 rw [IU]
 have hst:=H.one 1 rfl
 refine ZK H [] [zUp0,zUp1,zUp2,zUh3,zUp4,zUp5,zUp6,zUh7,zUp8,zUp9,zUp10,zUh11,zUp12] mixed k_d k_d<|fun w1 H=>zR rfl rfl<|tk (fun _ Z=>zM (Z.el 0 rfl E hx) 3 zL zX)<|zR rfl rfl<|tk (fun _ Z=>zM (Z.el 0 rfl E hx) 3 zL zX) ?_
 obtain ⟨a1,c1,V1⟩:=H.form 1 rfl
 refine tk (fun _ Z=>W2 V1 rfl zX)<|ZU Ab ?_
 obtain ⟨b1,o1,E1⟩:=H.YQ 1 rfl ((c.stk.length)-1) Ab
 refine tk (fun _ Z=>ZG E1 Ab rfl rfl zX)<|tk (fun _ Z=>zM (Z.el 1 rfl E1 ha) 0 zL zX)<|ZK H [] [zUp0,zUp1,zUp2,zUp3,zUh4,zUp5,zUp6,zUp7,zUh8,zUp9,zUp10,zUp11,zUp12,zUp13,zUfr14] mixed k_d k_d<|fun w2 H=>zR rfl rfl<|tk (fun _ Z=>zM (Z.el 0 rfl E hx) 3 zL zX)<|zR rfl rfl<|tk (fun _ Z=>zM (Z.el 0 rfl E hx) 3 zL zX)<|tk (fun _ Z=>W2 V1 rfl zX)<|ZU Ab ?_
 obtain ⟨v1,V2⟩:=H.vw 1 rfl (0) (((c.stk.length)-1)) Ab Ab
 refine tk (fun _ Z=>Wr V2 rfl rfl (.inl zX) (.inr ⟨_,by first|rfl|(congr 2;omega)⟩) zX)<|zR rfl rfl<|Yf H 0 rfl E hx 3 (⟨c.fn,c.at_,c.vl,c.loc,(v1),low c.stk 1⟩) rfl (by simp only [Bool.and_true,H.one 0 rfl,H.one 1 rfl,Vw.one V2,hst]) rfl rfl<|fun w1 H=>Z6.mk ?_
 refine ⟨v1,a,?_⟩
 refine ⟨?_,?_⟩
 .simp
 refine ⟨Ab,?_⟩
 exact H.Ib 1 rfl V2
theorem JR (E:El vc 4 i b o) (c:CV) (hx:cs[i]?=some c) (H:Sat g w (Sl 79 4 WH vc cs::Sl 2 1 ZJ c.vs c.stk::l)) (j:Yl) (h0:0<=j.height) (h1:0<=j.keep) (hf:j.height+j.keep<=c.stk.length) (hlen:c.stk.length<=100000) :
  Fc Tryz.prog 113 #[.pointer (some ⟨b,o,none⟩),.agg #[zW j.at_,zW j.keep,zW j.height]] w (fun r w'=>∃vs',Sat g w' (Sl 79 4 WH vc (cs.set i ⟨c.fn,j.at_,c.vl,c.loc,vs',c.stk.take j.height.toNat++c.stk.drop (c.stk.length-j.keep.toNat)⟩)::Sl 2 1 ZJ vs' (c.stk.take j.height.toNat++c.stk.drop (c.stk.length-j.keep.toNat))::l)):=by
 refine Fc.of Tryz.func113 rfl k_d ?_
 have hst:=H.one 1 rfl
 obtain ⟨kk,hkk⟩:=lqa h1
 obtain ⟨hh,hhh⟩:=lqa h0
 rw [hkk,hhh,lga,lga]
 refine ZN H<|fun p1 w1 H=>ZK H [] [zUp0,zUp1,zUp2,zUh3,zUp4,zUp5,zUp6,zUh7,zUp8,zUp9,zUh10,zUp11,zUp12,zUp13] mixed k_d k_d<|fun w2 H=>zR rfl rfl<|tk (fun _ Z=>zM (Z.el 1 rfl E hx) 3 zL zX)<|zR rfl rfl<|tk (fun _ Z=>zM (Z.el 1 rfl E hx) 3 zL zX) ?_
 obtain ⟨a1,c1,V1⟩:=H.form 2 rfl
 refine tk (fun _ Z=>W2 V1 rfl zX)<|zR rfl rfl<|zS 0 1 zQ rfl<|ZU Ab ?_
 obtain ⟨v1,V2⟩:=H.vw 2 rfl (((c.stk.length)-(kk))) ((c.stk).length) Ab Ab
 refine tk (fun _ Z=>Wr V2 rfl rfl (.inr ⟨_,by first|rfl|(congr 2;omega)⟩) (.inl zX) zX)<|ZK H [] [zUp0,zUp1,zUp2,zUp3,zUh4,zUp5,zUh6,zUp7,zUp8,zUfr9,zUp10,zUp11,zUfr12] mixed k_d k_d<|fun w1 H=>zR rfl rfl<|tk (fun _ Z=>zM (Z.el 1 rfl E hx) 3 zL zX)<|zR rfl rfl<|zS 0 2 zQ rfl ?_
 obtain ⟨v2,V3⟩:=H.vw 2 rfl (0) ((hh)) Ab Ab
 refine tk (fun _ Z=>Wr V3 rfl rfl (.inl zX) (.inr ⟨_,by first|rfl|(congr 2;omega)⟩) zX)<|ahr 8 H 2 rfl V3 V2 (fun y _=>rfl) rfl rfl rfl Ab Ab<|fun v3=>?_
 intro w2 H
 refine zR rfl rfl<|Yf H 1 rfl E hx 3 (⟨c.fn,c.at_,c.vl,c.loc,(v3),c.stk.take hh++c.stk.drop (c.stk.length-kk)⟩) rfl (by simp only [Bool.and_true,H.one 1 rfl,H.one 2 rfl,Vw.one V3,Vw.one V2,hst]) rfl rfl<|fun w1 H=>Z9 rfl<|zT H 0 0 zQ<|Z9 rfl ?_
 have hx1:(cs.set i { fn:=c.fn,at_:=c.at_,vl:=c.vl,loc:=c.loc,vs:=v3,stk:=List.take hh c.stk++List.drop (c.stk.length-kk) c.stk })[i]?=some _:=Vv hx
 refine Yf H 1 rfl E hx1 1 (⟨c.fn,j.at_,c.vl,c.loc,_,c.stk.take hh++c.stk.drop (c.stk.length-kk)⟩) rfl rfl rfl rfl<|fun w2 H=>Z6.mk ?_
 refine ⟨v3,?_⟩
 refine H.Z8 [2,2]<|fun H=>H.drop 2<|fun H=>?_
 refine H.cg (Yy (OY ?_) (Yy rfl (rfl)))
 (simp;done)
end
end Rn
namespace Rn
open Go Y4 Go.RowKit
open YZ Zo X4 YS Valid Mem
section
variable {g:ZB} {w:World} {l:List As} {m:Zh} {pr cp mp:Nat} {vw vc vt vg va:Value} {host:Int} {cs:List CV} {args:List Int} {c u:CV}
theorem ai6 (H:Sat g w (Pt pr [zV cp,vw,vc,zW host] 148::Pt cp (zY m [zV mp,vt,vg]) 158::Sl 79 4 WH vc cs::Sl 2 1 ZJ va args::l)) (hm:Xu g m) (n:Nat) (f:Yt) (hf:m.funcs[n]?=some f) (h1:f.loc.length<=16) (h2:args.length<=16) (h3:cs.length<=100) (hnf:m.funcs.length<=16) :
  Fc Tryz.prog 79 #[zV pr,zW n,va] w (fun r w'=>∃Mh Qc,Sat g w' (Pt pr [zV cp,vw,Mh,zW host] 148::Pt cp (zY m [zV mp,vt,vg]) 158::Sl 79 4 WH Mh (cs++[⟨n,0,Qc,args++List.replicate f.loc.length 0,.slice none 0 0,[]⟩])::Sl 2 1 ZJ Qc (args++List.replicate f.loc.length 0)::Sl 2 1 ZJ (.slice none 0 0) []::l)):=by
 refine Fc.of Tryz.func79 rfl k_d ?_
 have ZP:=hm.funcs
 have hfo:=Z0.all ZP f (lda hf)
 have agU:=hfo.loc
 replace H:=H.UY (en:=ZJ) (s:=1) 2 (fun _=>rfl)
 refine Z9 rfl<|zT H 1 0 zQ<|Z9 rfl<|Z9 rfl<|zT H 2 2 zQ ?_
 obtain ⟨b1,o1,E1,F1,ZD⟩:=Z0.YQ ZP hf
 have Xd:=ZD.ty
 have Zj:=ZD.loc
 have Zp:=ZD.body
 refine ZG E1 rfl rfl rfl<|Z9 rfl<|zM (H.X9 F1) 1 zL<|ZF Zj rfl<|akm (zx:=(0:Int)) 8 H 4 rfl rfl rfl rfl rfl rfl rfl Ab Ab<|fun v1=>?_
 intro w1 H
 refine Z9 rfl<|zT H 1 2 zQ ?_
 obtain ⟨a1,c1,rfl⟩:=H.form 4 rfl
 refine Zr rfl rfl rfl<|ZZ H rfl rfl rfl rfl<|fun p1 w2 H=>WN (ys:=[⟨n,0,_,args++List.replicate f.loc.length 0,.slice none 0 0,[]⟩]) 64 H 4 rfl (H.at 0 rfl) rfl (fun y hy=>by rw [lsa.1 hy];simp only [Rn.WH,List.all_cons,List.all_nil,H.one 1 rfl,H.one 4 rfl,H.one 5 rfl,Z0.one Zp,Z0.one Zj,Z0.one agU,Z0.one ZP];rfl) rfl rfl rfl Ab Ab<|fun v1=>?_
 intro w1 H
 refine Z9 rfl<|Yh H 2 rfl rfl rfl (H.one 4 rfl)<|fun w2 H=>Z6.mk ?_
 refine ⟨v1,Value.slice a1 (args++List.replicate f.loc.length 0).length c1,?_⟩
 refine H.Z8 [1,5,5,5,5]<|fun H=>H.drop 5<|fun H=>?_
 exact H
theorem ac6 (H:Sat g w (Sl 2 1 ZJ va args::l)) (hl:args.length<=100000):Fc Tryz.prog 50 #[va] w (fun u w'=>Sat g w' (Sl 2 1 ZJ u args::Sl 2 1 ZJ va args::l)):=by
 refine Fc.of Tryz.func50 rfl k_d ?_
 rcases H.R7 0 rfl with ⟨Mq,Mo⟩|⟨b1,o1,c1,V1⟩
 .subst Mq
  subst Mo
  refine Xf rfl<|cT rfl<|Z6.mk ?_
  replace H:=H.UY (en:=ZJ) (s:=1) (2) (fun _=>rfl)
  exact H
 subst V1
 refine Xf rfl<|cF rfl<|ZZ H rfl rfl rfl rfl<|fun p1 w1 H=>H.Wx (n:=0) (en:=ZJ) (s:=1) 0 rfl [] rfl rfl (fun _=>rfl) rfl<|fun H=>T4 8 H 0 rfl (H.De (ok:=fun _=>True) 1 rfl (fun _ _=>trivial)) (fun y _=>rfl) rfl rfl rfl (by grind) (by grind)<|fun v1=>?_
 intro w2 H
 refine Z6.mk ?_
 exact H
theorem NX {v v1:Value} {xs:List Int} {a:Nat} (H:Sat g w (Sl 2 1 ZJ v xs::l)) (V:Vw v 1 xs.length a xs.length v1) (hl:xs.length<=100000):Fc Tryz.prog 50 #[v1] w (fun u w'=>Sat g w' (Sl 2 1 ZJ u (xs.drop a)::Sl 2 1 ZJ v xs::l)):=by
 refine Fc.of Tryz.func50 rfl k_d ?_
 have hle:=V.le
 obtain ⟨A,q,he,h0⟩:∃A q,v1=.slice A (xs.length-a) q/\(A=none->xs.drop a=[]):=by
  obtain ⟨ad,cap,hv,_,_,_,_,Qq⟩:=V
  refine ⟨_,_,Qq,fun hn=>?_⟩
  cases ad with
  | none =>
   rcases (H.off 0 rfl).1 with ⟨_,hx⟩|⟨_,_,_,_,h,_⟩
   .grind
   .grind
  | some p =>
   split at hn
   .grind
   .grind
 cases A with
 | none =>
  rw [h0 rfl]
  subst he
  replace H:=H.UY (en:=ZJ) (s:=1) 2 (fun _=>rfl)
  refine Xf rfl<|cT rfl<|Z6.mk ?_
  exact H
 | some p =>
  subst he
  refine Xf rfl<|cF rfl<|ZZ H rfl rfl rfl rfl<|fun p1 w1 H=>H.Wx (n:=0) (en:=ZJ) (s:=1) 0 rfl [] rfl rfl (fun _=>rfl) rfl<|fun H=>T4 8 H 0 rfl (H.rdv (ok:=fun _=>True) 1 rfl V (fun _ _=>trivial)) (fun y _=>rfl) rfl rfl rfl (by grind) (by grind)<|fun v1=>?_
  intro w2 H
  refine Z6.mk ?_
  refine H.cg (Yy (OY ?_) (Yy rfl (rfl)))
  (simp;done)
end
end Rn
namespace Rn
open Go Y4 Go.RowKit
open YZ Zo X4 YS Valid Mem
section
variable {g:ZB} {w:World} {l:List As} {m:Zh} {pr cp mp:Nat} {vw vc vt vg SD:Value} {host f e:Int} {cs:List CV} {Zw s2:List Int} {u:CV} {x:ZX} {i b o:Nat}
theorem SI {n1 n2:Int} {q:Int × List Int × Int} {s:List Int} (h:(n1,s,n2)=q) (hq:q=(f,s2,e)):f=n1/\s2=s/\e=n2:=by grind
theorem agV {n:Int} (h0:(m.Zz.length:Int)<=n) (h1:n<(m.Zz.length:Int)+m.funcs.length):∃(k:Nat) (F:Yt),n=m.Zz.length+k/\m.funcs[k]?=some F/\Zf m.d (n-YW m.d)=F.d:=by
 obtain ⟨k,hk⟩:=lqa (show 0<=n-m.Zz.length by omega)
 have Kb:k<m.funcs.length:=by omega
 refine ⟨k,m.funcs[k],by omega,laa Kb,?_⟩
 unfold Zf YW
 show (m.funcs.map Yt.d).getD (n-(m.Zz.length:Int)).toNat _=_
 rw [hk,lga,lia0,lya,laa Kb];rfl
theorem afl (E:El vc 4 i b o) (c:CV) (hx:cs[i]?=some c) (H:Sat g w (Pt pr [zV cp,vw,vc,zW host] 148::Pt cp (zY m [zV mp,vt,vg]) 158::Sl 3 1 ZJ vt Zw::Sl 79 4 WH vc cs::Sl 2 1 ZJ c.vs c.stk::l)) (hm:Xu g m) (P:UW m.d) (ho:x.op=16\/x.op=17) (Rt:∀n∈Zw,-1<=n/\n<(m.Zz.length:Int)+m.funcs.length) (h1:x.op=17->1<=c.stk.length/\0<=x.a/\x.a<m.types.length) (Ud:∀v∈c.stk,XB v) (hlen:c.stk.length<=10000) (Nq:Zw.length<=1000) (R9:cs.length<=40) (hvl:c.vl.oneCell'=true) (hq:Zc m.d Zw x c.stk=(f,s2,e)) (he:e≠0):Fc Tryz.prog 163 #[zV pr,.pointer (some ⟨b,o,none⟩),.agg #[.int .u8 x.op,zW x.a,zW x.b,SD]] w (fun r w'=>r=.agg #[zW 2,.slice none 0 0,zW e,zW 0,zW 0]/\Sat g w' (Pt pr [zV cp,vw,vc,zW host] 148::Pt cp (zY m [zV mp,vt,vg]) 158::Sl 3 1 ZJ vt Zw::l)):=by
 refine Fc.of Tryz.func163 rfl k_d ?_
 have ZQ:=hm.types
 have Zv:=hm.Zz
 have ZP:=hm.funcs
 have hvs:=H.one 4 rfl
 have hni:m.Zz.length<=16:=P.ni
 have hnf:m.funcs.length<=16:=by have:=P.nf;rwa [show m.d.funcs.length=m.funcs.length from lea ..] at this
 refine ZN H<|fun p1 w1 H=>ZW H rfl<|fun p2 w2 H=>ZK H [] [zUp0,zUp1,zUp2,zUh3,zUh4,zUp5,zUp6,zUp7,zUh8,zUfr9,zUp10,zUp11,zUp12,zUp13,zUp14,zUp15,zUp16] mixed k_d k_d<|fun w1 H=>zR rfl rfl<|zS 2 0 zQ rfl<|tk (fun _ Z=>ZC (Z.at 1 rfl) 0 rfl rfl rfl zX)<|zR rfl rfl<|tk (fun _ Z=>zM (Z.el 5 rfl E hx) 3 zL zX)<|H.Z8 [6,5,5]<|fun H=>?_
 refine Z7.mk (Fc.imp (Rn.Pz H Ab Ab Ab Ab Ab Ab Ab Ab) ?_)
 clear H
 rintro _ w2 ⟨f1,⟨Zx,⟨TK,⟨e1,⟨rfl,⟨h2,H⟩⟩⟩⟩⟩⟩
 obtain ⟨rfl,rfl,rfl⟩:=SI h2 hq
 refine Z9 rfl<|Yf H 6 rfl E hx 3 (⟨c.fn,c.at_,c.vl,c.loc,(Zx),s2⟩) rfl k_m rfl rfl<|fun w3 H=>cT (Wd Aa)<|Zr rfl rfl rfl<|ZH H 3 rfl rfl rfl rfl<|fun w2 H=>XG (H.at 3 rfl) 0 rfl rfl rfl<|Z6.mk ?_
 refine ⟨rfl,?_⟩
 refine H.Z8 [1,1,5]<|fun H=>H.drop 6<|fun H=>H.drop 5<|fun H=>H.drop 4<|fun H=>H.drop 3<|fun H=>?_
 exact H
theorem afm (E:El vc 4 i b o) (c:CV) (hx:cs[i]?=some c) (H:Sat g w (Pt pr [zV cp,vw,vc,zW host] 148::Pt cp (zY m [zV mp,vt,vg]) 158::Sl 3 1 ZJ vt Zw::Sl 79 4 WH vc cs::Sl 2 1 ZJ c.vs c.stk::l)) (hm:Xu g m) (P:UW m.d) (ho:x.op=16\/x.op=17) (Rt:∀n∈Zw,-1<=n/\n<(m.Zz.length:Int)+m.funcs.length) (h1:x.op=17->1<=c.stk.length/\0<=x.a/\x.a<m.types.length) (Ud:∀v∈c.stk,XB v) (hlen:c.stk.length<=10000) (Nq:Zw.length<=1000) (R9:cs.length<=40) (hvl:c.vl.oneCell'=true) (hq:Zc m.d Zw x c.stk=(f,s2,0)) (hf:0<=f/\f<(m.Zz.length:Int)+m.funcs.length) (IT:(YP m.d f).Zb.length<=s2.length) (Qb:s2.length<=10000) (BY:(m.Zz.length:Int)<=f) (Fo:cs.length=40):Fc Tryz.prog 163 #[zV pr,.pointer (some ⟨b,o,none⟩),.agg #[.int .u8 x.op,zW x.a,zW x.b,SD]] w (fun r w'=>r=.agg #[zW 2,.slice none 0 0,zW 26,zW 0,zW 0]/\Sat g w' (Pt pr [zV cp,vw,vc,zW host] 148::Pt cp (zY m [zV mp,vt,vg]) 158::Sl 3 1 ZJ vt Zw::l)):=by
 refine Fc.of Tryz.func163 rfl k_d ?_
 have ZQ:=hm.types
 have Zv:=hm.Zz
 have ZP:=hm.funcs
 have hvs:=H.one 4 rfl
 have hni:m.Zz.length<=16:=P.ni
 have hnf:m.funcs.length<=16:=by have:=P.nf;rwa [show m.d.funcs.length=m.funcs.length from lea ..] at this
 have hty:∀t:XK,t.d=YP m.d f->t.Zb.length=(YP m.d f).Zb.length:=fun t h=>by rw [<-h];rfl
 refine ZN H<|fun p1 w1 H=>ZW H rfl<|fun p2 w2 H=>ZK H [] [zUp0,zUp1,zUp2,zUh3,zUh4,zUp5,zUp6,zUp7,zUh8,zUfr9,zUp10,zUp11,zUp12,zUp13,zUp14,zUp15,zUp16] mixed k_d k_d<|fun w1 H=>zR rfl rfl<|zS 2 0 zQ rfl<|tk (fun _ Z=>ZC (Z.at 1 rfl) 0 rfl rfl rfl zX)<|zR rfl rfl<|tk (fun _ Z=>zM (Z.el 5 rfl E hx) 3 zL zX)<|H.Z8 [6,5,5]<|fun H=>?_
 refine Z7.mk (Fc.imp (Rn.Pz H Ab Ab Ab Ab Ab Ab Ab Ab) ?_)
 clear H
 rintro _ w2 ⟨f1,⟨Zx,⟨TK,⟨e1,⟨rfl,⟨h2,H⟩⟩⟩⟩⟩⟩
 obtain ⟨rfl,rfl,rfl⟩:=SI h2 hq
 refine Z9 rfl<|Yf H 6 rfl E hx 3 (⟨c.fn,c.at_,c.vl,c.loc,(Zx),s2⟩) rfl k_m rfl rfl<|fun w3 H=>cF (XC Ab)<|ZK H [] [zUp0,zUp1,zUp2,zUh3,zUp4,zUp5,zUp6,zUp7,zUh8,zUp9,zUf10,zUp11,zUp12,zUp13,zUp14] mixed k_d k_d<|fun w2 H=>zR rfl rfl ?_
 have hx1:(cs.set i { fn:=c.fn,at_:=c.at_,vl:=c.vl,loc:=c.loc,vs:=Zx,stk:=s2 })[i]?=some _:=Vv hx
 refine tk (fun _ Z=>zM (Z.el 6 rfl E hx1) 3 zL zX) ?_
 obtain ⟨a1,c1,V1⟩:=H.form 2 rfl
 refine tk (fun _ Z=>W2 V1 rfl zX)<|zR rfl rfl<|zS 5 0 zQ rfl ?_
 refine Z7.mk (Fc.imp (Rn.L2 H Ab Ab _ Ab Ab) ?_)
 clear H
 rintro _ w3 ⟨t1,⟨rfl,⟨h3,⟨h4,⟨h5,⟨h6,⟨h7,H⟩⟩⟩⟩⟩⟩⟩
 have IS:=hty _ Aa
 have OA:=WA.Zb (by assumption:WA g _)
 refine Y3.mk (H)<|tk (fun _ Z=>LL rfl zX)<|tk (fun _ Z=>ZF OA rfl zX)<|ZU Ab<|Z9 rfl<|zM (H.el 6 rfl E hx1) 3 zL ?_
 obtain ⟨v1,V2⟩:=H.vw 2 rfl (((s2.length)-(t1.Zb.length))) ((s2).length) Ab Ab
 refine Wr V2 rfl rfl (.inr ⟨_,by first|rfl|(congr 2;omega)⟩) (.inl ⟨rfl,rfl⟩)<|H.Z8 [2]<|fun H=>?_
 refine Z7.mk (Fc.imp (Rn.NX H V2 Ab) ?_)
 clear H
 rintro v' w4 H
 refine Z9 rfl<|zT H 6 0 zQ<|Z9 rfl<|Z9 rfl<|zT H 2 1 zQ<|ZF Zv rfl<|ZU Ab<|VG (Yg Ab)<|Z9 rfl<|zT H 6 2 zQ<|Yv H 7 rfl rfl<|cT (ZL (by grind))<|Zr rfl rfl rfl<|ZH H 4 rfl rfl rfl rfl<|fun w5 H=>XG (H.at 4 rfl) 0 rfl rfl rfl<|Z6.mk ?_
 refine ⟨rfl,?_⟩
 refine H.Z8 [3,3,6]<|fun H=>H.drop 7<|fun H=>H.drop 6<|fun H=>H.drop 5<|fun H=>H.drop 4<|fun H=>H.drop 3<|fun H=>?_
 exact H
theorem afn (E:El vc 4 i b o) (c:CV) (hx:cs[i]?=some c) (H:Sat g w (Pt pr [zV cp,vw,vc,zW host] 148::Pt cp (zY m [zV mp,vt,vg]) 158::Sl 3 1 ZJ vt Zw::Sl 79 4 WH vc cs::Sl 2 1 ZJ c.vs c.stk::l)) (hm:Xu g m) (P:UW m.d) (ho:x.op=16\/x.op=17) (Rt:∀n∈Zw,-1<=n/\n<(m.Zz.length:Int)+m.funcs.length) (h1:x.op=17->1<=c.stk.length/\0<=x.a/\x.a<m.types.length) (Ud:∀v∈c.stk,XB v) (hlen:c.stk.length<=10000) (Nq:Zw.length<=1000) (R9:cs.length<=40) (hvl:c.vl.oneCell'=true) (hq:Zc m.d Zw x c.stk=(f,s2,0)) (hf:0<=f/\f<(m.Zz.length:Int)+m.funcs.length) (IT:(YP m.d f).Zb.length<=s2.length) (Qb:s2.length<=10000) (BY:f<m.Zz.length):Fc Tryz.prog 163 #[zV pr,.pointer (some ⟨b,o,none⟩),.agg #[.int .u8 x.op,zW x.a,zW x.b,SD]] w (fun r w'=>∃vs' vv,r=.agg #[zW 4,vv,zW 0,zW f,zW 0]/\Sat g w' (Pt pr [zV cp,vw,vc,zW (f+1)] 148::Pt cp (zY m [zV mp,vt,vg]) 158::Sl 3 1 ZJ vt Zw::Sl 79 4 WH vc (cs.set i ⟨c.fn,c.at_,c.vl,c.loc,vs',s2.take (s2.length-(YP m.d f).Zb.length)⟩)::Sl 2 1 ZJ vs' (s2.take (s2.length-(YP m.d f).Zb.length))::Sl 2 1 ZJ vv (s2.drop (s2.length-(YP m.d f).Zb.length))::l)):=by
 refine Fc.of Tryz.func163 rfl k_d ?_
 have ZQ:=hm.types
 have Zv:=hm.Zz
 have ZP:=hm.funcs
 have hvs:=H.one 4 rfl
 have hni:m.Zz.length<=16:=P.ni
 have hnf:m.funcs.length<=16:=by have:=P.nf;rwa [show m.d.funcs.length=m.funcs.length from lea ..] at this
 have hty:∀t:XK,t.d=YP m.d f->t.Zb.length=(YP m.d f).Zb.length:=fun t h=>by rw [<-h];rfl
 refine ZN H<|fun p1 w1 H=>ZW H rfl<|fun p2 w2 H=>ZK H [] [zUp0,zUp1,zUp2,zUh3,zUh4,zUp5,zUp6,zUp7,zUh8,zUfr9,zUp10,zUp11,zUp12,zUp13,zUp14,zUp15,zUp16] mixed k_d k_d<|fun w1 H=>zR rfl rfl<|zS 2 0 zQ rfl<|tk (fun _ Z=>ZC (Z.at 1 rfl) 0 rfl rfl rfl zX)<|zR rfl rfl<|tk (fun _ Z=>zM (Z.el 5 rfl E hx) 3 zL zX)<|H.Z8 [6,5,5]<|fun H=>?_
 refine Z7.mk (Fc.imp (Rn.Pz H Ab Ab Ab Ab Ab Ab Ab Ab) ?_)
 clear H
 rintro _ w2 ⟨f1,⟨Zx,⟨TK,⟨e1,⟨rfl,⟨h2,H⟩⟩⟩⟩⟩⟩
 obtain ⟨rfl,rfl,rfl⟩:=SI h2 hq
 refine Z9 rfl<|Yf H 6 rfl E hx 3 (⟨c.fn,c.at_,c.vl,c.loc,(Zx),s2.take (s2.length-(YP m.d f).Zb.length)⟩) rfl k_m rfl rfl<|fun w3 H=>cF (XC Ab)<|ZK H [] [zUp0,zUp1,zUp2,zUh3,zUp4,zUp5,zUp6,zUp7,zUh8,zUp9,zUf10,zUp11,zUp12,zUp13,zUp14] mixed k_d k_d<|fun w2 H=>zR rfl rfl ?_
 have hx1:(cs.set i { fn:=c.fn,at_:=c.at_,vl:=c.vl,loc:=c.loc,vs:=Zx,stk:=List.take (s2.length-(YP m.d f).Zb.length) s2 })[i]?=some _:=Vv hx
 refine tk (fun _ Z=>zM (Z.el 6 rfl E hx1) 3 zL zX) ?_
 obtain ⟨a1,c1,V1⟩:=H.form 2 rfl
 refine tk (fun _ Z=>W2 V1 rfl zX)<|zR rfl rfl<|zS 5 0 zQ rfl ?_
 refine Z7.mk (Fc.imp (Rn.L2 H Ab Ab _ Ab Ab) ?_)
 clear H
 rintro _ w3 ⟨t1,⟨rfl,⟨h3,⟨h4,⟨h5,⟨h6,⟨h7,H⟩⟩⟩⟩⟩⟩⟩
 have IS:=hty _ Aa
 have OA:=WA.Zb (by assumption:WA g _)
 refine Y3.mk (H)<|tk (fun _ Z=>LL rfl zX)<|tk (fun _ Z=>ZF OA rfl zX)<|ZU Ab<|Z9 rfl<|zM (H.el 6 rfl E hx1) 3 zL ?_
 obtain ⟨v1,V2⟩:=H.vw 2 rfl (((s2.length)-(t1.Zb.length))) ((s2).length) Ab Ab
 refine Wr V2 rfl rfl (.inr ⟨_,by first|rfl|(congr 2;omega)⟩) (.inl ⟨rfl,rfl⟩)<|H.Z8 [2]<|fun H=>?_
 refine Z7.mk (Fc.imp (Rn.NX H V2 Ab) ?_)
 clear H
 rintro v' w4 H
 refine Z9 rfl<|zT H 6 0 zQ<|Z9 rfl<|Z9 rfl<|zT H 2 1 zQ<|ZF Zv rfl<|ZU Ab<|Xm (YA Ab)<|cF rfl<|Z9 rfl<|zM (H.el 7 rfl E hx1) 3 zL ?_
 obtain ⟨v2,V3⟩:=H.vw 1 rfl (0) (((s2.length)-(t1.Zb.length))) Ab Ab
 refine Wr V3 rfl rfl (.inl ⟨rfl,rfl⟩) (.inr ⟨_,by first|rfl|(congr 2;omega)⟩)<|Z9 rfl<|Yf H 7 rfl E hx1 3 (⟨c.fn,c.at_,c.vl,c.loc,(v2),s2.take (s2.length-(YP m.d f).Zb.length)⟩) rfl (by simp only [Bool.and_true,H.one 0 rfl,H.one 1 rfl,H.one 3 rfl,H.one 7 rfl,Vw.one V3,Vw.one V2,Z0.one OA,hvs,Z0.one ZP,Z0.one Zv,Z0.one ZQ,hvl]) rfl rfl<|fun w5 H=>cT (Y9 Ab)<|ZU Ab<|Z9 rfl<|Yh H 6 rfl rfl rfl rfl<|fun w4 H=>?_
 obtain ⟨a2,c2,rfl⟩:=H.form 0 rfl
 refine Zr rfl rfl rfl<|ZH H 4 rfl rfl rfl rfl<|fun w5 H=>XG (H.at 4 rfl) 0 rfl rfl rfl ?_
 replace H:=H.Ib 1 rfl V3
 simp only [List.set_cons_succ,List.set_cons_zero,List.drop_zero,IS,List.set_set] at H
 refine Z6.mk ⟨v2,_,(by rw [IS]),?_⟩
 refine H.Z8 [0,1,7,4,4,7]<|fun H=>H.drop 7<|fun H=>H.drop 6<|fun H=>?_
 exact H
theorem afo (E:El vc 4 i b o) (c:CV) (hx:cs[i]?=some c) (H:Sat g w (Pt pr [zV cp,vw,vc,zW host] 148::Pt cp (zY m [zV mp,vt,vg]) 158::Sl 3 1 ZJ vt Zw::Sl 79 4 WH vc cs::Sl 2 1 ZJ c.vs c.stk::l)) (hm:Xu g m) (P:UW m.d) (ho:x.op=16\/x.op=17) (Rt:∀n∈Zw,-1<=n/\n<(m.Zz.length:Int)+m.funcs.length) (h1:x.op=17->1<=c.stk.length/\0<=x.a/\x.a<m.types.length) (Ud:∀v∈c.stk,XB v) (hlen:c.stk.length<=10000) (Nq:Zw.length<=1000) (R9:cs.length<=40) (hvl:c.vl.oneCell'=true) (hq:Zc m.d Zw x c.stk=(f,s2,0)) (hf:0<=f/\f<(m.Zz.length:Int)+m.funcs.length) (IT:(YP m.d f).Zb.length<=s2.length) (Qb:s2.length<=10000) (k:Nat) (F:Yt) (FF:f=m.Zz.length+k) (hF:m.funcs[k]?=some F) (hFl:F.loc.length<=16) (h4:(YP m.d f).Zb.length<=4) (Fo:cs.length<40):Fc Tryz.prog 163 #[zV pr,.pointer (some ⟨b,o,none⟩),.agg #[.int .u8 x.op,zW x.a,zW x.b,SD]] w (fun r w'=>∃Mh vs' Qc,r=.agg #[zW 0,.slice none 0 0,zW 0,zW 0,zW 0]/\Sat g w' (Pt pr [zV cp,vw,Mh,zW host] 148::Pt cp (zY m [zV mp,vt,vg]) 158::Sl 3 1 ZJ vt Zw::Sl 79 4 WH Mh (cs.set i ⟨c.fn,c.at_,c.vl,c.loc,vs',s2.take (s2.length-(YP m.d f).Zb.length)⟩++[⟨k,0,Qc,(s2.drop (s2.length-(YP m.d f).Zb.length))++List.replicate F.loc.length 0,.slice none 0 0,[]⟩])::Sl 2 1 ZJ vs' (s2.take (s2.length-(YP m.d f).Zb.length))::Sl 2 1 ZJ Qc ((s2.drop (s2.length-(YP m.d f).Zb.length))++List.replicate F.loc.length 0)::Sl 2 1 ZJ (.slice none 0 0) []::l)):=by
 refine Fc.of Tryz.func163 rfl k_d ?_
 have ZQ:=hm.types
 have Zv:=hm.Zz
 have ZP:=hm.funcs
 have hvs:=H.one 4 rfl
 have hni:m.Zz.length<=16:=P.ni
 have hnf:m.funcs.length<=16:=by have:=P.nf;rwa [show m.d.funcs.length=m.funcs.length from lea ..] at this
 have hty:∀t:XK,t.d=YP m.d f->t.Zb.length=(YP m.d f).Zb.length:=fun t h=>by rw [<-h];rfl
 refine ZN H<|fun p1 w1 H=>ZW H rfl<|fun p2 w2 H=>ZK H [] [zUp0,zUp1,zUp2,zUh3,zUh4,zUp5,zUp6,zUp7,zUh8,zUfr9,zUp10,zUp11,zUp12,zUp13,zUp14,zUp15,zUp16] mixed k_d k_d<|fun w1 H=>zR rfl rfl<|zS 2 0 zQ rfl<|tk (fun _ Z=>ZC (Z.at 1 rfl) 0 rfl rfl rfl zX)<|zR rfl rfl<|tk (fun _ Z=>zM (Z.el 5 rfl E hx) 3 zL zX)<|H.Z8 [6,5,5]<|fun H=>?_
 refine Z7.mk (Fc.imp (Rn.Pz H Ab Ab Ab Ab Ab Ab Ab Ab) ?_)
 clear H
 rintro _ w2 ⟨f1,⟨Zx,⟨TK,⟨e1,⟨rfl,⟨h2,H⟩⟩⟩⟩⟩⟩
 obtain ⟨rfl,rfl,rfl⟩:=SI h2 hq
 refine Z9 rfl<|Yf H 6 rfl E hx 3 (⟨c.fn,c.at_,c.vl,c.loc,(Zx),s2.take (s2.length-(YP m.d f).Zb.length)⟩) rfl k_m rfl rfl<|fun w3 H=>cF (XC Ab)<|ZK H [] [zUp0,zUp1,zUp2,zUh3,zUp4,zUp5,zUp6,zUp7,zUh8,zUp9,zUf10,zUp11,zUp12,zUp13,zUp14] mixed k_d k_d<|fun w2 H=>zR rfl rfl ?_
 have hx1:(cs.set i { fn:=c.fn,at_:=c.at_,vl:=c.vl,loc:=c.loc,vs:=Zx,stk:=List.take (s2.length-(YP m.d f).Zb.length) s2 })[i]?=some _:=Vv hx
 refine tk (fun _ Z=>zM (Z.el 6 rfl E hx1) 3 zL zX) ?_
 obtain ⟨a1,c1,V1⟩:=H.form 2 rfl
 refine tk (fun _ Z=>W2 V1 rfl zX)<|zR rfl rfl<|zS 5 0 zQ rfl ?_
 refine Z7.mk (Fc.imp (Rn.L2 H Ab Ab _ Ab Ab) ?_)
 clear H
 rintro _ w3 ⟨t1,⟨rfl,⟨h3,⟨h5,⟨h6,⟨h7,⟨h8,H⟩⟩⟩⟩⟩⟩⟩
 have IS:=hty _ Aa
 have OA:=WA.Zb (by assumption:WA g _)
 refine Y3.mk (H)<|tk (fun _ Z=>LL rfl zX)<|tk (fun _ Z=>ZF OA rfl zX)<|ZU Ab<|Z9 rfl<|zM (H.el 6 rfl E hx1) 3 zL ?_
 obtain ⟨v1,V2⟩:=H.vw 2 rfl (((s2.length)-(t1.Zb.length))) ((s2).length) Ab Ab
 refine Wr V2 rfl rfl (.inr ⟨_,by first|rfl|(congr 2;omega)⟩) (.inl ⟨rfl,rfl⟩)<|H.Z8 [2]<|fun H=>?_
 refine Z7.mk (Fc.imp (Rn.NX H V2 Ab) ?_)
 clear H
 rintro v' w4 H
 refine Z9 rfl<|zT H 6 0 zQ<|Z9 rfl<|Z9 rfl<|zT H 2 1 zQ<|ZF Zv rfl<|ZU Ab<|VG (Yg Ab)<|Z9 rfl<|zT H 6 2 zQ<|Yv H 7 rfl rfl<|cF (Z5 (by grind))<|Z9 rfl<|zM (H.el 7 rfl E hx1) 3 zL ?_
 obtain ⟨v2,V3⟩:=H.vw 1 rfl (0) (((s2.length)-(t1.Zb.length))) Ab Ab
 refine Wr V3 rfl rfl (.inl ⟨rfl,rfl⟩) (.inr ⟨_,by first|rfl|(congr 2;omega)⟩)<|Z9 rfl<|Yf H 7 rfl E hx1 3 (⟨c.fn,c.at_,c.vl,c.loc,(v2),s2.take (s2.length-(YP m.d f).Zb.length)⟩) rfl (by simp only [Bool.and_true,H.one 0 rfl,H.one 1 rfl,H.one 3 rfl,H.one 7 rfl,Vw.one V3,Vw.one V2,Z0.one OA,hvs,Z0.one ZP,Z0.one Zv,Z0.one ZQ,hvl]) rfl rfl<|fun w5 H=>cF (Zk Ab) ?_
 replace H:=H.Ib 1 rfl V3
 simp only [List.set_cons_succ,List.set_cons_zero,List.drop_zero,IS,List.set_set] at H
 rw [show f-(m.Zz.length:Int)=(k:Int) by omega]
 refine H.Z8 [0,7,3,7]<|fun H=>?_
 refine Z7.mk (Fc.imp (Rn.ai6 H Ab (k) _ hF Ab ?_ ?_ ?_) ?_)
 .grind
 .grind
 .omega
 clear H
 rintro Wa w4 ⟨GP,⟨TX,H⟩⟩
 refine Zr rfl rfl rfl<|ZH H 7 rfl rfl rfl rfl<|fun w6 H=>XG (H.at 7 rfl) 0 rfl rfl rfl ?_
 refine Z6.mk ⟨GP,v2,TX,rfl,?_⟩
 refine H.Z8 [4,4,5,5,6,6,6]<|fun H=>H.drop 8<|fun H=>H.drop 7<|fun H=>?_
 exact H
end
end Rn
namespace Rn
open Go Y4 Go.RowKit
open YZ Zo X4 YS Valid Mem
def fr (c:CV):List As:=[Sl 2 1 ZJ c.vl c.loc,Sl 2 1 ZJ c.vs c.stk]
def Qt (cs:List CV):As:=O4 (cs.flatMap fr)
section
variable {g:ZB} {w:World} {l:List As} {m:Zh} {pr cp mp:Nat} {vw vc vt vg vp SD vj:Value} {host f e:Int} {cs up:List CV} {Zw Zm s2:List Int} {ps:List W0} {c u:CV} {x:ZX} {i b o:Nat} {ws:List Yl} {j:Yl}
theorem NW (H:Sat g w (Sl 2 1 ZJ c.vl c.loc::Sl 2 1 ZJ c.vs c.stk::Qt up::l)):Sat g w (Qt (up++[c])::l):=by
 refine H.Z8 [2]<|fun H=>?_
 have H:Sat g w (O4 (up.flatMap fr)::([Sl 2 1 ZJ c.vl c.loc,Sl 2 1 ZJ c.vs c.stk]++l)):=H
 have H:=H.unbox
 rw [<-lha] at H
 have H:=H.box
 show Sat g w (O4 ((up++[c]).flatMap fr)::l)
 rw [lPa]
 exact H
theorem Yj (hcs:cs=up++[c]):cs[up.length]?=some c:=by grind
theorem Yd (hcs:cs=up++[c]) (z:CV):cs.set up.length z=up++[z]:=by grind
theorem alG (H:Sat g w (Pt pr [zV cp,vw,vc,zW 0] 148::Pt cp (zY m [zV mp,vt,vg]) 158::Pt mp [vp,zW m.most] 221::Sl 223 256 Xg vp ps::Sl 3 1 ZJ vt Zw::Sl 2 1 ZJ vg Zm::Sl 79 4 WH vc cs::Qt up::Sl 2 1 ZJ c.vl c.loc::Sl 2 1 ZJ c.vs c.stk::l)) (hcs:cs=up++[c]) (E:El vc 4 up.length b o) (T7:0<=c.at_/\c.at_<=1000) (hlen:c.stk.length<=10000) (ho:x.op=0):Fc Tryz.prog 114 #[zV pr,.pointer (some ⟨b,o,none⟩),.agg #[.int .u8 x.op,zW x.a,zW x.b,SD],vj] w (fun r w'=>r=.agg #[zW 2,.slice none 0 0,zW 20,zW 0,zW 0]/\Sat g w' (Pt pr [zV cp,vw,vc,zW 0] 148::Pt cp (zY m [zV mp,vt,vg]) 158::Pt mp [vp,zW m.most] 221::Sl 223 256 Xg vp ps::Sl 3 1 ZJ vt Zw::Sl 2 1 ZJ vg Zm::l)):=by
 refine Fc.of Tryz.func114 rfl k_d ?_
 have hx:=Yj hcs
 refine ZN H<|fun p1 w1 H=>ZW H rfl<|fun p2 w2 H=>Z9 rfl<|zM (H.el 8 rfl E hx) 1 zL<|ZU Ab<|Z9 rfl<|Yf H 8 rfl E hx 1 (⟨c.fn,c.at_+1,c.vl,c.loc,c.vs,c.stk⟩) rfl rfl rfl rfl<|fun w1 H=>Z9 rfl<|zT H 1 0 zQ<|bk<|cT (ZL Aa)<|Zr rfl rfl rfl<|ZH H 0 rfl rfl rfl rfl<|fun w2 H=>XG (H.at 0 rfl) 0 rfl rfl rfl<|Z6.mk ?_
 refine ⟨rfl,?_⟩
 refine H.Z8 [7,7,7,7,7,7]<|fun H=>H.drop 11<|fun H=>H.drop 10<|fun H=>H.drop 9<|fun H=>H.drop 8<|fun H=>H.drop 7<|fun H=>H.drop 6<|fun H=>?_
 exact H
theorem alH (H:Sat g w (Pt pr [zV cp,vw,vc,zW 0] 148::Pt cp (zY m [zV mp,vt,vg]) 158::Pt mp [vp,zW m.most] 221::Sl 223 256 Xg vp ps::Sl 3 1 ZJ vt Zw::Sl 2 1 ZJ vg Zm::Sl 79 4 WH vc cs::Qt up::Sl 2 1 ZJ c.vl c.loc::Sl 2 1 ZJ c.vs c.stk::l)) (hcs:cs=up++[c]) (E:El vc 4 up.length b o) (T7:0<=c.at_/\c.at_<=1000) (hlen:c.stk.length<=10000) (ho:x.op=1\/x.op=2\/x.op=3):Fc Tryz.prog 114 #[zV pr,.pointer (some ⟨b,o,none⟩),.agg #[.int .u8 x.op,zW x.a,zW x.b,SD],vj] w (fun r w'=>r=.agg #[zW 0,.slice none 0 0,zW 0,zW 0,zW 0]/\Sat g w' (Pt pr [zV cp,vw,vc,zW 0] 148::Pt cp (zY m [zV mp,vt,vg]) 158::Pt mp [vp,zW m.most] 221::Sl 223 256 Xg vp ps::Sl 3 1 ZJ vt Zw::Sl 2 1 ZJ vg Zm::Sl 79 4 WH vc (up++[⟨c.fn,c.at_+1,c.vl,c.loc,c.vs,c.stk⟩])::Qt up::Sl 2 1 ZJ c.vl c.loc::Sl 2 1 ZJ c.vs c.stk::l)):=by
 refine Fc.of Tryz.func114 rfl k_d ?_
 have hx:=Yj hcs
 have V4:=Yd hcs
 rcases ho with ho|ho|ho
 .refine ZN H<|fun p1 w1 H=>ZW H rfl<|fun p2 w2 H=>Z9 rfl<|zM (H.el 8 rfl E hx) 1 zL<|ZU Ab<|Z9 rfl<|Yf H 8 rfl E hx 1 (⟨c.fn,c.at_+1,c.vl,c.loc,c.vs,c.stk⟩) rfl rfl rfl rfl<|fun w1 H=>Z9 rfl<|zT H 1 0 zQ<|bk<|cF (Z5 Ab)<|cT (ZL Aa)<|cT (ZL Aa)<|Zr rfl rfl rfl<|ZH H 0 rfl rfl rfl rfl<|fun w2 H=>XG (H.at 0 rfl) 0 rfl rfl rfl<|Z6.mk ?_
  refine ⟨rfl,?_⟩
  refine H.Z8 [11,11,11,11,11,11,11,11,11,11]<|fun H=>H.drop 11<|fun H=>H.drop 10<|fun H=>?_
  refine H.cg (Yy rfl (Yy rfl (Yy rfl (Yy rfl (Yy rfl (Yy rfl (Yy (OY ?_) (Yy rfl (Yy rfl (Yy rfl (rfl)))))))))))
  exact V4 _
 .refine ZN H<|fun p1 w1 H=>ZW H rfl<|fun p2 w2 H=>Z9 rfl<|zM (H.el 8 rfl E hx) 1 zL<|ZU Ab<|Z9 rfl<|Yf H 8 rfl E hx 1 (⟨c.fn,c.at_+1,c.vl,c.loc,c.vs,c.stk⟩) rfl rfl rfl rfl<|fun w1 H=>Z9 rfl<|zT H 1 0 zQ<|bk<|cF (Z5 Ab)<|cF (Z5 Ab)<|cT (ZL Aa)<|cT (ZL Aa)<|Zr rfl rfl rfl<|ZH H 0 rfl rfl rfl rfl<|fun w2 H=>XG (H.at 0 rfl) 0 rfl rfl rfl<|Z6.mk ?_
  refine ⟨rfl,?_⟩
  refine H.Z8 [11,11,11,11,11,11,11,11,11,11]<|fun H=>H.drop 11<|fun H=>H.drop 10<|fun H=>?_
  refine H.cg (Yy rfl (Yy rfl (Yy rfl (Yy rfl (Yy rfl (Yy rfl (Yy (OY ?_) (Yy rfl (Yy rfl (Yy rfl (rfl)))))))))))
  exact V4 _
 .refine ZN H<|fun p1 w1 H=>ZW H rfl<|fun p2 w2 H=>Z9 rfl<|zM (H.el 8 rfl E hx) 1 zL<|ZU Ab<|Z9 rfl<|Yf H 8 rfl E hx 1 (⟨c.fn,c.at_+1,c.vl,c.loc,c.vs,c.stk⟩) rfl rfl rfl rfl<|fun w1 H=>Z9 rfl<|zT H 1 0 zQ<|bk<|cF (Z5 Ab)<|cF (Z5 Ab)<|cF (Z5 Ab)<|cT (ZL Aa)<|Zr rfl rfl rfl<|ZH H 0 rfl rfl rfl rfl<|fun w2 H=>XG (H.at 0 rfl) 0 rfl rfl rfl<|Z6.mk ?_
  refine ⟨rfl,?_⟩
  refine H.Z8 [11,11,11,11,11,11,11,11,11,11]<|fun H=>H.drop 11<|fun H=>H.drop 10<|fun H=>?_
  refine H.cg (Yy rfl (Yy rfl (Yy rfl (Yy rfl (Yy rfl (Yy rfl (Yy (OY ?_) (Yy rfl (Yy rfl (Yy rfl (rfl)))))))))))
  exact V4 _
theorem ai7 (H:Sat g w (Pt pr [zV cp,vw,vc,zW 0] 148::Pt cp (zY m [zV mp,vt,vg]) 158::Pt mp [vp,zW m.most] 221::Sl 223 256 Xg vp ps::Sl 3 1 ZJ vt Zw::Sl 2 1 ZJ vg Zm::Sl 79 4 WH vc cs::Qt up::Sl 2 1 ZJ c.vl c.loc::Sl 2 1 ZJ c.vs c.stk::l)) (hcs:cs=up++[c]) (E:El vc 4 up.length b o) (T7:0<=c.at_/\c.at_<=1000) (hlen:c.stk.length<=10000) (hj:Z0 g N3 CW 3 vj ws) (hjn:0<=j.height) (A8:0<=j.keep) (CP:ws.length<=100) (ho:x.op=12\/x.op=15) (hw:ws[0]?=some j) (hjf:j.height+j.keep<=c.stk.length):Fc Tryz.prog 114 #[zV pr,.pointer (some ⟨b,o,none⟩),.agg #[.int .u8 x.op,zW x.a,zW x.b,SD],vj] w (fun r w'=>∃vs',r=.agg #[zW 0,.slice none 0 0,zW 0,zW 0,zW 0]/\Sat g w' (Pt pr [zV cp,vw,vc,zW 0] 148::Pt cp (zY m [zV mp,vt,vg]) 158::Pt mp [vp,zW m.most] 221::Sl 223 256 Xg vp ps::Sl 3 1 ZJ vt Zw::Sl 2 1 ZJ vg Zm::Sl 79 4 WH vc (up++[⟨c.fn,j.at_,c.vl,c.loc,vs',(c.stk.take j.height.toNat++c.stk.drop (c.stk.length-j.keep.toNat))⟩])::Qt up::Sl 2 1 ZJ c.vl c.loc::Sl 2 1 ZJ vs' (c.stk.take j.height.toNat++c.stk.drop (c.stk.length-j.keep.toNat))::l)):=by
 refine Fc.of Tryz.func114 rfl k_d ?_
 have hx:=Yj hcs
 have V4:=Yd hcs
 rcases ho with ho|ho
 .refine ZN H<|fun p1 w1 H=>ZW H rfl<|fun p2 w2 H=>Z9 rfl<|zM (H.el 8 rfl E hx) 1 zL<|ZU Ab<|Z9 rfl<|Yf H 8 rfl E hx 1 (⟨c.fn,c.at_+1,c.vl,c.loc,c.vs,c.stk⟩) rfl rfl rfl rfl<|fun w1 H=>Z9 rfl<|zT H 1 0 zQ<|bk ?_
  simp only [V4] at H
  have hx1:(up++[(⟨c.fn,c.at_+1,c.vl,c.loc,c.vs,c.stk⟩:CV)])[up.length]?=some (⟨c.fn,c.at_+1,c.vl,c.loc,c.vs,c.stk⟩:CV):=Yj rfl
  clear hx
  have V6:∀z,(up++[(⟨c.fn,c.at_+1,c.vl,c.loc,c.vs,c.stk⟩:CV)]).set up.length z=up++[z]:=Yd rfl
  refine cF (Z5 Ab)<|cF (Z5 Ab)<|cF (Z5 Ab)<|cF (Z5 Ab)<|cF (Z5 Ab)<|cT (ZL Aa)<|cT (ZL Aa) ?_
  obtain ⟨b1,o1,E1,F1,ZD⟩:=Z0.YQ hj hw
  refine ZG E1 rfl rfl rfl<|ZC (H.X9 F1) 0 rfl rfl rfl<|H.Z8 [11,9]<|fun H=>?_
  refine Z7.mk (Fc.imp (Rn.JR E _ hx1 H _ Ab Ab Ab ?_) ?_)
  .grind
  clear H
  rintro v' w2 ⟨Zx,H⟩
  refine Zr rfl rfl rfl<|ZH H 2 rfl rfl rfl rfl<|fun w3 H=>XG (H.at 2 rfl) 0 rfl rfl rfl<|Z6.mk ?_
  refine ⟨Zx,?_⟩
  refine ⟨rfl,?_⟩
  refine H.Z8 [1,11,11,3,11,11,11,11,11,11]<|fun H=>H.drop 11<|fun H=>H.drop 10<|fun H=>?_
  refine H.cg (Yy rfl (Yy rfl (Yy rfl (Yy rfl (Yy rfl (Yy rfl (Yy (OY ?_) (Yy rfl (Yy rfl (Yy rfl (rfl)))))))))))
  exact V6 _
 .refine ZN H<|fun p1 w1 H=>ZW H rfl<|fun p2 w2 H=>Z9 rfl<|zM (H.el 8 rfl E hx) 1 zL<|ZU Ab<|Z9 rfl<|Yf H 8 rfl E hx 1 (⟨c.fn,c.at_+1,c.vl,c.loc,c.vs,c.stk⟩) rfl rfl rfl rfl<|fun w1 H=>Z9 rfl<|zT H 1 0 zQ<|bk ?_
  simp only [V4] at H
  have hx1:(up++[(⟨c.fn,c.at_+1,c.vl,c.loc,c.vs,c.stk⟩:CV)])[up.length]?=some (⟨c.fn,c.at_+1,c.vl,c.loc,c.vs,c.stk⟩:CV):=Yj rfl
  clear hx
  have V6:∀z,(up++[(⟨c.fn,c.at_+1,c.vl,c.loc,c.vs,c.stk⟩:CV)]).set up.length z=up++[z]:=Yd rfl
  refine cF (Z5 Ab)<|cF (Z5 Ab)<|cF (Z5 Ab)<|cF (Z5 Ab)<|cF (Z5 Ab)<|cF (Z5 Ab)<|cT (ZL Aa) ?_
  obtain ⟨b1,o1,E1,F1,ZD⟩:=Z0.YQ hj hw
  refine ZG E1 rfl rfl rfl<|ZC (H.X9 F1) 0 rfl rfl rfl<|H.Z8 [11,9]<|fun H=>?_
  refine Z7.mk (Fc.imp (Rn.JR E _ hx1 H _ Ab Ab Ab ?_) ?_)
  .grind
  clear H
  rintro v' w2 ⟨Zx,H⟩
  refine Zr rfl rfl rfl<|ZH H 2 rfl rfl rfl rfl<|fun w3 H=>XG (H.at 2 rfl) 0 rfl rfl rfl<|Z6.mk ?_
  refine ⟨Zx,?_⟩
  refine ⟨rfl,?_⟩
  refine H.Z8 [1,11,11,3,11,11,11,11,11,11]<|fun H=>H.drop 11<|fun H=>H.drop 10<|fun H=>?_
  refine H.cg (Yy rfl (Yy rfl (Yy rfl (Yy rfl (Yy rfl (Yy rfl (Yy (OY ?_) (Yy rfl (Yy rfl (Yy rfl (rfl)))))))))))
  exact V6 _
theorem ahJ (H:Sat g w (Pt pr [zV cp,vw,vc,zW 0] 148::Pt cp (zY m [zV mp,vt,vg]) 158::Pt mp [vp,zW m.most] 221::Sl 223 256 Xg vp ps::Sl 3 1 ZJ vt Zw::Sl 2 1 ZJ vg Zm::Sl 79 4 WH vc cs::Qt up::Sl 2 1 ZJ c.vl c.loc::Sl 2 1 ZJ c.vs c.stk::l)) (hcs:cs=up++[c]) (E:El vc 4 up.length b o) (T7:0<=c.at_/\c.at_<=1000) (hlen:c.stk.length<=10000) (hj:Z0 g N3 CW 3 vj ws) (hjn:0<=j.height) (A8:0<=j.keep) (CP:ws.length<=100) (h1:1<=c.stk.length) (ho:(x.op=4/\top c.stk 0=0)\/(x.op=13/\top c.stk 0≠0)) (hw:ws[0]?=some j) (hjf:j.height+j.keep<=(low c.stk 1).length):Fc Tryz.prog 114 #[zV pr,.pointer (some ⟨b,o,none⟩),.agg #[.int .u8 x.op,zW x.a,zW x.b,SD],vj] w (fun r w'=>∃vs',r=.agg #[zW 0,.slice none 0 0,zW 0,zW 0,zW 0]/\Sat g w' (Pt pr [zV cp,vw,vc,zW 0] 148::Pt cp (zY m [zV mp,vt,vg]) 158::Pt mp [vp,zW m.most] 221::Sl 223 256 Xg vp ps::Sl 3 1 ZJ vt Zw::Sl 2 1 ZJ vg Zm::Sl 79 4 WH vc (up++[⟨c.fn,j.at_,c.vl,c.loc,vs',((low c.stk 1).take j.height.toNat++(low c.stk 1).drop ((low c.stk 1).length-j.keep.toNat))⟩])::Qt up::Sl 2 1 ZJ c.vl c.loc::Sl 2 1 ZJ vs' ((low c.stk 1).take j.height.toNat++(low c.stk 1).drop ((low c.stk 1).length-j.keep.toNat))::l)):=by
 refine Fc.of Tryz.func114 rfl k_d ?_
 have hx:=Yj hcs
 have V4:=Yd hcs
 have QZ:(low c.stk 1).length=c.stk.length-1:=PL
 rcases ho with ⟨ho,hz⟩|⟨ho,hz⟩
 .refine ZN H<|fun p1 w1 H=>ZW H rfl<|fun p2 w2 H=>Z9 rfl<|zM (H.el 8 rfl E hx) 1 zL<|ZU Ab<|Z9 rfl<|Yf H 8 rfl E hx 1 (⟨c.fn,c.at_+1,c.vl,c.loc,c.vs,c.stk⟩) rfl rfl rfl rfl<|fun w1 H=>Z9 rfl<|zT H 1 0 zQ<|bk ?_
  simp only [V4] at H
  have hx1:(up++[(⟨c.fn,c.at_+1,c.vl,c.loc,c.vs,c.stk⟩:CV)])[up.length]?=some (⟨c.fn,c.at_+1,c.vl,c.loc,c.vs,c.stk⟩:CV):=Yj rfl
  clear hx
  have V6:∀z,(up++[(⟨c.fn,c.at_+1,c.vl,c.loc,c.vs,c.stk⟩:CV)]).set up.length z=up++[z]:=Yd rfl
  refine cF (Z5 Ab)<|cF (Z5 Ab)<|cF (Z5 Ab)<|cF (Z5 Ab)<|cT (ZL Aa)<|H.Z8 [11,9]<|fun H=>?_
  refine Z7.mk (Fc.imp (Rn.Py E _ hx1 H Ab ?_) ?_)
  .grind
  clear H
  rintro _ w2 ⟨Zx,⟨t1,⟨rfl,⟨h2,H⟩⟩⟩⟩
  simp only [V6] at H
  replace h2:t1=top c.stk 0:=h2
  clear hx1
  have Re:(up++[(⟨c.fn,c.at_+1,c.vl,c.loc,Zx,low c.stk 1⟩:CV)])[up.length]?=some (⟨c.fn,c.at_+1,c.vl,c.loc,Zx,low c.stk 1⟩:CV):=Yj rfl
  have Qe:∀z,(up++[(⟨c.fn,c.at_+1,c.vl,c.loc,Zx,low c.stk 1⟩:CV)]).set up.length z=up++[z]:=Yd rfl
  refine cT (ZL Ab) ?_
  obtain ⟨b1,o1,E1,F1,ZD⟩:=Z0.YQ hj hw
  refine ZG E1 rfl rfl rfl<|ZC (H.X9 F1) 0 rfl rfl rfl ?_
  refine Z7.mk (Fc.imp (Rn.JR E _ Re H _ Ab Ab Ab ?_) ?_)
  .grind
  clear H
  rintro v' w3 ⟨VK,H⟩
  refine Zr rfl rfl rfl<|ZH H 2 rfl rfl rfl rfl<|fun w4 H=>XG (H.at 2 rfl) 0 rfl rfl rfl<|Z6.mk ?_
  refine ⟨VK,?_⟩
  refine ⟨rfl,?_⟩
  refine H.Z8 [1,11,11,3,11,11,11,11,11,11]<|fun H=>H.drop 11<|fun H=>H.drop 10<|fun H=>?_
  refine H.cg (Yy rfl (Yy rfl (Yy rfl (Yy rfl (Yy rfl (Yy rfl (Yy (OY ?_) (Yy rfl (Yy rfl (Yy rfl (rfl)))))))))))
  exact Qe _
 .refine ZN H<|fun p1 w1 H=>ZW H rfl<|fun p2 w2 H=>Z9 rfl<|zM (H.el 8 rfl E hx) 1 zL<|ZU Ab<|Z9 rfl<|Yf H 8 rfl E hx 1 (⟨c.fn,c.at_+1,c.vl,c.loc,c.vs,c.stk⟩) rfl rfl rfl rfl<|fun w1 H=>Z9 rfl<|zT H 1 0 zQ<|bk ?_
  simp only [V4] at H
  have hx1:(up++[(⟨c.fn,c.at_+1,c.vl,c.loc,c.vs,c.stk⟩:CV)])[up.length]?=some (⟨c.fn,c.at_+1,c.vl,c.loc,c.vs,c.stk⟩:CV):=Yj rfl
  clear hx
  have V6:∀z,(up++[(⟨c.fn,c.at_+1,c.vl,c.loc,c.vs,c.stk⟩:CV)]).set up.length z=up++[z]:=Yd rfl
  refine cF (Z5 Ab)<|cF (Z5 Ab)<|cF (Z5 Ab)<|cF (Z5 Ab)<|cF (Z5 Ab)<|cF (Z5 Ab)<|cF (Z5 Ab)<|cT (ZL Aa)<|H.Z8 [11,9]<|fun H=>?_
  refine Z7.mk (Fc.imp (Rn.Py E _ hx1 H Ab ?_) ?_)
  .grind
  clear H
  rintro _ w2 ⟨Zx,⟨t1,⟨rfl,⟨h2,H⟩⟩⟩⟩
  simp only [V6] at H
  replace h2:t1=top c.stk 0:=h2
  clear hx1
  have Re:(up++[(⟨c.fn,c.at_+1,c.vl,c.loc,Zx,low c.stk 1⟩:CV)])[up.length]?=some (⟨c.fn,c.at_+1,c.vl,c.loc,Zx,low c.stk 1⟩:CV):=Yj rfl
  have Qe:∀z,(up++[(⟨c.fn,c.at_+1,c.vl,c.loc,Zx,low c.stk 1⟩:CV)]).set up.length z=up++[z]:=Yd rfl
  refine cT (Wd Ab) ?_
  obtain ⟨b1,o1,E1,F1,ZD⟩:=Z0.YQ hj hw
  refine ZG E1 rfl rfl rfl<|ZC (H.X9 F1) 0 rfl rfl rfl ?_
  refine Z7.mk (Fc.imp (Rn.JR E _ Re H _ Ab Ab Ab ?_) ?_)
  .grind
  clear H
  rintro v' w3 ⟨VK,H⟩
  refine Zr rfl rfl rfl<|ZH H 2 rfl rfl rfl rfl<|fun w4 H=>XG (H.at 2 rfl) 0 rfl rfl rfl<|Z6.mk ?_
  refine ⟨VK,?_⟩
  refine ⟨rfl,?_⟩
  refine H.Z8 [1,11,11,3,11,11,11,11,11,11]<|fun H=>H.drop 11<|fun H=>H.drop 10<|fun H=>?_
  refine H.cg (Yy rfl (Yy rfl (Yy rfl (Yy rfl (Yy rfl (Yy rfl (Yy (OY ?_) (Yy rfl (Yy rfl (Yy rfl (rfl)))))))))))
  exact Qe _
theorem ahK (H:Sat g w (Pt pr [zV cp,vw,vc,zW 0] 148::Pt cp (zY m [zV mp,vt,vg]) 158::Pt mp [vp,zW m.most] 221::Sl 223 256 Xg vp ps::Sl 3 1 ZJ vt Zw::Sl 2 1 ZJ vg Zm::Sl 79 4 WH vc cs::Qt up::Sl 2 1 ZJ c.vl c.loc::Sl 2 1 ZJ c.vs c.stk::l)) (hcs:cs=up++[c]) (E:El vc 4 up.length b o) (T7:0<=c.at_/\c.at_<=1000) (hlen:c.stk.length<=10000) (h1:1<=c.stk.length) (ho:(x.op=4/\top c.stk 0≠0)\/(x.op=13/\top c.stk 0=0)):Fc Tryz.prog 114 #[zV pr,.pointer (some ⟨b,o,none⟩),.agg #[.int .u8 x.op,zW x.a,zW x.b,SD],vj] w (fun r w'=>∃vs',r=.agg #[zW 0,.slice none 0 0,zW 0,zW 0,zW 0]/\Sat g w' (Pt pr [zV cp,vw,vc,zW 0] 148::Pt cp (zY m [zV mp,vt,vg]) 158::Pt mp [vp,zW m.most] 221::Sl 223 256 Xg vp ps::Sl 3 1 ZJ vt Zw::Sl 2 1 ZJ vg Zm::Sl 79 4 WH vc (up++[⟨c.fn,c.at_+1,c.vl,c.loc,vs',(low c.stk 1)⟩])::Qt up::Sl 2 1 ZJ c.vl c.loc::Sl 2 1 ZJ vs' (low c.stk 1)::l)):=by
 refine Fc.of Tryz.func114 rfl k_d ?_
 have hx:=Yj hcs
 have V4:=Yd hcs
 have QZ:(low c.stk 1).length=c.stk.length-1:=PL
 rcases ho with ⟨ho,hz⟩|⟨ho,hz⟩
 .refine ZN H<|fun p1 w1 H=>ZW H rfl<|fun p2 w2 H=>Z9 rfl<|zM (H.el 8 rfl E hx) 1 zL<|ZU Ab<|Z9 rfl<|Yf H 8 rfl E hx 1 (⟨c.fn,c.at_+1,c.vl,c.loc,c.vs,c.stk⟩) rfl rfl rfl rfl<|fun w1 H=>Z9 rfl<|zT H 1 0 zQ<|bk ?_
  simp only [V4] at H
  have hx1:(up++[(⟨c.fn,c.at_+1,c.vl,c.loc,c.vs,c.stk⟩:CV)])[up.length]?=some (⟨c.fn,c.at_+1,c.vl,c.loc,c.vs,c.stk⟩:CV):=Yj rfl
  clear hx
  have V6:∀z,(up++[(⟨c.fn,c.at_+1,c.vl,c.loc,c.vs,c.stk⟩:CV)]).set up.length z=up++[z]:=Yd rfl
  refine cF (Z5 Ab)<|cF (Z5 Ab)<|cF (Z5 Ab)<|cF (Z5 Ab)<|cT (ZL Aa)<|H.Z8 [11,9]<|fun H=>?_
  refine Z7.mk (Fc.imp (Rn.Py E _ hx1 H Ab ?_) ?_)
  .grind
  clear H
  rintro _ w2 ⟨Zx,⟨t1,⟨rfl,⟨h2,H⟩⟩⟩⟩
  simp only [V6] at H
  replace h2:t1=top c.stk 0:=h2
  clear hx1
  have Re:(up++[(⟨c.fn,c.at_+1,c.vl,c.loc,Zx,low c.stk 1⟩:CV)])[up.length]?=some (⟨c.fn,c.at_+1,c.vl,c.loc,Zx,low c.stk 1⟩:CV):=Yj rfl
  have Qe:∀z,(up++[(⟨c.fn,c.at_+1,c.vl,c.loc,Zx,low c.stk 1⟩:CV)]).set up.length z=up++[z]:=Yd rfl
  refine cF (Z5 Ab)<|Zr rfl rfl rfl<|ZH H 2 rfl rfl rfl rfl<|fun w3 H=>XG (H.at 2 rfl) 0 rfl rfl rfl<|Z6.mk ?_
  refine ⟨Zx,?_⟩
  refine ⟨rfl,?_⟩
  refine H.Z8 [1,11,11,3,11,11,11,11,11,11]<|fun H=>H.drop 11<|fun H=>H.drop 10<|fun H=>?_
  exact H
 .refine ZN H<|fun p1 w1 H=>ZW H rfl<|fun p2 w2 H=>Z9 rfl<|zM (H.el 8 rfl E hx) 1 zL<|ZU Ab<|Z9 rfl<|Yf H 8 rfl E hx 1 (⟨c.fn,c.at_+1,c.vl,c.loc,c.vs,c.stk⟩) rfl rfl rfl rfl<|fun w1 H=>Z9 rfl<|zT H 1 0 zQ<|bk ?_
  simp only [V4] at H
  have hx1:(up++[(⟨c.fn,c.at_+1,c.vl,c.loc,c.vs,c.stk⟩:CV)])[up.length]?=some (⟨c.fn,c.at_+1,c.vl,c.loc,c.vs,c.stk⟩:CV):=Yj rfl
  clear hx
  have V6:∀z,(up++[(⟨c.fn,c.at_+1,c.vl,c.loc,c.vs,c.stk⟩:CV)]).set up.length z=up++[z]:=Yd rfl
  refine cF (Z5 Ab)<|cF (Z5 Ab)<|cF (Z5 Ab)<|cF (Z5 Ab)<|cF (Z5 Ab)<|cF (Z5 Ab)<|cF (Z5 Ab)<|cT (ZL Aa)<|H.Z8 [11,9]<|fun H=>?_
  refine Z7.mk (Fc.imp (Rn.Py E _ hx1 H Ab ?_) ?_)
  .grind
  clear H
  rintro _ w2 ⟨Zx,⟨t1,⟨rfl,⟨h2,H⟩⟩⟩⟩
  simp only [V6] at H
  replace h2:t1=top c.stk 0:=h2
  clear hx1
  have Re:(up++[(⟨c.fn,c.at_+1,c.vl,c.loc,Zx,low c.stk 1⟩:CV)])[up.length]?=some (⟨c.fn,c.at_+1,c.vl,c.loc,Zx,low c.stk 1⟩:CV):=Yj rfl
  have Qe:∀z,(up++[(⟨c.fn,c.at_+1,c.vl,c.loc,Zx,low c.stk 1⟩:CV)]).set up.length z=up++[z]:=Yd rfl
  refine cF (XC Ab)<|Zr rfl rfl rfl<|ZH H 2 rfl rfl rfl rfl<|fun w3 H=>XG (H.at 2 rfl) 0 rfl rfl rfl<|Z6.mk ?_
  refine ⟨Zx,?_⟩
  refine ⟨rfl,?_⟩
  refine H.Z8 [1,11,11,3,11,11,11,11,11,11]<|fun H=>H.drop 11<|fun H=>H.drop 10<|fun H=>?_
  exact H
theorem ai8 (H:Sat g w (Pt pr [zV cp,vw,vc,zW 0] 148::Pt cp (zY m [zV mp,vt,vg]) 158::Pt mp [vp,zW m.most] 221::Sl 223 256 Xg vp ps::Sl 3 1 ZJ vt Zw::Sl 2 1 ZJ vg Zm::Sl 79 4 WH vc cs::Qt up::Sl 2 1 ZJ c.vl c.loc::Sl 2 1 ZJ c.vs c.stk::l)) (hcs:cs=up++[c]) (E:El vc 4 up.length b o) (T7:0<=c.at_/\c.at_<=1000) (hlen:c.stk.length<=10000) (hj:Z0 g N3 CW 3 vj ws) (hjn:0<=j.height) (A8:0<=j.keep) (CP:ws.length<=100) (h1:1<=c.stk.length) (Ud:XB (top c.stk 0)) (ho:x.op=14) (hw0:1<=ws.length) (hw:ws[(min (top c.stk 0 % 4294967296) (ws.length-1)).toNat]?=some j) (hjf:j.height+j.keep<=(low c.stk 1).length):Fc Tryz.prog 114 #[zV pr,.pointer (some ⟨b,o,none⟩),.agg #[.int .u8 x.op,zW x.a,zW x.b,SD],vj] w (fun r w'=>∃vs',r=.agg #[zW 0,.slice none 0 0,zW 0,zW 0,zW 0]/\Sat g w' (Pt pr [zV cp,vw,vc,zW 0] 148::Pt cp (zY m [zV mp,vt,vg]) 158::Pt mp [vp,zW m.most] 221::Sl 223 256 Xg vp ps::Sl 3 1 ZJ vt Zw::Sl 2 1 ZJ vg Zm::Sl 79 4 WH vc (up++[⟨c.fn,j.at_,c.vl,c.loc,vs',((low c.stk 1).take j.height.toNat++(low c.stk 1).drop ((low c.stk 1).length-j.keep.toNat))⟩])::Qt up::Sl 2 1 ZJ c.vl c.loc::Sl 2 1 ZJ vs' ((low c.stk 1).take j.height.toNat++(low c.stk 1).drop ((low c.stk 1).length-j.keep.toNat))::l)):=by
 refine Fc.of Tryz.func114 rfl k_d ?_
 have hx:=Yj hcs
 have V4:=Yd hcs
 have QZ:(low c.stk 1).length=c.stk.length-1:=PL
 refine ZN H<|fun p1 w1 H=>ZW H rfl<|fun p2 w2 H=>Z9 rfl<|zM (H.el 8 rfl E hx) 1 zL<|ZU Ab<|Z9 rfl<|Yf H 8 rfl E hx 1 (⟨c.fn,c.at_+1,c.vl,c.loc,c.vs,c.stk⟩) rfl rfl rfl rfl<|fun w1 H=>Z9 rfl<|zT H 1 0 zQ<|bk ?_
 simp only [V4] at H
 have hx1:(up++[(⟨c.fn,c.at_+1,c.vl,c.loc,c.vs,c.stk⟩:CV)])[up.length]?=some (⟨c.fn,c.at_+1,c.vl,c.loc,c.vs,c.stk⟩:CV):=Yj rfl
 clear hx
 have V6:∀z,(up++[(⟨c.fn,c.at_+1,c.vl,c.loc,c.vs,c.stk⟩:CV)]).set up.length z=up++[z]:=Yd rfl
 refine cF (Z5 Ab)<|cF (Z5 Ab)<|cF (Z5 Ab)<|cF (Z5 Ab)<|cF (Z5 Ab)<|cF (Z5 Ab)<|cF (Z5 Ab)<|cF (Z5 Ab)<|cT (ZL Aa)<|H.Z8 [11,9]<|fun H=>?_
 refine Z7.mk (Fc.imp (Rn.Py E _ hx1 H Ab ?_) ?_)
 .grind
 clear H
 rintro _ w2 ⟨Zx,⟨t1,⟨rfl,⟨h2,H⟩⟩⟩⟩
 simp only [V6] at H
 replace h2:t1=top c.stk 0:=h2
 clear hx1
 have Re:(up++[(⟨c.fn,c.at_+1,c.vl,c.loc,Zx,low c.stk 1⟩:CV)])[up.length]?=some (⟨c.fn,c.at_+1,c.vl,c.loc,Zx,low c.stk 1⟩:CV):=Yj rfl
 have Qe:∀z,(up++[(⟨c.fn,c.at_+1,c.vl,c.loc,Zx,low c.stk 1⟩:CV)]).set up.length z=up++[z]:=Yd rfl
 have F8:ws[(min (t1 % 4294967296) (ws.length-1)).toNat]?=some j:=by grind
 have aoZ:XB t1:=by rw [h2];exact Ud
 refine Yq rfl rfl<|Xl Ab rfl rfl<|ZF hj rfl<|ZU Ab<|amJ ?_
 obtain ⟨b1,o1,E1,F1,ZD⟩:=Z0.YQ hj F8
 refine ZG E1 Ab rfl rfl<|ZC (H.X9 F1) 0 rfl rfl rfl ?_
 refine Z7.mk (Fc.imp (Rn.JR E _ Re H _ Ab Ab Ab ?_) ?_)
 .grind
 clear H
 rintro v' w3 ⟨VK,H⟩
 refine Zr rfl rfl rfl<|ZH H 2 rfl rfl rfl rfl<|fun w4 H=>XG (H.at 2 rfl) 0 rfl rfl rfl<|Z6.mk ?_
 refine ⟨VK,?_⟩
 refine ⟨rfl,?_⟩
 refine H.Z8 [1,11,11,3,11,11,11,11,11,11]<|fun H=>H.drop 11<|fun H=>H.drop 10<|fun H=>?_
 refine H.cg (Yy rfl (Yy rfl (Yy rfl (Yy rfl (Yy rfl (Yy rfl (Yy (OY ?_) (Yy rfl (Yy rfl (Yy rfl (rfl)))))))))))
 exact Qe _
end
end Rn
namespace Rn
open Go Y4 Go.RowKit
open YZ Zo X4 YS Valid Mem
section
variable {g:ZB} {w:World} {l:List As} {m:Zh} {pr cp mp:Nat} {vw vc vt vg vp SD vj:Value} {host f e:Int} {cs up:List CV} {Zw Zm s2:List Int} {ps:List W0} {c u:CV} {x:ZX} {i b o:Nat} {ws:List Yl} {j:Yl}
theorem ai9 (H:Sat g w (Pt pr [zV cp,vw,vc,zW 0] 148::Pt cp (zY m [zV mp,vt,vg]) 158::Pt mp [vp,zW m.most] 221::Sl 223 256 Xg vp ps::Sl 3 1 ZJ vt Zw::Sl 2 1 ZJ vg Zm::Sl 79 4 WH vc cs::Qt up::Sl 2 1 ZJ c.vl c.loc::Sl 2 1 ZJ c.vs c.stk::l)) (hcs:cs=up++[c]) (E:El vc 4 up.length b o) (T7:0<=c.at_/\c.at_<=1000) (hlen:c.stk.length<=10000) (hm:Xu g m) (P:UW m.d) (ho:x.op=16\/x.op=17) (Rt:∀n∈Zw,-1<=n/\n<(m.Zz.length:Int)+m.funcs.length) (h1:x.op=17->1<=c.stk.length/\0<=x.a/\x.a<m.types.length) (Ud:∀v∈c.stk,XB v) (Nq:Zw.length<=1000) (R9:cs.length<=40) (hq:Zc m.d Zw x c.stk=(f,s2,e)) (he:e≠0):Fc Tryz.prog 114 #[zV pr,.pointer (some ⟨b,o,none⟩),.agg #[.int .u8 x.op,zW x.a,zW x.b,SD],vj] w (fun r w'=>r=.agg #[zW 2,.slice none 0 0,zW e,zW 0,zW 0]/\Sat g w' (Pt pr [zV cp,vw,vc,zW 0] 148::Pt cp (zY m [zV mp,vt,vg]) 158::Pt mp [vp,zW m.most] 221::Sl 223 256 Xg vp ps::Sl 3 1 ZJ vt Zw::Sl 2 1 ZJ vg Zm::l)):=by
 refine Fc.of Tryz.func114 rfl k_d ?_
 have hx:=Yj hcs
 have V4:=Yd hcs
 have hvl:=H.one 8 rfl
 have DI:up.length+1=cs.length:=by grind
 refine ZN H<|fun p1 w1 H=>ZW H rfl<|fun p2 w2 H=>Z9 rfl<|zM (H.el 8 rfl E hx) 1 zL<|ZU Ab<|Z9 rfl<|Yf H 8 rfl E hx 1 (⟨c.fn,c.at_+1,c.vl,c.loc,c.vs,c.stk⟩) rfl rfl rfl rfl<|fun w1 H=>Z9 rfl<|zT H 1 0 zQ<|bk ?_
 simp only [V4] at H
 have hx1:(up++[(⟨c.fn,c.at_+1,c.vl,c.loc,c.vs,c.stk⟩:CV)])[up.length]?=some (⟨c.fn,c.at_+1,c.vl,c.loc,c.vs,c.stk⟩:CV):=Yj rfl
 clear hx
 have V6:∀z,(up++[(⟨c.fn,c.at_+1,c.vl,c.loc,c.vs,c.stk⟩:CV)]).set up.length z=up++[z]:=Yd rfl
 have Fm:(up++[(⟨c.fn,c.at_+1,c.vl,c.loc,c.vs,c.stk⟩:CV)]).length=cs.length:=by grind
 rcases ho with ho|ho
 .refine cF (Z5 Ab)<|cF (Z5 Ab)<|cF (Z5 Ab)<|cF (Z5 Ab)<|cF (Z5 Ab)<|cF (Z5 Ab)<|cF (Z5 Ab)<|cF (Z5 Ab)<|cF (Z5 Ab)<|cT (ZL Aa)<|cT (ZL Aa)<|ZC (H.at 1 rfl) 0 rfl rfl rfl<|H.Z8 [11,9,8,6,6]<|fun H=>?_
  refine Z7.mk (Fc.imp (Rn.afl E _ hx1 H Ab Ab Ab Ab Ab Ab Ab Ab Ab Ab hq Ab) ?_)
  clear H
  rintro _ w2 ⟨rfl,H⟩
  refine ZH H 3 rfl rfl rfl rfl<|fun w3 H=>XG (H.at 3 rfl) 0 rfl rfl rfl<|Z6.mk ?_
  refine ⟨rfl,?_⟩
  refine H.Z8 [7,3,7,7,5,5]<|fun H=>H.drop 9<|fun H=>H.drop 8<|fun H=>H.drop 7<|fun H=>H.drop 6<|fun H=>?_
  exact H
 .refine cF (Z5 Ab)<|cF (Z5 Ab)<|cF (Z5 Ab)<|cF (Z5 Ab)<|cF (Z5 Ab)<|cF (Z5 Ab)<|cF (Z5 Ab)<|cF (Z5 Ab)<|cF (Z5 Ab)<|cF (Z5 Ab)<|cT (ZL Aa)<|ZC (H.at 1 rfl) 0 rfl rfl rfl<|H.Z8 [11,9,8,6,6]<|fun H=>?_
  refine Z7.mk (Fc.imp (Rn.afl E _ hx1 H Ab Ab Ab Ab Ab Ab Ab Ab Ab Ab hq Ab) ?_)
  clear H
  rintro _ w2 ⟨rfl,H⟩
  refine ZH H 3 rfl rfl rfl rfl<|fun w3 H=>XG (H.at 3 rfl) 0 rfl rfl rfl<|Z6.mk ?_
  refine ⟨rfl,?_⟩
  refine H.Z8 [7,3,7,7,5,5]<|fun H=>H.drop 9<|fun H=>H.drop 8<|fun H=>H.drop 7<|fun H=>H.drop 6<|fun H=>?_
  exact H
theorem aja (H:Sat g w (Pt pr [zV cp,vw,vc,zW 0] 148::Pt cp (zY m [zV mp,vt,vg]) 158::Pt mp [vp,zW m.most] 221::Sl 223 256 Xg vp ps::Sl 3 1 ZJ vt Zw::Sl 2 1 ZJ vg Zm::Sl 79 4 WH vc cs::Qt up::Sl 2 1 ZJ c.vl c.loc::Sl 2 1 ZJ c.vs c.stk::l)) (hcs:cs=up++[c]) (E:El vc 4 up.length b o) (T7:0<=c.at_/\c.at_<=1000) (hlen:c.stk.length<=10000) (hm:Xu g m) (P:UW m.d) (ho:x.op=16\/x.op=17) (Rt:∀n∈Zw,-1<=n/\n<(m.Zz.length:Int)+m.funcs.length) (h1:x.op=17->1<=c.stk.length/\0<=x.a/\x.a<m.types.length) (Ud:∀v∈c.stk,XB v) (Nq:Zw.length<=1000) (R9:cs.length<=40) (hq:Zc m.d Zw x c.stk=(f,s2,0)) (hf:0<=f/\f<(m.Zz.length:Int)+m.funcs.length) (IT:(YP m.d f).Zb.length<=s2.length) (Qb:s2.length<=10000) (BY:(m.Zz.length:Int)<=f) (Fo:cs.length=40):Fc Tryz.prog 114 #[zV pr,.pointer (some ⟨b,o,none⟩),.agg #[.int .u8 x.op,zW x.a,zW x.b,SD],vj] w (fun r w'=>r=.agg #[zW 2,.slice none 0 0,zW 26,zW 0,zW 0]/\Sat g w' (Pt pr [zV cp,vw,vc,zW 0] 148::Pt cp (zY m [zV mp,vt,vg]) 158::Pt mp [vp,zW m.most] 221::Sl 223 256 Xg vp ps::Sl 3 1 ZJ vt Zw::Sl 2 1 ZJ vg Zm::l)):=by
 refine Fc.of Tryz.func114 rfl k_d ?_
 have hx:=Yj hcs
 have V4:=Yd hcs
 have hvl:=H.one 8 rfl
 have DI:up.length+1=cs.length:=by grind
 refine ZN H<|fun p1 w1 H=>ZW H rfl<|fun p2 w2 H=>Z9 rfl<|zM (H.el 8 rfl E hx) 1 zL<|ZU Ab<|Z9 rfl<|Yf H 8 rfl E hx 1 (⟨c.fn,c.at_+1,c.vl,c.loc,c.vs,c.stk⟩) rfl rfl rfl rfl<|fun w1 H=>Z9 rfl<|zT H 1 0 zQ<|bk ?_
 simp only [V4] at H
 have hx1:(up++[(⟨c.fn,c.at_+1,c.vl,c.loc,c.vs,c.stk⟩:CV)])[up.length]?=some (⟨c.fn,c.at_+1,c.vl,c.loc,c.vs,c.stk⟩:CV):=Yj rfl
 clear hx
 have V6:∀z,(up++[(⟨c.fn,c.at_+1,c.vl,c.loc,c.vs,c.stk⟩:CV)]).set up.length z=up++[z]:=Yd rfl
 have Fm:(up++[(⟨c.fn,c.at_+1,c.vl,c.loc,c.vs,c.stk⟩:CV)]).length=cs.length:=by grind
 rcases ho with ho|ho
 .refine cF (Z5 Ab)<|cF (Z5 Ab)<|cF (Z5 Ab)<|cF (Z5 Ab)<|cF (Z5 Ab)<|cF (Z5 Ab)<|cF (Z5 Ab)<|cF (Z5 Ab)<|cF (Z5 Ab)<|cT (ZL Aa)<|cT (ZL Aa)<|ZC (H.at 1 rfl) 0 rfl rfl rfl<|H.Z8 [11,9,8,6,6]<|fun H=>?_
  refine Z7.mk (Fc.imp (Rn.afm E _ hx1 H Ab Ab Ab Ab Ab Ab Ab Ab Ab Ab hq Ab Ab Ab Ab Ab) ?_)
  clear H
  rintro _ w2 ⟨rfl,H⟩
  refine ZH H 3 rfl rfl rfl rfl<|fun w3 H=>XG (H.at 3 rfl) 0 rfl rfl rfl<|Z6.mk ?_
  refine ⟨rfl,?_⟩
  refine H.Z8 [7,3,7,7,5,5]<|fun H=>H.drop 9<|fun H=>H.drop 8<|fun H=>H.drop 7<|fun H=>H.drop 6<|fun H=>?_
  exact H
 .refine cF (Z5 Ab)<|cF (Z5 Ab)<|cF (Z5 Ab)<|cF (Z5 Ab)<|cF (Z5 Ab)<|cF (Z5 Ab)<|cF (Z5 Ab)<|cF (Z5 Ab)<|cF (Z5 Ab)<|cF (Z5 Ab)<|cT (ZL Aa)<|ZC (H.at 1 rfl) 0 rfl rfl rfl<|H.Z8 [11,9,8,6,6]<|fun H=>?_
  refine Z7.mk (Fc.imp (Rn.afm E _ hx1 H Ab Ab Ab Ab Ab Ab Ab Ab Ab Ab hq Ab Ab Ab Ab Ab) ?_)
  clear H
  rintro _ w2 ⟨rfl,H⟩
  refine ZH H 3 rfl rfl rfl rfl<|fun w3 H=>XG (H.at 3 rfl) 0 rfl rfl rfl<|Z6.mk ?_
  refine ⟨rfl,?_⟩
  refine H.Z8 [7,3,7,7,5,5]<|fun H=>H.drop 9<|fun H=>H.drop 8<|fun H=>H.drop 7<|fun H=>H.drop 6<|fun H=>?_
  exact H
theorem ajb (H:Sat g w (Pt pr [zV cp,vw,vc,zW 0] 148::Pt cp (zY m [zV mp,vt,vg]) 158::Pt mp [vp,zW m.most] 221::Sl 223 256 Xg vp ps::Sl 3 1 ZJ vt Zw::Sl 2 1 ZJ vg Zm::Sl 79 4 WH vc cs::Qt up::Sl 2 1 ZJ c.vl c.loc::Sl 2 1 ZJ c.vs c.stk::l)) (hcs:cs=up++[c]) (E:El vc 4 up.length b o) (T7:0<=c.at_/\c.at_<=1000) (hlen:c.stk.length<=10000) (hm:Xu g m) (P:UW m.d) (ho:x.op=16\/x.op=17) (Rt:∀n∈Zw,-1<=n/\n<(m.Zz.length:Int)+m.funcs.length) (h1:x.op=17->1<=c.stk.length/\0<=x.a/\x.a<m.types.length) (Ud:∀v∈c.stk,XB v) (Nq:Zw.length<=1000) (R9:cs.length<=40) (hq:Zc m.d Zw x c.stk=(f,s2,0)) (hf:0<=f/\f<(m.Zz.length:Int)+m.funcs.length) (IT:(YP m.d f).Zb.length<=s2.length) (Qb:s2.length<=10000) (BY:f<m.Zz.length):Fc Tryz.prog 114 #[zV pr,.pointer (some ⟨b,o,none⟩),.agg #[.int .u8 x.op,zW x.a,zW x.b,SD],vj] w (fun r w'=>∃vs' vv,r=.agg #[zW 4,vv,zW 0,zW f,zW 0]/\Sat g w' (Pt pr [zV cp,vw,vc,zW (f+1)] 148::Pt cp (zY m [zV mp,vt,vg]) 158::Pt mp [vp,zW m.most] 221::Sl 223 256 Xg vp ps::Sl 3 1 ZJ vt Zw::Sl 2 1 ZJ vg Zm::Sl 79 4 WH vc (up++[⟨c.fn,c.at_+1,c.vl,c.loc,vs',s2.take (s2.length-(YP m.d f).Zb.length)⟩])::Qt up::Sl 2 1 ZJ c.vl c.loc::Sl 2 1 ZJ vs' (s2.take (s2.length-(YP m.d f).Zb.length))::Sl 2 1 ZJ vv (s2.drop (s2.length-(YP m.d f).Zb.length))::l)):=by
 refine Fc.of Tryz.func114 rfl k_d ?_
 have hx:=Yj hcs
 have V4:=Yd hcs
 have hvl:=H.one 8 rfl
 have DI:up.length+1=cs.length:=by grind
 refine ZN H<|fun p1 w1 H=>ZW H rfl<|fun p2 w2 H=>Z9 rfl<|zM (H.el 8 rfl E hx) 1 zL<|ZU Ab<|Z9 rfl<|Yf H 8 rfl E hx 1 (⟨c.fn,c.at_+1,c.vl,c.loc,c.vs,c.stk⟩) rfl rfl rfl rfl<|fun w1 H=>Z9 rfl<|zT H 1 0 zQ<|bk ?_
 simp only [V4] at H
 have hx1:(up++[(⟨c.fn,c.at_+1,c.vl,c.loc,c.vs,c.stk⟩:CV)])[up.length]?=some (⟨c.fn,c.at_+1,c.vl,c.loc,c.vs,c.stk⟩:CV):=Yj rfl
 clear hx
 have V6:∀z,(up++[(⟨c.fn,c.at_+1,c.vl,c.loc,c.vs,c.stk⟩:CV)]).set up.length z=up++[z]:=Yd rfl
 have Fm:(up++[(⟨c.fn,c.at_+1,c.vl,c.loc,c.vs,c.stk⟩:CV)]).length=cs.length:=by grind
 rcases ho with ho|ho
 .refine cF (Z5 Ab)<|cF (Z5 Ab)<|cF (Z5 Ab)<|cF (Z5 Ab)<|cF (Z5 Ab)<|cF (Z5 Ab)<|cF (Z5 Ab)<|cF (Z5 Ab)<|cF (Z5 Ab)<|cT (ZL Aa)<|cT (ZL Aa)<|ZC (H.at 1 rfl) 0 rfl rfl rfl<|H.Z8 [11,9,8,6,6]<|fun H=>?_
  refine Z7.mk (Fc.imp (Rn.afn E _ hx1 H Ab Ab Ab Ab Ab Ab Ab Ab Ab Ab hq Ab Ab Ab Ab) ?_)
  clear H
  rintro _ w2 ⟨Zx,⟨CM,⟨rfl,H⟩⟩⟩
  refine ZH H 6 rfl rfl rfl (by simp only [List.all_cons,List.all_nil,H.one 2 rfl,H.one 3 rfl,H.one 4 rfl,H.one 5 rfl,H.one 9 rfl,H.one 10 rfl,H.one 12 rfl,hvl];rfl)<|fun w3 H=>XG (H.at 6 rfl) 0 rfl rfl rfl<|Z6.mk ?_
  refine ⟨Zx,CM,?_⟩
  refine ⟨rfl,?_⟩
  refine H.Z8 [5,5,12,12,7,12,8,12,12,10,10]<|fun H=>H.drop 12<|fun H=>H.drop 11<|fun H=>?_
  refine H.cg (Yy rfl (Yy rfl (Yy rfl (Yy rfl (Yy rfl (Yy rfl (Yy (OY ?_) (Yy rfl (Yy rfl (Yy rfl (Yy rfl (rfl))))))))))))
  exact V6 _
 .refine cF (Z5 Ab)<|cF (Z5 Ab)<|cF (Z5 Ab)<|cF (Z5 Ab)<|cF (Z5 Ab)<|cF (Z5 Ab)<|cF (Z5 Ab)<|cF (Z5 Ab)<|cF (Z5 Ab)<|cF (Z5 Ab)<|cT (ZL Aa)<|ZC (H.at 1 rfl) 0 rfl rfl rfl<|H.Z8 [11,9,8,6,6]<|fun H=>?_
  refine Z7.mk (Fc.imp (Rn.afn E _ hx1 H Ab Ab Ab Ab Ab Ab Ab Ab Ab Ab hq Ab Ab Ab Ab) ?_)
  clear H
  rintro _ w2 ⟨Zx,⟨CM,⟨rfl,H⟩⟩⟩
  refine ZH H 6 rfl rfl rfl (by simp only [List.all_cons,List.all_nil,H.one 2 rfl,H.one 3 rfl,H.one 4 rfl,H.one 5 rfl,H.one 9 rfl,H.one 10 rfl,H.one 12 rfl,hvl];rfl)<|fun w3 H=>XG (H.at 6 rfl) 0 rfl rfl rfl<|Z6.mk ?_
  refine ⟨Zx,CM,?_⟩
  refine ⟨rfl,?_⟩
  refine H.Z8 [5,5,12,12,7,12,8,12,12,10,10]<|fun H=>H.drop 12<|fun H=>H.drop 11<|fun H=>?_
  refine H.cg (Yy rfl (Yy rfl (Yy rfl (Yy rfl (Yy rfl (Yy rfl (Yy (OY ?_) (Yy rfl (Yy rfl (Yy rfl (Yy rfl (rfl))))))))))))
  exact V6 _
theorem ajc (H:Sat g w (Pt pr [zV cp,vw,vc,zW 0] 148::Pt cp (zY m [zV mp,vt,vg]) 158::Pt mp [vp,zW m.most] 221::Sl 223 256 Xg vp ps::Sl 3 1 ZJ vt Zw::Sl 2 1 ZJ vg Zm::Sl 79 4 WH vc cs::Qt up::Sl 2 1 ZJ c.vl c.loc::Sl 2 1 ZJ c.vs c.stk::l)) (hcs:cs=up++[c]) (E:El vc 4 up.length b o) (T7:0<=c.at_/\c.at_<=1000) (hlen:c.stk.length<=10000) (hm:Xu g m) (P:UW m.d) (ho:x.op=16\/x.op=17) (Rt:∀n∈Zw,-1<=n/\n<(m.Zz.length:Int)+m.funcs.length) (h1:x.op=17->1<=c.stk.length/\0<=x.a/\x.a<m.types.length) (Ud:∀v∈c.stk,XB v) (Nq:Zw.length<=1000) (R9:cs.length<=40) (hq:Zc m.d Zw x c.stk=(f,s2,0)) (hf:0<=f/\f<(m.Zz.length:Int)+m.funcs.length) (IT:(YP m.d f).Zb.length<=s2.length) (Qb:s2.length<=10000) (k:Nat) (F:Yt) (FF:f=m.Zz.length+k) (hF:m.funcs[k]?=some F) (hFl:F.loc.length<=16) (h4:(YP m.d f).Zb.length<=4) (Fo:cs.length<40):Fc Tryz.prog 114 #[zV pr,.pointer (some ⟨b,o,none⟩),.agg #[.int .u8 x.op,zW x.a,zW x.b,SD],vj] w (fun r w'=>∃Mh vs' Qc,r=.agg #[zW 0,.slice none 0 0,zW 0,zW 0,zW 0]/\Sat g w' (Pt pr [zV cp,vw,Mh,zW 0] 148::Pt cp (zY m [zV mp,vt,vg]) 158::Pt mp [vp,zW m.most] 221::Sl 223 256 Xg vp ps::Sl 3 1 ZJ vt Zw::Sl 2 1 ZJ vg Zm::Sl 79 4 WH Mh (up++[⟨c.fn,c.at_+1,c.vl,c.loc,vs',s2.take (s2.length-(YP m.d f).Zb.length)⟩]++[⟨k,0,Qc,s2.drop (s2.length-(YP m.d f).Zb.length)++List.replicate F.loc.length 0,.slice none 0 0,[]⟩])::Qt up::Sl 2 1 ZJ c.vl c.loc::Sl 2 1 ZJ vs' (s2.take (s2.length-(YP m.d f).Zb.length))::Sl 2 1 ZJ Qc (s2.drop (s2.length-(YP m.d f).Zb.length)++List.replicate F.loc.length 0)::Sl 2 1 ZJ (.slice none 0 0) []::l)):=by
 refine Fc.of Tryz.func114 rfl k_d ?_
 have hx:=Yj hcs
 have V4:=Yd hcs
 have hvl:=H.one 8 rfl
 have DI:up.length+1=cs.length:=by grind
 refine ZN H<|fun p1 w1 H=>ZW H rfl<|fun p2 w2 H=>Z9 rfl<|zM (H.el 8 rfl E hx) 1 zL<|ZU Ab<|Z9 rfl<|Yf H 8 rfl E hx 1 (⟨c.fn,c.at_+1,c.vl,c.loc,c.vs,c.stk⟩) rfl rfl rfl rfl<|fun w1 H=>Z9 rfl<|zT H 1 0 zQ<|bk ?_
 simp only [V4] at H
 have hx1:(up++[(⟨c.fn,c.at_+1,c.vl,c.loc,c.vs,c.stk⟩:CV)])[up.length]?=some (⟨c.fn,c.at_+1,c.vl,c.loc,c.vs,c.stk⟩:CV):=Yj rfl
 clear hx
 have V6:∀z,(up++[(⟨c.fn,c.at_+1,c.vl,c.loc,c.vs,c.stk⟩:CV)]).set up.length z=up++[z]:=Yd rfl
 have Fm:(up++[(⟨c.fn,c.at_+1,c.vl,c.loc,c.vs,c.stk⟩:CV)]).length=cs.length:=by grind
 rcases ho with ho|ho
 .refine cF (Z5 Ab)<|cF (Z5 Ab)<|cF (Z5 Ab)<|cF (Z5 Ab)<|cF (Z5 Ab)<|cF (Z5 Ab)<|cF (Z5 Ab)<|cF (Z5 Ab)<|cF (Z5 Ab)<|cT (ZL Aa)<|cT (ZL Aa)<|ZC (H.at 1 rfl) 0 rfl rfl rfl<|H.Z8 [11,9,8,6,6]<|fun H=>?_
  refine Z7.mk (Fc.imp (Rn.afo E _ hx1 H Ab Ab Ab Ab Ab Ab Ab Ab Ab Ab hq Ab Ab Ab (k) _ FF hF Ab Ab Ab) ?_)
  clear H
  rintro _ w2 ⟨GP,⟨Zx,⟨TX,⟨rfl,H⟩⟩⟩⟩
  refine ZH H 7 rfl rfl rfl rfl<|fun w3 H=>XG (H.at 7 rfl) 0 rfl rfl rfl ?_
  simp only [V6] at H
  refine Z6.mk ⟨GP,Zx,TX,rfl,?_⟩
  refine H.Z8 [6,6,6,13,13,8,13,9,13,13,11,11]<|fun H=>H.drop 13<|fun H=>H.drop 12<|fun H=>?_
  exact H
 .refine cF (Z5 Ab)<|cF (Z5 Ab)<|cF (Z5 Ab)<|cF (Z5 Ab)<|cF (Z5 Ab)<|cF (Z5 Ab)<|cF (Z5 Ab)<|cF (Z5 Ab)<|cF (Z5 Ab)<|cF (Z5 Ab)<|cT (ZL Aa)<|ZC (H.at 1 rfl) 0 rfl rfl rfl<|H.Z8 [11,9,8,6,6]<|fun H=>?_
  refine Z7.mk (Fc.imp (Rn.afo E _ hx1 H Ab Ab Ab Ab Ab Ab Ab Ab Ab Ab hq Ab Ab Ab (k) _ FF hF Ab Ab Ab) ?_)
  clear H
  rintro _ w2 ⟨GP,⟨Zx,⟨TX,⟨rfl,H⟩⟩⟩⟩
  refine ZH H 7 rfl rfl rfl rfl<|fun w3 H=>XG (H.at 7 rfl) 0 rfl rfl rfl ?_
  simp only [V6] at H
  refine Z6.mk ⟨GP,Zx,TX,rfl,?_⟩
  refine H.Z8 [6,6,6,13,13,8,13,9,13,13,11,11]<|fun H=>H.drop 13<|fun H=>H.drop 12<|fun H=>?_
  exact H
theorem ajd (H:Sat g w (Pt pr [zV cp,vw,vc,zW 0] 148::Pt cp (zY m [zV mp,vt,vg]) 158::Pt mp [vp,zW m.most] 221::Sl 223 256 Xg vp ps::Sl 3 1 ZJ vt Zw::Sl 2 1 ZJ vg Zm::Sl 79 4 WH vc cs::Qt up::Sl 2 1 ZJ c.vl c.loc::Sl 2 1 ZJ c.vs c.stk::l)) (hcs:cs=up++[c]) (E:El vc 4 up.length b o) (T7:0<=c.at_/\c.at_<=1000) (hlen:c.stk.length<=10000) (hD:G0 x ⟨flat ps,Zw,Zm⟩ c.loc c.stk) (hT:Fold.IV g) (DM:18<=x.op) (hop:x.op<=255) (hmo:ps.length<=m.most/\m.most<=8):Fc Tryz.prog 114 #[zV pr,.pointer (some ⟨b,o,none⟩),.agg #[.int .u8 x.op,zW x.a,zW x.b,SD],vj] w (fun r w'=>∃e vs' Tv ps' W4 loc' Y1,r=(if e≠0 then .agg #[zW 2,.slice none 0 0,zW e,zW 0,zW 0] else .agg #[zW 0,.slice none 0 0,zW 0,zW 0,zW 0])/\Oh (WJ m.most x ⟨flat ps,Zw,Zm⟩ c.loc c.stk) e (flat ps') W4 loc' Y1/\ps'.length<=8/\Sat g w' (Pt pr [zV cp,vw,vc,zW 0] 148::Pt cp (zY m [zV mp,vt,vg]) 158::Pt mp [Tv,zW m.most] 221::Sl 223 256 Xg Tv ps'::Sl 3 1 ZJ vt Zw::Sl 2 1 ZJ vg W4::Sl 79 4 WH vc (up++[⟨c.fn,c.at_+1,c.vl,loc',vs',Y1⟩])::Qt up::Sl 2 1 ZJ c.vl loc'::Sl 2 1 ZJ vs' Y1::l)):=by
 refine Fc.of Tryz.func114 rfl k_d ?_
 have hx:=Yj hcs
 have V4:=Yd hcs
 have hvl:=H.one 8 rfl
 refine ZN H<|fun p1 w1 H=>ZW H rfl<|fun p2 w2 H=>Z9 rfl<|zM (H.el 8 rfl E hx) 1 zL<|ZU Ab<|Z9 rfl<|Yf H 8 rfl E hx 1 (⟨c.fn,c.at_+1,c.vl,c.loc,c.vs,c.stk⟩) rfl rfl rfl rfl<|fun w1 H=>Z9 rfl<|zT H 1 0 zQ<|bk ?_
 simp only [V4] at H
 have hx1:(up++[(⟨c.fn,c.at_+1,c.vl,c.loc,c.vs,c.stk⟩:CV)])[up.length]?=some (⟨c.fn,c.at_+1,c.vl,c.loc,c.vs,c.stk⟩:CV):=Yj rfl
 clear hx
 have V6:∀z,(up++[(⟨c.fn,c.at_+1,c.vl,c.loc,c.vs,c.stk⟩:CV)]).set up.length z=up++[z]:=Yd rfl
 have Fm:(up++[(⟨c.fn,c.at_+1,c.vl,c.loc,c.vs,c.stk⟩:CV)]).length=cs.length:=by grind
 refine cF (Z5 Ab)<|cF (Z5 Ab)<|cF (Z5 Ab)<|cF (Z5 Ab)<|cF (Z5 Ab)<|cF (Z5 Ab)<|cF (Z5 Ab)<|cF (Z5 Ab)<|cF (Z5 Ab)<|cF (Z5 Ab)<|cF (Z5 Ab)<|ZK H [] [zUp0,zUp1,zUp2,zUh3,zUh4,zUp5,zUp6,zUp7,zUh8,zUp9,zUp10,zUp11,zUh12,zUfr13,zUp14,zUp15,zUp16,zUp17,zUp18] mixed k_d k_d<|fun w2 H=>zR rfl rfl<|zS 2 0 zQ rfl<|tk (fun _ Z=>ZC (Z.at 1 rfl) 0 rfl rfl rfl zX)<|zR rfl rfl<|tk (fun _ Z=>zM (Z.el 8 rfl E hx1) 2 zL zX)<|zR rfl rfl<|tk (fun _ Z=>zM (Z.el 8 rfl E hx1) 3 zL zX)<|H.Z8 [11,11,9,9,9,9,9]<|fun H=>?_
 refine Z7.mk (Fc.imp (Rn.do_ H Ab Ab Ab Ab Ab) ?_)
 clear H
 rintro _ w1 ⟨e1,⟨Zx,⟨DH,⟨QD,⟨JQ,⟨L1,⟨TK,⟨rfl,⟨h1,⟨h2,H⟩⟩⟩⟩⟩⟩⟩⟩⟩⟩
 refine Z9 rfl<|Yf H 10 rfl E hx1 3 (⟨c.fn,c.at_+1,c.vl,L1,(Zx),TK⟩) rfl (by simp only [Bool.and_true,H.one 2 rfl,H.one 3 rfl,H.one 4 rfl,H.one 5 rfl,H.one 6 rfl,H.one 10 rfl,hvl]) rfl rfl<|fun w3 H=>?_
 refine cI (fun c1=>?_) (fun c1=>?_)
 focus
  replace c1:=YI (c1)
  refine Zr rfl rfl rfl<|ZH H 7 rfl rfl rfl rfl<|fun w1 H=>XG (H.at 7 rfl) 0 rfl rfl rfl ?_
 rotate_left 1
 focus
  replace c1:=YH (c1)
  refine Zr rfl rfl rfl<|ZH H 7 rfl rfl rfl rfl<|fun w1 H=>XG (H.at 7 rfl) 0 rfl rfl rfl ?_
 rotate_left 1
 .simp only [V6] at H
  refine Z6.mk ⟨e1,Zx,DH,QD,JQ,L1,TK,(if_pos Aa).symm,by assumption,by assumption,?_⟩
  refine H.Z8 [6,6,11,11,8,8,8,8,8,11]<|fun H=>H.drop 11<|fun H=>H.drop 10<|fun H=>?_
  exact H
 .simp only [V6] at H
  refine Z6.mk ⟨e1,Zx,DH,QD,JQ,L1,TK,(if_neg Ab).symm,by assumption,by assumption,?_⟩
  refine H.Z8 [6,6,11,11,8,8,8,8,8,11]<|fun H=>H.drop 11<|fun H=>H.drop 10<|fun H=>?_
  exact H
end
end Rn
end Go.Proofs.YtakpnepblgfknaaGreatDoor
