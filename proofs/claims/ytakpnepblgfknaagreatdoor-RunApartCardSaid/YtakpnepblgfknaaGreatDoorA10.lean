/- Texts of this claim, one behind the other. -/
import Derived.Test.YtakpnepblgfknaaGreatDoorA9
import Derived.Test.YtakpnepblgfknaaGreatDoorA8
import Derived.Test.YtakpnepblgfknaaGreatDoorA7
import Derived.Test.YtakpnepblgfknaaGreatDoorA3
set_option maxRecDepth 100000
set_option maxHeartbeats 4000000
set_option linter.unusedVariables false
set_option linter.unusedSimpArgs false
set_option linter.defProp false
namespace Go.Proofs.YtakpnepblgfknaaGreatDoor
namespace Rn
open Go YZ Go.RowKit
open YX Zk X5 YS Valid Mem
section
variable {g:Zx} {w:World} {l:List As} {m:Zf} {cp mp:Nat} {vp vt vg vl vs S8:Value} {ps:List W0} {Zv Zl loc stk:List Int} {x:ZU}
theorem adr {ps:List W0} {n:Nat}:flat (ps++List.replicate n zp)=flat ps++List.replicate (256 * n) 0:=by
 unfold flat
 rw [lIa]
 congr 1
 induction n with
 | zero=>rfl
 | succ n ih =>
  rw [lDb,lMa,ih,show 256 * (n+1)=256+256 * n by omega,←List.replicate_append_replicate];rfl
theorem bt2 {s:List Int} (h:3≤s.length):∃t a b c,s=t++[a]++[b]++[c]:=by
 obtain ⟨t,c,rfl⟩:=Pa (show 1≤s.length by omega)
 rw [lca,lFa] at h
 obtain ⟨t,b,rfl⟩:=Pa (show 1≤t.length by omega)
 rw [lca,lFa] at h
 obtain ⟨t,a,rfl⟩:=Pa (show 1≤t.length by omega)
 exact ⟨t,a,b,c,rfl⟩
theorem aob {d:List Int→DT} {e:Int} {mm:List UInt8} {gl s':List Int} (h:∀loc,NC (d loc) e mm gl loc s'):NC (d loc) e mm gl loc s':=h loc
theorem anp {I:SE} {s':List Int} {e e1 e2:Int} {s1 s2:List Int} {c:Prop} [Decidable c] (h:(s',e)=(if c then (s1,e1) else (s2,e2))):NC (if c then ⟨I,loc,s1,e1⟩ else ⟨I,loc,s2,e2⟩) e I.mem I.Zl loc s':=by
 by_cases hc:c
 ·rw [if_pos hc] at h ⊢
  injection h with h1 h2
  exact ⟨h2,rfl,rfl,rfl,fun _=>h1⟩
 ·rw [if_neg hc] at h ⊢
  injection h with h1 h2
  exact ⟨h2,rfl,rfl,rfl,fun _=>h1⟩
theorem gr0 {e a most:Int} {ps':List W0} (h1:1≤stk.length) (h:most-(ps.length:Int)<a % 4294967296) (he:e=-1) (hp:ps'=ps):NC (if most-(ps.length:Int)<a % 4294967296 then ⟨⟨flat ps,Zv,Zl⟩,loc,low stk 1++[-1],0⟩ else ⟨⟨flat ps++List.replicate (256 * (a % 4294967296).toNat) 0,Zv,Zl⟩,loc,low stk 1++[(ps.length:Int)],0⟩) 0 (flat ps') Zl loc (stk.set (stk.length-1) e):=by
 rw [if_pos h,he,hp]
 exact ⟨rfl,rfl,rfl,rfl,fun _=>OA h1⟩
theorem gr1 {e a most:Int} {ps':List W0} (h1:1≤stk.length) (h:¬most-(ps.length:Int)<a % 4294967296) (he:e=ps.length) (hp:ps'=ps++List.replicate (a % 4294967296).toNat zp):NC (if most-(ps.length:Int)<a % 4294967296 then ⟨⟨flat ps,Zv,Zl⟩,loc,low stk 1++[-1],0⟩ else ⟨⟨flat ps++List.replicate (256 * (a % 4294967296).toNat) 0,Zv,Zl⟩,loc,low stk 1++[(ps.length:Int)],0⟩) 0 (flat ps') Zl loc (stk.set (stk.length-1) e):=by
 rw [if_neg h,he,hp,adr]
 exact ⟨rfl,rfl,rfl,rfl,fun _=>OA h1⟩
theorem alc (H:Sat g w (Pt cp (BV m [BS mp,vt,vg]) 158::Pt mp [vp,BT m.most] 221::Sl 223 256 Xs vp ps::Sl 3 1 ZJ vt Zv::Sl 2 1 ZJ vg Zl::Sl 2 1 ZJ vl loc::Sl 2 1 ZJ vs stk::l)) (ho:x.op=26) (h1:1≤stk.length) (hlen:stk.length≤100000) (hp:ps.length≤8):Fc Tryz.prog 160 #[BS cp,.agg #[.int .u8 x.op,BT x.a,BT x.b,S8],vl,vs] w (fun r w'=>∃e vs' T4 ps' Xf loc' Xj,r=.tuple #[vs',BT e]∧NC (V0 m.most x ⟨flat ps,Zv,Zl⟩ loc stk) e (flat ps') Xf loc' Xj∧ps'.length≤8∧Sat g w' (Pt cp (BV m [BS mp,vt,vg]) 158::Pt mp [T4,BT m.most] 221::Sl 223 256 Xs T4 ps'::Sl 3 1 ZJ vt Zv::Sl 2 1 ZJ vg Xf::Sl 2 1 ZJ vl loc'::Sl 2 1 ZJ vs' Xj::l)):=by
 refine Fc.of Tryz.func160 rfl k_d ?_
 have hd:V0 m.most x ⟨flat ps,Zv,Zl⟩ loc stk=⟨⟨flat ps,Zv,Zl⟩,loc,low stk 1,0⟩:=by grind [V0]
 rw [hd]
 clear hd
 refine ZH H<|fun p1 w1 H=>YV H 7 rfl rfl<|ZX BY<|bk<|Z9 rfl<|Z4 (H.at 0 rfl) 0 rfl rfl rfl<|cT (ZL BX)<|Od H 7 rfl 0 ((stk.length)-1) rfl rfl BY BY (.inl ⟨rfl,rfl⟩) (.inr ⟨_,by first|rfl|(congr 2;omega)⟩)<|fun v1=>?_
 intro H
 refine Z6.mk ?_
 refine ⟨0,v1,vp,ps,Zl,loc,List.drop 0 (List.take (stk.length-1) stk),?_⟩
 refine ⟨rfl,?_⟩
 refine ⟨?_,?_⟩
 ·exact ⟨rfl,rfl,rfl,rfl,fun _=>KA⟩
 refine ⟨BY,?_⟩
 refine H.Z8 [7,7,7,7,7,7,7]<|fun H=>H.drop 7<|fun H=>?_
 exact H
theorem ald (H:Sat g w (Pt cp (BV m [BS mp,vt,vg]) 158::Pt mp [vp,BT m.most] 221::Sl 223 256 Xs vp ps::Sl 3 1 ZJ vt Zv::Sl 2 1 ZJ vg Zl::Sl 2 1 ZJ vl loc::Sl 2 1 ZJ vs stk::l)) (ho:x.op=27) (h1:3≤stk.length) (hlen:stk.length≤100000) (hp:ps.length≤8):Fc Tryz.prog 160 #[BS cp,.agg #[.int .u8 x.op,BT x.a,BT x.b,S8],vl,vs] w (fun r w'=>∃e vs' T4 ps' Xf loc' Xj,r=.tuple #[vs',BT e]∧NC (V0 m.most x ⟨flat ps,Zv,Zl⟩ loc stk) e (flat ps') Xf loc' Xj∧ps'.length≤8∧Sat g w' (Pt cp (BV m [BS mp,vt,vg]) 158::Pt mp [T4,BT m.most] 221::Sl 223 256 Xs T4 ps'::Sl 3 1 ZJ vt Zv::Sl 2 1 ZJ vg Xf::Sl 2 1 ZJ vl loc'::Sl 2 1 ZJ vs' Xj::l)):=by
 refine Fc.of Tryz.func160 rfl k_d ?_
 obtain ⟨t,a,b,c,hs⟩:=bt2 h1
 have hl:stk.length=t.length+3:=by grind
 have hc:stk[stk.length-1]?=some c:=by grind
 have hb:stk[stk.length-1-1]?=some b:=by grind
 have ha:stk[stk.length-1-2]?=some a:=by grind
 have r1:List.drop 0 (List.take (stk.length-1-1) stk)=t++[a]:=by
  rw [hl,hs];simp
  rw [show t++[a,b,c]=(t++[a])++[b,c] by simp,lva BW,lqa BW]
 have r2:List.drop 0 (List.take (stk.length-1-1) (stk.set (stk.length-1-2) b))=t++[b]:=by
  rw [hl,hs];simp
  rw [show t++[b,b,c]=(t++[b])++[b,c] by simp,lva BW,lqa BW]
 have hd:V0 m.most x ⟨flat ps,Zv,Zl⟩ loc stk=⟨⟨flat ps,Zv,Zl⟩,loc,if c=0 then t++[b] else t++[a],0⟩:=by
  unfold V0
  rw [if_neg BY,if_pos ho,hs,UM,ak1,Ie BW,UM,NL,NL,KG]
 rw [hd]
 clear hd
 refine ZH H<|fun p1 w1 H=>YV H 7 rfl rfl<|ZX BY<|bk<|Z9 rfl<|Z4 (H.at 0 rfl) 0 rfl rfl rfl<|cF (Z5 BY)<|Z9 rfl<|Z4 (H.at 0 rfl) 0 rfl rfl rfl<|cT (ZL BX) ?_
 obtain ⟨b1,o1,E1⟩:=H.Y4 7 rfl ((stk.length)-1) BY
 refine ZK E1 BY rfl rfl<|Z4 (H.el 7 rfl E1 hc) 0 rfl rfl rfl ?_
 refine cI (fun c1=>?_) (fun c1=>?_)
 ·replace c1:=ZS (c1)
  refine ZX BY<|ZX BY ?_
  obtain ⟨b2,o2,E2⟩:=H.Y4 7 rfl (((stk.length)-1)-1) BY
  refine ZK E2 BY rfl rfl<|Z4 (H.el 7 rfl E2 hb) 0 rfl rfl rfl ?_
  obtain ⟨b3,o3,E3⟩:=H.Y4 7 rfl (((stk.length)-1)-2) BY
  refine ZK E3 BY rfl rfl<|YE H 7 rfl E3 ha 0 (b) rfl rfl rfl rfl<|fun w2 H=>ZX BY<|Od H 7 rfl 0 (((stk.length)-1)-1) rfl rfl (by grind) (by grind) (.inl ⟨rfl,rfl⟩) (.inr ⟨_,by first|rfl|(congr 2;(first|omega|(simp only [List.length_append,List.length_set,List.length_cons,List.length_nil];omega)|(simp;omega)|(simp;done)))⟩)<|fun v1=>?_
  intro H
  refine Z6.mk ?_
  refine ⟨0,v1,vp,ps,Zl,loc,List.drop 0 (List.take (stk.length-1-1) (stk.set (stk.length-1-2) b)),?_⟩
  refine ⟨rfl,?_⟩
  refine ⟨?_,?_⟩
  ·exact ⟨rfl,rfl,rfl,rfl,fun _=>by rw [if_pos BX];exact r2⟩
  refine ⟨BY,?_⟩
  refine H.Z8 [7,7,7,7,7,7,7]<|fun H=>H.drop 7<|fun H=>?_
  exact H
 replace c1:=ZR (c1)
 refine ZX BY<|Od H 7 rfl 0 (((stk.length)-1)-1) rfl rfl BY BY (.inl ⟨rfl,rfl⟩) (.inr ⟨_,by first|rfl|(congr 2;omega)⟩)<|fun v1=>?_
 intro H
 refine Z6.mk ?_
 refine ⟨0,v1,vp,ps,Zl,loc,List.drop 0 (List.take (stk.length-1-1) stk),?_⟩
 refine ⟨rfl,?_⟩
 refine ⟨?_,?_⟩
 ·exact ⟨rfl,rfl,rfl,rfl,fun _=>by rw [if_neg BX];exact r1⟩
 refine ⟨BY,?_⟩
 refine H.Z8 [7,7,7,7,7,7,7]<|fun H=>H.drop 7<|fun H=>?_
 exact H
theorem ale (H:Sat g w (Pt cp (BV m [BS mp,vt,vg]) 158::Pt mp [vp,BT m.most] 221::Sl 223 256 Xs vp ps::Sl 3 1 ZJ vt Zv::Sl 2 1 ZJ vg Zl::Sl 2 1 ZJ vl loc::Sl 2 1 ZJ vs stk::l)) (ho:x.op=32) (hb:0≤x.a∧x.a<loc.length) (hlen:stk.length≤100000) (hp:ps.length≤8):Fc Tryz.prog 160 #[BS cp,.agg #[.int .u8 x.op,BT x.a,BT x.b,S8],vl,vs] w (fun r w'=>∃e vs' T4 ps' Xf loc' Xj,r=.tuple #[vs',BT e]∧NC (V0 m.most x ⟨flat ps,Zv,Zl⟩ loc stk) e (flat ps') Xf loc' Xj∧ps'.length≤8∧Sat g w' (Pt cp (BV m [BS mp,vt,vg]) 158::Pt mp [T4,BT m.most] 221::Sl 223 256 Xs T4 ps'::Sl 3 1 ZJ vt Zv::Sl 2 1 ZJ vg Xf::Sl 2 1 ZJ vl loc'::Sl 2 1 ZJ vs' Xj::l)):=by
 refine Fc.of Tryz.func160 rfl k_d ?_
 obtain ⟨i,hi⟩:=lwa hb.1
 rw [hi] at hb ⊢
 obtain ⟨y,hy⟩:∃y,loc[i]?=some y:=⟨_,laa BY⟩
 have hd:V0 m.most x ⟨flat ps,Zv,Zl⟩ loc stk=⟨⟨flat ps,Zv,Zl⟩,loc,stk++[y],0⟩:=by grind [V0]
 rw [hd]
 clear hd
 refine ZH H<|fun p1 w1 H=>YV H 7 rfl rfl<|ZX BY<|bk<|Z9 rfl<|Z4 (H.at 0 rfl) 0 rfl rfl rfl<|cF (Z5 BY)<|Z9 rfl<|Z4 (H.at 0 rfl) 0 rfl rfl rfl<|cF (Z5 BY)<|Z9 rfl<|Z4 (H.at 0 rfl) 0 rfl rfl rfl<|cT (ZL BX)<|Z9 rfl<|Z4 (H.at 0 rfl) 1 rfl rfl rfl ?_
 obtain ⟨b1,o1,E1⟩:=H.Y4 6 rfl (i) BY
 refine ZK E1 rfl rfl rfl<|Z4 (H.el 6 rfl E1 hy) 0 rfl rfl rfl<|ZZ H rfl rfl rfl rfl<|fun p2 w2 H=>Wt (ys:=[_]) 8 H 8 rfl (H.at 0 rfl) rfl (fun y _=>rfl) rfl rfl rfl BY BY<|fun v1=>?_
 intro w1 H
 refine Z6.mk ?_
 refine ⟨0,v1,vp,ps,Zl,loc,stk++[y],?_⟩
 refine ⟨rfl,?_⟩
 refine ⟨?_,?_⟩
 ·exact k_t
 refine ⟨BY,?_⟩
 refine H.Z8 [8,8,8,8,8,8,8]<|fun H=>H.drop 8<|fun H=>H.drop 7<|fun H=>?_
 exact H
theorem alf (H:Sat g w (Pt cp (BV m [BS mp,vt,vg]) 158::Pt mp [vp,BT m.most] 221::Sl 223 256 Xs vp ps::Sl 3 1 ZJ vt Zv::Sl 2 1 ZJ vg Zl::Sl 2 1 ZJ vl loc::Sl 2 1 ZJ vs stk::l)) (ho:x.op=33∨x.op=34) (hb:0≤x.a∧x.a<loc.length) (h1:1≤stk.length) (hlen:stk.length≤100000) (hp:ps.length≤8):Fc Tryz.prog 160 #[BS cp,.agg #[.int .u8 x.op,BT x.a,BT x.b,S8],vl,vs] w (fun r w'=>∃e vs' T4 ps' Xf loc' Xj,r=.tuple #[vs',BT e]∧NC (V0 m.most x ⟨flat ps,Zv,Zl⟩ loc stk) e (flat ps') Xf loc' Xj∧ps'.length≤8∧Sat g w' (Pt cp (BV m [BS mp,vt,vg]) 158::Pt mp [T4,BT m.most] 221::Sl 223 256 Xs T4 ps'::Sl 3 1 ZJ vt Zv::Sl 2 1 ZJ vg Xf::Sl 2 1 ZJ vl loc'::Sl 2 1 ZJ vs' Xj::l)):=by
 refine Fc.of Tryz.func160 rfl k_d ?_
 obtain ⟨a,ha,I0,IQ⟩:=F9 (s:=stk) BY
 obtain ⟨i,hi⟩:=lwa hb.1
 rw [hi] at hb ⊢
 obtain ⟨y,hy⟩:∃y,loc[i]?=some y:=⟨_,laa BY⟩
 have hd:V0 m.most x ⟨flat ps,Zv,Zl⟩ loc stk=⟨⟨flat ps,Zv,Zl⟩,loc.set i a,if x.op=33 then low stk 1 else stk,0⟩:=by grind [V0]
 rw [hd]
 clear hd
 rcases ho with ho|ho
 ·rw [if_pos ho]
  refine ZH H<|fun p1 w1 H=>YV H 7 rfl rfl<|ZX BY<|bk<|Z9 rfl<|Z4 (H.at 0 rfl) 0 rfl rfl rfl<|cF (Z5 BY)<|Z9 rfl<|Z4 (H.at 0 rfl) 0 rfl rfl rfl<|cF (Z5 BY)<|Z9 rfl<|Z4 (H.at 0 rfl) 0 rfl rfl rfl<|cF (Z5 BY)<|Z9 rfl<|Z4 (H.at 0 rfl) 0 rfl rfl rfl<|cT (ZL BX)<|ZM H [] [BRp0,BRp1,BRh2,BRp3,BRp4,BRp5,BRh6,BRp7,BRfr8] mixed k_d k_d<|fun w2 H=>tk (fun _ Z=>Z9 rfl BU)<|tk (fun _ Z=>Z4 (Z.at 0 rfl) 1 rfl rfl rfl BU) ?_
  obtain ⟨b1,o1,E1⟩:=H.Y4 7 rfl ((stk.length)-1) BY
  refine tk (fun _ Z=>ZK E1 BY rfl rfl BU)<|tk (fun _ Z=>Z4 (Z.el 7 rfl E1 ha) 0 rfl rfl rfl BU) ?_
  obtain ⟨b2,o2,E2⟩:=H.Y4 6 rfl (i) BY
  refine tk (fun _ Z=>ZK E2 rfl rfl rfl BU)<|YE H 6 rfl E2 hy 0 (a) rfl rfl rfl rfl<|fun w1 H=>Od H 7 rfl 0 ((stk.length)-1) rfl rfl BY BY (.inl ⟨rfl,rfl⟩) (.inr ⟨_,by first|rfl|(congr 2;omega)⟩)<|fun v1=>?_
  intro H
  refine Z6.mk ?_
  refine ⟨0,v1,vp,ps,Zl,loc.set i a,List.drop 0 (List.take (stk.length-1) stk),?_⟩
  refine ⟨rfl,?_⟩
  refine ⟨?_,?_⟩
  ·exact ⟨rfl,rfl,rfl,rfl,fun _=>KA⟩
  refine ⟨BY,?_⟩
  refine H.Z8 [7,7,7,7,7,7,7]<|fun H=>H.drop 7<|fun H=>?_
  exact H
 ·rw [if_neg BY]
  refine ZH H<|fun p1 w1 H=>YV H 7 rfl rfl<|ZX BY<|bk<|Z9 rfl<|Z4 (H.at 0 rfl) 0 rfl rfl rfl<|cF (Z5 BY)<|Z9 rfl<|Z4 (H.at 0 rfl) 0 rfl rfl rfl<|cF (Z5 BY)<|Z9 rfl<|Z4 (H.at 0 rfl) 0 rfl rfl rfl<|cF (Z5 BY)<|Z9 rfl<|Z4 (H.at 0 rfl) 0 rfl rfl rfl<|cF (Z5 BY)<|Z9 rfl<|Z4 (H.at 0 rfl) 0 rfl rfl rfl<|cT (ZL BX)<|ZM H [] [BRp0,BRp1,BRh2,BRp3,BRp4,BRp5,BRh6,BRp7,BRfr8] mixed k_d k_d<|fun w2 H=>tk (fun _ Z=>Z9 rfl BU)<|tk (fun _ Z=>Z4 (Z.at 0 rfl) 1 rfl rfl rfl BU) ?_
  obtain ⟨b1,o1,E1⟩:=H.Y4 7 rfl ((stk.length)-1) BY
  refine tk (fun _ Z=>ZK E1 BY rfl rfl BU)<|tk (fun _ Z=>Z4 (Z.el 7 rfl E1 ha) 0 rfl rfl rfl BU) ?_
  obtain ⟨b2,o2,E2⟩:=H.Y4 6 rfl (i) BY
  refine tk (fun _ Z=>ZK E2 rfl rfl rfl BU)<|YE H 6 rfl E2 hy 0 (a) rfl rfl rfl rfl<|fun w1 H=>Z6.mk ?_
  refine ⟨0,vs,vp,ps,Zl,loc.set i a,stk,?_⟩
  refine ⟨rfl,?_⟩
  refine ⟨?_,?_⟩
  ·exact k_t
  refine ⟨BY,?_⟩
  refine H.Z8 [7,7,7,7,7,7,7]<|fun H=>H.drop 7<|fun H=>?_
  exact H
theorem alg (H:Sat g w (Pt cp (BV m [BS mp,vt,vg]) 158::Pt mp [vp,BT m.most] 221::Sl 223 256 Xs vp ps::Sl 3 1 ZJ vt Zv::Sl 2 1 ZJ vg Zl::Sl 2 1 ZJ vl loc::Sl 2 1 ZJ vs stk::l)) (ho:x.op=35) (hb:0≤x.a∧x.a<Zl.length) (hlen:stk.length≤100000) (hp:ps.length≤8):Fc Tryz.prog 160 #[BS cp,.agg #[.int .u8 x.op,BT x.a,BT x.b,S8],vl,vs] w (fun r w'=>∃e vs' T4 ps' Xf loc' Xj,r=.tuple #[vs',BT e]∧NC (V0 m.most x ⟨flat ps,Zv,Zl⟩ loc stk) e (flat ps') Xf loc' Xj∧ps'.length≤8∧Sat g w' (Pt cp (BV m [BS mp,vt,vg]) 158::Pt mp [T4,BT m.most] 221::Sl 223 256 Xs T4 ps'::Sl 3 1 ZJ vt Zv::Sl 2 1 ZJ vg Xf::Sl 2 1 ZJ vl loc'::Sl 2 1 ZJ vs' Xj::l)):=by
 refine Fc.of Tryz.func160 rfl k_d ?_
 obtain ⟨i,hi⟩:=lwa hb.1
 rw [hi] at hb ⊢
 obtain ⟨y,hy⟩:∃y,Zl[i]?=some y:=⟨_,laa BY⟩
 have hd:V0 m.most x ⟨flat ps,Zv,Zl⟩ loc stk=⟨⟨flat ps,Zv,Zl⟩,loc,stk++[y],0⟩:=by grind [V0]
 rw [hd]
 clear hd
 refine ZH H<|fun p1 w1 H=>YV H 7 rfl rfl<|ZX BY<|bk<|Z9 rfl<|Z4 (H.at 0 rfl) 0 rfl rfl rfl<|cF (Z5 BY)<|Z9 rfl<|Z4 (H.at 0 rfl) 0 rfl rfl rfl<|cF (Z5 BY)<|Z9 rfl<|Z4 (H.at 0 rfl) 0 rfl rfl rfl<|cF (Z5 BY)<|Z9 rfl<|Z4 (H.at 0 rfl) 0 rfl rfl rfl<|cF (Z5 BY)<|Z9 rfl<|Z4 (H.at 0 rfl) 0 rfl rfl rfl<|cF (Z5 BY)<|Z9 rfl<|Z4 (H.at 0 rfl) 0 rfl rfl rfl<|cT (ZL BX)<|ZM H [] [BRp0,BRp1,BRp2,BRp3,BRh4,BRp5,BRh6,BRp7,BRh8,BRfr9,BRfr10,BRp11,BRp12] mixed k_d k_d<|fun w2 H=>tk (fun _ Z=>Z9 rfl BU)<|tk (fun _ Z=>Z4 (Z.at 1 rfl) 13 rfl rfl rfl BU)<|tk (fun _ Z=>Z9 rfl BU)<|tk (fun _ Z=>Z4 (Z.at 0 rfl) 1 rfl rfl rfl BU) ?_
 obtain ⟨b1,o1,E1⟩:=H.Y4 5 rfl (i) BY
 refine tk (fun _ Z=>ZK E1 rfl rfl rfl BU)<|tk (fun _ Z=>Z4 (Z.el 5 rfl E1 hy) 0 rfl rfl rfl BU)<|ZZ H rfl rfl rfl rfl<|fun p2 w1 H=>Wt (ys:=[_]) 8 H 8 rfl (H.at 0 rfl) rfl (fun y _=>rfl) rfl rfl rfl BY BY<|fun v1=>?_
 intro w2 H
 refine Z6.mk ?_
 refine ⟨0,v1,vp,ps,Zl,loc,stk++[y],?_⟩
 refine ⟨rfl,?_⟩
 refine ⟨?_,?_⟩
 ·exact k_t
 refine ⟨BY,?_⟩
 refine H.Z8 [8,8,8,8,8,8,8]<|fun H=>H.drop 8<|fun H=>H.drop 7<|fun H=>?_
 exact H
theorem alh (H:Sat g w (Pt cp (BV m [BS mp,vt,vg]) 158::Pt mp [vp,BT m.most] 221::Sl 223 256 Xs vp ps::Sl 3 1 ZJ vt Zv::Sl 2 1 ZJ vg Zl::Sl 2 1 ZJ vl loc::Sl 2 1 ZJ vs stk::l)) (ho:x.op=36) (hb:0≤x.a∧x.a<Zl.length) (h1:1≤stk.length) (hlen:stk.length≤100000) (hp:ps.length≤8):Fc Tryz.prog 160 #[BS cp,.agg #[.int .u8 x.op,BT x.a,BT x.b,S8],vl,vs] w (fun r w'=>∃e vs' T4 ps' Xf loc' Xj,r=.tuple #[vs',BT e]∧NC (V0 m.most x ⟨flat ps,Zv,Zl⟩ loc stk) e (flat ps') Xf loc' Xj∧ps'.length≤8∧Sat g w' (Pt cp (BV m [BS mp,vt,vg]) 158::Pt mp [T4,BT m.most] 221::Sl 223 256 Xs T4 ps'::Sl 3 1 ZJ vt Zv::Sl 2 1 ZJ vg Xf::Sl 2 1 ZJ vl loc'::Sl 2 1 ZJ vs' Xj::l)):=by
 refine Fc.of Tryz.func160 rfl k_d ?_
 obtain ⟨a,ha,I0,IQ⟩:=F9 (s:=stk) BY
 obtain ⟨i,hi⟩:=lwa hb.1
 rw [hi] at hb ⊢
 obtain ⟨y,hy⟩:∃y,Zl[i]?=some y:=⟨_,laa BY⟩
 have hd:V0 m.most x ⟨flat ps,Zv,Zl⟩ loc stk=⟨⟨flat ps,Zv,Zl.set i a⟩,loc,low stk 1,0⟩:=by grind [V0]
 rw [hd]
 clear hd
 refine ZH H<|fun p1 w1 H=>YV H 7 rfl rfl<|ZX BY<|bk<|Z9 rfl<|Z4 (H.at 0 rfl) 0 rfl rfl rfl<|cF (Z5 BY)<|Z9 rfl<|Z4 (H.at 0 rfl) 0 rfl rfl rfl<|cF (Z5 BY)<|Z9 rfl<|Z4 (H.at 0 rfl) 0 rfl rfl rfl<|cF (Z5 BY)<|Z9 rfl<|Z4 (H.at 0 rfl) 0 rfl rfl rfl<|cF (Z5 BY)<|Z9 rfl<|Z4 (H.at 0 rfl) 0 rfl rfl rfl<|cF (Z5 BY)<|Z9 rfl<|Z4 (H.at 0 rfl) 0 rfl rfl rfl<|cF (Z5 BY)<|Z9 rfl<|Z4 (H.at 0 rfl) 0 rfl rfl rfl<|cT (ZL BX)<|ZM H [] [BRp0,BRp1,BRp2,BRh3,BRp4,BRh5,BRp6,BRp7,BRp8,BRh9,BRp10,BRfr11] mixed k_d k_d<|fun w2 H=>tk (fun _ Z=>Z9 rfl BU)<|tk (fun _ Z=>Z4 (Z.at 1 rfl) 13 rfl rfl rfl BU)<|tk (fun _ Z=>Z9 rfl BU)<|tk (fun _ Z=>Z4 (Z.at 0 rfl) 1 rfl rfl rfl BU) ?_
 obtain ⟨b1,o1,E1⟩:=H.Y4 7 rfl ((stk.length)-1) BY
 refine tk (fun _ Z=>ZK E1 BY rfl rfl BU)<|tk (fun _ Z=>Z4 (Z.el 7 rfl E1 ha) 0 rfl rfl rfl BU) ?_
 obtain ⟨b2,o2,E2⟩:=H.Y4 5 rfl (i) BY
 refine tk (fun _ Z=>ZK E2 rfl rfl rfl BU)<|YE H 5 rfl E2 hy 0 (a) rfl rfl rfl rfl<|fun w1 H=>Od H 7 rfl 0 ((stk.length)-1) rfl rfl BY BY (.inl ⟨rfl,rfl⟩) (.inr ⟨_,by first|rfl|(congr 2;omega)⟩)<|fun v1=>?_
 intro H
 refine Z6.mk ?_
 refine ⟨0,v1,vp,ps,Zl.set i a,loc,List.drop 0 (List.take (stk.length-1) stk),?_⟩
 refine ⟨rfl,?_⟩
 refine ⟨?_,?_⟩
 ·exact ⟨rfl,rfl,rfl,rfl,fun _=>KA⟩
 refine ⟨BY,?_⟩
 refine H.Z8 [7,7,7,7,7,7,7]<|fun H=>H.drop 7<|fun H=>?_
 exact H
theorem ali (H:Sat g w (Pt cp (BV m [BS mp,vt,vg]) 158::Pt mp [vp,BT m.most] 221::Sl 223 256 Xs vp ps::Sl 3 1 ZJ vt Zv::Sl 2 1 ZJ vg Zl::Sl 2 1 ZJ vl loc::Sl 2 1 ZJ vs stk::l)) (ho:x.op=65∨x.op=66) (hlen:stk.length≤100000) (hp:ps.length≤8):Fc Tryz.prog 160 #[BS cp,.agg #[.int .u8 x.op,BT x.a,BT x.b,S8],vl,vs] w (fun r w'=>∃e vs' T4 ps' Xf loc' Xj,r=.tuple #[vs',BT e]∧NC (V0 m.most x ⟨flat ps,Zv,Zl⟩ loc stk) e (flat ps') Xf loc' Xj∧ps'.length≤8∧Sat g w' (Pt cp (BV m [BS mp,vt,vg]) 158::Pt mp [T4,BT m.most] 221::Sl 223 256 Xs T4 ps'::Sl 3 1 ZJ vt Zv::Sl 2 1 ZJ vg Xf::Sl 2 1 ZJ vl loc'::Sl 2 1 ZJ vs' Xj::l)):=by
 refine Fc.of Tryz.func160 rfl k_d ?_
 have hd:V0 m.most x ⟨flat ps,Zv,Zl⟩ loc stk=⟨⟨flat ps,Zv,Zl⟩,loc,stk++[x.a],0⟩:=by grind [V0]
 rw [hd]
 clear hd
 rcases ho with ho|ho
 ·refine ZH H<|fun p1 w1 H=>YV H 7 rfl rfl<|ZX BY<|bk<|Z9 rfl<|Z4 (H.at 0 rfl) 0 rfl rfl rfl<|cF (Z5 BY)<|Z9 rfl<|Z4 (H.at 0 rfl) 0 rfl rfl rfl<|cF (Z5 BY)<|Z9 rfl<|Z4 (H.at 0 rfl) 0 rfl rfl rfl<|cF (Z5 BY)<|Z9 rfl<|Z4 (H.at 0 rfl) 0 rfl rfl rfl<|cF (Z5 BY)<|Z9 rfl<|Z4 (H.at 0 rfl) 0 rfl rfl rfl<|cF (Z5 BY)<|Z9 rfl<|Z4 (H.at 0 rfl) 0 rfl rfl rfl<|cF (Z5 BY)<|Z9 rfl<|Z4 (H.at 0 rfl) 0 rfl rfl rfl<|cF (Z5 BY)<|Z9 rfl<|Z4 (H.at 0 rfl) 0 rfl rfl rfl<|cT (ZL BX)<|cT (ZL BX)<|Z9 rfl<|Z4 (H.at 0 rfl) 1 rfl rfl rfl<|ZZ H rfl rfl rfl rfl<|fun p2 w2 H=>Wt (ys:=[_]) 8 H 8 rfl (H.at 0 rfl) rfl (fun y _=>rfl) rfl rfl rfl BY BY<|fun v1=>?_
  intro w1 H
  refine Z6.mk ?_
  refine ⟨0,v1,vp,ps,Zl,loc,stk++[x.a],?_⟩
  refine ⟨rfl,?_⟩
  refine ⟨?_,?_⟩
  ·exact k_t
  refine ⟨BY,?_⟩
  refine H.Z8 [8,8,8,8,8,8,8]<|fun H=>H.drop 8<|fun H=>H.drop 7<|fun H=>?_
  exact H
 ·refine ZH H<|fun p1 w1 H=>YV H 7 rfl rfl<|ZX BY<|bk<|Z9 rfl<|Z4 (H.at 0 rfl) 0 rfl rfl rfl<|cF (Z5 BY)<|Z9 rfl<|Z4 (H.at 0 rfl) 0 rfl rfl rfl<|cF (Z5 BY)<|Z9 rfl<|Z4 (H.at 0 rfl) 0 rfl rfl rfl<|cF (Z5 BY)<|Z9 rfl<|Z4 (H.at 0 rfl) 0 rfl rfl rfl<|cF (Z5 BY)<|Z9 rfl<|Z4 (H.at 0 rfl) 0 rfl rfl rfl<|cF (Z5 BY)<|Z9 rfl<|Z4 (H.at 0 rfl) 0 rfl rfl rfl<|cF (Z5 BY)<|Z9 rfl<|Z4 (H.at 0 rfl) 0 rfl rfl rfl<|cF (Z5 BY)<|Z9 rfl<|Z4 (H.at 0 rfl) 0 rfl rfl rfl<|cF (Z5 BY)<|Z9 rfl<|Z4 (H.at 0 rfl) 0 rfl rfl rfl<|cT (ZL BX)<|Z9 rfl<|Z4 (H.at 0 rfl) 1 rfl rfl rfl<|ZZ H rfl rfl rfl rfl<|fun p2 w2 H=>Wt (ys:=[_]) 8 H 8 rfl (H.at 0 rfl) rfl (fun y _=>rfl) rfl rfl rfl BY BY<|fun v1=>?_
  intro w1 H
  refine Z6.mk ?_
  refine ⟨0,v1,vp,ps,Zl,loc,stk++[x.a],?_⟩
  refine ⟨rfl,?_⟩
  refine ⟨?_,?_⟩
  ·exact k_t
  refine ⟨BY,?_⟩
  refine H.Z8 [8,8,8,8,8,8,8]<|fun H=>H.drop 8<|fun H=>H.drop 7<|fun H=>?_
  exact H
theorem alj (H:Sat g w (Pt cp (BV m [BS mp,vt,vg]) 158::Pt mp [vp,BT m.most] 221::Sl 223 256 Xs vp ps::Sl 3 1 ZJ vt Zv::Sl 2 1 ZJ vg Zl::Sl 2 1 ZJ vl loc::Sl 2 1 ZJ vs stk::l)) (ho:x.op=63) (hlen:stk.length≤100000) (hp:ps.length≤8):Fc Tryz.prog 160 #[BS cp,.agg #[.int .u8 x.op,BT x.a,BT x.b,S8],vl,vs] w (fun r w'=>∃e vs' T4 ps' Xf loc' Xj,r=.tuple #[vs',BT e]∧NC (V0 m.most x ⟨flat ps,Zv,Zl⟩ loc stk) e (flat ps') Xf loc' Xj∧ps'.length≤8∧Sat g w' (Pt cp (BV m [BS mp,vt,vg]) 158::Pt mp [T4,BT m.most] 221::Sl 223 256 Xs T4 ps'::Sl 3 1 ZJ vt Zv::Sl 2 1 ZJ vg Xf::Sl 2 1 ZJ vl loc'::Sl 2 1 ZJ vs' Xj::l)):=by
 refine Fc.of Tryz.func160 rfl k_d ?_
 have hd:V0 m.most x ⟨flat ps,Zv,Zl⟩ loc stk=⟨⟨flat ps,Zv,Zl⟩,loc,stk++[(ps.length:Int)],0⟩:=by
  unfold V0
  rw [if_neg BY,if_neg BY,if_neg BY,if_neg BY,if_neg BY,if_neg BY,if_neg BY,if_neg BY,if_pos ho,T5]
 rw [hd]
 clear hd
 refine ZH H<|fun p1 w1 H=>YV H 7 rfl rfl<|ZX BY<|bk<|Z9 rfl<|Z4 (H.at 0 rfl) 0 rfl rfl rfl<|cF (Z5 BY)<|Z9 rfl<|Z4 (H.at 0 rfl) 0 rfl rfl rfl<|cF (Z5 BY)<|Z9 rfl<|Z4 (H.at 0 rfl) 0 rfl rfl rfl<|cF (Z5 BY)<|Z9 rfl<|Z4 (H.at 0 rfl) 0 rfl rfl rfl<|cF (Z5 BY)<|Z9 rfl<|Z4 (H.at 0 rfl) 0 rfl rfl rfl<|cF (Z5 BY)<|Z9 rfl<|Z4 (H.at 0 rfl) 0 rfl rfl rfl<|cF (Z5 BY)<|Z9 rfl<|Z4 (H.at 0 rfl) 0 rfl rfl rfl<|cF (Z5 BY)<|Z9 rfl<|Z4 (H.at 0 rfl) 0 rfl rfl rfl<|cF (Z5 BY)<|Z9 rfl<|Z4 (H.at 0 rfl) 0 rfl rfl rfl<|cF (Z5 BY)<|Z9 rfl<|Z4 (H.at 0 rfl) 0 rfl rfl rfl<|cT (ZL BX)<|Z9 rfl<|Z4 (H.at 1 rfl) 11 rfl rfl rfl<|H.Z8 [3,3]<|fun H=>?_
 refine Z7.mk (Fc.imp (Mem.size H) ?_)
 clear H
 rintro _ w2 ⟨rfl,H⟩
 refine ZZ H rfl rfl rfl rfl<|fun p2 w3 H=>Wt (ys:=[_]) 8 H 8 rfl (H.at 0 rfl) rfl (fun y _=>rfl) rfl rfl rfl BY BY<|fun v1=>?_
 intro w2 H
 refine Z6.mk ?_
 refine ⟨0,v1,vp,ps,Zl,loc,stk++[(↑ps.length:Int)],?_⟩
 refine ⟨rfl,?_⟩
 refine ⟨?_,?_⟩
 ·exact k_t
 refine ⟨BY,?_⟩
 refine H.Z8 [8,8,8,8,6,6,8]<|fun H=>H.drop 8<|fun H=>H.drop 7<|fun H=>?_
 exact H
theorem alk (H:Sat g w (Pt cp (BV m [BS mp,vt,vg]) 158::Pt mp [vp,BT m.most] 221::Sl 223 256 Xs vp ps::Sl 3 1 ZJ vt Zv::Sl 2 1 ZJ vg Zl::Sl 2 1 ZJ vl loc::Sl 2 1 ZJ vs stk::l)) (ho:x.op=64) (h1:1≤stk.length) (T7:∀v∈stk,Xa v) (hm:ps.length≤m.most∧m.most≤8) (hlen:stk.length≤100000) (hp:ps.length≤8):Fc Tryz.prog 160 #[BS cp,.agg #[.int .u8 x.op,BT x.a,BT x.b,S8],vl,vs] w (fun r w'=>∃e vs' T4 ps' Xf loc' Xj,r=.tuple #[vs',BT e]∧NC (V0 m.most x ⟨flat ps,Zv,Zl⟩ loc stk) e (flat ps') Xf loc' Xj∧ps'.length≤8∧Sat g w' (Pt cp (BV m [BS mp,vt,vg]) 158::Pt mp [T4,BT m.most] 221::Sl 223 256 Xs T4 ps'::Sl 3 1 ZJ vt Zv::Sl 2 1 ZJ vg Xf::Sl 2 1 ZJ vl loc'::Sl 2 1 ZJ vs' Xj::l)):=by
 refine Fc.of Tryz.func160 rfl k_d ?_
 obtain ⟨a,ha,I0,IQ⟩:=F9 (s:=stk) BY
 have GG:=T7 a IQ
 have hd:V0 m.most x ⟨flat ps,Zv,Zl⟩ loc stk=(if m.most-(ps.length:Int)<a % 4294967296 then ⟨⟨flat ps,Zv,Zl⟩,loc,low stk 1++[-1],0⟩ else ⟨⟨flat ps++List.replicate (256 * (a % 4294967296).toNat) 0,Zv,Zl⟩,loc,low stk 1++[(ps.length:Int)],0⟩):=by
  unfold V0
  rw [if_neg BY,if_neg BY,if_neg BY,if_neg BY,if_neg BY,if_neg BY,if_neg BY,if_neg BY,if_neg BY,if_pos ho,I0,T5]
 rw [hd]
 clear hd
 refine ZH H<|fun p1 w1 H=>YV H 7 rfl rfl<|ZX BY<|bk<|Z9 rfl<|Z4 (H.at 0 rfl) 0 rfl rfl rfl<|cF (Z5 k_h)<|Z9 rfl<|Z4 (H.at 0 rfl) 0 rfl rfl rfl<|cF (Z5 k_h)<|Z9 rfl<|Z4 (H.at 0 rfl) 0 rfl rfl rfl<|cF (Z5 k_h)<|Z9 rfl<|Z4 (H.at 0 rfl) 0 rfl rfl rfl<|cF (Z5 k_h)<|Z9 rfl<|Z4 (H.at 0 rfl) 0 rfl rfl rfl<|cF (Z5 k_h)<|Z9 rfl<|Z4 (H.at 0 rfl) 0 rfl rfl rfl<|cF (Z5 k_h)<|Z9 rfl<|Z4 (H.at 0 rfl) 0 rfl rfl rfl<|cF (Z5 k_h)<|Z9 rfl<|Z4 (H.at 0 rfl) 0 rfl rfl rfl<|cF (Z5 k_h)<|Z9 rfl<|Z4 (H.at 0 rfl) 0 rfl rfl rfl<|cF (Z5 k_h)<|Z9 rfl<|Z4 (H.at 0 rfl) 0 rfl rfl rfl<|cF (Z5 k_h)<|Z9 rfl<|Z4 (H.at 0 rfl) 0 rfl rfl rfl<|cT (ZL k_h)<|ZM H [] [BRp0,BRp1,BRp2,BRp3,BRp4,BRh5,BRp6,BRp7,BRp8,BRh9,BRfr10,BRp11,BRfr12] mixed k_d k_d<|fun w2 H=>tk (fun _ Z=>Z9 rfl BU)<|tk (fun _ Z=>Z4 (Z.at 1 rfl) 11 rfl rfl rfl BU) ?_
 obtain ⟨b1,o1,E1⟩:=H.Y4 7 rfl ((stk.length)-1) BY
 refine tk (fun _ Z=>ZK E1 BY rfl rfl BU)<|tk (fun _ Z=>Z4 (Z.el 7 rfl E1 ha) 0 rfl rfl rfl BU)<|H.Z8 [3,3]<|fun H=>?_
 refine Z7.mk (Fc.imp (Mem.grow H _ ?_ ?_ ?_) ?_)
 ·exact k_h
 ·exact k_h
 ·exact k_h
 clear H
 rintro _ w1 ⟨e1,⟨v'1,⟨OT,⟨rfl,⟨(⟨h2,⟨h3,h4⟩⟩|⟨h5,⟨h6,h7⟩⟩),H⟩⟩⟩⟩⟩
 ·refine tk (fun _ Z=>ZK E1 BY rfl rfl BU)<|YE H 7 rfl E1 ha 0 (e1) rfl rfl rfl rfl<|fun w3 H=>Z6.mk ?_
  refine ⟨0,vs,v'1,OT,Zl,loc,stk.set (stk.length-1) e1,?_⟩
  refine ⟨rfl,?_⟩
  refine ⟨?_,?_⟩
  ·exact gr0 h1 BY BX BX
  refine ⟨?_,?_⟩
  ·exact k_h
  refine H.Z8 [7,7,7,7,5,5,7]<|fun H=>H.drop 7<|fun H=>?_
  exact H
 refine tk (fun _ Z=>ZK E1 BY rfl rfl BU)<|YE H 7 rfl E1 ha 0 (e1) rfl rfl rfl rfl<|fun w3 H=>Z6.mk ?_
 refine ⟨0,vs,v'1,OT,Zl,loc,stk.set (stk.length-1) e1,?_⟩
 refine ⟨rfl,?_⟩
 refine ⟨?_,?_⟩
 ·exact gr1 h1 BY BX BX
 refine ⟨?_,?_⟩
 ·exact k_h
 refine H.Z8 [7,7,7,7,5,5,7]<|fun H=>H.drop 7<|fun H=>?_
 exact H
theorem alm (H:Sat g w (Pt cp (BV m [BS mp,vt,vg]) 158::Pt mp [vp,BT m.most] 221::Sl 223 256 Xs vp ps::Sl 3 1 ZJ vt Zv::Sl 2 1 ZJ vg Zl::Sl 2 1 ZJ vl loc::Sl 2 1 ZJ vs stk::l)) (ho:36<x.op∧x.op≤255) (hw:0<wid x.op) (T7:∀v∈stk,Xa v) (hn:Vd x.op≤stk.length) (hb:0≤x.b∧x.b≤4294967295) (hlen:stk.length≤100000) (hp:ps.length≤8):Fc Tryz.prog 160 #[BS cp,.agg #[.int .u8 x.op,BT x.a,BT x.b,S8],vl,vs] w (fun r w'=>∃e vs' T4 ps' Xf loc' Xj,r=.tuple #[vs',BT e]∧NC (V0 m.most x ⟨flat ps,Zv,Zl⟩ loc stk) e (flat ps') Xf loc' Xj∧ps'.length≤8∧Sat g w' (Pt cp (BV m [BS mp,vt,vg]) 158::Pt mp [T4,BT m.most] 221::Sl 223 256 Xs T4 ps'::Sl 3 1 ZJ vt Zv::Sl 2 1 ZJ vg Xf::Sl 2 1 ZJ vl loc'::Sl 2 1 ZJ vs' Xj::l)):=by
 refine Fc.of Tryz.func160 rfl k_d ?_
 have Hq:=RZ hw
 have D3:=R0 x.op
 have hd:V0 m.most x ⟨flat ps,Zv,Zl⟩ loc stk=_:=rfl
 rw [hd]
 clear hd
 refine ZH H<|fun p1 w1 H=>YV H 7 rfl rfl<|ZX BY<|bk<|Z9 rfl<|Z4 (H.at 0 rfl) 0 rfl rfl rfl<|cF (Z5 BY)<|Z9 rfl<|Z4 (H.at 0 rfl) 0 rfl rfl rfl<|cF (Z5 BY)<|Z9 rfl<|Z4 (H.at 0 rfl) 0 rfl rfl rfl<|cF (Z5 BY)<|Z9 rfl<|Z4 (H.at 0 rfl) 0 rfl rfl rfl<|cF (Z5 BY)<|Z9 rfl<|Z4 (H.at 0 rfl) 0 rfl rfl rfl<|cF (Z5 BY)<|Z9 rfl<|Z4 (H.at 0 rfl) 0 rfl rfl rfl<|cF (Z5 BY)<|Z9 rfl<|Z4 (H.at 0 rfl) 0 rfl rfl rfl<|cF (Z5 BY)<|Z9 rfl<|Z4 (H.at 0 rfl) 0 rfl rfl rfl<|cF (Z5 BY)<|Z9 rfl<|Z4 (H.at 0 rfl) 0 rfl rfl rfl<|cF (Z5 BY)<|Z9 rfl<|Z4 (H.at 0 rfl) 0 rfl rfl rfl<|cF (Z5 BY)<|Z9 rfl<|Z4 (H.at 0 rfl) 0 rfl rfl rfl<|cF (Z5 BY)<|Z9 rfl<|Z4 (H.at 0 rfl) 0 rfl rfl rfl ?_
 refine Z7.mk (Fc.imp (YX.L2 _ _) ?_)
 rintro _ _ ⟨⟨r1,⟨rfl,h1⟩⟩,rfl⟩
 refine cT (Y7 BY)<|ZB (H.at 0 rfl) 0 rfl rfl rfl<|H.Z8 [7,6,6,6,6,6]<|fun H=>?_
 refine Z7.mk (Fc.imp (Rn.alb H BY BY BY BY BY BY BY) ?_)
 clear H
 rintro _ w2 ⟨e1,⟨Zw,⟨OT,⟨RW,⟨rfl,⟨h2,⟨h3,H⟩⟩⟩⟩⟩⟩⟩
 refine Z6.mk ?_
 refine ⟨e1,Zw,vp,OT,Zl,loc,RW,?_⟩
 refine ⟨rfl,?_⟩
 refine ⟨?_,?_⟩
 ·grind
 refine ⟨BY,?_⟩
 refine H.Z8 [5,7,6,6,6,6,6]<|fun H=>H.drop 7<|fun H=>?_
 exact H
theorem aln (H:Sat g w (Pt cp (BV m [BS mp,vt,vg]) 158::Pt mp [vp,BT m.most] 221::Sl 223 256 Xs vp ps::Sl 3 1 ZJ vt Zv::Sl 2 1 ZJ vg Zl::Sl 2 1 ZJ vl loc::Sl 2 1 ZJ vs stk::l)) (ho:36<x.op∧x.op≤255) (hw:¬0<wid x.op) (hq:(Xu x.op).2.2=true) (c1:x.op≠63∧x.op≠64∧x.op≠65∧x.op≠66) (T7:∀v∈stk,Xa v) (hn:Vd x.op≤stk.length) (hT:Fold.Jh g) (hlen:stk.length≤100000) (hp:ps.length≤8):Fc Tryz.prog 160 #[BS cp,.agg #[.int .u8 x.op,BT x.a,BT x.b,S8],vl,vs] w (fun r w'=>∃e vs' T4 ps' Xf loc' Xj,r=.tuple #[vs',BT e]∧NC (V0 m.most x ⟨flat ps,Zv,Zl⟩ loc stk) e (flat ps') Xf loc' Xj∧ps'.length≤8∧Sat g w' (Pt cp (BV m [BS mp,vt,vg]) 158::Pt mp [T4,BT m.most] 221::Sl 223 256 Xs T4 ps'::Sl 3 1 ZJ vt Zv::Sl 2 1 ZJ vg Xf::Sl 2 1 ZJ vl loc'::Sl 2 1 ZJ vs' Xj::l)):=by
 refine Fc.of Tryz.func160 rfl k_d ?_
 have D3:=R0 x.op
 obtain ⟨n1,n2,n3⟩:=acV hq hw c1.1 c1.2.1 c1.2.2.1 c1.2.2.2
 have hnn:(Xu x.op).1.length=1∨(Xu x.op).1.length=2:=by
  rw [n2]
  by_cases h:(X7 x.op).1.length=1
  ·omega
  ·exact .inr (acU (a:=0) (b:=0) n1 h).2.2.2
 unfold Vd at hn
 rw [if_neg BY,if_neg BY,if_pos BY] at hn
 have hd:V0 m.most x ⟨flat ps,Zv,Zl⟩ loc stk=(if (Xu x.op).1.length=1 then ⟨⟨flat ps,Zv,Zl⟩,loc,low stk 1++[(XH.Vj x.op (top stk 0)).1],(XH.Vj x.op (top stk 0)).2⟩ else ⟨⟨flat ps,Zv,Zl⟩,loc,low stk 2++[(XH.Vl x.op (top stk 1) (top stk 0)).1],(XH.Vl x.op (top stk 1) (top stk 0)).2⟩):=by grind [V0]
 rw [hd]
 clear hd
 refine ZH H<|fun p1 w1 H=>YV H 7 rfl rfl<|ZX BY<|bk<|Z9 rfl<|Z4 (H.at 0 rfl) 0 rfl rfl rfl<|cF (Z5 BY)<|Z9 rfl<|Z4 (H.at 0 rfl) 0 rfl rfl rfl<|cF (Z5 BY)<|Z9 rfl<|Z4 (H.at 0 rfl) 0 rfl rfl rfl<|cF (Z5 BY)<|Z9 rfl<|Z4 (H.at 0 rfl) 0 rfl rfl rfl<|cF (Z5 BY)<|Z9 rfl<|Z4 (H.at 0 rfl) 0 rfl rfl rfl<|cF (Z5 BY)<|Z9 rfl<|Z4 (H.at 0 rfl) 0 rfl rfl rfl<|cF (Z5 BY)<|Z9 rfl<|Z4 (H.at 0 rfl) 0 rfl rfl rfl<|cF (Z5 BY)<|Z9 rfl<|Z4 (H.at 0 rfl) 0 rfl rfl rfl<|cF (Z5 BY)<|Z9 rfl<|Z4 (H.at 0 rfl) 0 rfl rfl rfl<|cF (Z5 BY)<|Z9 rfl<|Z4 (H.at 0 rfl) 0 rfl rfl rfl<|cF (Z5 BY)<|Z9 rfl<|Z4 (H.at 0 rfl) 0 rfl rfl rfl<|cF (Z5 BY)<|Z9 rfl<|Z4 (H.at 0 rfl) 0 rfl rfl rfl ?_
 refine Z7.mk (Fc.imp (YX.L2 _ _) ?_)
 rintro _ _ ⟨⟨r1,⟨rfl,h1⟩⟩,rfl⟩
 refine cF (Zo BY)<|Z9 rfl<|Z4 (H.at 0 rfl) 0 rfl rfl rfl<|H.Z8 [7]<|fun H=>?_
 refine Z7.mk (Fc.imp (Rn.agO H BY _ BY BY BY BY BY) ?_)
 clear H
 rintro _ w2 ⟨Zw,⟨RW,⟨e1,⟨rfl,⟨h2,H⟩⟩⟩⟩⟩
 refine Z6.mk ?_
 refine ⟨e1,Zw,vp,ps,Zl,loc,RW,?_⟩
 refine ⟨rfl,?_⟩
 refine ⟨?_,?_⟩
 ·exact anp BX
 refine ⟨BY,?_⟩
 refine H.Z8 [0,7,7,7,7,7,7]<|fun H=>H.drop 7<|fun H=>?_
 exact H
end
end Rn
namespace Wq
open Go YZ Go.RowKit
open YX Zk X5 YS Valid
section
variable {g:Zx} {w:World} {l:List As} {m:Zf}
theorem within (H:Sat g w l) (a many all:Int) (ha:-2147483648≤a∧a≤2147483647) (hm:0≤many∧many≤1000000) (hl:0≤all∧all≤1000000):Fc Tryz.prog 43 #[BT a,BT many,BT all] w (fun r w'=>∃b,r=.bool b∧(b=true↔(0≤a∧a+many≤all))∧Sat g w' l):=by
 refine Fc.of Tryz.func43 rfl k_d<|Yw rfl rfl<|Xd BY rfl rfl<|ZX BY<|Z6.mk ?_
 exact ⟨_,rfl,by simp [YY];omega,H⟩
end
end Wq
namespace Wq
open Go YZ Go.RowKit
open YX Zk X5 YS Valid
section
variable {g:Zx} {w:World} {l:List As} {m:Zf}
theorem ae6 {l:List Int} {i:Nat} (h:l=List.replicate i (-1)):l++[-1]=List.replicate (i+1) (-1):=by
 rw [h,List.replicate_succ']
theorem ae7 {l:List Int} {xs:List (Int × Bool × Int)} {i:Nat} {x:Int × Bool × Int} (h:l=(xs.take i).map (·.2.2)) (hx:xs[i]?=some x):l++[x.2.2]=(xs.take (i+1)).map (·.2.2):=by grind [List.take_add_one]
theorem ahK {x:SH} (h:G3 x.d=0):(-2147483648≤x.pl∧x.pl≤2147483647)∧x.fs.length≤16:=by
 unfold G3 at h
 obtain ⟨h1,h2⟩:=Zn.1 h
 have h3:=(V5.1 h2).1
 unfold Pn at h1
 by_cases hq:-2147483648≤x.d.1∧x.d.1≤2147483647
 ·exact ⟨hq,by have:x.d.2.length=x.fs.length:=rfl;omega⟩
 ·omega
theorem alo {x:Int × List UInt8} (h:M3 x=0):(-2147483648≤x.1∧x.1≤2147483647)∧x.2.length≤64:=by
 unfold M3 at h
 obtain ⟨h1,h2⟩:=Zn.1 h
 unfold Pn at h1
 unfold MN at h2
 refine ⟨BY,?_⟩
 ·omega
theorem alp (H:Sat g w l) (hT:NW g) (hm:XN g m):Fc Tryz.prog 14 #[.agg (BV m []).toArray] w (fun r w'=>∃(g':Zx) (mem:List UInt8) (ts gs:List Int) (vt vg:Value) (e:Int),r=.tuple #[.agg #[.string (bs mem),vt,vg],BT e]∧Ext g g'∧ZY g' ZJ Wj 1 vt ts∧ZY g' ZJ Wj 1 vg gs∧GO m mem ts gs e∧Sat g' w' l):=by
 refine Fc.of Tryz.func14 rfl k_d ?_
 have ZO:=hm.types
 have ZQ:=hm.funcs
 have Y8:=hm.globals
 have Zm:=hm.ZA
 have XE:=hm.Wd
 have XT:=hm.elems
 have VM:=hm.data
 by_cases h0:Wr m.d=0
 ·obtain ⟨hcM,hI,CG⟩:=UC (Xc h0).1
  have P:=U2 hcM
  have agP:=P.table
  have agQ:=P.pages
  have anq:=P.most
  have ajB:=P.globals
  have alW:=P.elems
  have anr:=P.data
  obtain ⟨tb,htb⟩:=lwa agP.1
  obtain ⟨pg,hpg⟩:=lwa agQ.1
  refine ZH H<|fun p1 w1 H=>ZV H rfl<|fun p2 w2 H=>ZB (H.at 1 rfl) 0 rfl rfl rfl ?_
  refine Z7.mk (Fc.imp (Valid.LN H BY BY) ?_)
  clear H
  rintro _ w1 ⟨e1,⟨rfl,⟨h1,H⟩⟩⟩
  refine cF (WI BY)<|Z9 rfl<|Z4 (H.at 1 rfl) 9 rfl rfl rfl<|Zy XT rfl ?_
  refine YR.rule (α:=Nat) (0) (fun x_=>[(24,BT x_)]) (fun x_ w_=>(x_≤m.elems.length)∧(AI (fun x:SH=>GP x.pl x.fs.length m.table) m.elems x_)∧Sat g w_ ((Pt p2 [.string (bs []),.slice none 0 0,.slice none 0 0] 34::Pt p1 (BV m []) 30::l))) (fun x_=>m.elems.length-x_) ?_ ?_ ?_
  ·exact k_a
  ·try simp only
   refine ⟨BY,?_⟩
   refine ⟨?_,?_⟩
   ·exact AI.zero
   exact H
  clear H
  rintro i f_ w_ ⟨hi,hA,H⟩
  try simp only at hi hA H ⊢
  rcases lya i m.elems.length with hlt|hge
  ·obtain ⟨x,hx⟩:∃x,m.elems[i]?=some x:=⟨_,laa hlt⟩
   have Jp:=lda hx
   have LF:=ZY.all XT x Jp
   have Re:=LF.fs
   have Jq:=ahK (P.JT x Jp)
   refine cT (Y7 BY)<|bk ?_
   obtain ⟨b1,o1,E1,F1,ZF⟩:=ZY.Y4 XT hx
   have Qh:=ZF.pl
   have Vo:=ZF.fs
   refine ZK E1 rfl rfl rfl<|ZB (H.X3 F1) 0 rfl rfl rfl<|ZV H rfl<|fun p3 w3 H=>ZG H 0 rfl rfl rfl (by simp only [List.all_cons,List.all_nil,ZY.one Vo,ZY.one Re,ZY.one VM,ZY.one XT,ZY.one XE,ZY.one Zm,ZY.one Y8,ZY.one ZQ,ZY.one ZO];rfl)<|fun w4 H=>Z9 rfl<|Z4 (H.at 0 rfl) 0 rfl rfl rfl<|Z9 rfl<|Z4 (H.at 0 rfl) 1 rfl rfl rfl<|Zy Vo rfl<|Z9 rfl<|Z4 (H.at 2 rfl) 3 rfl rfl rfl ?_
   refine Z7.mk (Fc.imp (Wq.within H _ _ _ BY BY BY) ?_)
   clear H
   rintro _ w3 ⟨b2,⟨rfl,⟨h2,H⟩⟩⟩
   refine cI (fun c1=>?_) (fun c1=>?_)
   ·replace c1:=Sf h2 (Si (c1))
    refine Zj rfl rfl rfl<|ZG H 1 rfl rfl rfl rfl<|fun w5 H=>XK (H.at 1 rfl) 0 rfl rfl rfl<|Z6.mk ?_
    exact ⟨g,[],[],[],_,_,_,rfl,Ext.refl _,ZY.OV _ _ _ _,ZY.OV _ _ _ _,mk2 BY hA hx BY,((H.del 0).del 0).del 0⟩
   replace c1:=h2.1 (Sh (c1))
   refine ZX BY ?_
   refine WU.mk (i+1) (Zs rfl BY (ZW)) ?_ ?_
   ·refine ⟨BY,?_⟩
    refine ⟨?_,?_⟩
    ·exact hA.step hx (KH.2 BY)
    refine H.Z8 [2,2]<|fun H=>H.drop 2<|fun H=>?_
    exact H
   omega
  ·have hE:=hA.fin hge
   refine cF (Zo BY)<|Z9 rfl<|Z4 (H.at 1 rfl) 4 rfl rfl rfl<|ZX BY<|SL (en:=Tu) (s:=1) H ((0:UInt8)) ((m.pages * 256).toNat) ((m.pages * 256).toNat) 1 rfl rfl rfl (fun _=>rfl) BY BY BY BY BY<|fun v1=>?_
   intro w3 H
   refine Z9 rfl<|Z4 (H.at 2 rfl) 10 rfl rfl rfl<|Zy VM rfl ?_
   rw [show (m.pages * 256).toNat=256 * m.pages.toNat by omega] at H
   refine YR.rule (α:=Nat × List UInt8) (0,List.replicate (256 * m.pages.toNat) 0) (fun x_=>[(46,BT x_.1)]) (fun x_ w_=>(x_.1≤m.data.length)∧(AI (fun x:Int × List UInt8=>GP x.1 x.2.length (m.pages * 256)) m.data x_.1)∧(LM (256 * m.pages.toNat) m.data x_.1 x_.2)∧Sat g w_ ((Sl 5 1 Tu v1 x_.2::Pt p2 [.string (bs []),.slice none 0 0,.slice none 0 0] 34::Pt p1 (BV m []) 30::l))) (fun x_=>m.data.length-x_.1) ?_ ?_ ?_
   ·exact k_a
   ·try simp only
    refine ⟨BY,?_⟩
    refine ⟨?_,?_⟩
    ·exact AI.zero
    refine ⟨?_,?_⟩
    ·exact LM.zero
    exact H
   clear H
   rintro ⟨i2,cur⟩ f_ w_ ⟨hi2,hB,hL,H⟩
   try simp only at hi2 hB hL H ⊢
   have TD:=hL.len
   rcases lya i2 m.data.length with JY|LQ
   ·obtain ⟨x,hx⟩:∃x,m.data[i2]?=some x:=⟨_,laa JY⟩
    have Jp:=lda hx
    have LF:=ZY.all VM x Jp
    have Jq:=alo (P.akC x Jp)
    refine cT (Y7 BY)<|bk ?_
    obtain ⟨b1,o1,E1,F1,ZF⟩:=ZY.Y4 VM hx
    have Qh:=ZF.pl
    have ach:=ZF.bytes
    refine ZK E1 rfl rfl rfl<|ZB (H.X3 F1) 0 rfl rfl rfl<|ZV H rfl<|fun p3 w4 H=>ZG H 0 rfl rfl rfl rfl<|fun w5 H=>Z9 rfl<|Z4 (H.at 0 rfl) 0 rfl rfl rfl<|Z9 rfl<|Z4 (H.at 0 rfl) 1 rfl rfl rfl<|WD rfl<|YV H 1 rfl rfl ?_
    refine Z7.mk (Fc.imp (Wq.within H _ _ _ BY BY BY) ?_)
    clear H
    rintro _ w4 ⟨b2,⟨rfl,⟨h2,H⟩⟩⟩
    refine cI (fun c1=>?_) (fun c1=>?_)
    ·replace c1:=Sf h2 (Si (c1))
     refine Zj rfl rfl rfl<|ZG H 2 rfl rfl rfl rfl<|fun w6 H=>XK (H.at 2 rfl) 0 rfl rfl rfl<|Z6.mk ?_
     exact ⟨g,[],[],[],_,_,_,rfl,Ext.refl _,ZY.OV _ _ _ _,ZY.OV _ _ _ _,mk3 BY hE hB hx BY,(((H.del 0).del 0).del 0).del 0⟩
    replace c1:=h2.1 (Sh (c1))
    refine ZM H [] [BRp0,BRp1,BRh2,BRp3,BRp4,BRh5,BRfr6] mixed k_d k_d<|fun w6 H=>tk (fun _ Z=>Z9 rfl BU)<|tk (fun _ Z=>Z4 (Z.at 0 rfl) 0 rfl rfl rfl BU) ?_
    obtain ⟨v2,V1⟩:=H.vw 1 rfl ((x.fst).toNat) ((cur).length) BY BY
    refine tk (fun _ Z=>VQ V1 rfl rfl (.inr ⟨_,by first|rfl|(congr 2;omega)⟩) (.inl BU) BU)<|tk (fun _ Z=>Z9 rfl BU)<|tk (fun _ Z=>Z4 (Z.at 0 rfl) 1 rfl rfl rfl BU)<|aga H 1 rfl V1 BY rfl rfl<|fun w9 H=>ZX BY ?_
    refine WU.mk ((i2+1,List.take x.fst.toNat cur++x.snd++List.drop (x.fst.toNat+x.snd.length) cur)) (Zs rfl BY (ZW)) ?_ ?_
    ·refine ⟨BY,?_⟩
     refine ⟨?_,?_⟩
     ·exact hB.step hx (KH.2 BY)
     refine ⟨?_,?_⟩
     ·exact hL.step hx BY
     refine H.Z8 [3,3,3]<|fun H=>H.drop 3<|fun H=>?_
     exact H
    omega
   ·have hD:=hB.fin LQ
    have hmem:=hL.fin LQ
    refine cF (Zo BY)<|ZV H rfl<|fun p3 w4 H=>Z9 rfl<|Z4 (H.at 3 rfl) 3 rfl rfl rfl ?_
    replace H:=H.US (en:=ZJ) (s:=1) 3 (fun _=>rfl)
    have aoc:m.table.toNat=tb:=by omega
    refine YR.rule (α:=Nat × Value × List Int) (0,.slice none 0 0,[]) (fun x_=>[(70,BT x_.1)]) (fun x_ w_=>(x_.1≤tb)∧(x_.2.2=List.replicate x_.1 (-1))∧Sat g w_ ((Sl 3 1 ZJ x_.2.1 x_.2.2::Pt p3 [.string (bs []),x_.2.1,.slice none 0 0] 34::Sl 5 1 Tu v1 cur::Pt p2 [.string (bs []),.slice none 0 0,.slice none 0 0] 34::Pt p1 (BV m []) 30::l))) (fun x_=>tb-x_.1) ?_ ?_ ?_
    ·exact k_a
    ·try simp only
     refine ⟨BY,?_⟩
     refine ⟨?_,?_⟩
     ·simp
     exact H
    clear H
    rintro ⟨i3,vt,tc⟩ f_ w_ ⟨CF,Cj,H⟩
    try simp only at CF Cj H ⊢
    have MO:tc.length=i3:=by grind
    rcases lya i3 tb with akI|akJ
    ·refine cT (Y7 BY)<|bk<|Z9 rfl<|Z4 (H.at 1 rfl) 1 rfl rfl rfl<|ZZ H rfl rfl rfl rfl<|fun p4 w5 H=>Wt (ys:=[_]) 8 H 1 rfl (H.at 0 rfl) rfl (fun y _=>rfl) rfl rfl rfl BY BY<|fun v2=>?_
     intro w6 H
     refine Z9 rfl<|XQ H 2 rfl rfl rfl (H.one 1 rfl)<|fun w5 H=>ZX BY ?_
     refine WU.mk ((i3+1,v2,tc++[-1])) (Zs rfl BY (ZW)) ?_ ?_
     ·refine ⟨BY,?_⟩
      refine ⟨?_,?_⟩
      ·exact ae6 Cj
      refine H.Z8 [5,5,5,5,5]<|fun H=>H.drop 5<|fun H=>?_
      exact H
     omega
    ·have ant:i3=m.table.toNat:=by omega
     have hLT:LT m.table.toNat m.elems 0 tc:=by
      rw [Cj,ant];exact LT.zero
     refine cF (Zo BY)<|Z9 rfl<|Z4 (H.at 4 rfl) 9 rfl rfl rfl<|Zy XT rfl ?_
     refine YR.rule (α:=Nat × List Int) (0,tc) (fun x_=>[(81,BT x_.1)]) (fun x_ w_=>(x_.1≤m.elems.length)∧(LT m.table.toNat m.elems x_.1 x_.2)∧Sat g w_ ((Sl 3 1 ZJ vt x_.2::Pt p3 [.string (bs []),vt,.slice none 0 0] 34::Sl 5 1 Tu v1 cur::Pt p2 [.string (bs []),.slice none 0 0,.slice none 0 0] 34::Pt p1 (BV m []) 30::l))) (fun x_=>m.elems.length-x_.1) ?_ ?_ ?_
     ·exact k_a
     ·grind
     clear H
     rintro ⟨i4,tu⟩ f_ w_ ⟨hi4,hJ,H⟩
     try simp only at hi4 hJ H ⊢
     have aod:=hJ.len
     rcases lya i4 m.elems.length with anu|alq
     ·obtain ⟨x,hx⟩:∃x,m.elems[i4]?=some x:=⟨_,laa anu⟩
      have Jp:=lda hx
      have LF:=ZY.all XT x Jp
      have Re:=LF.fs
      have Jq:=ahK (P.JT x Jp)
      have anU:=KH.1 (UE.1 hE x Jp)
      refine cT (Y7 BY)<|bk ?_
      obtain ⟨b1,o1,E1,F1,ZF⟩:=ZY.Y4 XT hx
      have Qh:=ZF.pl
      have Vo:=ZF.fs
      refine ZK E1 rfl rfl rfl<|ZB (H.X3 F1) 0 rfl rfl rfl<|ZV H rfl<|fun p4 w5 H=>ZG H 0 rfl rfl rfl (by simp only [List.all_cons,List.all_nil,H.one 1 rfl,H.one 3 rfl,ZY.one Vo,ZY.one Re,ZY.one VM,ZY.one XT,ZY.one XE,ZY.one Zm,ZY.one Y8,ZY.one ZQ,ZY.one ZO];rfl)<|fun w6 H=>ZM H [] [BRp0,BRh1,BRp2,BRh3,BRp4,BRp5,BRh6,BRfr7] mixed k_d k_d<|fun w5 H=>tk (fun _ Z=>Z9 rfl BU)<|tk (fun _ Z=>Z4 (Z.at 2 rfl) 1 rfl rfl rfl BU)<|tk (fun _ Z=>Z9 rfl BU)<|tk (fun _ Z=>Z4 (Z.at 0 rfl) 0 rfl rfl rfl BU) ?_
      obtain ⟨v2,V1⟩:=H.vw 1 rfl ((x.pl).toNat) ((tu).length) BY BY
      refine tk (fun _ Z=>VQ V1 rfl rfl (.inr ⟨_,by first|rfl|(congr 2;omega)⟩) (.inl BU) BU)<|tk (fun _ Z=>Z9 rfl BU)<|tk (fun _ Z=>Z4 (Z.at 0 rfl) 1 rfl rfl rfl BU)<|agb H 1 rfl V1 (H.rd Re) BY (fun y _=>rfl) rfl rfl<|fun w9 H=>ZX BY ?_
      refine WU.mk ((i4+1,List.take x.pl.toNat tu++x.fs++List.drop (x.pl.toNat+x.fs.length) tu)) (Zs rfl BY (ZW)) ?_ ?_
      ·refine ⟨BY,?_⟩
       refine ⟨?_,?_⟩
       ·exact hJ.step hx BY (ZY.all Re)
       refine H.Z8 [5,5,5,5,5]<|fun H=>H.drop 5<|fun H=>?_
       exact H
      omega
     ·have Rp:=hJ.fin alq
      refine cF (Zo BY)<|Z9 rfl<|Z4 (H.at 4 rfl) 6 rfl rfl rfl<|Zy Y8 rfl ?_
      replace H:=H.US (en:=ZJ) (s:=1) 2 (fun _=>rfl)
      refine YR.rule (α:=Nat × Value × List Int) (0,.slice none 0 0,[]) (fun x_=>[(97,BT x_.1)]) (fun x_ w_=>(x_.1≤m.globals.length)∧(x_.2.2=(m.globals.take x_.1).map (·.2.2))∧Sat g w_ ((Sl 2 1 ZJ x_.2.1 x_.2.2::Sl 3 1 ZJ vt tu::Pt p3 [.string (bs []),vt,x_.2.1] 34::Sl 5 1 Tu v1 cur::Pt p2 [.string (bs []),.slice none 0 0,.slice none 0 0] 34::Pt p1 (BV m []) 30::l))) (fun x_=>m.globals.length-x_.1) ?_ ?_ ?_
      ·exact k_a
      ·grind
      clear H
      rintro ⟨i5,vg,gc⟩ f_ w_ ⟨hi5,hG,H⟩
      try simp only at hi5 hG H ⊢
      have Cr:gc.length=i5:=by grind
      rcases lya i5 m.globals.length with alr|anv
      ·obtain ⟨x,hx⟩:∃x,m.globals[i5]?=some x:=⟨_,laa alr⟩
       have LF:=ZY.all Y8 x (lda hx)
       have anV:=LF.start
       refine cT (Y7 BY)<|bk ?_
       obtain ⟨b1,o1,E1,F1,ZF⟩:=ZY.Y4 Y8 hx
       have Pg:=ZF.kind
       have Q3:=ZF.start
       refine ZK E1 rfl rfl rfl<|ZB (H.X3 F1) 0 rfl rfl rfl<|ZV H rfl<|fun p4 w5 H=>ZG H 0 rfl rfl rfl rfl<|fun w6 H=>Z9 rfl<|Z4 (H.at 3 rfl) 2 rfl rfl rfl<|Z9 rfl<|Z4 (H.at 0 rfl) 2 rfl rfl rfl<|ZZ H rfl rfl rfl rfl<|fun p5 w5 H=>Wt (ys:=[_]) 8 H 2 rfl (H.at 0 rfl) rfl (fun y _=>rfl) rfl rfl rfl BY BY<|fun v2=>?_
       intro w6 H
       refine Z9 rfl<|XQ H 4 rfl rfl rfl (H.one 2 rfl)<|fun w5 H=>ZX BY ?_
       refine WU.mk ((i5+1,v2,gc++[x.snd.snd])) (Zs rfl BY (ZW)) ?_ ?_
       ·refine ⟨BY,?_⟩
        refine ⟨?_,?_⟩
        ·exact ae7 hG hx
        refine H.Z8 [7,7,7,7,7,7]<|fun H=>H.drop 7<|fun H=>H.drop 6<|fun H=>?_
        exact H
       omega
      ·have DM:gc=m.globals.map (·.2.2):=by grind
       have hgo:∀y∈gc,Xa y:=fun y hy=>by
        rw [DM] at hy
        obtain ⟨z,hz,rfl⟩:=leb.1 hy
        exact (ZY.all Y8 z hz).start
       refine cF (Zo BY)<|SM H 3 rfl rfl rfl rfl<|Z9 rfl<|XQ H 2 rfl rfl rfl rfl<|fun w5 H=>ZB (H.at 2 rfl) 0 rfl rfl rfl<|ZG H 4 rfl rfl rfl (by simp only [List.all_cons,List.all_nil,H.one 0 rfl,H.one 1 rfl,H.one 3 rfl,ZY.one VM,ZY.one XT,ZY.one XE,ZY.one Zm,ZY.one Y8,ZY.one ZQ,ZY.one ZO];rfl)<|fun w6 H=>XK (H.at 4 rfl) 0 rfl rfl rfl<|H.UI 0 Wj rfl hgo<|fun g1 e1 Ci=>?_
       intro H
       refine H.UI 0 Wj rfl hJ.ok<|fun g2 e2 htF=>?_
       intro H
       replace Ci:=Ci.ext e2
       have E:=e1.trans e2
       refine Z6.mk ?_
       exact ⟨g2,_,_,_,_,_,_,rfl,E,htF,Ci,mk4 h0.symm hE hD hmem Rp DM,(((H.del 0).del 0).del 0).del 0⟩
 ·refine ZH H<|fun p1 w1 H=>ZV H rfl<|fun p2 w2 H=>ZB (H.at 1 rfl) 0 rfl rfl rfl ?_
  refine Z7.mk (Fc.imp (Valid.LN H BY BY) ?_)
  clear H
  rintro _ w1 ⟨e1,⟨rfl,⟨h1,H⟩⟩⟩
  refine cT (VS BY)<|Zj rfl rfl rfl<|ZG H 0 rfl rfl rfl rfl<|fun w3 H=>XK (H.at 0 rfl) 0 rfl rfl rfl<|Z6.mk ?_
  exact ⟨g,[],[],[],_,_,_,rfl,Ext.refl _,ZY.OV _ _ _ _,ZY.OV _ _ _ _,mk1 BX BY,(H.del 0).del 0⟩
end
end Wq
namespace Wq
open Go YZ Go.RowKit
open YX Zk X5 YS Valid
section
variable {g:Zx} {w:World} {l:List As} {m:Zf}
theorem als (H:Sat g w l) (k a:Int):Fc Tryz.prog 48 #[.int .u8 k,BT a] w (fun v w'=>∃r,v=BT r∧r=P8 k a∧Sat g w' l):=by
 refine Fc.of Tryz.func48 rfl k_d ?_
 refine cI (fun h=>?_) (fun h=>?_)
 ·have h:=ZS h
  refine Zu rfl rfl<|Zu rfl rfl ?_
  exact Z6.mk ⟨_,rfl,by unfold P8;rw [if_pos h],H⟩
 have h:=ZR h
 exact Z6.mk ⟨_,rfl,by unfold P8;rw [if_neg h],H⟩
end
end Wq
namespace Rn
open Go YZ Go.RowKit
open YX Zk X5 YS Valid Mem
section
variable {g:Zx} {w:World} {l:List As} {m:Zf} {cp mp:Nat} {vp vt vg vl vs S8:Value} {ps:List W0} {Zv Zl loc stk:List Int} {x:ZU}
theorem do_ (H:Sat g w (Pt cp (BV m [BS mp,vt,vg]) 158::Pt mp [vp,BT m.most] 221::Sl 223 256 Xs vp ps::Sl 3 1 ZJ vt Zv::Sl 2 1 ZJ vg Zl::Sl 2 1 ZJ vl loc::Sl 2 1 ZJ vs stk::l)) (hD:Ib x ⟨flat ps,Zv,Zl⟩ loc stk) (hT:Fold.Jh g) (hop:x.op≤255) (hm:ps.length≤m.most∧m.most≤8) (hlen:stk.length≤100000):Fc Tryz.prog 160 #[BS cp,.agg #[.int .u8 x.op,BT x.a,BT x.b,S8],vl,vs] w (fun r w'=>∃e vs' T4 ps' Xf loc' Xj,r=.tuple #[vs',BT e]∧NC (V0 m.most x ⟨flat ps,Zv,Zl⟩ loc stk) e (flat ps') Xf loc' Xj∧ps'.length≤8∧Sat g w' (Pt cp (BV m [BS mp,vt,vg]) 158::Pt mp [T4,BT m.most] 221::Sl 223 256 Xs T4 ps'::Sl 3 1 ZJ vt Zv::Sl 2 1 ZJ vg Xf::Sl 2 1 ZJ vl loc'::Sl 2 1 ZJ vs' Xj::l)):=by
 have hp:ps.length≤8:=by omega
 have hn:=hD.need
 have n1:x.op=26∨x.op=33∨x.op=34∨x.op=36→1≤stk.length:=fun h=>by unfold Vd at hn;rw [if_pos h] at hn;exact hn
 rcases hD.op with h|h|h|⟨MZ,hq⟩
 ·exact alc H h (n1 (.inl h)) hlen hp
 ·exact ald H h (by unfold Vd at hn;rw [if_neg BY,if_pos h] at hn;exact hn) hlen hp
 ·by_cases h2:x.op=32
  ·exact ale H h2 (hD.loc h.1 BY) hlen hp
  by_cases h3:x.op=33∨x.op=34
  ·exact alf H h3 (hD.loc h.1 BY) (n1 BY) hlen hp
  by_cases h5:x.op=35
  ·exact alg H h5 (hD.Zl (.inl h5)) hlen hp
  ·exact alh H BY (hD.Zl BY) (n1 BY) hlen hp
 ·by_cases h5:x.op=65∨x.op=66
  ·exact ali H h5 hlen hp
  by_cases h3:x.op=63
  ·exact alj H h3 hlen hp
  by_cases h4:x.op=64
  ·have h1:1≤stk.length:=by
    unfold Vd at hn
    rw [if_neg BY,if_neg BY,if_pos BY,h4,show Xu 64=([127],[127],true) by decide] at hn;exact hn
   exact alk H h4 h1 hD.IT hm hlen hp
  by_cases hw:0<wid x.op
  ·exact alm H ⟨MZ,hop⟩ hw hD.IT hn (hD.off hw) hlen hp
  ·exact aln H ⟨MZ,hop⟩ hw hq ⟨h3,h4,by omega,by omega⟩ hD.IT hn hT hlen hp
theorem alu (P:Tq m.d) {n:Int} (h0:0≤n) (h1:n<(m.ZA.length:Int)+m.funcs.length):∃(i:Nat) (t:Xz),m.types[i]?=some t∧t.d=YC m.d n ∧
  (n<m.ZA.length→∃y,m.ZA[n.toNat]?=some y∧y.2=i)∧(¬n<m.ZA.length→∃f,m.funcs[n.toNat-m.ZA.length]?=some f∧f.ty=i):=by
 have hfl:m.d.funcs.length=m.funcs.length:=lea ..
 have hil:m.d.ZA.length=m.ZA.length:=rfl
 have MO:m.d.types.length=m.types.length:=lea ..
 by_cases h:n<m.ZA.length
 ·have hi:n.toNat<m.ZA.length:=by omega
  have hm:=P.imp _ (lob (show n.toNat<m.d.ZA.length from hi))
  have hm:0≤m.ZA[n.toNat].2∧m.ZA[n.toNat].2<m.d.types.length:=hm
  obtain ⟨i,DL⟩:=lwa hm.1
  have hit:i<m.types.length:=by omega
  refine ⟨i,m.types[i],laa hit,?_,fun _=>⟨_,laa hi,DL⟩,fun h'=>absurd h h'⟩
  obtain ⟨t,e1,e2,_⟩:=OG P h0 (show n<Y3 m.d from h)
  rw [e2]
  unfold Xy QZ at e1
  rw [if_neg BY] at e1
  have Gf:(ZD m.d).ZA.length=m.ZA.length:=lea ..
  rw [Gf,if_pos h] at e1
  have e3:(ZD m.d).ZA[n.toNat]?=some m.ZA[n.toNat].2:=by
   show (m.ZA.map (·.2))[_]?=_
   rw [lCa,laa hi];rfl
  rw [e3,DL] at e1
  have e1:(m.types.map Xz.d)[i]?=some t:=e1
  rw [lCa,laa hit] at e1
  exact Option.some.inj e1
 ·have hi:n.toNat-m.ZA.length<m.funcs.length:=by omega
  have hmem:m.funcs[n.toNat-m.ZA.length].d∈m.d.funcs:=leb.2 ⟨_,lob hi,rfl⟩
  have hm:=(P.fn _ hmem).ty
  have hm:0≤m.funcs[n.toNat-m.ZA.length].ty∧m.funcs[n.toNat-m.ZA.length].ty<m.d.types.length:=hm
  obtain ⟨i,DL⟩:=lwa hm.1
  have hit:i<m.types.length:=by omega
  refine ⟨i,m.types[i],laa hit,?_,fun h'=>absurd h' h,fun _=>⟨_,laa hi,DL⟩⟩
  obtain ⟨_,e2⟩:=P0 P (n:=n-Y3 m.d) (by grind [Y3]) (by grind [Y3])
  rw [show Y3 m.d+(n-Y3 m.d)=n by omega] at e2
  rw [e2]
  have e3:W2 m.d (n-Y3 m.d)=m.funcs[n.toNat-m.ZA.length].d:=by
   unfold W2 Y3
   rw [show (n-(m.d.ZA.length:Int)).toNat=n.toNat-m.ZA.length by omega]
   show (m.funcs.map YD.d).getD _ _=_
   rw [lia0,lCa,laa hi];rfl
  rw [e3]
  unfold Rx
  show _=(m.types.map Xz.d).getD m.funcs[n.toNat-m.ZA.length].ty.toNat _
  rw [DL,lla,lia0,lCa,laa hit];rfl
theorem alv (H:Sat g w l) (u v:Value) (xs ys:List Int) (hx:ZY g YO U8 1 u xs) (hy:ZY g YO U8 1 v ys) (hl:xs.length≤1000) :
  Fc Tryz.prog 166 #[u,v] w (fun r w'=>∃b,r=.bool b∧(b=true↔xs=ys)∧Sat g w' l):=by
 refine Fc.of Tryz.func166 rfl k_d<|Zy hx rfl<|Zy hy rfl ?_
 refine cI (fun c1=>?_) (fun c1=>?_)
 ·replace c1:=Yp (c1)
  refine Z6.mk ?_
  exact ⟨false,rfl,⟨nofun,fun h=>absurd (congrArg List.length h) BY⟩,H⟩
 replace c1:=Yo (c1)
 refine Zy hx rfl ?_
 refine YR.rule (α:=Nat) (0) (fun x_=>[(13,BT x_)]) (fun x_ w_=>(x_≤xs.length)∧(∀q,q<x_→xs[q]?=ys[q]?)∧Sat g w_ (l)) (fun x_=>xs.length-x_) ?_ ?_ ?_
 ·exact k_a
 ·grind
 clear H
 rintro i f_ w_ ⟨hi,he,H⟩
 try simp only at hi he H ⊢
 refine cI (fun c2=>?_) (fun c2=>?_)
 ·replace c2:=YI (c2)
  refine bk<|ZM H [] [BRp0,BRp1,BRp2,BRh3,BRp4,BRp5,BRp6,BRh7,BRp8] mixed k_d k_d<|fun w1 H=>?_
  obtain ⟨x1,hx1⟩:∃x,(xs)[(i)]?=some x:=⟨_,laa BY⟩
  obtain ⟨b1,o1,E1,F1,ZF⟩:=ZY.Y4 hx hx1
  refine tk (fun _ Z=>ZK E1 rfl rfl rfl BU)<|tk (fun _ Z=>Z4 (Z.X3 F1) 0 rfl rfl rfl BU) ?_
  obtain ⟨x2,RH⟩:∃x,(ys)[(i)]?=some x:=⟨_,laa BY⟩
  obtain ⟨b2,o2,E2,F2,Ye⟩:=ZY.Y4 hy RH
  refine tk (fun _ Z=>ZK E2 rfl rfl rfl BU)<|tk (fun _ Z=>Z4 (Z.X3 F2) 0 rfl rfl rfl BU) ?_
  refine cI (fun c3=>?_) (fun c3=>?_)
  ·replace c3:=Yp (c3)
   refine Z6.mk ?_
   exact ⟨false,rfl,⟨nofun,fun h=>absurd (by subst h;exact Option.some.inj (hx1.symm.trans RH)) BX⟩,H⟩
  replace c3:=Yo (c3)
  refine ZX BY ?_
  refine WU.mk (i+1) (Zs rfl BY (ZW)) ?_ ?_
  ·grind
  omega
 replace c2:=YH (c2)
 refine Z6.mk ?_
 exact ⟨true,rfl,⟨fun _=>Ref.N1 BY BY he,fun _=>rfl⟩,H⟩
theorem alw (H:Sat g w l) (a b:Xz) (ha:Wc g a) (hb:Wc g b) (h1:a.Zd.length≤1000) (h2:a.out.length≤1000) :
  Fc Tryz.prog 120 #[.agg #[a.vi,a.vo],.agg #[b.vi,b.vo]] w (fun r w'=>∃q,r=.bool q∧(q=true↔a.Zd=b.Zd∧a.out=b.out)∧Sat g w' l):=by
 refine Fc.of Tryz.func120 rfl k_d ?_
 have ai6:=ha.Zd
 have ai7:=ha.out
 have ai8:=hb.Zd
 have ai9:=hb.out
 refine ZH H<|fun p1 w1 H=>ZH H<|fun p2 w2 H=>Z9 rfl<|Z4 (H.at 1 rfl) 0 rfl rfl rfl<|Z9 rfl<|Z4 (H.at 0 rfl) 0 rfl rfl rfl ?_
 refine Z7.mk (Fc.imp (Rn.alv H _ _ _ _ ai6 ai8 ?_) ?_)
 ·grind
 clear H
 rintro _ w1 ⟨b1,⟨rfl,⟨h3,H⟩⟩⟩
 refine br (fun c1=>?_) (fun c1=>?_)
 ·replace c1:=h3.1 (c1)
  refine Z9 rfl<|Z4 (H.at 1 rfl) 1 rfl rfl rfl<|Z9 rfl<|Z4 (H.at 0 rfl) 1 rfl rfl rfl ?_
  refine Z7.mk (Fc.imp (Rn.alv H _ _ _ _ ai7 ai9 ?_) ?_)
  ·grind
  clear H
  rintro _ w3 ⟨b2,⟨rfl,⟨h4,H⟩⟩⟩
  refine Z6.mk ?_
  refine ⟨b2,?_⟩
  refine ⟨?_,?_⟩
  ·grind
  refine ⟨?_,?_⟩
  ·grind
  refine H.drop 1<|fun H=>H.drop 0<|fun H=>?_
  exact H
 replace c1:=Sf h3 (c1)
 refine Z6.mk ?_
 refine ⟨false,?_⟩
 refine ⟨?_,?_⟩
 ·grind
 refine ⟨?_,?_⟩
 ·grind
 refine H.drop 1<|fun H=>H.drop 0<|fun H=>?_
 exact H
theorem Mv (H:Sat g w (Pt cp (BV m [BS mp,vt,vg]) 158::l)) (hm:XN g m) (P:Tq m.d) (n:Int) (h0:0≤n) (h1:n<(m.ZA.length:Int)+m.funcs.length) :
  Fc Tryz.prog 75 #[BS cp,BT n] w (fun r w'=>∃t:Xz,r=.agg #[t.vi,t.vo]∧t∈m.types∧Wc g t∧t.d=YC m.d n∧t.Zd.length≤4∧t.out.length≤1∧Sat g w' (Pt cp (BV m [BS mp,vt,vg]) 158::l)):=by
 refine Fc.of Tryz.func75 rfl k_d ?_
 have ZO:=hm.types
 have Zm:=hm.ZA
 have ZQ:=hm.funcs
 obtain ⟨i,t,k1,k2,k3,k4⟩:=alu P h0 h1
 have MP:=lda k1
 have hto:=ZY.all ZO t MP
 have IP:t.Zd.length≤4:=(P.sig t.d (leb.2 ⟨t,MP,rfl⟩)).1
 have aoe:t.out.length≤1:=(P.sig t.d (leb.2 ⟨t,MP,rfl⟩)).2
 have hni:=P.ni
 have hnf:=P.nf
 have hfl:m.d.funcs.length=m.funcs.length:=lea ..
 have hil:m.d.ZA.length=m.ZA.length:=rfl
 obtain ⟨k,rfl⟩:=lwa h0
 rw [lla] at k3 k4
 by_cases h:(k:Int)<m.ZA.length
 ·obtain ⟨y,q1,q2⟩:=k3 h
  have hlt:=(lba.1 k1).1
  have hyb:0≤y.2∧y.2<m.types.length:=by omega
  have Ch:m.types[y.2.toNat]?=some t:=by grind
  refine ZV H rfl<|fun p1 w1 H=>Z9 rfl<|Z9 rfl<|Z4 (H.at 1 rfl) 1 rfl rfl rfl<|Zy Zm rfl<|cT (Y7 BX)<|ZM H [] [BRp0,BRp1,BRp2,BRp3,BRh4,BRp5,BRp6,BRp7,BRp8,BRh9,BRp10,BRp11,BRp12,BRh13,BRp14,BRh15,BRfr16] mixed k_d k_d<|fun w2 H=>tk (fun _ Z=>Z9 rfl BU)<|tk (fun _ Z=>Z9 rfl BU)<|tk (fun _ Z=>Z4 (Z.at 1 rfl) 0 rfl rfl rfl BU)<|tk (fun _ Z=>Z9 rfl BU)<|tk (fun _ Z=>Z9 rfl BU)<|tk (fun _ Z=>Z4 (Z.at 1 rfl) 1 rfl rfl rfl BU) ?_
  obtain ⟨b1,o1,E1,F1,ZF⟩:=ZY.Y4 Zm q1
  have U5:=ZF.name
  have XV:=ZF.ty
  refine tk (fun _ Z=>ZK E1 rfl rfl rfl BU)<|tk (fun _ Z=>Z9 rfl BU)<|tk (fun _ Z=>Z4 (Z.X3 F1) 1 rfl rfl rfl BU) ?_
  obtain ⟨b2,o2,E2,F2,Ye⟩:=ZY.Y4 ZO Ch
  have XZ:=Ye.Zd
  have Yq:=Ye.out
  refine tk (fun _ Z=>ZK E2 BY rfl rfl BU)<|tk (fun _ Z=>ZB (Z.X3 F2) 0 rfl rfl rfl BU)<|ZG H 0 rfl rfl rfl (by grind [ZY.one])<|fun w1 H=>XK (H.at 0 rfl) 0 rfl rfl rfl<|Z6.mk ?_
  refine ⟨t,?_⟩
  refine ⟨rfl,?_⟩
  refine ⟨BY,?_⟩
  refine ⟨BY,?_⟩
  refine ⟨BY,?_⟩
  refine ⟨BY,?_⟩
  refine ⟨BY,?_⟩
  refine H.Z8 [1]<|fun H=>H.drop 1<|fun H=>?_
  exact H
 ·obtain ⟨f,q1,q2⟩:=k4 h
  have hlt:=(lba.1 k1).1
  have hyb:0≤f.ty∧f.ty<m.types.length:=by omega
  have Ch:m.types[f.ty.toNat]?=some t:=by grind
  refine ZV H rfl<|fun p1 w1 H=>Z9 rfl<|Z9 rfl<|Z4 (H.at 1 rfl) 1 rfl rfl rfl<|Zy Zm rfl<|cF (Zo BY)<|ZM H [] [BRp0,BRp1,BRp2,BRp3,BRh4,BRp5,BRp6,BRp7,BRp8,BRh9,BRp10,BRp11,BRp12,BRp13,BRp14,BRh15,BRp16,BRp17,BRp18,BRp19,BRh20,BRp21,BRh22,BRfr23] mixed k_d k_d<|fun w2 H=>tk (fun _ Z=>Z9 rfl BU)<|tk (fun _ Z=>Z9 rfl BU)<|tk (fun _ Z=>Z4 (Z.at 1 rfl) 0 rfl rfl rfl BU)<|tk (fun _ Z=>Z9 rfl BU)<|tk (fun _ Z=>Z9 rfl BU)<|tk (fun _ Z=>Z4 (Z.at 1 rfl) 2 rfl rfl rfl BU)<|tk (fun _ Z=>Z9 rfl BU)<|tk (fun _ Z=>Z9 rfl BU)<|tk (fun _ Z=>Z4 (Z.at 1 rfl) 1 rfl rfl rfl BU)<|tk (fun _ Z=>Zy Zm rfl BU)<|ZX BY ?_
  obtain ⟨b1,o1,E1,F1,ZF⟩:=ZY.Y4 ZQ q1
  have XV:=ZF.ty
  have Zt:=ZF.loc
  have ZE:=ZF.body
  refine tk (fun _ Z=>ZK E1 BY rfl rfl BU)<|tk (fun _ Z=>Z9 rfl BU)<|tk (fun _ Z=>Z4 (Z.X3 F1) 0 rfl rfl rfl BU) ?_
  obtain ⟨b2,o2,E2,F2,Ye⟩:=ZY.Y4 ZO Ch
  have XZ:=Ye.Zd
  have Yq:=Ye.out
  refine tk (fun _ Z=>ZK E2 BY rfl rfl BU)<|tk (fun _ Z=>ZB (Z.X3 F2) 0 rfl rfl rfl BU)<|ZG H 0 rfl rfl rfl (by grind [ZY.one])<|fun w1 H=>XK (H.at 0 rfl) 0 rfl rfl rfl<|Z6.mk ?_
  refine ⟨t,?_⟩
  refine ⟨rfl,?_⟩
  refine ⟨BY,?_⟩
  refine ⟨BY,?_⟩
  refine ⟨BY,?_⟩
  refine ⟨BY,?_⟩
  refine ⟨BY,?_⟩
  refine H.Z8 [1]<|fun H=>H.drop 1<|fun H=>?_
  exact H
theorem ce0 {t tx:Xz} {D:Xp} {f:Int} (h:t.d=D) (hc:¬(t.Zd=tx.Zd∧t.out=tx.out)):((0:Int),List.drop 0 (List.take (stk.length-1) stk),(25:Int))=if D.Zd≠tx.d.Zd∨D.out≠tx.d.out then (0,low stk 1,25) else (f,low stk 1,0):=by
 subst h
 rw [KA,if_pos]
 refine Decidable.by_contra fun hn=>hc ⟨Decidable.by_contra fun h1=>hn (.inl h1),Decidable.by_contra fun h2=>hn (.inr h2)⟩
theorem ce1 {t tx:Xz} {D:Xp} {f:Int} (h:t.d=D) (hc:t.Zd=tx.Zd∧t.out=tx.out):(f,List.drop 0 (List.take (stk.length-1) stk),(0:Int))=if D.Zd≠tx.d.Zd∨D.out≠tx.d.out then (0,low stk 1,25) else (f,low stk 1,0):=by
 subst h
 rw [KA,if_neg]
 rintro (h|h)
 ·exact h hc.1
 ·exact h hc.2
theorem Oz (H:Sat g w (Pt cp (BV m [BS mp,vt,vg]) 158::Sl 3 1 ZJ vt Zv::Sl 2 1 ZJ vs stk::l)) (hm:XN g m) (P:Tq m.d) (ho:x.op=16∨x.op=17) (Rp:∀n∈Zv,-1≤n∧n<(m.ZA.length:Int)+m.funcs.length) (h1:x.op=17→1≤stk.length∧0≤x.a∧x.a<m.types.length)
  (T7:∀v∈stk,Xa v) (hlen:stk.length≤100000) (MO:Zv.length≤1000) :
  Fc Tryz.prog 196 #[BS cp,.agg #[.int .u8 x.op,BT x.a,BT x.b,S8],vs] w (fun r w'=>∃f vs' Xj e,r=.tuple #[BT f,vs',BT e]∧(f,Xj,e)=Y0 m.d Zv x stk∧Sat g w' (Pt cp (BV m [BS mp,vt,vg]) 158::Sl 3 1 ZJ vt Zv::Sl 2 1 ZJ vs' Xj::l)):=by
 refine Fc.of Tryz.func196 rfl k_d ?_
 have ZO:=hm.types
 have Zm:=hm.ZA
 have ZQ:=hm.funcs
 unfold Y0
 rcases ho with ho|ho
 ·rw [if_pos ho]
  refine ZH H<|fun p1 w1 H=>Z9 rfl<|Z4 (H.at 0 rfl) 0 rfl rfl rfl<|cT (ZL BX)<|Z9 rfl<|Z4 (H.at 0 rfl) 1 rfl rfl rfl<|Z6.mk ?_
  refine ⟨x.a,vs,stk,0,?_⟩
  refine ⟨rfl,?_⟩
  refine ⟨rfl,?_⟩
  refine H.Z8 [3,3,3]<|fun H=>H.drop 3<|fun H=>?_
  exact H
 ·rw [if_neg BY]
  obtain ⟨h1,h2,h3⟩:=h1 ho
  obtain ⟨a,ha,I0,IQ⟩:=F9 (s:=stk) BY
  have GG:=T7 a IQ
  rw [I0]
  have hN0:0≤a % 4294967296:=by omega
  have Cg:m.types[x.a.toNat]?=some m.types[x.a.toNat]:=laa BY
  have LF:=ZY.all ZO _ (lda Cg)
  have Ts:m.d.types.getD x.a.toNat sz=m.types[x.a.toNat].d:=by
   show (m.types.map Xz.d).getD _ _=_
   rw [lia0,lCa,Cg];rfl
  rw [Ts]
  generalize m.types[x.a.toNat]=tx at *
  by_cases hNl:(a % 4294967296).toNat<Zv.length
  ·obtain ⟨f,DK⟩:∃f,Zv[(a % 4294967296).toNat]?=some f:=⟨_,laa hNl⟩
   have hNb:=Rp f (lda DK)
   rw [ae3 DK]
   by_cases hf:f<0
   ·rw [if_pos (.inr hf)]
    refine ZH H<|fun p1 w1 H=>Z9 rfl<|Z4 (H.at 0 rfl) 0 rfl rfl rfl<|cF (Z5 BY)<|YV H 3 rfl rfl<|ZX BY ?_
    obtain ⟨b1,o1,E1⟩:=H.Y4 3 rfl ((stk.length)-1) BY
    refine ZK E1 BY rfl rfl<|Z4 (H.el 3 rfl E1 ha) 0 rfl rfl rfl<|Yw rfl rfl<|Xd BY rfl rfl<|YV H 3 rfl rfl<|ZX BY<|Od H 3 rfl 0 ((stk.length)-1) rfl rfl BY BY (.inl ⟨rfl,rfl⟩) (.inr ⟨_,by first|rfl|(congr 2;omega)⟩)<|fun v1=>?_
    intro H
    refine Z9 rfl<|Z4 (H.at 1 rfl) 12 rfl rfl rfl<|YV H 2 rfl rfl<|XB (YK BY)<|Z9 rfl<|Z4 (H.at 1 rfl) 12 rfl rfl rfl ?_
    obtain ⟨b2,o2,E2⟩:=H.Y4 2 rfl (a % 4294967296).toNat BY
    refine ZK E2 BY rfl rfl<|Z4 (H.el 2 rfl E2 DK) 0 rfl rfl rfl<|cT (Y7 BX)<|Z6.mk ?_
    refine ⟨0,v1,List.drop 0 (List.take (stk.length-1) stk),24,?_⟩
    refine ⟨rfl,?_⟩
    refine ⟨rfl,?_⟩
    refine H.Z8 [3,3,3]<|fun H=>H.drop 3<|fun H=>?_
    exact H
   ·rw [if_neg BY]
    refine ZH H<|fun p1 w1 H=>Z9 rfl<|Z4 (H.at 0 rfl) 0 rfl rfl rfl<|cF (Z5 BY)<|YV H 3 rfl rfl<|ZX BY ?_
    obtain ⟨b1,o1,E1⟩:=H.Y4 3 rfl ((stk.length)-1) BY
    refine ZK E1 BY rfl rfl<|Z4 (H.el 3 rfl E1 ha) 0 rfl rfl rfl<|Yw rfl rfl<|Xd BY rfl rfl<|YV H 3 rfl rfl<|ZX BY<|Od H 3 rfl 0 ((stk.length)-1) rfl rfl BY BY (.inl ⟨rfl,rfl⟩) (.inr ⟨_,by first|rfl|(congr 2;omega)⟩)<|fun v1=>?_
    intro H
    refine Z9 rfl<|Z4 (H.at 1 rfl) 12 rfl rfl rfl<|YV H 2 rfl rfl<|XB (YK BY)<|Z9 rfl<|Z4 (H.at 1 rfl) 12 rfl rfl rfl ?_
    obtain ⟨b2,o2,E2⟩:=H.Y4 2 rfl (a % 4294967296).toNat BY
    refine ZK E2 BY rfl rfl<|Z4 (H.el 2 rfl E2 DK) 0 rfl rfl rfl<|cF (Zo BY)<|Z9 rfl<|Z4 (H.at 1 rfl) 12 rfl rfl rfl<|ZK E2 BY rfl rfl<|Z4 (H.el 2 rfl E2 DK) 0 rfl rfl rfl<|ZM H [] [BRp0,BRp1,BRp3,BRp4,BRp5,BRp6,BRh7,BRp8,BRh9,BRp10,BRh11,BRf2,BRfr12,BRp13] mixed k_d k_d<|fun w2 H=>tk (fun _ Z=>Z9 rfl BU)<|tk (fun _ Z=>Z9 rfl BU)<|tk (fun _ Z=>Z4 (Z.at 1 rfl) 0 rfl rfl rfl BU)<|tk (fun _ Z=>Z9 rfl BU)<|tk (fun _ Z=>Z4 (Z.at 0 rfl) 1 rfl rfl rfl BU) ?_
    obtain ⟨b3,o3,E3,F1,ZF⟩:=ZY.Y4 ZO Cg
    have Qj:=ZF.Zd
    have Qi:=ZF.out
    refine tk (fun _ Z=>ZK E3 BY rfl rfl BU)<|tk (fun _ Z=>ZB (Z.X3 F1) 0 rfl rfl rfl BU)<|H.Z8 [1]<|fun H=>?_
    refine Z7.mk (Fc.imp (Rn.Mv H BY BY _ BY BY) ?_)
    clear H
    rintro _ w1 ⟨t1,⟨rfl,⟨h4,⟨h5,⟨h6,⟨h7,⟨h8,H⟩⟩⟩⟩⟩⟩⟩
    refine H.Z8 [3,3,2,3]<|fun H=>YL.mk (H) ?_
    refine Z7.mk (Fc.imp (Rn.alw H _ _ BY BY BY BY) ?_)
    clear H
    rintro _ w3 ⟨q1,⟨rfl,⟨h9,H⟩⟩⟩
    refine cI (fun c1=>?_) (fun c1=>?_)
    ·replace c1:=Sf h9 (Si (c1))
     refine Z6.mk ?_
     refine ⟨0,v1,List.drop 0 (List.take (stk.length-1) stk),25,?_⟩
     refine ⟨rfl,?_⟩
     refine ⟨?_,?_⟩
     ·exact ce0 BX BX
     refine H.Z8 [3,3,3]<|fun H=>H.drop 3<|fun H=>?_
     exact H
    replace c1:=h9.1 (Sh (c1))
    refine Z6.mk ?_
    refine ⟨f,v1,List.drop 0 (List.take (stk.length-1) stk),0,?_⟩
    refine ⟨rfl,?_⟩
    refine ⟨?_,?_⟩
    ·exact ce1 BX BX
    refine H.Z8 [3,3,3]<|fun H=>H.drop 3<|fun H=>?_
    exact H
  ·rw [if_pos (.inl BY)]
   refine ZH H<|fun p1 w1 H=>Z9 rfl<|Z4 (H.at 0 rfl) 0 rfl rfl rfl<|cF (Z5 BY)<|YV H 3 rfl rfl<|ZX BY ?_
   obtain ⟨b1,o1,E1⟩:=H.Y4 3 rfl ((stk.length)-1) BY
   refine ZK E1 BY rfl rfl<|Z4 (H.el 3 rfl E1 ha) 0 rfl rfl rfl<|Yw rfl rfl<|Xd BY rfl rfl<|YV H 3 rfl rfl<|ZX BY<|Od H 3 rfl 0 ((stk.length)-1) rfl rfl BY BY (.inl ⟨rfl,rfl⟩) (.inr ⟨_,by first|rfl|(congr 2;omega)⟩)<|fun v1=>?_
   intro H
   refine Z9 rfl<|Z4 (H.at 1 rfl) 12 rfl rfl rfl<|YV H 2 rfl rfl<|VA (Yn BY)<|cT rfl<|Z6.mk ?_
   refine ⟨0,v1,List.drop 0 (List.take (stk.length-1) stk),24,?_⟩
   refine ⟨rfl,?_⟩
   refine ⟨rfl,?_⟩
   refine H.Z8 [3,3,3]<|fun H=>H.drop 3<|fun H=>?_
   exact H
end
end Rn
namespace Rn
open Go YZ Go.RowKit
open YX Zk X5 YS Valid Mem
structure CV where
 fn:Int
 at_:Int
 vl:Value
 loc:List Int
 vs:Value
 stk:List Int
def Yk (c:CV):List Value:=[.int .i64 c.fn,.int .i64 c.at_,c.vl,c.vs]
def CV.d (c:CV):YN:=⟨c.fn,c.at_,c.loc,c.stk⟩
section
variable {g:Zx} {w:World} {l:List As} {vc:Value} {cs:List CV} {i b o:Nat}
theorem Kz (E:El vc 4 i b o) (c:CV) (hx:cs[i]?=some c) (H:Sat g w (Sl 79 4 Yk vc cs::Sl 2 1 ZJ c.vs c.stk::l)) (h1:1≤c.stk.length) (hlen:c.stk.length≤100000) :
  Fc Tryz.prog 162 #[.pointer (some ⟨b,o,none⟩)] w (fun r w'=>∃vs' t,r=BT t∧t=top c.stk 0∧Sat g w' (Sl 79 4 Yk vc (cs.set i ⟨c.fn,c.at_,c.vl,c.loc,vs',low c.stk 1⟩)::Sl 2 1 ZJ vs' (low c.stk 1)::l)):=by
 refine Fc.of Tryz.func162 rfl k_d ?_
 obtain ⟨a,ha,I0,IQ⟩:=F9 (s:=c.stk) BY
 rw [I0]
 have hst:=H.one 1 rfl
 refine ZM H [] [BRp0,BRp1,BRp2,BRh3,BRp4,BRp5,BRp6,BRh7,BRp8,BRp9,BRp10,BRh11,BRp12] mixed k_d k_d<|fun w1 H=>tk (fun _ Z=>Z9 rfl BU)<|tk (fun _ Z=>Z4 (Z.el 0 rfl E hx) 3 rfl rfl rfl BU)<|tk (fun _ Z=>Z9 rfl BU)<|tk (fun _ Z=>Z4 (Z.el 0 rfl E hx) 3 rfl rfl rfl BU) ?_
 obtain ⟨a1,c1,V1⟩:=H.form 1 rfl
 refine tk (fun _ Z=>XU V1 rfl BU)<|ZX BY ?_
 obtain ⟨b1,o1,E1⟩:=H.Y4 1 rfl ((c.stk.length)-1) BY
 refine tk (fun _ Z=>ZK E1 BY rfl rfl BU)<|tk (fun _ Z=>Z4 (Z.el 1 rfl E1 ha) 0 rfl rfl rfl BU)<|ZM H [] [BRp0,BRp1,BRp2,BRp3,BRh4,BRp5,BRp6,BRp7,BRh8,BRp9,BRp10,BRp11,BRp12,BRp13,BRfr14] mixed k_d k_d<|fun w2 H=>tk (fun _ Z=>Z9 rfl BU)<|tk (fun _ Z=>Z4 (Z.el 0 rfl E hx) 3 rfl rfl rfl BU)<|tk (fun _ Z=>Z9 rfl BU)<|tk (fun _ Z=>Z4 (Z.el 0 rfl E hx) 3 rfl rfl rfl BU)<|tk (fun _ Z=>XU V1 rfl BU)<|ZX BY ?_
 obtain ⟨v1,V2⟩:=H.vw 1 rfl (0) (((c.stk.length)-1)) BY BY
 refine tk (fun _ Z=>VQ V2 rfl rfl (.inl BU) (.inr ⟨_,by first|rfl|(congr 2;omega)⟩) BU)<|tk (fun _ Z=>Z9 rfl BU)<|YE H 0 rfl E hx 3 (⟨c.fn,c.at_,c.vl,c.loc,(v1),low c.stk 1⟩) rfl (by simp only [Bool.and_true,H.one 0 rfl,H.one 1 rfl,Vw.one V2,hst]) rfl rfl<|fun w1 H=>Z6.mk ?_
 refine ⟨v1,a,?_⟩
 refine ⟨?_,?_⟩
 ·simp
 refine ⟨BY,?_⟩
 exact H.IA 1 rfl V2
theorem Mu (E:El vc 4 i b o) (c:CV) (hx:cs[i]?=some c) (H:Sat g w (Sl 79 4 Yk vc cs::Sl 2 1 ZJ c.vs c.stk::l)) (j:XX) (h0:0≤j.height) (h1:0≤j.keep) (hf:j.height+j.keep≤c.stk.length) (hlen:c.stk.length≤100000) :
  Fc Tryz.prog 113 #[.pointer (some ⟨b,o,none⟩),.agg #[BT j.at_,BT j.keep,BT j.height]] w (fun r w'=>∃vs',Sat g w' (Sl 79 4 Yk vc (cs.set i ⟨c.fn,j.at_,c.vl,c.loc,vs',c.stk.take j.height.toNat++c.stk.drop (c.stk.length-j.keep.toNat)⟩)::Sl 2 1 ZJ vs' (c.stk.take j.height.toNat++c.stk.drop (c.stk.length-j.keep.toNat))::l)):=by
 refine Fc.of Tryz.func113 rfl k_d ?_
 have hst:=H.one 1 rfl
 obtain ⟨kk,hkk⟩:=lwa h1
 obtain ⟨hh,hhh⟩:=lwa h0
 rw [hkk,hhh,lla,lla]
 refine ZH H<|fun p1 w1 H=>ZM H [] [BRp0,BRp1,BRp2,BRh3,BRp4,BRp5,BRp6,BRh7,BRp8,BRp9,BRh10,BRp11,BRp12,BRp13] mixed k_d k_d<|fun w2 H=>tk (fun _ Z=>Z9 rfl BU)<|tk (fun _ Z=>Z4 (Z.el 1 rfl E hx) 3 rfl rfl rfl BU)<|tk (fun _ Z=>Z9 rfl BU)<|tk (fun _ Z=>Z4 (Z.el 1 rfl E hx) 3 rfl rfl rfl BU) ?_
 obtain ⟨a1,c1,V1⟩:=H.form 2 rfl
 refine tk (fun _ Z=>XU V1 rfl BU)<|tk (fun _ Z=>Z9 rfl BU)<|tk (fun _ Z=>Z4 (Z.at 0 rfl) 1 rfl rfl rfl BU)<|ZX BY ?_
 obtain ⟨v1,V2⟩:=H.vw 2 rfl (((c.stk.length)-(kk))) ((c.stk).length) BY BY
 refine tk (fun _ Z=>VQ V2 rfl rfl (.inr ⟨_,by first|rfl|(congr 2;omega)⟩) (.inl BU) BU)<|ZM H [] [BRp0,BRp1,BRp2,BRp3,BRh4,BRp5,BRh6,BRp7,BRp8,BRfr9,BRp10,BRp11,BRfr12] mixed k_d k_d<|fun w1 H=>tk (fun _ Z=>Z9 rfl BU)<|tk (fun _ Z=>Z4 (Z.el 1 rfl E hx) 3 rfl rfl rfl BU)<|tk (fun _ Z=>Z9 rfl BU)<|tk (fun _ Z=>Z4 (Z.at 0 rfl) 2 rfl rfl rfl BU) ?_
 obtain ⟨v2,V3⟩:=H.vw 2 rfl (0) ((hh)) BY BY
 refine tk (fun _ Z=>VQ V3 rfl rfl (.inl BU) (.inr ⟨_,by first|rfl|(congr 2;omega)⟩) BU)<|akf 8 H 2 rfl V3 V2 (fun y _=>rfl) rfl rfl rfl BY BY<|fun v3=>?_
 intro w2 H
 refine tk (fun _ Z=>Z9 rfl BU)<|YE H 1 rfl E hx 3 (⟨c.fn,c.at_,c.vl,c.loc,(v3),c.stk.take hh++c.stk.drop (c.stk.length-kk)⟩) rfl (by simp only [Bool.and_true,H.one 1 rfl,H.one 2 rfl,Vw.one V3,Vw.one V2,hst]) rfl rfl<|fun w1 H=>Z9 rfl<|Z4 (H.at 0 rfl) 0 rfl rfl rfl<|Z9 rfl ?_
 have hx1:(cs.set i { fn:=c.fn,at_:=c.at_,vl:=c.vl,loc:=c.loc,vs:=v3,stk:=List.take hh c.stk++List.drop (c.stk.length-kk) c.stk })[i]?=some _:=WR hx
 refine YE H 1 rfl E hx1 1 (⟨c.fn,j.at_,c.vl,c.loc,_,c.stk.take hh++c.stk.drop (c.stk.length-kk)⟩) rfl rfl rfl rfl<|fun w2 H=>Z6.mk ?_
 refine ⟨v3,?_⟩
 refine H.Z8 [2,2]<|fun H=>H.drop 2<|fun H=>?_
 refine H.cg (YQ (Q5 ?_) (YQ rfl (rfl)))
 (simp;done)
end
end Rn
namespace Rn
open Go YZ Go.RowKit
open YX Zk X5 YS Valid Mem
section
variable {g:Zx} {w:World} {l:List As} {m:Zf} {pr cp mp:Nat} {vw vc vt vg va:Value} {host:Int} {cs:List CV} {args:List Int} {c u:CV}
theorem ae8 (H:Sat g w (Pt pr [BS cp,vw,vc,BT host] 148::Pt cp (BV m [BS mp,vt,vg]) 158::Sl 79 4 Yk vc cs::Sl 2 1 ZJ va args::l)) (hm:XN g m) (n:Nat) (f:YD) (hf:m.funcs[n]?=some f) (h1:f.loc.length≤16) (h2:args.length≤16) (h3:cs.length≤100) (hnf:m.funcs.length≤16) :
  Fc Tryz.prog 79 #[BS pr,BT n,va] w (fun r w'=>∃Qg IX,Sat g w' (Pt pr [BS cp,vw,Qg,BT host] 148::Pt cp (BV m [BS mp,vt,vg]) 158::Sl 79 4 Yk Qg (cs++[⟨n,0,IX,args++List.replicate f.loc.length 0,.slice none 0 0,[]⟩])::Sl 2 1 ZJ IX (args++List.replicate f.loc.length 0)::Sl 2 1 ZJ (.slice none 0 0) []::l)):=by
 refine Fc.of Tryz.func79 rfl k_d ?_
 have ZQ:=hm.funcs
 have hfo:=ZY.all ZQ f (lda hf)
 have agR:=hfo.loc
 replace H:=H.US (en:=ZJ) (s:=1) 2 (fun _=>rfl)
 refine Z9 rfl<|Z4 (H.at 1 rfl) 0 rfl rfl rfl<|Z9 rfl<|Z9 rfl<|Z4 (H.at 2 rfl) 2 rfl rfl rfl ?_
 obtain ⟨b1,o1,E1,F1,ZF⟩:=ZY.Y4 ZQ hf
 have XV:=ZF.ty
 have Zt:=ZF.loc
 have ZE:=ZF.body
 refine ZK E1 rfl rfl rfl<|Z9 rfl<|Z4 (H.X3 F1) 1 rfl rfl rfl<|Zy Zt rfl<|amy (zx:=(0:Int)) 8 H 4 rfl rfl rfl rfl rfl rfl rfl BY BY<|fun v1=>?_
 intro w1 H
 refine Z9 rfl<|Z4 (H.at 1 rfl) 2 rfl rfl rfl ?_
 obtain ⟨a1,c1,rfl⟩:=H.form 4 rfl
 refine Zj rfl rfl rfl<|ZZ H rfl rfl rfl rfl<|fun p1 w2 H=>Wt (ys:=[⟨n,0,_,args++List.replicate f.loc.length 0,.slice none 0 0,[]⟩]) 64 H 4 rfl (H.at 0 rfl) rfl (fun y hy=>by rw [lua.1 hy];simp only [Rn.Yk,List.all_cons,List.all_nil,H.one 1 rfl,H.one 4 rfl,H.one 5 rfl,ZY.one ZE,ZY.one Zt,ZY.one agR,ZY.one ZQ];rfl) rfl rfl rfl BY BY<|fun v1=>?_
 intro w1 H
 refine Z9 rfl<|XQ H 2 rfl rfl rfl (H.one 4 rfl)<|fun w2 H=>Z6.mk ?_
 refine ⟨v1,Value.slice a1 (args++List.replicate f.loc.length 0).length c1,?_⟩
 refine H.Z8 [1,5,5,5,5]<|fun H=>H.drop 5<|fun H=>?_
 exact H
theorem PU (H:Sat g w (Sl 2 1 ZJ va args::l)) (hl:args.length≤100000):Fc Tryz.prog 50 #[va] w (fun u w'=>Sat g w' (Sl 2 1 ZJ u args::Sl 2 1 ZJ va args::l)):=by
 refine Fc.of Tryz.func50 rfl k_d ?_
 rcases H.Ti 0 rfl with ⟨NB,NA⟩|⟨b1,o1,c1,V1⟩
 ·subst NB
  subst NA
  refine XO rfl<|cT rfl<|Z6.mk ?_
  replace H:=H.US (en:=ZJ) (s:=1) (2) (fun _=>rfl)
  exact H
 subst V1
 refine XO rfl<|cF rfl<|ZZ H rfl rfl rfl rfl<|fun p1 w1 H=>H.WN (n:=0) (en:=ZJ) (s:=1) 0 rfl [] rfl rfl (fun _=>rfl) rfl<|fun H=>Uw 8 H 0 rfl (H.FO (ok:=fun _=>True) 1 rfl (fun _ _=>trivial)) (fun y _=>rfl) rfl rfl rfl (by grind) (by grind)<|fun v1=>?_
 intro w2 H
 refine Z6.mk ?_
 exact H
theorem Lq {v v1:Value} {xs:List Int} {a:Nat} (H:Sat g w (Sl 2 1 ZJ v xs::l)) (V:Vw v 1 xs.length a xs.length v1) (hl:xs.length≤100000):Fc Tryz.prog 50 #[v1] w (fun u w'=>Sat g w' (Sl 2 1 ZJ u (xs.drop a)::Sl 2 1 ZJ v xs::l)):=by
 refine Fc.of Tryz.func50 rfl k_d ?_
 have hle:=V.le
 obtain ⟨A,q,he,h0⟩:∃A q,v1=.slice A (xs.length-a) q∧(A=none→xs.drop a=[]):=by
  obtain ⟨ad,cap,hv,_,_,_,_,Nd⟩:=V
  refine ⟨_,_,Nd,fun hn=>?_⟩
  cases ad with
  | none =>
   rcases (H.off 0 rfl).1 with ⟨_,hx⟩|⟨_,_,_,_,h,_⟩
   ·grind
   ·grind
  | some p =>
   split at hn
   ·grind
   ·grind
 cases A with
 | none =>
  rw [h0 rfl]
  subst he
  replace H:=H.US (en:=ZJ) (s:=1) 2 (fun _=>rfl)
  refine XO rfl<|cT rfl<|Z6.mk ?_
  exact H
 | some p =>
  subst he
  refine XO rfl<|cF rfl<|ZZ H rfl rfl rfl rfl<|fun p1 w1 H=>H.WN (n:=0) (en:=ZJ) (s:=1) 0 rfl [] rfl rfl (fun _=>rfl) rfl<|fun H=>Uw 8 H 0 rfl (H.rdv (ok:=fun _=>True) 1 rfl V (fun _ _=>trivial)) (fun y _=>rfl) rfl rfl rfl (by grind) (by grind)<|fun v1=>?_
  intro w2 H
  refine Z6.mk ?_
  refine H.cg (YQ (Q5 ?_) (YQ rfl (rfl)))
  (simp;done)
theorem ae9 (H:Sat g w (Pt pr [BS cp,vw,vc,BT host] 148::Sl 79 4 Yk vc cs::Sl 2 1 ZJ c.vs c.stk::l)) (hcs:cs=[c]) (hvl:c.vl.oneCell'=true) (hvs:c.vs.oneCell'=true) (hl:c.stk.length≤100000) :
  Fc Tryz.prog 112 #[BS pr] w (fun r w'=>∃Qg v',r=.tuple #[v',.bool true]∧Sat g w' (Pt pr [BS cp,vw,Qg,BT host] 148::Sl 79 4 Yk Qg ([]:List CV)::Sl 2 1 ZJ v' c.stk::l)):=by
 refine Fc.of Tryz.func112 rfl k_d ?_
 have hn:cs.length=1:=by grind
 have hx:cs[cs.length-1]?=some c:=by grind
 have Rc:List.drop 0 (cs.take (cs.length-1))=([]:List CV):=by grind
 refine ZM H [] [BRp0,BRp1,BRp2,BRh3,BRp4,BRp5,BRp6,BRh7,BRp8,BRp9,BRp10,BRh11,BRf12,BRfr13] mixed k_d k_d<|fun w1 H=>tk (fun _ Z=>Z9 rfl BU)<|tk (fun _ Z=>Z4 (Z.at 0 rfl) 2 rfl rfl rfl BU)<|tk (fun _ Z=>Z9 rfl BU)<|tk (fun _ Z=>Z4 (Z.at 0 rfl) 2 rfl rfl rfl BU) ?_
 obtain ⟨a1,c1,V1⟩:=H.form 1 rfl
 refine tk (fun _ Z=>XU V1 rfl BU)<|ZX BY ?_
 obtain ⟨b1,o1,E1⟩:=H.Y4 1 rfl ((cs.length)-1) BY
 refine tk (fun _ Z=>ZK E1 BY rfl rfl BU)<|tk (fun _ Z=>ZB (Z.el 1 rfl E1 hx) 0 rfl rfl rfl BU)<|ZV H rfl<|fun p1 w2 H=>YL.mk (H.drop 0 (fun H=>H))<|ZG H 0 rfl rfl rfl (by simp only [List.all_cons,List.all_nil,H.one 2 rfl,H.one 3 rfl,hvs,hvl];rfl)<|fun w1 H=>Z9 rfl<|Z4 (H.at 0 rfl) 3 rfl rfl rfl<|H.Z8 [3]<|fun H=>?_
 refine Z7.mk (Fc.imp (Rn.PU H BY) ?_)
 clear H
 rintro v' w2 H
 refine ZM H [] [BRp0,BRp1,BRp2,BRp3,BRh4,BRp5,BRp6,BRp7,BRh8,BRp9,BRp10,BRp11,BRp12,BRp13,BRfr14] mixed k_d k_d<|fun w3 H=>tk (fun _ Z=>Z9 rfl BU)<|tk (fun _ Z=>Z4 (Z.at 3 rfl) 2 rfl rfl rfl BU)<|tk (fun _ Z=>Z9 rfl BU)<|tk (fun _ Z=>Z4 (Z.at 3 rfl) 2 rfl rfl rfl BU)<|tk (fun _ Z=>XU V1 rfl BU)<|ZX BY ?_
 obtain ⟨v1,V2⟩:=H.vw 4 rfl (0) (((cs.length)-1)) BY BY
 refine tk (fun _ Z=>VQ V2 rfl rfl (.inl BU) (.inr ⟨_,by first|rfl|(congr 2;omega)⟩) BU)<|tk (fun _ Z=>Z9 rfl BU)<|XQ H 3 rfl rfl rfl (by simp only [Bool.and_true,H.one 0 rfl,H.one 1 rfl,H.one 4 rfl,Vw.one V2,hvs,hvl])<|fun w2 H=>Z9 rfl<|Z4 (H.at 3 rfl) 2 rfl rfl rfl<|Kc V2 rfl ?_
 replace H:=H.IA 4 rfl V2
 simp only [List.set_cons_succ,List.set_cons_zero,Rc] at H
 refine cT (ZL BY)<|Z6.mk ?_
 refine ⟨v1,v',?_⟩
 refine ⟨rfl,?_⟩
 refine H.Z8 [0,4,4]<|fun H=>H.drop 4<|fun H=>H.drop 3<|fun H=>?_
 exact H
theorem afa {up:List CV} (H:Sat g w (Pt pr [BS cp,vw,vc,BT host] 148::Sl 79 4 Yk vc cs::Sl 2 1 ZJ c.vs c.stk::Sl 2 1 ZJ u.vs u.stk::l)) (hcs:cs=up++[u]++[c]) (hvl:c.vl.oneCell'=true) (hvs:c.vs.oneCell'=true) (hl:c.stk.length≤10000) (FL:u.stk.length≤10000) (hle:cs.length≤1000) :
  Fc Tryz.prog 112 #[BS pr] w (fun r w'=>∃Qg vs',r=.tuple #[.slice none 0 0,.bool false]∧Sat g w' (Pt pr [BS cp,vw,Qg,BT host] 148::Sl 79 4 Yk Qg (up++[⟨u.fn,u.at_,u.vl,u.loc,vs',u.stk++c.stk⟩])::Sl 2 1 ZJ vs' (u.stk++c.stk)::l)):=by
 refine Fc.of Tryz.func112 rfl k_d ?_
 have hn:cs.length=up.length+2:=by grind
 have hx:cs[cs.length-1]?=some c:=by grind
 have hu0:(cs.take (cs.length-1)).length=up.length+1:=by grind
 have Rc:List.drop 0 (cs.take (cs.length-1))=up++[u]:=by grind
 refine ZM H [] [BRp0,BRp1,BRp2,BRh3,BRp4,BRp5,BRp6,BRh7,BRp8,BRp9,BRp10,BRh11,BRf12,BRfr13] mixed k_d k_d<|fun w1 H=>tk (fun _ Z=>Z9 rfl BU)<|tk (fun _ Z=>Z4 (Z.at 0 rfl) 2 rfl rfl rfl BU)<|tk (fun _ Z=>Z9 rfl BU)<|tk (fun _ Z=>Z4 (Z.at 0 rfl) 2 rfl rfl rfl BU) ?_
 obtain ⟨a1,c1,V1⟩:=H.form 1 rfl
 refine tk (fun _ Z=>XU V1 rfl BU)<|ZX BY ?_
 obtain ⟨b1,o1,E1⟩:=H.Y4 1 rfl ((cs.length)-1) BY
 refine tk (fun _ Z=>ZK E1 BY rfl rfl BU)<|tk (fun _ Z=>ZB (Z.el 1 rfl E1 hx) 0 rfl rfl rfl BU)<|ZV H rfl<|fun p1 w2 H=>YL.mk (H.drop 0 (fun H=>H))<|ZG H 0 rfl rfl rfl (by simp only [List.all_cons,List.all_nil,H.one 2 rfl,H.one 3 rfl,H.one 4 rfl,hvs,hvl];rfl)<|fun w1 H=>Z9 rfl<|Z4 (H.at 0 rfl) 3 rfl rfl rfl<|H.Z8 [3]<|fun H=>?_
 refine Z7.mk (Fc.imp (Rn.PU H BY) ?_)
 clear H
 rintro v' w2 H
 refine ZM H [] [BRp0,BRp1,BRp2,BRp3,BRh4,BRp5,BRp6,BRp7,BRh8,BRp9,BRp10,BRp11,BRp12,BRp13,BRfr14] mixed k_d k_d<|fun w3 H=>tk (fun _ Z=>Z9 rfl BU)<|tk (fun _ Z=>Z4 (Z.at 3 rfl) 2 rfl rfl rfl BU)<|tk (fun _ Z=>Z9 rfl BU)<|tk (fun _ Z=>Z4 (Z.at 3 rfl) 2 rfl rfl rfl BU)<|tk (fun _ Z=>XU V1 rfl BU)<|ZX BY ?_
 obtain ⟨v1,V2⟩:=H.vw 4 rfl (0) (((cs.length)-1)) BY BY
 refine tk (fun _ Z=>VQ V2 rfl rfl (.inl BU) (.inr ⟨_,by first|rfl|(congr 2;omega)⟩) BU)<|tk (fun _ Z=>Z9 rfl BU)<|XQ H 3 rfl rfl rfl (by simp only [Bool.and_true,H.one 0 rfl,H.one 1 rfl,H.one 4 rfl,H.one 5 rfl,Vw.one V2,hvs,hvl])<|fun w2 H=>Z9 rfl<|Z4 (H.at 3 rfl) 2 rfl rfl rfl<|Kc V2 rfl ?_
 replace H:=H.IA 4 rfl V2
 rw [Rc] at H
 simp only [List.set_cons_succ,List.set_cons_zero] at H
 have GS:cs.length-1-0-1=up.length:=by omega
 have hux:(up++[u])[cs.length-1-0-1]?=some u:=by grind
 have WY:∀z,(up++[u]).set (cs.length-1-0-1) z=up++[z]:=fun z=>by rw [GS];simp
 refine cF (Z5 BY)<|ZM H [] [BRp0,BRp1,BRp2,BRh3,BRp4,BRp5,BRp6,BRh7,BRp8,BRp9,BRp10,BRp11] mixed k_d k_d<|fun w3 H=>tk (fun _ Z=>Z9 rfl BU)<|tk (fun _ Z=>Z4 (Z.at 3 rfl) 2 rfl rfl rfl BU)<|tk (fun _ Z=>Z9 rfl BU)<|tk (fun _ Z=>Z4 (Z.at 3 rfl) 2 rfl rfl rfl BU)<|tk (fun _ Z=>Kc V2 rfl BU)<|ZX BY ?_
 obtain ⟨b2,o2,E2⟩:=H.Y4 4 rfl ((cs.length-1-0)-1) (by grind)
 refine tk (fun _ Z=>ZK E2 BY rfl rfl BU)<|Z9 rfl<|Z4 (H.el 4 rfl E2 hux) 3 rfl rfl rfl<|Uw 8 H 5 rfl (H.FO (ok:=fun _=>True) 0 rfl (fun _ _=>trivial)) (fun y _=>rfl) rfl rfl rfl BY BY<|fun v2=>?_
 intro w2 H
 refine Z9 rfl<|YE H 4 rfl E2 hux 3 (⟨u.fn,u.at_,u.vl,u.loc,_,u.stk++c.stk⟩) rfl (by simp only [Bool.and_true,H.one 0 rfl,H.one 1 rfl,H.one 4 rfl,H.one 5 rfl,Vw.one V2,hvs,hvl]) rfl rfl<|fun w3 H=>?_
 simp only [WY] at H
 refine Z6.mk ⟨v1,v2,rfl,?_⟩
 refine H.Z8 [5,5,5]<|fun H=>H.drop 5<|fun H=>H.drop 4<|fun H=>H.drop 3<|fun H=>?_
 exact H
end
end Rn
namespace Rn
open Go YZ Go.RowKit
open YX Zk X5 YS Valid Mem
section
variable {g:Zx} {w:World} {l:List As} {m:Zf} {pr cp mp:Nat} {vw vc vt vg S8:Value} {host f e:Int} {cs:List CV} {Zv s2:List Int} {u:CV} {x:ZU} {i b o:Nat}
theorem Rv {n1 n2:Int} {q:Int × List Int × Int} {s:List Int} (h:(n1,s,n2)=q) (hq:q=(f,s2,e)):f=n1∧s2=s∧e=n2:=by grind
theorem agS {n:Int} (h0:(m.ZA.length:Int)≤n) (h1:n<(m.ZA.length:Int)+m.funcs.length):∃(k:Nat) (F:YD),n=m.ZA.length+k∧m.funcs[k]?=some F∧W2 m.d (n-Y3 m.d)=F.d:=by
 obtain ⟨k,hk⟩:=lwa (show 0≤n-m.ZA.length by omega)
 have I5:k<m.funcs.length:=by omega
 refine ⟨k,m.funcs[k],by omega,laa I5,?_⟩
 unfold W2 Y3
 show (m.funcs.map YD.d).getD (n-(m.ZA.length:Int)).toNat _=_
 rw [hk,lla,lia0,lCa,laa I5];rfl
theorem afb (E:El vc 4 i b o) (c:CV) (hx:cs[i]?=some c) (H:Sat g w (Pt pr [BS cp,vw,vc,BT host] 148::Pt cp (BV m [BS mp,vt,vg]) 158::Sl 3 1 ZJ vt Zv::Sl 79 4 Yk vc cs::Sl 2 1 ZJ c.vs c.stk::l)) (hm:XN g m) (P:Tq m.d) (ho:x.op=16∨x.op=17) (Rp:∀n∈Zv,-1≤n∧n<(m.ZA.length:Int)+m.funcs.length) (h1:x.op=17→1≤c.stk.length∧0≤x.a∧x.a<m.types.length) (T7:∀v∈c.stk,Xa v) (hlen:c.stk.length≤10000) (MO:Zv.length≤1000) (TD:cs.length≤40) (hvl:c.vl.oneCell'=true) (hq:Y0 m.d Zv x c.stk=(f,s2,e)) (he:e≠0):Fc Tryz.prog 163 #[BS pr,.pointer (some ⟨b,o,none⟩),.agg #[.int .u8 x.op,BT x.a,BT x.b,S8]] w (fun r w'=>r=.agg #[BT 2,.slice none 0 0,BT e,BT 0,BT 0]∧Sat g w' (Pt pr [BS cp,vw,vc,BT host] 148::Pt cp (BV m [BS mp,vt,vg]) 158::Sl 3 1 ZJ vt Zv::l)):=by
 refine Fc.of Tryz.func163 rfl k_d ?_
 have ZO:=hm.types
 have Zm:=hm.ZA
 have ZQ:=hm.funcs
 have hvs:=H.one 4 rfl
 have hni:m.ZA.length≤16:=P.ni
 have hnf:m.funcs.length≤16:=by have:=P.nf;rwa [show m.d.funcs.length=m.funcs.length from lea ..] at this
 refine ZH H<|fun p1 w1 H=>ZV H rfl<|fun p2 w2 H=>ZM H [] [BRp0,BRp1,BRp2,BRh3,BRh4,BRp5,BRp6,BRp7,BRh8,BRfr9,BRp10,BRp11,BRp12,BRp13,BRp14,BRp15,BRp16] mixed k_d k_d<|fun w1 H=>tk (fun _ Z=>Z9 rfl BU)<|tk (fun _ Z=>Z4 (Z.at 2 rfl) 0 rfl rfl rfl BU)<|tk (fun _ Z=>ZB (Z.at 1 rfl) 0 rfl rfl rfl BU)<|tk (fun _ Z=>Z9 rfl BU)<|tk (fun _ Z=>Z4 (Z.el 5 rfl E hx) 3 rfl rfl rfl BU)<|H.Z8 [6,5,5]<|fun H=>?_
 refine Z7.mk (Fc.imp (Rn.Oz H BY BY BY BY BY BY BY BY) ?_)
 clear H
 rintro _ w2 ⟨f1,⟨Zw,⟨RW,⟨e1,⟨rfl,⟨h2,H⟩⟩⟩⟩⟩⟩
 obtain ⟨rfl,rfl,rfl⟩:=Rv h2 hq
 refine Z9 rfl<|YE H 6 rfl E hx 3 (⟨c.fn,c.at_,c.vl,c.loc,(Zw),s2⟩) rfl k_o rfl rfl<|fun w3 H=>cT (VS BX)<|Zj rfl rfl rfl<|ZG H 3 rfl rfl rfl rfl<|fun w2 H=>XK (H.at 3 rfl) 0 rfl rfl rfl<|Z6.mk ?_
 refine ⟨rfl,?_⟩
 refine H.Z8 [1,1,5]<|fun H=>H.drop 6<|fun H=>H.drop 5<|fun H=>H.drop 4<|fun H=>H.drop 3<|fun H=>?_
 exact H
theorem afc (E:El vc 4 i b o) (c:CV) (hx:cs[i]?=some c) (H:Sat g w (Pt pr [BS cp,vw,vc,BT host] 148::Pt cp (BV m [BS mp,vt,vg]) 158::Sl 3 1 ZJ vt Zv::Sl 79 4 Yk vc cs::Sl 2 1 ZJ c.vs c.stk::l)) (hm:XN g m) (P:Tq m.d) (ho:x.op=16∨x.op=17) (Rp:∀n∈Zv,-1≤n∧n<(m.ZA.length:Int)+m.funcs.length) (h1:x.op=17→1≤c.stk.length∧0≤x.a∧x.a<m.types.length) (T7:∀v∈c.stk,Xa v) (hlen:c.stk.length≤10000) (MO:Zv.length≤1000) (TD:cs.length≤40) (hvl:c.vl.oneCell'=true) (hq:Y0 m.d Zv x c.stk=(f,s2,0)) (hf:0≤f∧f<(m.ZA.length:Int)+m.funcs.length) (IP:(YC m.d f).Zd.length≤s2.length) (I7:s2.length≤10000) (Cf:(m.ZA.length:Int)≤f) (Ce:cs.length=40):Fc Tryz.prog 163 #[BS pr,.pointer (some ⟨b,o,none⟩),.agg #[.int .u8 x.op,BT x.a,BT x.b,S8]] w (fun r w'=>r=.agg #[BT 2,.slice none 0 0,BT 26,BT 0,BT 0]∧Sat g w' (Pt pr [BS cp,vw,vc,BT host] 148::Pt cp (BV m [BS mp,vt,vg]) 158::Sl 3 1 ZJ vt Zv::l)):=by
 refine Fc.of Tryz.func163 rfl k_d ?_
 have ZO:=hm.types
 have Zm:=hm.ZA
 have ZQ:=hm.funcs
 have hvs:=H.one 4 rfl
 have hni:m.ZA.length≤16:=P.ni
 have hnf:m.funcs.length≤16:=by have:=P.nf;rwa [show m.d.funcs.length=m.funcs.length from lea ..] at this
 have hty:∀t:Xz,t.d=YC m.d f→t.Zd.length=(YC m.d f).Zd.length:=fun t h=>by rw [←h];rfl
 refine ZH H<|fun p1 w1 H=>ZV H rfl<|fun p2 w2 H=>ZM H [] [BRp0,BRp1,BRp2,BRh3,BRh4,BRp5,BRp6,BRp7,BRh8,BRfr9,BRp10,BRp11,BRp12,BRp13,BRp14,BRp15,BRp16] mixed k_d k_d<|fun w1 H=>tk (fun _ Z=>Z9 rfl BU)<|tk (fun _ Z=>Z4 (Z.at 2 rfl) 0 rfl rfl rfl BU)<|tk (fun _ Z=>ZB (Z.at 1 rfl) 0 rfl rfl rfl BU)<|tk (fun _ Z=>Z9 rfl BU)<|tk (fun _ Z=>Z4 (Z.el 5 rfl E hx) 3 rfl rfl rfl BU)<|H.Z8 [6,5,5]<|fun H=>?_
 refine Z7.mk (Fc.imp (Rn.Oz H BY BY BY BY BY BY BY BY) ?_)
 clear H
 rintro _ w2 ⟨f1,⟨Zw,⟨RW,⟨e1,⟨rfl,⟨h2,H⟩⟩⟩⟩⟩⟩
 obtain ⟨rfl,rfl,rfl⟩:=Rv h2 hq
 refine Z9 rfl<|YE H 6 rfl E hx 3 (⟨c.fn,c.at_,c.vl,c.loc,(Zw),s2⟩) rfl k_o rfl rfl<|fun w3 H=>cF (WI BY)<|ZM H [] [BRp0,BRp1,BRp2,BRh3,BRp4,BRp5,BRp6,BRp7,BRh8,BRp9,BRf10,BRp11,BRp12,BRp13,BRp14] mixed k_d k_d<|fun w2 H=>tk (fun _ Z=>Z9 rfl BU) ?_
 have hx1:(cs.set i { fn:=c.fn,at_:=c.at_,vl:=c.vl,loc:=c.loc,vs:=Zw,stk:=s2 })[i]?=some _:=WR hx
 refine tk (fun _ Z=>Z4 (Z.el 6 rfl E hx1) 3 rfl rfl rfl BU) ?_
 obtain ⟨a1,c1,V1⟩:=H.form 2 rfl
 refine tk (fun _ Z=>XU V1 rfl BU)<|tk (fun _ Z=>Z9 rfl BU)<|tk (fun _ Z=>Z4 (Z.at 5 rfl) 0 rfl rfl rfl BU) ?_
 refine Z7.mk (Fc.imp (Rn.Mv H BY BY _ BY BY) ?_)
 clear H
 rintro _ w3 ⟨t1,⟨rfl,⟨h3,⟨h4,⟨h5,⟨h6,⟨h7,H⟩⟩⟩⟩⟩⟩⟩
 have HX:=hty _ BX
 have JF:=Wc.Zd (by assumption:Wc g _)
 refine YL.mk (H)<|tk (fun _ Z=>So rfl BU)<|tk (fun _ Z=>Zy JF rfl BU)<|ZX BY<|Z9 rfl<|Z4 (H.el 6 rfl E hx1) 3 rfl rfl rfl ?_
 obtain ⟨v1,V2⟩:=H.vw 2 rfl (((s2.length)-(t1.Zd.length))) ((s2).length) BY BY
 refine VQ V2 rfl rfl (.inr ⟨_,by first|rfl|(congr 2;omega)⟩) (.inl ⟨rfl,rfl⟩)<|H.Z8 [2]<|fun H=>?_
 refine Z7.mk (Fc.imp (Rn.Lq H V2 BY) ?_)
 clear H
 rintro v' w4 H
 refine Z9 rfl<|Z4 (H.at 6 rfl) 0 rfl rfl rfl<|Z9 rfl<|Z9 rfl<|Z4 (H.at 2 rfl) 1 rfl rfl rfl<|Zy Zm rfl<|ZX BY<|VA (Yn BY)<|Z9 rfl<|Z4 (H.at 6 rfl) 2 rfl rfl rfl<|YV H 7 rfl rfl<|cT (ZL (by grind))<|Zj rfl rfl rfl<|ZG H 4 rfl rfl rfl rfl<|fun w5 H=>XK (H.at 4 rfl) 0 rfl rfl rfl<|Z6.mk ?_
 refine ⟨rfl,?_⟩
 refine H.Z8 [3,3,6]<|fun H=>H.drop 7<|fun H=>H.drop 6<|fun H=>H.drop 5<|fun H=>H.drop 4<|fun H=>H.drop 3<|fun H=>?_
 exact H
theorem afd (E:El vc 4 i b o) (c:CV) (hx:cs[i]?=some c) (H:Sat g w (Pt pr [BS cp,vw,vc,BT host] 148::Pt cp (BV m [BS mp,vt,vg]) 158::Sl 3 1 ZJ vt Zv::Sl 79 4 Yk vc cs::Sl 2 1 ZJ c.vs c.stk::l)) (hm:XN g m) (P:Tq m.d) (ho:x.op=16∨x.op=17) (Rp:∀n∈Zv,-1≤n∧n<(m.ZA.length:Int)+m.funcs.length) (h1:x.op=17→1≤c.stk.length∧0≤x.a∧x.a<m.types.length) (T7:∀v∈c.stk,Xa v) (hlen:c.stk.length≤10000) (MO:Zv.length≤1000) (TD:cs.length≤40) (hvl:c.vl.oneCell'=true) (hq:Y0 m.d Zv x c.stk=(f,s2,0)) (hf:0≤f∧f<(m.ZA.length:Int)+m.funcs.length) (IP:(YC m.d f).Zd.length≤s2.length) (I7:s2.length≤10000) (Cf:f<m.ZA.length):Fc Tryz.prog 163 #[BS pr,.pointer (some ⟨b,o,none⟩),.agg #[.int .u8 x.op,BT x.a,BT x.b,S8]] w (fun r w'=>∃vs' vv,r=.agg #[BT 4,vv,BT 0,BT f,BT 0]∧Sat g w' (Pt pr [BS cp,vw,vc,BT (f+1)] 148::Pt cp (BV m [BS mp,vt,vg]) 158::Sl 3 1 ZJ vt Zv::Sl 79 4 Yk vc (cs.set i ⟨c.fn,c.at_,c.vl,c.loc,vs',s2.take (s2.length-(YC m.d f).Zd.length)⟩)::Sl 2 1 ZJ vs' (s2.take (s2.length-(YC m.d f).Zd.length))::Sl 2 1 ZJ vv (s2.drop (s2.length-(YC m.d f).Zd.length))::l)):=by
 refine Fc.of Tryz.func163 rfl k_d ?_
 have ZO:=hm.types
 have Zm:=hm.ZA
 have ZQ:=hm.funcs
 have hvs:=H.one 4 rfl
 have hni:m.ZA.length≤16:=P.ni
 have hnf:m.funcs.length≤16:=by have:=P.nf;rwa [show m.d.funcs.length=m.funcs.length from lea ..] at this
 have hty:∀t:Xz,t.d=YC m.d f→t.Zd.length=(YC m.d f).Zd.length:=fun t h=>by rw [←h];rfl
 refine ZH H<|fun p1 w1 H=>ZV H rfl<|fun p2 w2 H=>ZM H [] [BRp0,BRp1,BRp2,BRh3,BRh4,BRp5,BRp6,BRp7,BRh8,BRfr9,BRp10,BRp11,BRp12,BRp13,BRp14,BRp15,BRp16] mixed k_d k_d<|fun w1 H=>tk (fun _ Z=>Z9 rfl BU)<|tk (fun _ Z=>Z4 (Z.at 2 rfl) 0 rfl rfl rfl BU)<|tk (fun _ Z=>ZB (Z.at 1 rfl) 0 rfl rfl rfl BU)<|tk (fun _ Z=>Z9 rfl BU)<|tk (fun _ Z=>Z4 (Z.el 5 rfl E hx) 3 rfl rfl rfl BU)<|H.Z8 [6,5,5]<|fun H=>?_
 refine Z7.mk (Fc.imp (Rn.Oz H BY BY BY BY BY BY BY BY) ?_)
 clear H
 rintro _ w2 ⟨f1,⟨Zw,⟨RW,⟨e1,⟨rfl,⟨h2,H⟩⟩⟩⟩⟩⟩
 obtain ⟨rfl,rfl,rfl⟩:=Rv h2 hq
 refine Z9 rfl<|YE H 6 rfl E hx 3 (⟨c.fn,c.at_,c.vl,c.loc,(Zw),s2.take (s2.length-(YC m.d f).Zd.length)⟩) rfl k_o rfl rfl<|fun w3 H=>cF (WI BY)<|ZM H [] [BRp0,BRp1,BRp2,BRh3,BRp4,BRp5,BRp6,BRp7,BRh8,BRp9,BRf10,BRp11,BRp12,BRp13,BRp14] mixed k_d k_d<|fun w2 H=>tk (fun _ Z=>Z9 rfl BU) ?_
 have hx1:(cs.set i { fn:=c.fn,at_:=c.at_,vl:=c.vl,loc:=c.loc,vs:=Zw,stk:=List.take (s2.length-(YC m.d f).Zd.length) s2 })[i]?=some _:=WR hx
 refine tk (fun _ Z=>Z4 (Z.el 6 rfl E hx1) 3 rfl rfl rfl BU) ?_
 obtain ⟨a1,c1,V1⟩:=H.form 2 rfl
 refine tk (fun _ Z=>XU V1 rfl BU)<|tk (fun _ Z=>Z9 rfl BU)<|tk (fun _ Z=>Z4 (Z.at 5 rfl) 0 rfl rfl rfl BU) ?_
 refine Z7.mk (Fc.imp (Rn.Mv H BY BY _ BY BY) ?_)
 clear H
 rintro _ w3 ⟨t1,⟨rfl,⟨h3,⟨h4,⟨h5,⟨h6,⟨h7,H⟩⟩⟩⟩⟩⟩⟩
 have HX:=hty _ BX
 have JF:=Wc.Zd (by assumption:Wc g _)
 refine YL.mk (H)<|tk (fun _ Z=>So rfl BU)<|tk (fun _ Z=>Zy JF rfl BU)<|ZX BY<|Z9 rfl<|Z4 (H.el 6 rfl E hx1) 3 rfl rfl rfl ?_
 obtain ⟨v1,V2⟩:=H.vw 2 rfl (((s2.length)-(t1.Zd.length))) ((s2).length) BY BY
 refine VQ V2 rfl rfl (.inr ⟨_,by first|rfl|(congr 2;omega)⟩) (.inl ⟨rfl,rfl⟩)<|H.Z8 [2]<|fun H=>?_
 refine Z7.mk (Fc.imp (Rn.Lq H V2 BY) ?_)
 clear H
 rintro v' w4 H
 refine Z9 rfl<|Z4 (H.at 6 rfl) 0 rfl rfl rfl<|Z9 rfl<|Z9 rfl<|Z4 (H.at 2 rfl) 1 rfl rfl rfl<|Zy Zm rfl<|ZX BY<|XB (YK BY)<|cF rfl<|Z9 rfl<|Z4 (H.el 7 rfl E hx1) 3 rfl rfl rfl ?_
 obtain ⟨v2,V3⟩:=H.vw 1 rfl (0) (((s2.length)-(t1.Zd.length))) BY BY
 refine VQ V3 rfl rfl (.inl ⟨rfl,rfl⟩) (.inr ⟨_,by first|rfl|(congr 2;omega)⟩)<|Z9 rfl<|YE H 7 rfl E hx1 3 (⟨c.fn,c.at_,c.vl,c.loc,(v2),s2.take (s2.length-(YC m.d f).Zd.length)⟩) rfl (by simp only [Bool.and_true,H.one 0 rfl,H.one 1 rfl,H.one 3 rfl,H.one 7 rfl,Vw.one V3,Vw.one V2,ZY.one JF,hvs,ZY.one ZQ,ZY.one Zm,ZY.one ZO,hvl]) rfl rfl<|fun w5 H=>cT (Y7 BY)<|ZX BY<|Z9 rfl<|XQ H 6 rfl rfl rfl rfl<|fun w4 H=>?_
 obtain ⟨a2,c2,rfl⟩:=H.form 0 rfl
 refine Zj rfl rfl rfl<|ZG H 4 rfl rfl rfl rfl<|fun w5 H=>XK (H.at 4 rfl) 0 rfl rfl rfl ?_
 replace H:=H.IA 1 rfl V3
 simp only [List.set_cons_succ,List.set_cons_zero,List.drop_zero,HX,List.set_set] at H
 refine Z6.mk ⟨v2,_,(by rw [HX]),?_⟩
 refine H.Z8 [0,1,7,4,4,7]<|fun H=>H.drop 7<|fun H=>H.drop 6<|fun H=>?_
 exact H
theorem afe (E:El vc 4 i b o) (c:CV) (hx:cs[i]?=some c) (H:Sat g w (Pt pr [BS cp,vw,vc,BT host] 148::Pt cp (BV m [BS mp,vt,vg]) 158::Sl 3 1 ZJ vt Zv::Sl 79 4 Yk vc cs::Sl 2 1 ZJ c.vs c.stk::l)) (hm:XN g m) (P:Tq m.d) (ho:x.op=16∨x.op=17) (Rp:∀n∈Zv,-1≤n∧n<(m.ZA.length:Int)+m.funcs.length) (h1:x.op=17→1≤c.stk.length∧0≤x.a∧x.a<m.types.length) (T7:∀v∈c.stk,Xa v) (hlen:c.stk.length≤10000) (MO:Zv.length≤1000) (TD:cs.length≤40) (hvl:c.vl.oneCell'=true) (hq:Y0 m.d Zv x c.stk=(f,s2,0)) (hf:0≤f∧f<(m.ZA.length:Int)+m.funcs.length) (IP:(YC m.d f).Zd.length≤s2.length) (I7:s2.length≤10000) (k:Nat) (F:YD) (Hs:f=m.ZA.length+k) (hF:m.funcs[k]?=some F) (Eu:F.loc.length≤16) (h4:(YC m.d f).Zd.length≤4) (Ce:cs.length<40):Fc Tryz.prog 163 #[BS pr,.pointer (some ⟨b,o,none⟩),.agg #[.int .u8 x.op,BT x.a,BT x.b,S8]] w (fun r w'=>∃Qg vs' IX,r=.agg #[BT 0,.slice none 0 0,BT 0,BT 0,BT 0]∧Sat g w' (Pt pr [BS cp,vw,Qg,BT host] 148::Pt cp (BV m [BS mp,vt,vg]) 158::Sl 3 1 ZJ vt Zv::Sl 79 4 Yk Qg (cs.set i ⟨c.fn,c.at_,c.vl,c.loc,vs',s2.take (s2.length-(YC m.d f).Zd.length)⟩++[⟨k,0,IX,(s2.drop (s2.length-(YC m.d f).Zd.length))++List.replicate F.loc.length 0,.slice none 0 0,[]⟩])::Sl 2 1 ZJ vs' (s2.take (s2.length-(YC m.d f).Zd.length))::Sl 2 1 ZJ IX ((s2.drop (s2.length-(YC m.d f).Zd.length))++List.replicate F.loc.length 0)::Sl 2 1 ZJ (.slice none 0 0) []::l)):=by
 refine Fc.of Tryz.func163 rfl k_d ?_
 have ZO:=hm.types
 have Zm:=hm.ZA
 have ZQ:=hm.funcs
 have hvs:=H.one 4 rfl
 have hni:m.ZA.length≤16:=P.ni
 have hnf:m.funcs.length≤16:=by have:=P.nf;rwa [show m.d.funcs.length=m.funcs.length from lea ..] at this
 have hty:∀t:Xz,t.d=YC m.d f→t.Zd.length=(YC m.d f).Zd.length:=fun t h=>by rw [←h];rfl
 refine ZH H<|fun p1 w1 H=>ZV H rfl<|fun p2 w2 H=>ZM H [] [BRp0,BRp1,BRp2,BRh3,BRh4,BRp5,BRp6,BRp7,BRh8,BRfr9,BRp10,BRp11,BRp12,BRp13,BRp14,BRp15,BRp16] mixed k_d k_d<|fun w1 H=>tk (fun _ Z=>Z9 rfl BU)<|tk (fun _ Z=>Z4 (Z.at 2 rfl) 0 rfl rfl rfl BU)<|tk (fun _ Z=>ZB (Z.at 1 rfl) 0 rfl rfl rfl BU)<|tk (fun _ Z=>Z9 rfl BU)<|tk (fun _ Z=>Z4 (Z.el 5 rfl E hx) 3 rfl rfl rfl BU)<|H.Z8 [6,5,5]<|fun H=>?_
 refine Z7.mk (Fc.imp (Rn.Oz H BY BY BY BY BY BY BY BY) ?_)
 clear H
 rintro _ w2 ⟨f1,⟨Zw,⟨RW,⟨e1,⟨rfl,⟨h2,H⟩⟩⟩⟩⟩⟩
 obtain ⟨rfl,rfl,rfl⟩:=Rv h2 hq
 refine Z9 rfl<|YE H 6 rfl E hx 3 (⟨c.fn,c.at_,c.vl,c.loc,(Zw),s2.take (s2.length-(YC m.d f).Zd.length)⟩) rfl k_o rfl rfl<|fun w3 H=>cF (WI BY)<|ZM H [] [BRp0,BRp1,BRp2,BRh3,BRp4,BRp5,BRp6,BRp7,BRh8,BRp9,BRf10,BRp11,BRp12,BRp13,BRp14] mixed k_d k_d<|fun w2 H=>tk (fun _ Z=>Z9 rfl BU) ?_
 have hx1:(cs.set i { fn:=c.fn,at_:=c.at_,vl:=c.vl,loc:=c.loc,vs:=Zw,stk:=List.take (s2.length-(YC m.d f).Zd.length) s2 })[i]?=some _:=WR hx
 refine tk (fun _ Z=>Z4 (Z.el 6 rfl E hx1) 3 rfl rfl rfl BU) ?_
 obtain ⟨a1,c1,V1⟩:=H.form 2 rfl
 refine tk (fun _ Z=>XU V1 rfl BU)<|tk (fun _ Z=>Z9 rfl BU)<|tk (fun _ Z=>Z4 (Z.at 5 rfl) 0 rfl rfl rfl BU) ?_
 refine Z7.mk (Fc.imp (Rn.Mv H BY BY _ BY BY) ?_)
 clear H
 rintro _ w3 ⟨t1,⟨rfl,⟨h3,⟨h5,⟨h6,⟨h7,⟨h8,H⟩⟩⟩⟩⟩⟩⟩
 have HX:=hty _ BX
 have JF:=Wc.Zd (by assumption:Wc g _)
 refine YL.mk (H)<|tk (fun _ Z=>So rfl BU)<|tk (fun _ Z=>Zy JF rfl BU)<|ZX BY<|Z9 rfl<|Z4 (H.el 6 rfl E hx1) 3 rfl rfl rfl ?_
 obtain ⟨v1,V2⟩:=H.vw 2 rfl (((s2.length)-(t1.Zd.length))) ((s2).length) BY BY
 refine VQ V2 rfl rfl (.inr ⟨_,by first|rfl|(congr 2;omega)⟩) (.inl ⟨rfl,rfl⟩)<|H.Z8 [2]<|fun H=>?_
 refine Z7.mk (Fc.imp (Rn.Lq H V2 BY) ?_)
 clear H
 rintro v' w4 H
 refine Z9 rfl<|Z4 (H.at 6 rfl) 0 rfl rfl rfl<|Z9 rfl<|Z9 rfl<|Z4 (H.at 2 rfl) 1 rfl rfl rfl<|Zy Zm rfl<|ZX BY<|VA (Yn BY)<|Z9 rfl<|Z4 (H.at 6 rfl) 2 rfl rfl rfl<|YV H 7 rfl rfl<|cF (Z5 (by grind))<|Z9 rfl<|Z4 (H.el 7 rfl E hx1) 3 rfl rfl rfl ?_
 obtain ⟨v2,V3⟩:=H.vw 1 rfl (0) (((s2.length)-(t1.Zd.length))) BY BY
 refine VQ V3 rfl rfl (.inl ⟨rfl,rfl⟩) (.inr ⟨_,by first|rfl|(congr 2;omega)⟩)<|Z9 rfl<|YE H 7 rfl E hx1 3 (⟨c.fn,c.at_,c.vl,c.loc,(v2),s2.take (s2.length-(YC m.d f).Zd.length)⟩) rfl (by simp only [Bool.and_true,H.one 0 rfl,H.one 1 rfl,H.one 3 rfl,H.one 7 rfl,Vw.one V3,Vw.one V2,ZY.one JF,hvs,ZY.one ZQ,ZY.one Zm,ZY.one ZO,hvl]) rfl rfl<|fun w5 H=>cF (Zo BY) ?_
 replace H:=H.IA 1 rfl V3
 simp only [List.set_cons_succ,List.set_cons_zero,List.drop_zero,HX,List.set_set] at H
 rw [show f-(m.ZA.length:Int)=(k:Int) by omega]
 refine H.Z8 [0,7,3,7]<|fun H=>?_
 refine Z7.mk (Fc.imp (Rn.ae8 H BY (k) _ hF BY ?_ ?_ ?_) ?_)
 ·grind
 ·grind
 ·omega
 clear H
 rintro UP w4 ⟨HW,⟨Uf,H⟩⟩
 refine Zj rfl rfl rfl<|ZG H 7 rfl rfl rfl rfl<|fun w6 H=>XK (H.at 7 rfl) 0 rfl rfl rfl ?_
 refine Z6.mk ⟨HW,v2,Uf,rfl,?_⟩
 refine H.Z8 [4,4,5,5,6,6,6]<|fun H=>H.drop 8<|fun H=>H.drop 7<|fun H=>?_
 exact H
end
end Rn
namespace Rn
open Go YZ Go.RowKit
open YX Zk X5 YS Valid Mem
def fr (c:CV):List As:=[Sl 2 1 ZJ c.vl c.loc,Sl 2 1 ZJ c.vs c.stk]
def V9 (cs:List CV):As:=Rl (cs.flatMap fr)
section
variable {g:Zx} {w:World} {l:List As} {m:Zf} {pr cp mp:Nat} {vw vc vt vg vp S8 vj:Value} {host f e:Int} {cs up:List CV} {Zv Zl s2:List Int} {ps:List W0} {c u:CV} {x:ZU} {i b o:Nat} {ws:List XX} {j:XX}
theorem aff (H:Sat g w (V9 (up++[c])::l)):Sat g w (Sl 2 1 ZJ c.vl c.loc::Sl 2 1 ZJ c.vs c.stk::V9 up::l):=by
 have H:=H.unbox
 rw [lIa,lga] at H
 have H:=(H.box (l1:=up.flatMap fr))
 have H:Sat g w (V9 up::Sl 2 1 ZJ c.vl c.loc::Sl 2 1 ZJ c.vs c.stk::l):=H
 exact H.Z8 [2,2] fun H=>H
theorem PT (H:Sat g w (Sl 2 1 ZJ c.vl c.loc::Sl 2 1 ZJ c.vs c.stk::V9 up::l)):Sat g w (V9 (up++[c])::l):=by
 refine H.Z8 [2]<|fun H=>?_
 have H:Sat g w (Rl (up.flatMap fr)::([Sl 2 1 ZJ c.vl c.loc,Sl 2 1 ZJ c.vs c.stk]++l)):=H
 have H:=H.unbox
 rw [←lga] at H
 have H:=H.box
 show Sat g w (Rl ((up++[c]).flatMap fr)::l)
 rw [lIa]
 exact H
theorem Yu (hcs:cs=up++[c]):cs[up.length]?=some c:=by grind
theorem Yt (hcs:cs=up++[c]) (z:CV):cs.set up.length z=up++[z]:=by grind
theorem alx (H:Sat g w (Pt pr [BS cp,vw,vc,BT 0] 148::Pt cp (BV m [BS mp,vt,vg]) 158::Pt mp [vp,BT m.most] 221::Sl 223 256 Xs vp ps::Sl 3 1 ZJ vt Zv::Sl 2 1 ZJ vg Zl::Sl 79 4 Yk vc cs::V9 up::Sl 2 1 ZJ c.vl c.loc::Sl 2 1 ZJ c.vs c.stk::l)) (hcs:cs=up++[c]) (E:El vc 4 up.length b o) (Uq:0≤c.at_∧c.at_≤1000) (hlen:c.stk.length≤10000) (ho:x.op=0):Fc Tryz.prog 114 #[BS pr,.pointer (some ⟨b,o,none⟩),.agg #[.int .u8 x.op,BT x.a,BT x.b,S8],vj] w (fun r w'=>r=.agg #[BT 2,.slice none 0 0,BT 20,BT 0,BT 0]∧Sat g w' (Pt pr [BS cp,vw,vc,BT 0] 148::Pt cp (BV m [BS mp,vt,vg]) 158::Pt mp [vp,BT m.most] 221::Sl 223 256 Xs vp ps::Sl 3 1 ZJ vt Zv::Sl 2 1 ZJ vg Zl::l)):=by
 refine Fc.of Tryz.func114 rfl k_d ?_
 have hx:=Yu hcs
 refine ZH H<|fun p1 w1 H=>ZV H rfl<|fun p2 w2 H=>Z9 rfl<|Z4 (H.el 8 rfl E hx) 1 rfl rfl rfl<|ZX BY<|Z9 rfl<|YE H 8 rfl E hx 1 (⟨c.fn,c.at_+1,c.vl,c.loc,c.vs,c.stk⟩) rfl rfl rfl rfl<|fun w1 H=>Z9 rfl<|Z4 (H.at 1 rfl) 0 rfl rfl rfl<|bk<|cT (ZL BX)<|Zj rfl rfl rfl<|ZG H 0 rfl rfl rfl rfl<|fun w2 H=>XK (H.at 0 rfl) 0 rfl rfl rfl<|Z6.mk ?_
 refine ⟨rfl,?_⟩
 refine H.Z8 [7,7,7,7,7,7]<|fun H=>H.drop 11<|fun H=>H.drop 10<|fun H=>H.drop 9<|fun H=>H.drop 8<|fun H=>H.drop 7<|fun H=>H.drop 6<|fun H=>?_
 exact H
theorem aly (H:Sat g w (Pt pr [BS cp,vw,vc,BT 0] 148::Pt cp (BV m [BS mp,vt,vg]) 158::Pt mp [vp,BT m.most] 221::Sl 223 256 Xs vp ps::Sl 3 1 ZJ vt Zv::Sl 2 1 ZJ vg Zl::Sl 79 4 Yk vc cs::V9 up::Sl 2 1 ZJ c.vl c.loc::Sl 2 1 ZJ c.vs c.stk::l)) (hcs:cs=up++[c]) (E:El vc 4 up.length b o) (Uq:0≤c.at_∧c.at_≤1000) (hlen:c.stk.length≤10000) (ho:x.op=1∨x.op=2∨x.op=3):Fc Tryz.prog 114 #[BS pr,.pointer (some ⟨b,o,none⟩),.agg #[.int .u8 x.op,BT x.a,BT x.b,S8],vj] w (fun r w'=>r=.agg #[BT 0,.slice none 0 0,BT 0,BT 0,BT 0]∧Sat g w' (Pt pr [BS cp,vw,vc,BT 0] 148::Pt cp (BV m [BS mp,vt,vg]) 158::Pt mp [vp,BT m.most] 221::Sl 223 256 Xs vp ps::Sl 3 1 ZJ vt Zv::Sl 2 1 ZJ vg Zl::Sl 79 4 Yk vc (up++[⟨c.fn,c.at_+1,c.vl,c.loc,c.vs,c.stk⟩])::V9 up::Sl 2 1 ZJ c.vl c.loc::Sl 2 1 ZJ c.vs c.stk::l)):=by
 refine Fc.of Tryz.func114 rfl k_d ?_
 have hx:=Yu hcs
 have WY:=Yt hcs
 rcases ho with ho|ho|ho
 ·refine ZH H<|fun p1 w1 H=>ZV H rfl<|fun p2 w2 H=>Z9 rfl<|Z4 (H.el 8 rfl E hx) 1 rfl rfl rfl<|ZX BY<|Z9 rfl<|YE H 8 rfl E hx 1 (⟨c.fn,c.at_+1,c.vl,c.loc,c.vs,c.stk⟩) rfl rfl rfl rfl<|fun w1 H=>Z9 rfl<|Z4 (H.at 1 rfl) 0 rfl rfl rfl<|bk<|cF (Z5 BY)<|cT (ZL BX)<|cT (ZL BX)<|Zj rfl rfl rfl<|ZG H 0 rfl rfl rfl rfl<|fun w2 H=>XK (H.at 0 rfl) 0 rfl rfl rfl<|Z6.mk ?_
  refine ⟨rfl,?_⟩
  refine H.Z8 [11,11,11,11,11,11,11,11,11,11]<|fun H=>H.drop 11<|fun H=>H.drop 10<|fun H=>?_
  refine H.cg (YQ rfl (YQ rfl (YQ rfl (YQ rfl (YQ rfl (YQ rfl (YQ (Q5 ?_) (YQ rfl (YQ rfl (YQ rfl (rfl)))))))))))
  exact WY _
 ·refine ZH H<|fun p1 w1 H=>ZV H rfl<|fun p2 w2 H=>Z9 rfl<|Z4 (H.el 8 rfl E hx) 1 rfl rfl rfl<|ZX BY<|Z9 rfl<|YE H 8 rfl E hx 1 (⟨c.fn,c.at_+1,c.vl,c.loc,c.vs,c.stk⟩) rfl rfl rfl rfl<|fun w1 H=>Z9 rfl<|Z4 (H.at 1 rfl) 0 rfl rfl rfl<|bk<|cF (Z5 BY)<|cF (Z5 BY)<|cT (ZL BX)<|cT (ZL BX)<|Zj rfl rfl rfl<|ZG H 0 rfl rfl rfl rfl<|fun w2 H=>XK (H.at 0 rfl) 0 rfl rfl rfl<|Z6.mk ?_
  refine ⟨rfl,?_⟩
  refine H.Z8 [11,11,11,11,11,11,11,11,11,11]<|fun H=>H.drop 11<|fun H=>H.drop 10<|fun H=>?_
  refine H.cg (YQ rfl (YQ rfl (YQ rfl (YQ rfl (YQ rfl (YQ rfl (YQ (Q5 ?_) (YQ rfl (YQ rfl (YQ rfl (rfl)))))))))))
  exact WY _
 ·refine ZH H<|fun p1 w1 H=>ZV H rfl<|fun p2 w2 H=>Z9 rfl<|Z4 (H.el 8 rfl E hx) 1 rfl rfl rfl<|ZX BY<|Z9 rfl<|YE H 8 rfl E hx 1 (⟨c.fn,c.at_+1,c.vl,c.loc,c.vs,c.stk⟩) rfl rfl rfl rfl<|fun w1 H=>Z9 rfl<|Z4 (H.at 1 rfl) 0 rfl rfl rfl<|bk<|cF (Z5 BY)<|cF (Z5 BY)<|cF (Z5 BY)<|cT (ZL BX)<|Zj rfl rfl rfl<|ZG H 0 rfl rfl rfl rfl<|fun w2 H=>XK (H.at 0 rfl) 0 rfl rfl rfl<|Z6.mk ?_
  refine ⟨rfl,?_⟩
  refine H.Z8 [11,11,11,11,11,11,11,11,11,11]<|fun H=>H.drop 11<|fun H=>H.drop 10<|fun H=>?_
  refine H.cg (YQ rfl (YQ rfl (YQ rfl (YQ rfl (YQ rfl (YQ rfl (YQ (Q5 ?_) (YQ rfl (YQ rfl (YQ rfl (rfl)))))))))))
  exact WY _
theorem aja (H:Sat g w (Pt pr [BS cp,vw,vc,BT 0] 148::Pt cp (BV m [BS mp,vt,vg]) 158::Pt mp [vp,BT m.most] 221::Sl 223 256 Xs vp ps::Sl 3 1 ZJ vt Zv::Sl 2 1 ZJ vg Zl::Sl 79 4 Yk vc cs::V9 up::Sl 2 1 ZJ c.vl c.loc::Sl 2 1 ZJ c.vs c.stk::l)) (hcs:cs=up++[c]) (E:El vc 4 up.length b o) (Uq:0≤c.at_∧c.at_≤1000) (hlen:c.stk.length≤10000) (hj:ZY g OC EC 3 vj ws) (hjn:0≤j.height) (CR:0≤j.keep) (Hq:ws.length≤100) (ho:x.op=12∨x.op=15) (hw:ws[0]?=some j) (hjf:j.height+j.keep≤c.stk.length):Fc Tryz.prog 114 #[BS pr,.pointer (some ⟨b,o,none⟩),.agg #[.int .u8 x.op,BT x.a,BT x.b,S8],vj] w (fun r w'=>∃vs',r=.agg #[BT 0,.slice none 0 0,BT 0,BT 0,BT 0]∧Sat g w' (Pt pr [BS cp,vw,vc,BT 0] 148::Pt cp (BV m [BS mp,vt,vg]) 158::Pt mp [vp,BT m.most] 221::Sl 223 256 Xs vp ps::Sl 3 1 ZJ vt Zv::Sl 2 1 ZJ vg Zl::Sl 79 4 Yk vc (up++[⟨c.fn,j.at_,c.vl,c.loc,vs',(c.stk.take j.height.toNat++c.stk.drop (c.stk.length-j.keep.toNat))⟩])::V9 up::Sl 2 1 ZJ c.vl c.loc::Sl 2 1 ZJ vs' (c.stk.take j.height.toNat++c.stk.drop (c.stk.length-j.keep.toNat))::l)):=by
 refine Fc.of Tryz.func114 rfl k_d ?_
 have hx:=Yu hcs
 have WY:=Yt hcs
 rcases ho with ho|ho
 ·refine ZH H<|fun p1 w1 H=>ZV H rfl<|fun p2 w2 H=>Z9 rfl<|Z4 (H.el 8 rfl E hx) 1 rfl rfl rfl<|ZX BY<|Z9 rfl<|YE H 8 rfl E hx 1 (⟨c.fn,c.at_+1,c.vl,c.loc,c.vs,c.stk⟩) rfl rfl rfl rfl<|fun w1 H=>Z9 rfl<|Z4 (H.at 1 rfl) 0 rfl rfl rfl<|bk ?_
  simp only [WY] at H
  have hx1:(up++[(⟨c.fn,c.at_+1,c.vl,c.loc,c.vs,c.stk⟩:CV)])[up.length]?=some (⟨c.fn,c.at_+1,c.vl,c.loc,c.vs,c.stk⟩:CV):=Yu rfl
  clear hx
  have WE:∀z,(up++[(⟨c.fn,c.at_+1,c.vl,c.loc,c.vs,c.stk⟩:CV)]).set up.length z=up++[z]:=Yt rfl
  refine cF (Z5 BY)<|cF (Z5 BY)<|cF (Z5 BY)<|cF (Z5 BY)<|cF (Z5 BY)<|cT (ZL BX)<|cT (ZL BX) ?_
  obtain ⟨b1,o1,E1,F1,ZF⟩:=ZY.Y4 hj hw
  refine ZK E1 rfl rfl rfl<|ZB (H.X3 F1) 0 rfl rfl rfl<|H.Z8 [11,9]<|fun H=>?_
  refine Z7.mk (Fc.imp (Rn.Mu E _ hx1 H _ BY BY BY ?_) ?_)
  ·grind
  clear H
  rintro v' w2 ⟨Zw,H⟩
  refine Zj rfl rfl rfl<|ZG H 2 rfl rfl rfl rfl<|fun w3 H=>XK (H.at 2 rfl) 0 rfl rfl rfl<|Z6.mk ?_
  refine ⟨Zw,?_⟩
  refine ⟨rfl,?_⟩
  refine H.Z8 [1,11,11,3,11,11,11,11,11,11]<|fun H=>H.drop 11<|fun H=>H.drop 10<|fun H=>?_
  refine H.cg (YQ rfl (YQ rfl (YQ rfl (YQ rfl (YQ rfl (YQ rfl (YQ (Q5 ?_) (YQ rfl (YQ rfl (YQ rfl (rfl)))))))))))
  exact WE _
 ·refine ZH H<|fun p1 w1 H=>ZV H rfl<|fun p2 w2 H=>Z9 rfl<|Z4 (H.el 8 rfl E hx) 1 rfl rfl rfl<|ZX BY<|Z9 rfl<|YE H 8 rfl E hx 1 (⟨c.fn,c.at_+1,c.vl,c.loc,c.vs,c.stk⟩) rfl rfl rfl rfl<|fun w1 H=>Z9 rfl<|Z4 (H.at 1 rfl) 0 rfl rfl rfl<|bk ?_
  simp only [WY] at H
  have hx1:(up++[(⟨c.fn,c.at_+1,c.vl,c.loc,c.vs,c.stk⟩:CV)])[up.length]?=some (⟨c.fn,c.at_+1,c.vl,c.loc,c.vs,c.stk⟩:CV):=Yu rfl
  clear hx
  have WE:∀z,(up++[(⟨c.fn,c.at_+1,c.vl,c.loc,c.vs,c.stk⟩:CV)]).set up.length z=up++[z]:=Yt rfl
  refine cF (Z5 BY)<|cF (Z5 BY)<|cF (Z5 BY)<|cF (Z5 BY)<|cF (Z5 BY)<|cF (Z5 BY)<|cT (ZL BX) ?_
  obtain ⟨b1,o1,E1,F1,ZF⟩:=ZY.Y4 hj hw
  refine ZK E1 rfl rfl rfl<|ZB (H.X3 F1) 0 rfl rfl rfl<|H.Z8 [11,9]<|fun H=>?_
  refine Z7.mk (Fc.imp (Rn.Mu E _ hx1 H _ BY BY BY ?_) ?_)
  ·grind
  clear H
  rintro v' w2 ⟨Zw,H⟩
  refine Zj rfl rfl rfl<|ZG H 2 rfl rfl rfl rfl<|fun w3 H=>XK (H.at 2 rfl) 0 rfl rfl rfl<|Z6.mk ?_
  refine ⟨Zw,?_⟩
  refine ⟨rfl,?_⟩
  refine H.Z8 [1,11,11,3,11,11,11,11,11,11]<|fun H=>H.drop 11<|fun H=>H.drop 10<|fun H=>?_
  refine H.cg (YQ rfl (YQ rfl (YQ rfl (YQ rfl (YQ rfl (YQ rfl (YQ (Q5 ?_) (YQ rfl (YQ rfl (YQ rfl (rfl)))))))))))
  exact WE _
theorem ahL (H:Sat g w (Pt pr [BS cp,vw,vc,BT 0] 148::Pt cp (BV m [BS mp,vt,vg]) 158::Pt mp [vp,BT m.most] 221::Sl 223 256 Xs vp ps::Sl 3 1 ZJ vt Zv::Sl 2 1 ZJ vg Zl::Sl 79 4 Yk vc cs::V9 up::Sl 2 1 ZJ c.vl c.loc::Sl 2 1 ZJ c.vs c.stk::l)) (hcs:cs=up++[c]) (E:El vc 4 up.length b o) (Uq:0≤c.at_∧c.at_≤1000) (hlen:c.stk.length≤10000) (hj:ZY g OC EC 3 vj ws) (hjn:0≤j.height) (CR:0≤j.keep) (Hq:ws.length≤100) (h1:1≤c.stk.length) (ho:(x.op=4∧top c.stk 0=0)∨(x.op=13∧top c.stk 0≠0)) (hw:ws[0]?=some j) (hjf:j.height+j.keep≤(low c.stk 1).length):Fc Tryz.prog 114 #[BS pr,.pointer (some ⟨b,o,none⟩),.agg #[.int .u8 x.op,BT x.a,BT x.b,S8],vj] w (fun r w'=>∃vs',r=.agg #[BT 0,.slice none 0 0,BT 0,BT 0,BT 0]∧Sat g w' (Pt pr [BS cp,vw,vc,BT 0] 148::Pt cp (BV m [BS mp,vt,vg]) 158::Pt mp [vp,BT m.most] 221::Sl 223 256 Xs vp ps::Sl 3 1 ZJ vt Zv::Sl 2 1 ZJ vg Zl::Sl 79 4 Yk vc (up++[⟨c.fn,j.at_,c.vl,c.loc,vs',((low c.stk 1).take j.height.toNat++(low c.stk 1).drop ((low c.stk 1).length-j.keep.toNat))⟩])::V9 up::Sl 2 1 ZJ c.vl c.loc::Sl 2 1 ZJ vs' ((low c.stk 1).take j.height.toNat++(low c.stk 1).drop ((low c.stk 1).length-j.keep.toNat))::l)):=by
 refine Fc.of Tryz.func114 rfl k_d ?_
 have hx:=Yu hcs
 have WY:=Yt hcs
 have Rq:(low c.stk 1).length=c.stk.length-1:=OB
 rcases ho with ⟨ho,hz⟩|⟨ho,hz⟩
 ·refine ZH H<|fun p1 w1 H=>ZV H rfl<|fun p2 w2 H=>Z9 rfl<|Z4 (H.el 8 rfl E hx) 1 rfl rfl rfl<|ZX BY<|Z9 rfl<|YE H 8 rfl E hx 1 (⟨c.fn,c.at_+1,c.vl,c.loc,c.vs,c.stk⟩) rfl rfl rfl rfl<|fun w1 H=>Z9 rfl<|Z4 (H.at 1 rfl) 0 rfl rfl rfl<|bk ?_
  simp only [WY] at H
  have hx1:(up++[(⟨c.fn,c.at_+1,c.vl,c.loc,c.vs,c.stk⟩:CV)])[up.length]?=some (⟨c.fn,c.at_+1,c.vl,c.loc,c.vs,c.stk⟩:CV):=Yu rfl
  clear hx
  have WE:∀z,(up++[(⟨c.fn,c.at_+1,c.vl,c.loc,c.vs,c.stk⟩:CV)]).set up.length z=up++[z]:=Yt rfl
  refine cF (Z5 BY)<|cF (Z5 BY)<|cF (Z5 BY)<|cF (Z5 BY)<|cT (ZL BX)<|H.Z8 [11,9]<|fun H=>?_
  refine Z7.mk (Fc.imp (Rn.Kz E _ hx1 H BY ?_) ?_)
  ·grind
  clear H
  rintro _ w2 ⟨Zw,⟨t1,⟨rfl,⟨h2,H⟩⟩⟩⟩
  simp only [WE] at H
  replace h2:t1=top c.stk 0:=h2
  clear hx1
  have RH:(up++[(⟨c.fn,c.at_+1,c.vl,c.loc,Zw,low c.stk 1⟩:CV)])[up.length]?=some (⟨c.fn,c.at_+1,c.vl,c.loc,Zw,low c.stk 1⟩:CV):=Yu rfl
  have Qt:∀z,(up++[(⟨c.fn,c.at_+1,c.vl,c.loc,Zw,low c.stk 1⟩:CV)]).set up.length z=up++[z]:=Yt rfl
  refine cT (ZL BY) ?_
  obtain ⟨b1,o1,E1,F1,ZF⟩:=ZY.Y4 hj hw
  refine ZK E1 rfl rfl rfl<|ZB (H.X3 F1) 0 rfl rfl rfl ?_
  refine Z7.mk (Fc.imp (Rn.Mu E _ RH H _ BY BY BY ?_) ?_)
  ·grind
  clear H
  rintro v' w3 ⟨V4,H⟩
  refine Zj rfl rfl rfl<|ZG H 2 rfl rfl rfl rfl<|fun w4 H=>XK (H.at 2 rfl) 0 rfl rfl rfl<|Z6.mk ?_
  refine ⟨V4,?_⟩
  refine ⟨rfl,?_⟩
  refine H.Z8 [1,11,11,3,11,11,11,11,11,11]<|fun H=>H.drop 11<|fun H=>H.drop 10<|fun H=>?_
  refine H.cg (YQ rfl (YQ rfl (YQ rfl (YQ rfl (YQ rfl (YQ rfl (YQ (Q5 ?_) (YQ rfl (YQ rfl (YQ rfl (rfl)))))))))))
  exact Qt _
 ·refine ZH H<|fun p1 w1 H=>ZV H rfl<|fun p2 w2 H=>Z9 rfl<|Z4 (H.el 8 rfl E hx) 1 rfl rfl rfl<|ZX BY<|Z9 rfl<|YE H 8 rfl E hx 1 (⟨c.fn,c.at_+1,c.vl,c.loc,c.vs,c.stk⟩) rfl rfl rfl rfl<|fun w1 H=>Z9 rfl<|Z4 (H.at 1 rfl) 0 rfl rfl rfl<|bk ?_
  simp only [WY] at H
  have hx1:(up++[(⟨c.fn,c.at_+1,c.vl,c.loc,c.vs,c.stk⟩:CV)])[up.length]?=some (⟨c.fn,c.at_+1,c.vl,c.loc,c.vs,c.stk⟩:CV):=Yu rfl
  clear hx
  have WE:∀z,(up++[(⟨c.fn,c.at_+1,c.vl,c.loc,c.vs,c.stk⟩:CV)]).set up.length z=up++[z]:=Yt rfl
  refine cF (Z5 BY)<|cF (Z5 BY)<|cF (Z5 BY)<|cF (Z5 BY)<|cF (Z5 BY)<|cF (Z5 BY)<|cF (Z5 BY)<|cT (ZL BX)<|H.Z8 [11,9]<|fun H=>?_
  refine Z7.mk (Fc.imp (Rn.Kz E _ hx1 H BY ?_) ?_)
  ·grind
  clear H
  rintro _ w2 ⟨Zw,⟨t1,⟨rfl,⟨h2,H⟩⟩⟩⟩
  simp only [WE] at H
  replace h2:t1=top c.stk 0:=h2
  clear hx1
  have RH:(up++[(⟨c.fn,c.at_+1,c.vl,c.loc,Zw,low c.stk 1⟩:CV)])[up.length]?=some (⟨c.fn,c.at_+1,c.vl,c.loc,Zw,low c.stk 1⟩:CV):=Yu rfl
  have Qt:∀z,(up++[(⟨c.fn,c.at_+1,c.vl,c.loc,Zw,low c.stk 1⟩:CV)]).set up.length z=up++[z]:=Yt rfl
  refine cT (VS BY) ?_
  obtain ⟨b1,o1,E1,F1,ZF⟩:=ZY.Y4 hj hw
  refine ZK E1 rfl rfl rfl<|ZB (H.X3 F1) 0 rfl rfl rfl ?_
  refine Z7.mk (Fc.imp (Rn.Mu E _ RH H _ BY BY BY ?_) ?_)
  ·grind
  clear H
  rintro v' w3 ⟨V4,H⟩
  refine Zj rfl rfl rfl<|ZG H 2 rfl rfl rfl rfl<|fun w4 H=>XK (H.at 2 rfl) 0 rfl rfl rfl<|Z6.mk ?_
  refine ⟨V4,?_⟩
  refine ⟨rfl,?_⟩
  refine H.Z8 [1,11,11,3,11,11,11,11,11,11]<|fun H=>H.drop 11<|fun H=>H.drop 10<|fun H=>?_
  refine H.cg (YQ rfl (YQ rfl (YQ rfl (YQ rfl (YQ rfl (YQ rfl (YQ (Q5 ?_) (YQ rfl (YQ rfl (YQ rfl (rfl)))))))))))
  exact Qt _
theorem ahM (H:Sat g w (Pt pr [BS cp,vw,vc,BT 0] 148::Pt cp (BV m [BS mp,vt,vg]) 158::Pt mp [vp,BT m.most] 221::Sl 223 256 Xs vp ps::Sl 3 1 ZJ vt Zv::Sl 2 1 ZJ vg Zl::Sl 79 4 Yk vc cs::V9 up::Sl 2 1 ZJ c.vl c.loc::Sl 2 1 ZJ c.vs c.stk::l)) (hcs:cs=up++[c]) (E:El vc 4 up.length b o) (Uq:0≤c.at_∧c.at_≤1000) (hlen:c.stk.length≤10000) (h1:1≤c.stk.length) (ho:(x.op=4∧top c.stk 0≠0)∨(x.op=13∧top c.stk 0=0)):Fc Tryz.prog 114 #[BS pr,.pointer (some ⟨b,o,none⟩),.agg #[.int .u8 x.op,BT x.a,BT x.b,S8],vj] w (fun r w'=>∃vs',r=.agg #[BT 0,.slice none 0 0,BT 0,BT 0,BT 0]∧Sat g w' (Pt pr [BS cp,vw,vc,BT 0] 148::Pt cp (BV m [BS mp,vt,vg]) 158::Pt mp [vp,BT m.most] 221::Sl 223 256 Xs vp ps::Sl 3 1 ZJ vt Zv::Sl 2 1 ZJ vg Zl::Sl 79 4 Yk vc (up++[⟨c.fn,c.at_+1,c.vl,c.loc,vs',(low c.stk 1)⟩])::V9 up::Sl 2 1 ZJ c.vl c.loc::Sl 2 1 ZJ vs' (low c.stk 1)::l)):=by
 refine Fc.of Tryz.func114 rfl k_d ?_
 have hx:=Yu hcs
 have WY:=Yt hcs
 have Rq:(low c.stk 1).length=c.stk.length-1:=OB
 rcases ho with ⟨ho,hz⟩|⟨ho,hz⟩
 ·refine ZH H<|fun p1 w1 H=>ZV H rfl<|fun p2 w2 H=>Z9 rfl<|Z4 (H.el 8 rfl E hx) 1 rfl rfl rfl<|ZX BY<|Z9 rfl<|YE H 8 rfl E hx 1 (⟨c.fn,c.at_+1,c.vl,c.loc,c.vs,c.stk⟩) rfl rfl rfl rfl<|fun w1 H=>Z9 rfl<|Z4 (H.at 1 rfl) 0 rfl rfl rfl<|bk ?_
  simp only [WY] at H
  have hx1:(up++[(⟨c.fn,c.at_+1,c.vl,c.loc,c.vs,c.stk⟩:CV)])[up.length]?=some (⟨c.fn,c.at_+1,c.vl,c.loc,c.vs,c.stk⟩:CV):=Yu rfl
  clear hx
  have WE:∀z,(up++[(⟨c.fn,c.at_+1,c.vl,c.loc,c.vs,c.stk⟩:CV)]).set up.length z=up++[z]:=Yt rfl
  refine cF (Z5 BY)<|cF (Z5 BY)<|cF (Z5 BY)<|cF (Z5 BY)<|cT (ZL BX)<|H.Z8 [11,9]<|fun H=>?_
  refine Z7.mk (Fc.imp (Rn.Kz E _ hx1 H BY ?_) ?_)
  ·grind
  clear H
  rintro _ w2 ⟨Zw,⟨t1,⟨rfl,⟨h2,H⟩⟩⟩⟩
  simp only [WE] at H
  replace h2:t1=top c.stk 0:=h2
  clear hx1
  have RH:(up++[(⟨c.fn,c.at_+1,c.vl,c.loc,Zw,low c.stk 1⟩:CV)])[up.length]?=some (⟨c.fn,c.at_+1,c.vl,c.loc,Zw,low c.stk 1⟩:CV):=Yu rfl
  have Qt:∀z,(up++[(⟨c.fn,c.at_+1,c.vl,c.loc,Zw,low c.stk 1⟩:CV)]).set up.length z=up++[z]:=Yt rfl
  refine cF (Z5 BY)<|Zj rfl rfl rfl<|ZG H 2 rfl rfl rfl rfl<|fun w3 H=>XK (H.at 2 rfl) 0 rfl rfl rfl<|Z6.mk ?_
  refine ⟨Zw,?_⟩
  refine ⟨rfl,?_⟩
  refine H.Z8 [1,11,11,3,11,11,11,11,11,11]<|fun H=>H.drop 11<|fun H=>H.drop 10<|fun H=>?_
  exact H
 ·refine ZH H<|fun p1 w1 H=>ZV H rfl<|fun p2 w2 H=>Z9 rfl<|Z4 (H.el 8 rfl E hx) 1 rfl rfl rfl<|ZX BY<|Z9 rfl<|YE H 8 rfl E hx 1 (⟨c.fn,c.at_+1,c.vl,c.loc,c.vs,c.stk⟩) rfl rfl rfl rfl<|fun w1 H=>Z9 rfl<|Z4 (H.at 1 rfl) 0 rfl rfl rfl<|bk ?_
  simp only [WY] at H
  have hx1:(up++[(⟨c.fn,c.at_+1,c.vl,c.loc,c.vs,c.stk⟩:CV)])[up.length]?=some (⟨c.fn,c.at_+1,c.vl,c.loc,c.vs,c.stk⟩:CV):=Yu rfl
  clear hx
  have WE:∀z,(up++[(⟨c.fn,c.at_+1,c.vl,c.loc,c.vs,c.stk⟩:CV)]).set up.length z=up++[z]:=Yt rfl
  refine cF (Z5 BY)<|cF (Z5 BY)<|cF (Z5 BY)<|cF (Z5 BY)<|cF (Z5 BY)<|cF (Z5 BY)<|cF (Z5 BY)<|cT (ZL BX)<|H.Z8 [11,9]<|fun H=>?_
  refine Z7.mk (Fc.imp (Rn.Kz E _ hx1 H BY ?_) ?_)
  ·grind
  clear H
  rintro _ w2 ⟨Zw,⟨t1,⟨rfl,⟨h2,H⟩⟩⟩⟩
  simp only [WE] at H
  replace h2:t1=top c.stk 0:=h2
  clear hx1
  have RH:(up++[(⟨c.fn,c.at_+1,c.vl,c.loc,Zw,low c.stk 1⟩:CV)])[up.length]?=some (⟨c.fn,c.at_+1,c.vl,c.loc,Zw,low c.stk 1⟩:CV):=Yu rfl
  have Qt:∀z,(up++[(⟨c.fn,c.at_+1,c.vl,c.loc,Zw,low c.stk 1⟩:CV)]).set up.length z=up++[z]:=Yt rfl
  refine cF (WI BY)<|Zj rfl rfl rfl<|ZG H 2 rfl rfl rfl rfl<|fun w3 H=>XK (H.at 2 rfl) 0 rfl rfl rfl<|Z6.mk ?_
  refine ⟨Zw,?_⟩
  refine ⟨rfl,?_⟩
  refine H.Z8 [1,11,11,3,11,11,11,11,11,11]<|fun H=>H.drop 11<|fun H=>H.drop 10<|fun H=>?_
  exact H
theorem ajb (H:Sat g w (Pt pr [BS cp,vw,vc,BT 0] 148::Pt cp (BV m [BS mp,vt,vg]) 158::Pt mp [vp,BT m.most] 221::Sl 223 256 Xs vp ps::Sl 3 1 ZJ vt Zv::Sl 2 1 ZJ vg Zl::Sl 79 4 Yk vc cs::V9 up::Sl 2 1 ZJ c.vl c.loc::Sl 2 1 ZJ c.vs c.stk::l)) (hcs:cs=up++[c]) (E:El vc 4 up.length b o) (Uq:0≤c.at_∧c.at_≤1000) (hlen:c.stk.length≤10000) (hj:ZY g OC EC 3 vj ws) (hjn:0≤j.height) (CR:0≤j.keep) (Hq:ws.length≤100) (h1:1≤c.stk.length) (T7:Xa (top c.stk 0)) (ho:x.op=14) (hw0:1≤ws.length) (hw:ws[(min (top c.stk 0 % 4294967296) (ws.length-1)).toNat]?=some j) (hjf:j.height+j.keep≤(low c.stk 1).length):Fc Tryz.prog 114 #[BS pr,.pointer (some ⟨b,o,none⟩),.agg #[.int .u8 x.op,BT x.a,BT x.b,S8],vj] w (fun r w'=>∃vs',r=.agg #[BT 0,.slice none 0 0,BT 0,BT 0,BT 0]∧Sat g w' (Pt pr [BS cp,vw,vc,BT 0] 148::Pt cp (BV m [BS mp,vt,vg]) 158::Pt mp [vp,BT m.most] 221::Sl 223 256 Xs vp ps::Sl 3 1 ZJ vt Zv::Sl 2 1 ZJ vg Zl::Sl 79 4 Yk vc (up++[⟨c.fn,j.at_,c.vl,c.loc,vs',((low c.stk 1).take j.height.toNat++(low c.stk 1).drop ((low c.stk 1).length-j.keep.toNat))⟩])::V9 up::Sl 2 1 ZJ c.vl c.loc::Sl 2 1 ZJ vs' ((low c.stk 1).take j.height.toNat++(low c.stk 1).drop ((low c.stk 1).length-j.keep.toNat))::l)):=by
 refine Fc.of Tryz.func114 rfl k_d ?_
 have hx:=Yu hcs
 have WY:=Yt hcs
 have Rq:(low c.stk 1).length=c.stk.length-1:=OB
 refine ZH H<|fun p1 w1 H=>ZV H rfl<|fun p2 w2 H=>Z9 rfl<|Z4 (H.el 8 rfl E hx) 1 rfl rfl rfl<|ZX BY<|Z9 rfl<|YE H 8 rfl E hx 1 (⟨c.fn,c.at_+1,c.vl,c.loc,c.vs,c.stk⟩) rfl rfl rfl rfl<|fun w1 H=>Z9 rfl<|Z4 (H.at 1 rfl) 0 rfl rfl rfl<|bk ?_
 simp only [WY] at H
 have hx1:(up++[(⟨c.fn,c.at_+1,c.vl,c.loc,c.vs,c.stk⟩:CV)])[up.length]?=some (⟨c.fn,c.at_+1,c.vl,c.loc,c.vs,c.stk⟩:CV):=Yu rfl
 clear hx
 have WE:∀z,(up++[(⟨c.fn,c.at_+1,c.vl,c.loc,c.vs,c.stk⟩:CV)]).set up.length z=up++[z]:=Yt rfl
 refine cF (Z5 BY)<|cF (Z5 BY)<|cF (Z5 BY)<|cF (Z5 BY)<|cF (Z5 BY)<|cF (Z5 BY)<|cF (Z5 BY)<|cF (Z5 BY)<|cT (ZL BX)<|H.Z8 [11,9]<|fun H=>?_
 refine Z7.mk (Fc.imp (Rn.Kz E _ hx1 H BY ?_) ?_)
 ·grind
 clear H
 rintro _ w2 ⟨Zw,⟨t1,⟨rfl,⟨h2,H⟩⟩⟩⟩
 simp only [WE] at H
 replace h2:t1=top c.stk 0:=h2
 clear hx1
 have RH:(up++[(⟨c.fn,c.at_+1,c.vl,c.loc,Zw,low c.stk 1⟩:CV)])[up.length]?=some (⟨c.fn,c.at_+1,c.vl,c.loc,Zw,low c.stk 1⟩:CV):=Yu rfl
 have Qt:∀z,(up++[(⟨c.fn,c.at_+1,c.vl,c.loc,Zw,low c.stk 1⟩:CV)]).set up.length z=up++[z]:=Yt rfl
 have Hh:ws[(min (t1 % 4294967296) (ws.length-1)).toNat]?=some j:=by grind
 have aof:Xa t1:=by rw [h2];exact T7
 refine Yw rfl rfl<|Xd BY rfl rfl<|Zy hj rfl<|ZX BY<|ajE ?_
 obtain ⟨b1,o1,E1,F1,ZF⟩:=ZY.Y4 hj Hh
 refine ZK E1 BY rfl rfl<|ZB (H.X3 F1) 0 rfl rfl rfl ?_
 refine Z7.mk (Fc.imp (Rn.Mu E _ RH H _ BY BY BY ?_) ?_)
 ·grind
 clear H
 rintro v' w3 ⟨V4,H⟩
 refine Zj rfl rfl rfl<|ZG H 2 rfl rfl rfl rfl<|fun w4 H=>XK (H.at 2 rfl) 0 rfl rfl rfl<|Z6.mk ?_
 refine ⟨V4,?_⟩
 refine ⟨rfl,?_⟩
 refine H.Z8 [1,11,11,3,11,11,11,11,11,11]<|fun H=>H.drop 11<|fun H=>H.drop 10<|fun H=>?_
 refine H.cg (YQ rfl (YQ rfl (YQ rfl (YQ rfl (YQ rfl (YQ rfl (YQ (Q5 ?_) (YQ rfl (YQ rfl (YQ rfl (rfl)))))))))))
 exact Qt _
end
end Rn
namespace Rn
open Go YZ Go.RowKit
open YX Zk X5 YS Valid Mem
section
variable {g:Zx} {w:World} {l:List As} {m:Zf} {pr cp mp:Nat} {vw vc vt vg vp S8 vj:Value} {host f e:Int} {cs up:List CV} {Zv Zl s2:List Int} {ps:List W0} {c u:CV} {x:ZU} {i b o:Nat} {ws:List XX} {j:XX}
theorem ajc (H:Sat g w (Pt pr [BS cp,vw,vc,BT 0] 148::Pt cp (BV m [BS mp,vt,vg]) 158::Pt mp [vp,BT m.most] 221::Sl 223 256 Xs vp ps::Sl 3 1 ZJ vt Zv::Sl 2 1 ZJ vg Zl::Sl 79 4 Yk vc cs::V9 up::Sl 2 1 ZJ c.vl c.loc::Sl 2 1 ZJ c.vs c.stk::l)) (hcs:cs=up++[c]) (E:El vc 4 up.length b o) (Uq:0≤c.at_∧c.at_≤1000) (hlen:c.stk.length≤10000) (hm:XN g m) (P:Tq m.d) (ho:x.op=16∨x.op=17) (Rp:∀n∈Zv,-1≤n∧n<(m.ZA.length:Int)+m.funcs.length) (h1:x.op=17→1≤c.stk.length∧0≤x.a∧x.a<m.types.length) (T7:∀v∈c.stk,Xa v) (MO:Zv.length≤1000) (TD:cs.length≤40) (hq:Y0 m.d Zv x c.stk=(f,s2,e)) (he:e≠0):Fc Tryz.prog 114 #[BS pr,.pointer (some ⟨b,o,none⟩),.agg #[.int .u8 x.op,BT x.a,BT x.b,S8],vj] w (fun r w'=>r=.agg #[BT 2,.slice none 0 0,BT e,BT 0,BT 0]∧Sat g w' (Pt pr [BS cp,vw,vc,BT 0] 148::Pt cp (BV m [BS mp,vt,vg]) 158::Pt mp [vp,BT m.most] 221::Sl 223 256 Xs vp ps::Sl 3 1 ZJ vt Zv::Sl 2 1 ZJ vg Zl::l)):=by
 refine Fc.of Tryz.func114 rfl k_d ?_
 have hx:=Yu hcs
 have WY:=Yt hcs
 have hvl:=H.one 8 rfl
 have Fi:up.length+1=cs.length:=by grind
 refine ZH H<|fun p1 w1 H=>ZV H rfl<|fun p2 w2 H=>Z9 rfl<|Z4 (H.el 8 rfl E hx) 1 rfl rfl rfl<|ZX BY<|Z9 rfl<|YE H 8 rfl E hx 1 (⟨c.fn,c.at_+1,c.vl,c.loc,c.vs,c.stk⟩) rfl rfl rfl rfl<|fun w1 H=>Z9 rfl<|Z4 (H.at 1 rfl) 0 rfl rfl rfl<|bk ?_
 simp only [WY] at H
 have hx1:(up++[(⟨c.fn,c.at_+1,c.vl,c.loc,c.vs,c.stk⟩:CV)])[up.length]?=some (⟨c.fn,c.at_+1,c.vl,c.loc,c.vs,c.stk⟩:CV):=Yu rfl
 clear hx
 have WE:∀z,(up++[(⟨c.fn,c.at_+1,c.vl,c.loc,c.vs,c.stk⟩:CV)]).set up.length z=up++[z]:=Yt rfl
 have HV:(up++[(⟨c.fn,c.at_+1,c.vl,c.loc,c.vs,c.stk⟩:CV)]).length=cs.length:=by grind
 rcases ho with ho|ho
 ·refine cF (Z5 BY)<|cF (Z5 BY)<|cF (Z5 BY)<|cF (Z5 BY)<|cF (Z5 BY)<|cF (Z5 BY)<|cF (Z5 BY)<|cF (Z5 BY)<|cF (Z5 BY)<|cT (ZL BX)<|cT (ZL BX)<|ZB (H.at 1 rfl) 0 rfl rfl rfl<|H.Z8 [11,9,8,6,6]<|fun H=>?_
  refine Z7.mk (Fc.imp (Rn.afb E _ hx1 H BY BY BY BY BY BY BY BY BY BY hq BY) ?_)
  clear H
  rintro _ w2 ⟨rfl,H⟩
  refine ZG H 3 rfl rfl rfl rfl<|fun w3 H=>XK (H.at 3 rfl) 0 rfl rfl rfl<|Z6.mk ?_
  refine ⟨rfl,?_⟩
  refine H.Z8 [7,3,7,7,5,5]<|fun H=>H.drop 9<|fun H=>H.drop 8<|fun H=>H.drop 7<|fun H=>H.drop 6<|fun H=>?_
  exact H
 ·refine cF (Z5 BY)<|cF (Z5 BY)<|cF (Z5 BY)<|cF (Z5 BY)<|cF (Z5 BY)<|cF (Z5 BY)<|cF (Z5 BY)<|cF (Z5 BY)<|cF (Z5 BY)<|cF (Z5 BY)<|cT (ZL BX)<|ZB (H.at 1 rfl) 0 rfl rfl rfl<|H.Z8 [11,9,8,6,6]<|fun H=>?_
  refine Z7.mk (Fc.imp (Rn.afb E _ hx1 H BY BY BY BY BY BY BY BY BY BY hq BY) ?_)
  clear H
  rintro _ w2 ⟨rfl,H⟩
  refine ZG H 3 rfl rfl rfl rfl<|fun w3 H=>XK (H.at 3 rfl) 0 rfl rfl rfl<|Z6.mk ?_
  refine ⟨rfl,?_⟩
  refine H.Z8 [7,3,7,7,5,5]<|fun H=>H.drop 9<|fun H=>H.drop 8<|fun H=>H.drop 7<|fun H=>H.drop 6<|fun H=>?_
  exact H
theorem ajd (H:Sat g w (Pt pr [BS cp,vw,vc,BT 0] 148::Pt cp (BV m [BS mp,vt,vg]) 158::Pt mp [vp,BT m.most] 221::Sl 223 256 Xs vp ps::Sl 3 1 ZJ vt Zv::Sl 2 1 ZJ vg Zl::Sl 79 4 Yk vc cs::V9 up::Sl 2 1 ZJ c.vl c.loc::Sl 2 1 ZJ c.vs c.stk::l)) (hcs:cs=up++[c]) (E:El vc 4 up.length b o) (Uq:0≤c.at_∧c.at_≤1000) (hlen:c.stk.length≤10000) (hm:XN g m) (P:Tq m.d) (ho:x.op=16∨x.op=17) (Rp:∀n∈Zv,-1≤n∧n<(m.ZA.length:Int)+m.funcs.length) (h1:x.op=17→1≤c.stk.length∧0≤x.a∧x.a<m.types.length) (T7:∀v∈c.stk,Xa v) (MO:Zv.length≤1000) (TD:cs.length≤40) (hq:Y0 m.d Zv x c.stk=(f,s2,0)) (hf:0≤f∧f<(m.ZA.length:Int)+m.funcs.length) (IP:(YC m.d f).Zd.length≤s2.length) (I7:s2.length≤10000) (Cf:(m.ZA.length:Int)≤f) (Ce:cs.length=40):Fc Tryz.prog 114 #[BS pr,.pointer (some ⟨b,o,none⟩),.agg #[.int .u8 x.op,BT x.a,BT x.b,S8],vj] w (fun r w'=>r=.agg #[BT 2,.slice none 0 0,BT 26,BT 0,BT 0]∧Sat g w' (Pt pr [BS cp,vw,vc,BT 0] 148::Pt cp (BV m [BS mp,vt,vg]) 158::Pt mp [vp,BT m.most] 221::Sl 223 256 Xs vp ps::Sl 3 1 ZJ vt Zv::Sl 2 1 ZJ vg Zl::l)):=by
 refine Fc.of Tryz.func114 rfl k_d ?_
 have hx:=Yu hcs
 have WY:=Yt hcs
 have hvl:=H.one 8 rfl
 have Fi:up.length+1=cs.length:=by grind
 refine ZH H<|fun p1 w1 H=>ZV H rfl<|fun p2 w2 H=>Z9 rfl<|Z4 (H.el 8 rfl E hx) 1 rfl rfl rfl<|ZX BY<|Z9 rfl<|YE H 8 rfl E hx 1 (⟨c.fn,c.at_+1,c.vl,c.loc,c.vs,c.stk⟩) rfl rfl rfl rfl<|fun w1 H=>Z9 rfl<|Z4 (H.at 1 rfl) 0 rfl rfl rfl<|bk ?_
 simp only [WY] at H
 have hx1:(up++[(⟨c.fn,c.at_+1,c.vl,c.loc,c.vs,c.stk⟩:CV)])[up.length]?=some (⟨c.fn,c.at_+1,c.vl,c.loc,c.vs,c.stk⟩:CV):=Yu rfl
 clear hx
 have WE:∀z,(up++[(⟨c.fn,c.at_+1,c.vl,c.loc,c.vs,c.stk⟩:CV)]).set up.length z=up++[z]:=Yt rfl
 have HV:(up++[(⟨c.fn,c.at_+1,c.vl,c.loc,c.vs,c.stk⟩:CV)]).length=cs.length:=by grind
 rcases ho with ho|ho
 ·refine cF (Z5 BY)<|cF (Z5 BY)<|cF (Z5 BY)<|cF (Z5 BY)<|cF (Z5 BY)<|cF (Z5 BY)<|cF (Z5 BY)<|cF (Z5 BY)<|cF (Z5 BY)<|cT (ZL BX)<|cT (ZL BX)<|ZB (H.at 1 rfl) 0 rfl rfl rfl<|H.Z8 [11,9,8,6,6]<|fun H=>?_
  refine Z7.mk (Fc.imp (Rn.afc E _ hx1 H BY BY BY BY BY BY BY BY BY BY hq BY BY BY BY BY) ?_)
  clear H
  rintro _ w2 ⟨rfl,H⟩
  refine ZG H 3 rfl rfl rfl rfl<|fun w3 H=>XK (H.at 3 rfl) 0 rfl rfl rfl<|Z6.mk ?_
  refine ⟨rfl,?_⟩
  refine H.Z8 [7,3,7,7,5,5]<|fun H=>H.drop 9<|fun H=>H.drop 8<|fun H=>H.drop 7<|fun H=>H.drop 6<|fun H=>?_
  exact H
 ·refine cF (Z5 BY)<|cF (Z5 BY)<|cF (Z5 BY)<|cF (Z5 BY)<|cF (Z5 BY)<|cF (Z5 BY)<|cF (Z5 BY)<|cF (Z5 BY)<|cF (Z5 BY)<|cF (Z5 BY)<|cT (ZL BX)<|ZB (H.at 1 rfl) 0 rfl rfl rfl<|H.Z8 [11,9,8,6,6]<|fun H=>?_
  refine Z7.mk (Fc.imp (Rn.afc E _ hx1 H BY BY BY BY BY BY BY BY BY BY hq BY BY BY BY BY) ?_)
  clear H
  rintro _ w2 ⟨rfl,H⟩
  refine ZG H 3 rfl rfl rfl rfl<|fun w3 H=>XK (H.at 3 rfl) 0 rfl rfl rfl<|Z6.mk ?_
  refine ⟨rfl,?_⟩
  refine H.Z8 [7,3,7,7,5,5]<|fun H=>H.drop 9<|fun H=>H.drop 8<|fun H=>H.drop 7<|fun H=>H.drop 6<|fun H=>?_
  exact H
theorem aje (H:Sat g w (Pt pr [BS cp,vw,vc,BT 0] 148::Pt cp (BV m [BS mp,vt,vg]) 158::Pt mp [vp,BT m.most] 221::Sl 223 256 Xs vp ps::Sl 3 1 ZJ vt Zv::Sl 2 1 ZJ vg Zl::Sl 79 4 Yk vc cs::V9 up::Sl 2 1 ZJ c.vl c.loc::Sl 2 1 ZJ c.vs c.stk::l)) (hcs:cs=up++[c]) (E:El vc 4 up.length b o) (Uq:0≤c.at_∧c.at_≤1000) (hlen:c.stk.length≤10000) (hm:XN g m) (P:Tq m.d) (ho:x.op=16∨x.op=17) (Rp:∀n∈Zv,-1≤n∧n<(m.ZA.length:Int)+m.funcs.length) (h1:x.op=17→1≤c.stk.length∧0≤x.a∧x.a<m.types.length) (T7:∀v∈c.stk,Xa v) (MO:Zv.length≤1000) (TD:cs.length≤40) (hq:Y0 m.d Zv x c.stk=(f,s2,0)) (hf:0≤f∧f<(m.ZA.length:Int)+m.funcs.length) (IP:(YC m.d f).Zd.length≤s2.length) (I7:s2.length≤10000) (Cf:f<m.ZA.length):Fc Tryz.prog 114 #[BS pr,.pointer (some ⟨b,o,none⟩),.agg #[.int .u8 x.op,BT x.a,BT x.b,S8],vj] w (fun r w'=>∃vs' vv,r=.agg #[BT 4,vv,BT 0,BT f,BT 0]∧Sat g w' (Pt pr [BS cp,vw,vc,BT (f+1)] 148::Pt cp (BV m [BS mp,vt,vg]) 158::Pt mp [vp,BT m.most] 221::Sl 223 256 Xs vp ps::Sl 3 1 ZJ vt Zv::Sl 2 1 ZJ vg Zl::Sl 79 4 Yk vc (up++[⟨c.fn,c.at_+1,c.vl,c.loc,vs',s2.take (s2.length-(YC m.d f).Zd.length)⟩])::V9 up::Sl 2 1 ZJ c.vl c.loc::Sl 2 1 ZJ vs' (s2.take (s2.length-(YC m.d f).Zd.length))::Sl 2 1 ZJ vv (s2.drop (s2.length-(YC m.d f).Zd.length))::l)):=by
 refine Fc.of Tryz.func114 rfl k_d ?_
 have hx:=Yu hcs
 have WY:=Yt hcs
 have hvl:=H.one 8 rfl
 have Fi:up.length+1=cs.length:=by grind
 refine ZH H<|fun p1 w1 H=>ZV H rfl<|fun p2 w2 H=>Z9 rfl<|Z4 (H.el 8 rfl E hx) 1 rfl rfl rfl<|ZX BY<|Z9 rfl<|YE H 8 rfl E hx 1 (⟨c.fn,c.at_+1,c.vl,c.loc,c.vs,c.stk⟩) rfl rfl rfl rfl<|fun w1 H=>Z9 rfl<|Z4 (H.at 1 rfl) 0 rfl rfl rfl<|bk ?_
 simp only [WY] at H
 have hx1:(up++[(⟨c.fn,c.at_+1,c.vl,c.loc,c.vs,c.stk⟩:CV)])[up.length]?=some (⟨c.fn,c.at_+1,c.vl,c.loc,c.vs,c.stk⟩:CV):=Yu rfl
 clear hx
 have WE:∀z,(up++[(⟨c.fn,c.at_+1,c.vl,c.loc,c.vs,c.stk⟩:CV)]).set up.length z=up++[z]:=Yt rfl
 have HV:(up++[(⟨c.fn,c.at_+1,c.vl,c.loc,c.vs,c.stk⟩:CV)]).length=cs.length:=by grind
 rcases ho with ho|ho
 ·refine cF (Z5 BY)<|cF (Z5 BY)<|cF (Z5 BY)<|cF (Z5 BY)<|cF (Z5 BY)<|cF (Z5 BY)<|cF (Z5 BY)<|cF (Z5 BY)<|cF (Z5 BY)<|cT (ZL BX)<|cT (ZL BX)<|ZB (H.at 1 rfl) 0 rfl rfl rfl<|H.Z8 [11,9,8,6,6]<|fun H=>?_
  refine Z7.mk (Fc.imp (Rn.afd E _ hx1 H BY BY BY BY BY BY BY BY BY BY hq BY BY BY BY) ?_)
  clear H
  rintro _ w2 ⟨Zw,⟨C9,⟨rfl,H⟩⟩⟩
  refine ZG H 6 rfl rfl rfl (by simp only [List.all_cons,List.all_nil,H.one 2 rfl,H.one 3 rfl,H.one 4 rfl,H.one 5 rfl,H.one 9 rfl,H.one 10 rfl,H.one 12 rfl,hvl];rfl)<|fun w3 H=>XK (H.at 6 rfl) 0 rfl rfl rfl<|Z6.mk ?_
  refine ⟨Zw,C9,?_⟩
  refine ⟨rfl,?_⟩
  refine H.Z8 [5,5,12,12,7,12,8,12,12,10,10]<|fun H=>H.drop 12<|fun H=>H.drop 11<|fun H=>?_
  refine H.cg (YQ rfl (YQ rfl (YQ rfl (YQ rfl (YQ rfl (YQ rfl (YQ (Q5 ?_) (YQ rfl (YQ rfl (YQ rfl (YQ rfl (rfl))))))))))))
  exact WE _
 ·refine cF (Z5 BY)<|cF (Z5 BY)<|cF (Z5 BY)<|cF (Z5 BY)<|cF (Z5 BY)<|cF (Z5 BY)<|cF (Z5 BY)<|cF (Z5 BY)<|cF (Z5 BY)<|cF (Z5 BY)<|cT (ZL BX)<|ZB (H.at 1 rfl) 0 rfl rfl rfl<|H.Z8 [11,9,8,6,6]<|fun H=>?_
  refine Z7.mk (Fc.imp (Rn.afd E _ hx1 H BY BY BY BY BY BY BY BY BY BY hq BY BY BY BY) ?_)
  clear H
  rintro _ w2 ⟨Zw,⟨C9,⟨rfl,H⟩⟩⟩
  refine ZG H 6 rfl rfl rfl (by simp only [List.all_cons,List.all_nil,H.one 2 rfl,H.one 3 rfl,H.one 4 rfl,H.one 5 rfl,H.one 9 rfl,H.one 10 rfl,H.one 12 rfl,hvl];rfl)<|fun w3 H=>XK (H.at 6 rfl) 0 rfl rfl rfl<|Z6.mk ?_
  refine ⟨Zw,C9,?_⟩
  refine ⟨rfl,?_⟩
  refine H.Z8 [5,5,12,12,7,12,8,12,12,10,10]<|fun H=>H.drop 12<|fun H=>H.drop 11<|fun H=>?_
  refine H.cg (YQ rfl (YQ rfl (YQ rfl (YQ rfl (YQ rfl (YQ rfl (YQ (Q5 ?_) (YQ rfl (YQ rfl (YQ rfl (YQ rfl (rfl))))))))))))
  exact WE _
theorem ajf (H:Sat g w (Pt pr [BS cp,vw,vc,BT 0] 148::Pt cp (BV m [BS mp,vt,vg]) 158::Pt mp [vp,BT m.most] 221::Sl 223 256 Xs vp ps::Sl 3 1 ZJ vt Zv::Sl 2 1 ZJ vg Zl::Sl 79 4 Yk vc cs::V9 up::Sl 2 1 ZJ c.vl c.loc::Sl 2 1 ZJ c.vs c.stk::l)) (hcs:cs=up++[c]) (E:El vc 4 up.length b o) (Uq:0≤c.at_∧c.at_≤1000) (hlen:c.stk.length≤10000) (hm:XN g m) (P:Tq m.d) (ho:x.op=16∨x.op=17) (Rp:∀n∈Zv,-1≤n∧n<(m.ZA.length:Int)+m.funcs.length) (h1:x.op=17→1≤c.stk.length∧0≤x.a∧x.a<m.types.length) (T7:∀v∈c.stk,Xa v) (MO:Zv.length≤1000) (TD:cs.length≤40) (hq:Y0 m.d Zv x c.stk=(f,s2,0)) (hf:0≤f∧f<(m.ZA.length:Int)+m.funcs.length) (IP:(YC m.d f).Zd.length≤s2.length) (I7:s2.length≤10000) (k:Nat) (F:YD) (Hs:f=m.ZA.length+k) (hF:m.funcs[k]?=some F) (Eu:F.loc.length≤16) (h4:(YC m.d f).Zd.length≤4) (Ce:cs.length<40):Fc Tryz.prog 114 #[BS pr,.pointer (some ⟨b,o,none⟩),.agg #[.int .u8 x.op,BT x.a,BT x.b,S8],vj] w (fun r w'=>∃Qg vs' IX,r=.agg #[BT 0,.slice none 0 0,BT 0,BT 0,BT 0]∧Sat g w' (Pt pr [BS cp,vw,Qg,BT 0] 148::Pt cp (BV m [BS mp,vt,vg]) 158::Pt mp [vp,BT m.most] 221::Sl 223 256 Xs vp ps::Sl 3 1 ZJ vt Zv::Sl 2 1 ZJ vg Zl::Sl 79 4 Yk Qg (up++[⟨c.fn,c.at_+1,c.vl,c.loc,vs',s2.take (s2.length-(YC m.d f).Zd.length)⟩]++[⟨k,0,IX,s2.drop (s2.length-(YC m.d f).Zd.length)++List.replicate F.loc.length 0,.slice none 0 0,[]⟩])::V9 up::Sl 2 1 ZJ c.vl c.loc::Sl 2 1 ZJ vs' (s2.take (s2.length-(YC m.d f).Zd.length))::Sl 2 1 ZJ IX (s2.drop (s2.length-(YC m.d f).Zd.length)++List.replicate F.loc.length 0)::Sl 2 1 ZJ (.slice none 0 0) []::l)):=by
 refine Fc.of Tryz.func114 rfl k_d ?_
 have hx:=Yu hcs
 have WY:=Yt hcs
 have hvl:=H.one 8 rfl
 have Fi:up.length+1=cs.length:=by grind
 refine ZH H<|fun p1 w1 H=>ZV H rfl<|fun p2 w2 H=>Z9 rfl<|Z4 (H.el 8 rfl E hx) 1 rfl rfl rfl<|ZX BY<|Z9 rfl<|YE H 8 rfl E hx 1 (⟨c.fn,c.at_+1,c.vl,c.loc,c.vs,c.stk⟩) rfl rfl rfl rfl<|fun w1 H=>Z9 rfl<|Z4 (H.at 1 rfl) 0 rfl rfl rfl<|bk ?_
 simp only [WY] at H
 have hx1:(up++[(⟨c.fn,c.at_+1,c.vl,c.loc,c.vs,c.stk⟩:CV)])[up.length]?=some (⟨c.fn,c.at_+1,c.vl,c.loc,c.vs,c.stk⟩:CV):=Yu rfl
 clear hx
 have WE:∀z,(up++[(⟨c.fn,c.at_+1,c.vl,c.loc,c.vs,c.stk⟩:CV)]).set up.length z=up++[z]:=Yt rfl
 have HV:(up++[(⟨c.fn,c.at_+1,c.vl,c.loc,c.vs,c.stk⟩:CV)]).length=cs.length:=by grind
 rcases ho with ho|ho
 ·refine cF (Z5 BY)<|cF (Z5 BY)<|cF (Z5 BY)<|cF (Z5 BY)<|cF (Z5 BY)<|cF (Z5 BY)<|cF (Z5 BY)<|cF (Z5 BY)<|cF (Z5 BY)<|cT (ZL BX)<|cT (ZL BX)<|ZB (H.at 1 rfl) 0 rfl rfl rfl<|H.Z8 [11,9,8,6,6]<|fun H=>?_
  refine Z7.mk (Fc.imp (Rn.afe E _ hx1 H BY BY BY BY BY BY BY BY BY BY hq BY BY BY (k) _ Hs hF BY BY BY) ?_)
  clear H
  rintro _ w2 ⟨HW,⟨Zw,⟨Uf,⟨rfl,H⟩⟩⟩⟩
  refine ZG H 7 rfl rfl rfl rfl<|fun w3 H=>XK (H.at 7 rfl) 0 rfl rfl rfl ?_
  simp only [WE] at H
  refine Z6.mk ⟨HW,Zw,Uf,rfl,?_⟩
  refine H.Z8 [6,6,6,13,13,8,13,9,13,13,11,11]<|fun H=>H.drop 13<|fun H=>H.drop 12<|fun H=>?_
  exact H
 ·refine cF (Z5 BY)<|cF (Z5 BY)<|cF (Z5 BY)<|cF (Z5 BY)<|cF (Z5 BY)<|cF (Z5 BY)<|cF (Z5 BY)<|cF (Z5 BY)<|cF (Z5 BY)<|cF (Z5 BY)<|cT (ZL BX)<|ZB (H.at 1 rfl) 0 rfl rfl rfl<|H.Z8 [11,9,8,6,6]<|fun H=>?_
  refine Z7.mk (Fc.imp (Rn.afe E _ hx1 H BY BY BY BY BY BY BY BY BY BY hq BY BY BY (k) _ Hs hF BY BY BY) ?_)
  clear H
  rintro _ w2 ⟨HW,⟨Zw,⟨Uf,⟨rfl,H⟩⟩⟩⟩
  refine ZG H 7 rfl rfl rfl rfl<|fun w3 H=>XK (H.at 7 rfl) 0 rfl rfl rfl ?_
  simp only [WE] at H
  refine Z6.mk ⟨HW,Zw,Uf,rfl,?_⟩
  refine H.Z8 [6,6,6,13,13,8,13,9,13,13,11,11]<|fun H=>H.drop 13<|fun H=>H.drop 12<|fun H=>?_
  exact H
theorem ajg (H:Sat g w (Pt pr [BS cp,vw,vc,BT 0] 148::Pt cp (BV m [BS mp,vt,vg]) 158::Pt mp [vp,BT m.most] 221::Sl 223 256 Xs vp ps::Sl 3 1 ZJ vt Zv::Sl 2 1 ZJ vg Zl::Sl 79 4 Yk vc cs::V9 up::Sl 2 1 ZJ c.vl c.loc::Sl 2 1 ZJ c.vs c.stk::l)) (hcs:cs=up++[c]) (E:El vc 4 up.length b o) (Uq:0≤c.at_∧c.at_≤1000) (hlen:c.stk.length≤10000) (hD:Ib x ⟨flat ps,Zv,Zl⟩ c.loc c.stk) (hT:Fold.Jh g) (DP:18≤x.op) (hop:x.op≤255) (hmo:ps.length≤m.most∧m.most≤8):Fc Tryz.prog 114 #[BS pr,.pointer (some ⟨b,o,none⟩),.agg #[.int .u8 x.op,BT x.a,BT x.b,S8],vj] w (fun r w'=>∃e vs' T4 ps' Xf loc' Xj,r=(if e≠0 then .agg #[BT 2,.slice none 0 0,BT e,BT 0,BT 0] else .agg #[BT 0,.slice none 0 0,BT 0,BT 0,BT 0])∧NC (V0 m.most x ⟨flat ps,Zv,Zl⟩ c.loc c.stk) e (flat ps') Xf loc' Xj∧ps'.length≤8∧Sat g w' (Pt pr [BS cp,vw,vc,BT 0] 148::Pt cp (BV m [BS mp,vt,vg]) 158::Pt mp [T4,BT m.most] 221::Sl 223 256 Xs T4 ps'::Sl 3 1 ZJ vt Zv::Sl 2 1 ZJ vg Xf::Sl 79 4 Yk vc (up++[⟨c.fn,c.at_+1,c.vl,loc',vs',Xj⟩])::V9 up::Sl 2 1 ZJ c.vl loc'::Sl 2 1 ZJ vs' Xj::l)):=by
 refine Fc.of Tryz.func114 rfl k_d ?_
 have hx:=Yu hcs
 have WY:=Yt hcs
 have hvl:=H.one 8 rfl
 refine ZH H<|fun p1 w1 H=>ZV H rfl<|fun p2 w2 H=>Z9 rfl<|Z4 (H.el 8 rfl E hx) 1 rfl rfl rfl<|ZX BY<|Z9 rfl<|YE H 8 rfl E hx 1 (⟨c.fn,c.at_+1,c.vl,c.loc,c.vs,c.stk⟩) rfl rfl rfl rfl<|fun w1 H=>Z9 rfl<|Z4 (H.at 1 rfl) 0 rfl rfl rfl<|bk ?_
 simp only [WY] at H
 have hx1:(up++[(⟨c.fn,c.at_+1,c.vl,c.loc,c.vs,c.stk⟩:CV)])[up.length]?=some (⟨c.fn,c.at_+1,c.vl,c.loc,c.vs,c.stk⟩:CV):=Yu rfl
 clear hx
 have WE:∀z,(up++[(⟨c.fn,c.at_+1,c.vl,c.loc,c.vs,c.stk⟩:CV)]).set up.length z=up++[z]:=Yt rfl
 have HV:(up++[(⟨c.fn,c.at_+1,c.vl,c.loc,c.vs,c.stk⟩:CV)]).length=cs.length:=by grind
 refine cF (Z5 BY)<|cF (Z5 BY)<|cF (Z5 BY)<|cF (Z5 BY)<|cF (Z5 BY)<|cF (Z5 BY)<|cF (Z5 BY)<|cF (Z5 BY)<|cF (Z5 BY)<|cF (Z5 BY)<|cF (Z5 BY)<|ZM H [] [BRp0,BRp1,BRp2,BRh3,BRh4,BRp5,BRp6,BRp7,BRh8,BRp9,BRp10,BRp11,BRh12,BRfr13,BRp14,BRp15,BRp16,BRp17,BRp18] mixed k_d k_d<|fun w2 H=>tk (fun _ Z=>Z9 rfl BU)<|tk (fun _ Z=>Z4 (Z.at 2 rfl) 0 rfl rfl rfl BU)<|tk (fun _ Z=>ZB (Z.at 1 rfl) 0 rfl rfl rfl BU)<|tk (fun _ Z=>Z9 rfl BU)<|tk (fun _ Z=>Z4 (Z.el 8 rfl E hx1) 2 rfl rfl rfl BU)<|tk (fun _ Z=>Z9 rfl BU)<|tk (fun _ Z=>Z4 (Z.el 8 rfl E hx1) 3 rfl rfl rfl BU)<|H.Z8 [11,11,9,9,9,9,9]<|fun H=>?_
 refine Z7.mk (Fc.imp (Rn.do_ H BY BY BY BY BY) ?_)
 clear H
 rintro _ w1 ⟨e1,⟨Zw,⟨alz,⟨OT,⟨ahN,⟨HU,⟨RW,⟨rfl,⟨h1,⟨h2,H⟩⟩⟩⟩⟩⟩⟩⟩⟩⟩
 refine Z9 rfl<|YE H 10 rfl E hx1 3 (⟨c.fn,c.at_+1,c.vl,HU,(Zw),RW⟩) rfl (by simp only [Bool.and_true,H.one 2 rfl,H.one 3 rfl,H.one 4 rfl,H.one 5 rfl,H.one 6 rfl,H.one 10 rfl,hvl]) rfl rfl<|fun w3 H=>?_
 refine cI (fun c1=>?_) (fun c1=>?_)
 focus
  replace c1:=Yp (c1)
  refine Zj rfl rfl rfl<|ZG H 7 rfl rfl rfl rfl<|fun w1 H=>XK (H.at 7 rfl) 0 rfl rfl rfl ?_
 rotate_left 1
 focus
  replace c1:=Yo (c1)
  refine Zj rfl rfl rfl<|ZG H 7 rfl rfl rfl rfl<|fun w1 H=>XK (H.at 7 rfl) 0 rfl rfl rfl ?_
 rotate_left 1
 ·simp only [WE] at H
  refine Z6.mk ⟨e1,Zw,alz,OT,ahN,HU,RW,(if_pos BX).symm,by assumption,by assumption,?_⟩
  refine H.Z8 [6,6,11,11,8,8,8,8,8,11]<|fun H=>H.drop 11<|fun H=>H.drop 10<|fun H=>?_
  exact H
 ·simp only [WE] at H
  refine Z6.mk ⟨e1,Zw,alz,OT,ahN,HU,RW,(if_neg BY).symm,by assumption,by assumption,?_⟩
  refine H.Z8 [6,6,11,11,8,8,8,8,8,11]<|fun H=>H.drop 11<|fun H=>H.drop 10<|fun H=>?_
  exact H
end
end Rn
end Go.Proofs.YtakpnepblgfknaaGreatDoor
