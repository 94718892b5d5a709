import Derived.Test.YtakpnepblgfknaaGreatDoorJ9
set_option maxRecDepth 100000
set_option maxHeartbeats 4000000
set_option linter.unusedVariables false
set_option linter.unusedSimpArgs false
set_option linter.defProp false
namespace Go.Proofs.YtakpnepblgfknaaGreatDoor
namespace Rn
open Go YY Go.RowKit
open YV Zo X7 Y3 Valid Mem
section
variable {g:ZE} {w:World} {l:List As} {m:Zq} {cp mp:Nat} {vp vt vg vl vs Sj:Value} {ps:List WV} {Zt Zh loc stk:yp} {x:ZV}
theorem adD {ps:List WV} {n:Nat}:flat (ps++List.replicate n zp)=flat ps++List.replicate (256 * n) 0:=by
 unfold flat
 rw [lQa]
 congr 1
 induction n with
 | zero=>rfl
 | succ n ih =>
  rw [lEb,lOa,ih,show 256 * (n+1)=256+256 * n by omega,<-List.replicate_append_replicate];rfl
theorem bt2 {s:yp} (h:3<=s.length):∃t a b c,s=t++[a]++[b]++[c]:=by
 obtain ⟨t,c,rfl⟩:=Oa (show 1<=s.length by omega)
 rw [lca,lpa] at h
 obtain ⟨t,b,rfl⟩:=Oa (show 1<=t.length by omega)
 rw [lca,lpa] at h
 obtain ⟨t,a,rfl⟩:=Oa (show 1<=t.length by omega)
 exact ⟨t,a,b,c,rfl⟩
theorem apP {d:yp->Bq} {e:Int} {mm:yo} {gl s':yp} (h:∀loc,NP (d loc) e mm gl loc s'):NP (d loc) e mm gl loc s':=h loc
theorem aoX {I:WU} {s':yp} {e e1 e2:Int} {s1 s2:yp} {c:Prop} [Decidable c] (h:(s',e)=(if c then (s1,e1) else (s2,e2))):NP (if c then ⟨I,loc,s1,e1⟩ else ⟨I,loc,s2,e2⟩) e I.mem I.Zh loc s':=by
 by_cases hc:c
 .rw [if_pos hc] at h ⊢
  injection h with h1 h2
  exact ⟨h2,rfl,rfl,rfl,fun _=>h1⟩
 .rw [if_neg hc] at h ⊢
  injection h with h1 h2
  exact ⟨h2,rfl,rfl,rfl,fun _=>h1⟩
theorem gr0 {e a most:Int} {ps':List WV} (h1:1<=stk.length) (h:most-(ps.length:Int)<a % 4294967296) (he:e=-1) (hp:ps'=ps):NP (if most-(ps.length:Int)<a % 4294967296 then ⟨⟨flat ps,Zt,Zh⟩,loc,low stk 1++[-1],0⟩ else ⟨⟨flat ps++List.replicate (256 * (a % 4294967296).toNat) 0,Zt,Zh⟩,loc,low stk 1++[(ps.length:Int)],0⟩) 0 (flat ps') Zh loc (stk.set (stk.length-1) e):=by
 rw [if_pos h,he,hp]
 exact ⟨rfl,rfl,rfl,rfl,fun _=>Nv h1⟩
theorem gr1 {e a most:Int} {ps':List WV} (h1:1<=stk.length) (h:¬most-(ps.length:Int)<a % 4294967296) (he:e=ps.length) (hp:ps'=ps++List.replicate (a % 4294967296).toNat zp):NP (if most-(ps.length:Int)<a % 4294967296 then ⟨⟨flat ps,Zt,Zh⟩,loc,low stk 1++[-1],0⟩ else ⟨⟨flat ps++List.replicate (256 * (a % 4294967296).toNat) 0,Zt,Zh⟩,loc,low stk 1++[(ps.length:Int)],0⟩) 0 (flat ps') Zh loc (stk.set (stk.length-1) e):=by
 rw [if_neg h,he,hp,adD]
 exact ⟨rfl,rfl,rfl,rfl,fun _=>Nv h1⟩
theorem ama (H:Sat g w (Pt cp (yN m [yK mp,vt,vg]) 158::Pt mp [vp,yL m.most] 221::Sl 223 256 Xh vp ps::Sl 3 1 ZJ vt Zt::Sl 2 1 ZJ vg Zh::Sl 2 1 ZJ vl loc::Sl 2 1 ZJ vs stk::l)) (ho:x.op=26) (h1:1<=stk.length) (hlen:stk.length<=100000) (hp:ps.length<=8):yq 160 #[yK cp,.agg #[.int .u8 x.op,yL x.a,yL x.b,Sj],vl,vs] w (fun r w'=>∃e vs' Ta ps' W1 loc' YP,r=.tuple #[vs',yL e]/\NP (WE m.most x ⟨flat ps,Zt,Zh⟩ loc stk) e (flat ps') W1 loc' YP/\ps'.length<=8/\Sat g w' (Pt cp (yN m [yK mp,vt,vg]) 158::Pt mp [Ta,yL m.most] 221::Sl 223 256 Xh Ta ps'::Sl 3 1 ZJ vt Zt::Sl 2 1 ZJ vg W1::Sl 2 1 ZJ vl loc'::Sl 2 1 ZJ vs' YP::l)):=by
 refine Fc.of Tryz.func160 rfl k_d ?_
 have hd:WE m.most x ⟨flat ps,Zt,Zh⟩ loc stk=⟨⟨flat ps,Zt,Zh⟩,loc,low stk 1,0⟩:=by grind [WE]
 rw [hd]
 clear hd
 refine ZN H<|fun p1 w1 H=>YA H 7 rfl rfl<|ZW yQ<|bk<|Z9 rfl<|yI H 0 0 yF<|cT (ZI yP)<|NT H 7 rfl 0 ((stk.length)-1) rfl rfl yQ yQ (.inl ⟨rfl,rfl⟩) (.inr ⟨_,by first|rfl|(congr 2;omega)⟩)<|fun v1 H=>Z6.mk ?_
 refine ⟨0,v1,vp,ps,Zh,loc,List.drop 0 (List.take (stk.length-1) stk),?_⟩
 refine ⟨rfl,?_⟩
 constructor
 .exact ⟨rfl,rfl,rfl,rfl,fun _=>Jo⟩
 refine ⟨yQ,?_⟩
 exact H.Z7 [7,7,7,7,7,7,7]<|fun H=>H.drop 7<|fun H=>H
theorem amb (H:Sat g w (Pt cp (yN m [yK mp,vt,vg]) 158::Pt mp [vp,yL m.most] 221::Sl 223 256 Xh vp ps::Sl 3 1 ZJ vt Zt::Sl 2 1 ZJ vg Zh::Sl 2 1 ZJ vl loc::Sl 2 1 ZJ vs stk::l)) (ho:x.op=27) (h1:3<=stk.length) (hlen:stk.length<=100000) (hp:ps.length<=8):yq 160 #[yK cp,.agg #[.int .u8 x.op,yL x.a,yL x.b,Sj],vl,vs] w (fun r w'=>∃e vs' Ta ps' W1 loc' YP,r=.tuple #[vs',yL e]/\NP (WE m.most x ⟨flat ps,Zt,Zh⟩ loc stk) e (flat ps') W1 loc' YP/\ps'.length<=8/\Sat g w' (Pt cp (yN m [yK mp,vt,vg]) 158::Pt mp [Ta,yL m.most] 221::Sl 223 256 Xh Ta ps'::Sl 3 1 ZJ vt Zt::Sl 2 1 ZJ vg W1::Sl 2 1 ZJ vl loc'::Sl 2 1 ZJ vs' YP::l)):=by
 refine Fc.of Tryz.func160 rfl k_d ?_
 obtain ⟨t,a,b,c,hs⟩:=bt2 h1
 have hl:stk.length=t.length+3:=by grind
 have hc:stk[stk.length-1]?=some c:=by grind
 have hb:stk[stk.length-1-1]?=some b:=by grind
 have ha:stk[stk.length-1-2]?=some a:=by grind
 have r1:List.drop 0 (List.take (stk.length-1-1) stk)=t++[a]:=by
  rw [hl,hs];simp
  rw [show t++[a,b,c]=(t++[a])++[b,c] by simp,lAa yO,lua yO]
 have r2:List.drop 0 (List.take (stk.length-1-1) (stk.set (stk.length-1-2) b))=t++[b]:=by
  rw [hl,hs];simp
  rw [show t++[b,b,c]=(t++[b])++[b,c] by simp,lAa yO,lua yO]
 have hd:WE m.most x ⟨flat ps,Zt,Zh⟩ loc stk=⟨⟨flat ps,Zt,Zh⟩,loc,if c=0 then t++[b] else t++[a],0⟩:=by
  unfold WE
  rw [if_neg yQ,if_pos ho,hs,Wg,al0,Gj yO,Wg,MC,MC,Ju]
 rw [hd]
 clear hd
 refine ZN H<|fun p1 w1 H=>YA H 7 rfl rfl<|ZW yQ<|bk<|Z9 rfl<|yI H 0 0 yF<|cF (Z5 yQ)<|Z9 rfl<|yI H 0 0 yF<|cT (ZI yP) ?_
 obtain ⟨b1,o1,E1⟩:=H.Y1 7 rfl ((stk.length)-1) yQ
 refine ZG E1 yQ rfl rfl<|yB (H.el 7 rfl E1 hc) 0 yA ?_
 refine yw (fun c1=>?_) (fun c1=>?_)
 .refine ZW yQ<|ZW yQ ?_
  obtain ⟨b2,o2,E2⟩:=H.Y1 7 rfl (((stk.length)-1)-1) yQ
  refine ZG E2 yQ rfl rfl<|yB (H.el 7 rfl E2 hb) 0 yA ?_
  obtain ⟨b3,o3,E3⟩:=H.Y1 7 rfl (((stk.length)-1)-2) yQ
  refine ZG E3 yQ rfl rfl<|Yg H 7 rfl E3 ha 0 (b) rfl rfl rfl rfl<|fun w2 H=>ZW yQ<|NT H 7 rfl 0 (((stk.length)-1)-1) rfl rfl (by grind) (by grind) (.inl ⟨rfl,rfl⟩) (.inr ⟨_,by first|rfl|(congr 2;(first|omega|(simp only [yq7,List.length_set,List.length_cons,List.length_nil];omega)|(simp;omega)|(simp;done)))⟩)<|fun v1 H=>Z6.mk ?_
  refine ⟨0,v1,vp,ps,Zh,loc,List.drop 0 (List.take (stk.length-1-1) (stk.set (stk.length-1-2) b)),?_⟩
  refine ⟨rfl,?_⟩
  constructor
  .exact ⟨rfl,rfl,rfl,rfl,fun _=>by rw [if_pos yP];exact r2⟩
  refine ⟨yQ,?_⟩
  exact H.Z7 [7,7,7,7,7,7,7]<|fun H=>H.drop 7<|fun H=>H
 refine ZW yQ<|NT H 7 rfl 0 (((stk.length)-1)-1) rfl rfl yQ yQ (.inl ⟨rfl,rfl⟩) (.inr ⟨_,by first|rfl|(congr 2;omega)⟩)<|fun v1 H=>Z6.mk ?_
 refine ⟨0,v1,vp,ps,Zh,loc,List.drop 0 (List.take (stk.length-1-1) stk),?_⟩
 refine ⟨rfl,?_⟩
 constructor
 .exact ⟨rfl,rfl,rfl,rfl,fun _=>by rw [if_neg yP];exact r1⟩
 refine ⟨yQ,?_⟩
 exact H.Z7 [7,7,7,7,7,7,7]<|fun H=>H.drop 7<|fun H=>H
theorem amc (H:Sat g w (Pt cp (yN m [yK mp,vt,vg]) 158::Pt mp [vp,yL m.most] 221::Sl 223 256 Xh vp ps::Sl 3 1 ZJ vt Zt::Sl 2 1 ZJ vg Zh::Sl 2 1 ZJ vl loc::Sl 2 1 ZJ vs stk::l)) (ho:x.op=32) (hb:0<=x.a/\x.a<loc.length) (hlen:stk.length<=100000) (hp:ps.length<=8):yq 160 #[yK cp,.agg #[.int .u8 x.op,yL x.a,yL x.b,Sj],vl,vs] w (fun r w'=>∃e vs' Ta ps' W1 loc' YP,r=.tuple #[vs',yL e]/\NP (WE m.most x ⟨flat ps,Zt,Zh⟩ loc stk) e (flat ps') W1 loc' YP/\ps'.length<=8/\Sat g w' (Pt cp (yN m [yK mp,vt,vg]) 158::Pt mp [Ta,yL m.most] 221::Sl 223 256 Xh Ta ps'::Sl 3 1 ZJ vt Zt::Sl 2 1 ZJ vg W1::Sl 2 1 ZJ vl loc'::Sl 2 1 ZJ vs' YP::l)):=by
 refine Fc.of Tryz.func160 rfl k_d ?_
 obtain ⟨i,hi⟩:=lsa hb.1
 rw [hi] at hb ⊢
 obtain ⟨y,hy⟩:∃y,loc[i]?=some y:=⟨_,laa yQ⟩
 have hd:WE m.most x ⟨flat ps,Zt,Zh⟩ loc stk=⟨⟨flat ps,Zt,Zh⟩,loc,stk++[y],0⟩:=by grind [WE]
 rw [hd]
 clear hd
 refine ZN H<|fun p1 w1 H=>YA H 7 rfl rfl<|ZW yQ<|bk<|Z9 rfl<|yI H 0 0 yF<|cF (Z5 yQ)<|Z9 rfl<|yI H 0 0 yF<|cF (Z5 yQ)<|Z9 rfl<|yI H 0 0 yF<|cT (ZI yP)<|Z9 rfl<|yI H 0 1 yF ?_
 obtain ⟨b1,o1,E1⟩:=H.Y1 6 rfl (i) yQ
 refine ZG E1 rfl rfl rfl<|yB (H.el 6 rfl E1 hy) 0 yA<|ZZ H rfl rfl rfl rfl<|fun p2 w2 H=>W3 (ys:=[_]) 8 H 8 rfl (H.at 0 rfl) rfl (fun y _=>rfl) rfl rfl rfl yQ yQ<|fun v1 w1 H=>Z6.mk ?_
 refine ⟨0,v1,vp,ps,Zh,loc,stk++[y],?_⟩
 refine ⟨rfl,?_⟩
 constructor
 .exact k_w
 refine ⟨yQ,?_⟩
 exact H.Z7 [8,8,8,8,8,8,8]<|fun H=>yz H [8,7]<|fun H=>H
theorem amd (H:Sat g w (Pt cp (yN m [yK mp,vt,vg]) 158::Pt mp [vp,yL m.most] 221::Sl 223 256 Xh vp ps::Sl 3 1 ZJ vt Zt::Sl 2 1 ZJ vg Zh::Sl 2 1 ZJ vl loc::Sl 2 1 ZJ vs stk::l)) (ho:x.op=33\/x.op=34) (hb:0<=x.a/\x.a<loc.length) (h1:1<=stk.length) (hlen:stk.length<=100000) (hp:ps.length<=8):yq 160 #[yK cp,.agg #[.int .u8 x.op,yL x.a,yL x.b,Sj],vl,vs] w (fun r w'=>∃e vs' Ta ps' W1 loc' YP,r=.tuple #[vs',yL e]/\NP (WE m.most x ⟨flat ps,Zt,Zh⟩ loc stk) e (flat ps') W1 loc' YP/\ps'.length<=8/\Sat g w' (Pt cp (yN m [yK mp,vt,vg]) 158::Pt mp [Ta,yL m.most] 221::Sl 223 256 Xh Ta ps'::Sl 3 1 ZJ vt Zt::Sl 2 1 ZJ vg W1::Sl 2 1 ZJ vl loc'::Sl 2 1 ZJ vs' YP::l)):=by
 refine Fc.of Tryz.func160 rfl k_d ?_
 obtain ⟨a,ha,Im,Hq⟩:=Ew (s:=stk) yQ
 obtain ⟨i,hi⟩:=lsa hb.1
 rw [hi] at hb ⊢
 obtain ⟨y,hy⟩:∃y,loc[i]?=some y:=⟨_,laa yQ⟩
 have hd:WE m.most x ⟨flat ps,Zt,Zh⟩ loc stk=⟨⟨flat ps,Zt,Zh⟩,loc.set i a,if x.op=33 then low stk 1 else stk,0⟩:=by grind [WE]
 rw [hd]
 clear hd
 rcases ho with ho|ho
 .rw [if_pos ho]
  refine ZN H<|fun p1 w1 H=>YA H 7 rfl rfl<|ZW yQ<|bk<|Z9 rfl<|yI H 0 0 yF<|cF (Z5 yQ)<|Z9 rfl<|yI H 0 0 yF<|cF (Z5 yQ)<|Z9 rfl<|yI H 0 0 yF<|cF (Z5 yQ)<|Z9 rfl<|yI H 0 0 yF<|cT (ZI yP)<|ZL H [] [yJp0,yJp1,yJh2,yJp3,yJp4,yJp5,yJh6,yJp7,yJfr8] mixed k_d k_d<|fun w2 H=>yG rfl rfl<|yH 0 1 yF rfl ?_
  obtain ⟨b1,o1,E1⟩:=H.Y1 7 rfl ((stk.length)-1) yQ
  refine tk (fun _ Z=>ZG E1 yQ rfl rfl yM)<|tk (fun _ Z=>yB (Z.el 7 rfl E1 ha) 0 yA yM) ?_
  obtain ⟨b2,o2,E2⟩:=H.Y1 6 rfl (i) yQ
  refine tk (fun _ Z=>ZG E2 rfl rfl rfl yM)<|Yg H 6 rfl E2 hy 0 (a) rfl rfl rfl rfl<|fun w1 H=>NT H 7 rfl 0 ((stk.length)-1) rfl rfl yQ yQ (.inl ⟨rfl,rfl⟩) (.inr ⟨_,by first|rfl|(congr 2;omega)⟩)<|fun v1 H=>Z6.mk ?_
  refine ⟨0,v1,vp,ps,Zh,loc.set i a,List.drop 0 (List.take (stk.length-1) stk),?_⟩
  refine ⟨rfl,?_⟩
  constructor
  .exact ⟨rfl,rfl,rfl,rfl,fun _=>Jo⟩
  refine ⟨yQ,?_⟩
  exact H.Z7 [7,7,7,7,7,7,7]<|fun H=>H.drop 7<|fun H=>H
 .rw [if_neg yQ]
  refine ZN H<|fun p1 w1 H=>YA H 7 rfl rfl<|ZW yQ<|bk<|Z9 rfl<|yI H 0 0 yF<|cF (Z5 yQ)<|Z9 rfl<|yI H 0 0 yF<|cF (Z5 yQ)<|Z9 rfl<|yI H 0 0 yF<|cF (Z5 yQ)<|Z9 rfl<|yI H 0 0 yF<|cF (Z5 yQ)<|Z9 rfl<|yI H 0 0 yF<|cT (ZI yP)<|ZL H [] [yJp0,yJp1,yJh2,yJp3,yJp4,yJp5,yJh6,yJp7,yJfr8] mixed k_d k_d<|fun w2 H=>yG rfl rfl<|yH 0 1 yF rfl ?_
  obtain ⟨b1,o1,E1⟩:=H.Y1 7 rfl ((stk.length)-1) yQ
  refine tk (fun _ Z=>ZG E1 yQ rfl rfl yM)<|tk (fun _ Z=>yB (Z.el 7 rfl E1 ha) 0 yA yM) ?_
  obtain ⟨b2,o2,E2⟩:=H.Y1 6 rfl (i) yQ
  refine tk (fun _ Z=>ZG E2 rfl rfl rfl yM)<|Yg H 6 rfl E2 hy 0 (a) rfl rfl rfl rfl<|fun w1 H=>Z6.mk ?_
  refine ⟨0,vs,vp,ps,Zh,loc.set i a,stk,?_⟩
  refine ⟨rfl,?_⟩
  constructor
  .exact k_w
  refine ⟨yQ,?_⟩
  exact H.Z7 [7,7,7,7,7,7,7]<|fun H=>H.drop 7<|fun H=>H
theorem ame (H:Sat g w (Pt cp (yN m [yK mp,vt,vg]) 158::Pt mp [vp,yL m.most] 221::Sl 223 256 Xh vp ps::Sl 3 1 ZJ vt Zt::Sl 2 1 ZJ vg Zh::Sl 2 1 ZJ vl loc::Sl 2 1 ZJ vs stk::l)) (ho:x.op=35) (hb:0<=x.a/\x.a<Zh.length) (hlen:stk.length<=100000) (hp:ps.length<=8):yq 160 #[yK cp,.agg #[.int .u8 x.op,yL x.a,yL x.b,Sj],vl,vs] w (fun r w'=>∃e vs' Ta ps' W1 loc' YP,r=.tuple #[vs',yL e]/\NP (WE m.most x ⟨flat ps,Zt,Zh⟩ loc stk) e (flat ps') W1 loc' YP/\ps'.length<=8/\Sat g w' (Pt cp (yN m [yK mp,vt,vg]) 158::Pt mp [Ta,yL m.most] 221::Sl 223 256 Xh Ta ps'::Sl 3 1 ZJ vt Zt::Sl 2 1 ZJ vg W1::Sl 2 1 ZJ vl loc'::Sl 2 1 ZJ vs' YP::l)):=by
 refine Fc.of Tryz.func160 rfl k_d ?_
 obtain ⟨i,hi⟩:=lsa hb.1
 rw [hi] at hb ⊢
 obtain ⟨y,hy⟩:∃y,Zh[i]?=some y:=⟨_,laa yQ⟩
 have hd:WE m.most x ⟨flat ps,Zt,Zh⟩ loc stk=⟨⟨flat ps,Zt,Zh⟩,loc,stk++[y],0⟩:=by grind [WE]
 rw [hd]
 clear hd
 refine ZN H<|fun p1 w1 H=>YA H 7 rfl rfl<|ZW yQ<|bk<|Z9 rfl<|yI H 0 0 yF<|cF (Z5 yQ)<|Z9 rfl<|yI H 0 0 yF<|cF (Z5 yQ)<|Z9 rfl<|yI H 0 0 yF<|cF (Z5 yQ)<|Z9 rfl<|yI H 0 0 yF<|cF (Z5 yQ)<|Z9 rfl<|yI H 0 0 yF<|cF (Z5 yQ)<|Z9 rfl<|yI H 0 0 yF<|cT (ZI yP)<|ZL H [] [yJp0,yJp1,yJp2,yJp3,yJh4,yJp5,yJh6,yJp7,yJh8,yJfr9,yJfr10,yJp11,yJp12] mixed k_d k_d<|fun w2 H=>yG rfl rfl<|yH 1 13 yF rfl<|yG rfl rfl<|yH 0 1 yF rfl ?_
 obtain ⟨b1,o1,E1⟩:=H.Y1 5 rfl (i) yQ
 refine tk (fun _ Z=>ZG E1 rfl rfl rfl yM)<|tk (fun _ Z=>yB (Z.el 5 rfl E1 hy) 0 yA yM)<|ZZ H rfl rfl rfl rfl<|fun p2 w1 H=>W3 (ys:=[_]) 8 H 8 rfl (H.at 0 rfl) rfl (fun y _=>rfl) rfl rfl rfl yQ yQ<|fun v1 w2 H=>Z6.mk ?_
 refine ⟨0,v1,vp,ps,Zh,loc,stk++[y],?_⟩
 refine ⟨rfl,?_⟩
 constructor
 .exact k_w
 refine ⟨yQ,?_⟩
 exact H.Z7 [8,8,8,8,8,8,8]<|fun H=>yz H [8,7]<|fun H=>H
theorem amf (H:Sat g w (Pt cp (yN m [yK mp,vt,vg]) 158::Pt mp [vp,yL m.most] 221::Sl 223 256 Xh vp ps::Sl 3 1 ZJ vt Zt::Sl 2 1 ZJ vg Zh::Sl 2 1 ZJ vl loc::Sl 2 1 ZJ vs stk::l)) (ho:x.op=36) (hb:0<=x.a/\x.a<Zh.length) (h1:1<=stk.length) (hlen:stk.length<=100000) (hp:ps.length<=8):yq 160 #[yK cp,.agg #[.int .u8 x.op,yL x.a,yL x.b,Sj],vl,vs] w (fun r w'=>∃e vs' Ta ps' W1 loc' YP,r=.tuple #[vs',yL e]/\NP (WE m.most x ⟨flat ps,Zt,Zh⟩ loc stk) e (flat ps') W1 loc' YP/\ps'.length<=8/\Sat g w' (Pt cp (yN m [yK mp,vt,vg]) 158::Pt mp [Ta,yL m.most] 221::Sl 223 256 Xh Ta ps'::Sl 3 1 ZJ vt Zt::Sl 2 1 ZJ vg W1::Sl 2 1 ZJ vl loc'::Sl 2 1 ZJ vs' YP::l)):=by
 refine Fc.of Tryz.func160 rfl k_d ?_
 obtain ⟨a,ha,Im,Hq⟩:=Ew (s:=stk) yQ
 obtain ⟨i,hi⟩:=lsa hb.1
 rw [hi] at hb ⊢
 obtain ⟨y,hy⟩:∃y,Zh[i]?=some y:=⟨_,laa yQ⟩
 have hd:WE m.most x ⟨flat ps,Zt,Zh⟩ loc stk=⟨⟨flat ps,Zt,Zh.set i a⟩,loc,low stk 1,0⟩:=by grind [WE]
 rw [hd]
 clear hd
 refine ZN H<|fun p1 w1 H=>YA H 7 rfl rfl<|ZW yQ<|bk<|Z9 rfl<|yI H 0 0 yF<|cF (Z5 yQ)<|Z9 rfl<|yI H 0 0 yF<|cF (Z5 yQ)<|Z9 rfl<|yI H 0 0 yF<|cF (Z5 yQ)<|Z9 rfl<|yI H 0 0 yF<|cF (Z5 yQ)<|Z9 rfl<|yI H 0 0 yF<|cF (Z5 yQ)<|Z9 rfl<|yI H 0 0 yF<|cF (Z5 yQ)<|Z9 rfl<|yI H 0 0 yF<|cT (ZI yP)<|ZL H [] [yJp0,yJp1,yJp2,yJh3,yJp4,yJh5,yJp6,yJp7,yJp8,yJh9,yJp10,yJfr11] mixed k_d k_d<|fun w2 H=>yG rfl rfl<|yH 1 13 yF rfl<|yG rfl rfl<|yH 0 1 yF rfl ?_
 obtain ⟨b1,o1,E1⟩:=H.Y1 7 rfl ((stk.length)-1) yQ
 refine tk (fun _ Z=>ZG E1 yQ rfl rfl yM)<|tk (fun _ Z=>yB (Z.el 7 rfl E1 ha) 0 yA yM) ?_
 obtain ⟨b2,o2,E2⟩:=H.Y1 5 rfl (i) yQ
 refine tk (fun _ Z=>ZG E2 rfl rfl rfl yM)<|Yg H 5 rfl E2 hy 0 (a) rfl rfl rfl rfl<|fun w1 H=>NT H 7 rfl 0 ((stk.length)-1) rfl rfl yQ yQ (.inl ⟨rfl,rfl⟩) (.inr ⟨_,by first|rfl|(congr 2;omega)⟩)<|fun v1 H=>Z6.mk ?_
 refine ⟨0,v1,vp,ps,Zh.set i a,loc,List.drop 0 (List.take (stk.length-1) stk),?_⟩
 refine ⟨rfl,?_⟩
 constructor
 .exact ⟨rfl,rfl,rfl,rfl,fun _=>Jo⟩
 refine ⟨yQ,?_⟩
 exact H.Z7 [7,7,7,7,7,7,7]<|fun H=>H.drop 7<|fun H=>H
theorem amg (H:Sat g w (Pt cp (yN m [yK mp,vt,vg]) 158::Pt mp [vp,yL m.most] 221::Sl 223 256 Xh vp ps::Sl 3 1 ZJ vt Zt::Sl 2 1 ZJ vg Zh::Sl 2 1 ZJ vl loc::Sl 2 1 ZJ vs stk::l)) (ho:x.op=65\/x.op=66) (hlen:stk.length<=100000) (hp:ps.length<=8):yq 160 #[yK cp,.agg #[.int .u8 x.op,yL x.a,yL x.b,Sj],vl,vs] w (fun r w'=>∃e vs' Ta ps' W1 loc' YP,r=.tuple #[vs',yL e]/\NP (WE m.most x ⟨flat ps,Zt,Zh⟩ loc stk) e (flat ps') W1 loc' YP/\ps'.length<=8/\Sat g w' (Pt cp (yN m [yK mp,vt,vg]) 158::Pt mp [Ta,yL m.most] 221::Sl 223 256 Xh Ta ps'::Sl 3 1 ZJ vt Zt::Sl 2 1 ZJ vg W1::Sl 2 1 ZJ vl loc'::Sl 2 1 ZJ vs' YP::l)):=by
 refine Fc.of Tryz.func160 rfl k_d ?_
 have hd:WE m.most x ⟨flat ps,Zt,Zh⟩ loc stk=⟨⟨flat ps,Zt,Zh⟩,loc,stk++[x.a],0⟩:=by grind [WE]
 rw [hd]
 clear hd
 rcases ho with ho|ho
 .refine ZN H<|fun p1 w1 H=>YA H 7 rfl rfl<|ZW yQ<|bk<|Z9 rfl<|yI H 0 0 yF<|cF (Z5 yQ)<|Z9 rfl<|yI H 0 0 yF<|cF (Z5 yQ)<|Z9 rfl<|yI H 0 0 yF<|cF (Z5 yQ)<|Z9 rfl<|yI H 0 0 yF<|cF (Z5 yQ)<|Z9 rfl<|yI H 0 0 yF<|cF (Z5 yQ)<|Z9 rfl<|yI H 0 0 yF<|cF (Z5 yQ)<|Z9 rfl<|yI H 0 0 yF<|cF (Z5 yQ)<|Z9 rfl<|yI H 0 0 yF<|cT (ZI yP)<|cT (ZI yP)<|Z9 rfl<|yI H 0 1 yF<|ZZ H rfl rfl rfl rfl<|fun p2 w2 H=>W3 (ys:=[_]) 8 H 8 rfl (H.at 0 rfl) rfl (fun y _=>rfl) rfl rfl rfl yQ yQ<|fun v1 w1 H=>Z6.mk ?_
  refine ⟨0,v1,vp,ps,Zh,loc,stk++[x.a],?_⟩
  refine ⟨rfl,?_⟩
  constructor
  .exact k_w
  refine ⟨yQ,?_⟩
  exact H.Z7 [8,8,8,8,8,8,8]<|fun H=>yz H [8,7]<|fun H=>H
 .refine ZN H<|fun p1 w1 H=>YA H 7 rfl rfl<|ZW yQ<|bk<|Z9 rfl<|yI H 0 0 yF<|cF (Z5 yQ)<|Z9 rfl<|yI H 0 0 yF<|cF (Z5 yQ)<|Z9 rfl<|yI H 0 0 yF<|cF (Z5 yQ)<|Z9 rfl<|yI H 0 0 yF<|cF (Z5 yQ)<|Z9 rfl<|yI H 0 0 yF<|cF (Z5 yQ)<|Z9 rfl<|yI H 0 0 yF<|cF (Z5 yQ)<|Z9 rfl<|yI H 0 0 yF<|cF (Z5 yQ)<|Z9 rfl<|yI H 0 0 yF<|cF (Z5 yQ)<|Z9 rfl<|yI H 0 0 yF<|cT (ZI yP)<|Z9 rfl<|yI H 0 1 yF<|ZZ H rfl rfl rfl rfl<|fun p2 w2 H=>W3 (ys:=[_]) 8 H 8 rfl (H.at 0 rfl) rfl (fun y _=>rfl) rfl rfl rfl yQ yQ<|fun v1 w1 H=>Z6.mk ?_
  refine ⟨0,v1,vp,ps,Zh,loc,stk++[x.a],?_⟩
  refine ⟨rfl,?_⟩
  constructor
  .exact k_w
  refine ⟨yQ,?_⟩
  exact H.Z7 [8,8,8,8,8,8,8]<|fun H=>yz H [8,7]<|fun H=>H
theorem amh (H:Sat g w (Pt cp (yN m [yK mp,vt,vg]) 158::Pt mp [vp,yL m.most] 221::Sl 223 256 Xh vp ps::Sl 3 1 ZJ vt Zt::Sl 2 1 ZJ vg Zh::Sl 2 1 ZJ vl loc::Sl 2 1 ZJ vs stk::l)) (ho:x.op=63) (hlen:stk.length<=100000) (hp:ps.length<=8):yq 160 #[yK cp,.agg #[.int .u8 x.op,yL x.a,yL x.b,Sj],vl,vs] w (fun r w'=>∃e vs' Ta ps' W1 loc' YP,r=.tuple #[vs',yL e]/\NP (WE m.most x ⟨flat ps,Zt,Zh⟩ loc stk) e (flat ps') W1 loc' YP/\ps'.length<=8/\Sat g w' (Pt cp (yN m [yK mp,vt,vg]) 158::Pt mp [Ta,yL m.most] 221::Sl 223 256 Xh Ta ps'::Sl 3 1 ZJ vt Zt::Sl 2 1 ZJ vg W1::Sl 2 1 ZJ vl loc'::Sl 2 1 ZJ vs' YP::l)):=by
 refine Fc.of Tryz.func160 rfl k_d ?_
 have hd:WE m.most x ⟨flat ps,Zt,Zh⟩ loc stk=⟨⟨flat ps,Zt,Zh⟩,loc,stk++[(ps.length:Int)],0⟩:=by
  unfold WE
  rw [if_neg yQ,if_neg yQ,if_neg yQ,if_neg yQ,if_neg yQ,if_neg yQ,if_neg yQ,if_neg yQ,if_pos ho,Tp]
 rw [hd]
 clear hd
 refine ZN H<|fun p1 w1 H=>YA H 7 rfl rfl<|ZW yQ<|bk<|Z9 rfl<|yI H 0 0 yF<|cF (Z5 yQ)<|Z9 rfl<|yI H 0 0 yF<|cF (Z5 yQ)<|Z9 rfl<|yI H 0 0 yF<|cF (Z5 yQ)<|Z9 rfl<|yI H 0 0 yF<|cF (Z5 yQ)<|Z9 rfl<|yI H 0 0 yF<|cF (Z5 yQ)<|Z9 rfl<|yI H 0 0 yF<|cF (Z5 yQ)<|Z9 rfl<|yI H 0 0 yF<|cF (Z5 yQ)<|Z9 rfl<|yI H 0 0 yF<|cF (Z5 yQ)<|Z9 rfl<|yI H 0 0 yF<|cF (Z5 yQ)<|Z9 rfl<|yI H 0 0 yF<|cT (ZI yP)<|Z9 rfl<|yI H 1 11 yF<|H.Z7 [3,3]<|fun H=>?_
 refine Z8.mk (Fc.imp (Mem.size H) ?_)
 rintro _ w2 ⟨rfl,H⟩
 refine ZZ H rfl rfl rfl rfl<|fun p2 w3 H=>W3 (ys:=[_]) 8 H 8 rfl (H.at 0 rfl) rfl (fun y _=>rfl) rfl rfl rfl yQ yQ<|fun v1 w2 H=>Z6.mk ?_
 refine ⟨0,v1,vp,ps,Zh,loc,stk++[(↑ps.length:Int)],?_⟩
 refine ⟨rfl,?_⟩
 constructor
 .exact k_w
 refine ⟨yQ,?_⟩
 exact H.Z7 [8,8,8,8,6,6,8]<|fun H=>yz H [8,7]<|fun H=>H
theorem ami (H:Sat g w (Pt cp (yN m [yK mp,vt,vg]) 158::Pt mp [vp,yL m.most] 221::Sl 223 256 Xh vp ps::Sl 3 1 ZJ vt Zt::Sl 2 1 ZJ vg Zh::Sl 2 1 ZJ vl loc::Sl 2 1 ZJ vs stk::l)) (ho:x.op=64) (h1:1<=stk.length) (TS:∀v∈stk,XC v) (hm:ps.length<=m.most/\m.most<=8) (hlen:stk.length<=100000) (hp:ps.length<=8):yq 160 #[yK cp,.agg #[.int .u8 x.op,yL x.a,yL x.b,Sj],vl,vs] w (fun r w'=>∃e vs' Ta ps' W1 loc' YP,r=.tuple #[vs',yL e]/\NP (WE m.most x ⟨flat ps,Zt,Zh⟩ loc stk) e (flat ps') W1 loc' YP/\ps'.length<=8/\Sat g w' (Pt cp (yN m [yK mp,vt,vg]) 158::Pt mp [Ta,yL m.most] 221::Sl 223 256 Xh Ta ps'::Sl 3 1 ZJ vt Zt::Sl 2 1 ZJ vg W1::Sl 2 1 ZJ vl loc'::Sl 2 1 ZJ vs' YP::l)):=by
 refine Fc.of Tryz.func160 rfl k_d ?_
 obtain ⟨a,ha,Im,Hq⟩:=Ew (s:=stk) yQ
 have Eu:=TS a Hq
 have hd:WE m.most x ⟨flat ps,Zt,Zh⟩ loc stk=(if m.most-(ps.length:Int)<a % 4294967296 then ⟨⟨flat ps,Zt,Zh⟩,loc,low stk 1++[-1],0⟩ else ⟨⟨flat ps++List.replicate (256 * (a % 4294967296).toNat) 0,Zt,Zh⟩,loc,low stk 1++[(ps.length:Int)],0⟩):=by
  unfold WE
  rw [if_neg yQ,if_neg yQ,if_neg yQ,if_neg yQ,if_neg yQ,if_neg yQ,if_neg yQ,if_neg yQ,if_neg yQ,if_pos ho,Im,Tp]
 rw [hd]
 clear hd
 refine ZN H<|fun p1 w1 H=>YA H 7 rfl rfl<|ZW yQ<|bk<|Z9 rfl<|yI H 0 0 yF<|cF (Z5 k_h)<|Z9 rfl<|yI H 0 0 yF<|cF (Z5 k_h)<|Z9 rfl<|yI H 0 0 yF<|cF (Z5 k_h)<|Z9 rfl<|yI H 0 0 yF<|cF (Z5 k_h)<|Z9 rfl<|yI H 0 0 yF<|cF (Z5 k_h)<|Z9 rfl<|yI H 0 0 yF<|cF (Z5 k_h)<|Z9 rfl<|yI H 0 0 yF<|cF (Z5 k_h)<|Z9 rfl<|yI H 0 0 yF<|cF (Z5 k_h)<|Z9 rfl<|yI H 0 0 yF<|cF (Z5 k_h)<|Z9 rfl<|yI H 0 0 yF<|cF (Z5 k_h)<|Z9 rfl<|yI H 0 0 yF<|cT (ZI k_h)<|ZL H [] [yJp0,yJp1,yJp2,yJp3,yJp4,yJh5,yJp6,yJp7,yJp8,yJh9,yJfr10,yJp11,yJfr12] mixed k_d k_d<|fun w2 H=>yG rfl rfl<|yH 1 11 yF rfl ?_
 obtain ⟨b1,o1,E1⟩:=H.Y1 7 rfl ((stk.length)-1) yQ
 refine tk (fun _ Z=>ZG E1 yQ rfl rfl yM)<|tk (fun _ Z=>yB (Z.el 7 rfl E1 ha) 0 yA yM)<|H.Z7 [3,3]<|fun H=>?_
 refine Z8.mk (Fc.imp (Mem.grow H _ ?_ ?_ ?_) ?_)
 .exact k_h
 .exact k_h
 .exact k_h
 rintro _ w1 ⟨e1,⟨v'1,⟨Qf,⟨rfl,⟨(⟨h2,⟨h3,h4⟩⟩|⟨h5,⟨h6,h7⟩⟩),H⟩⟩⟩⟩⟩
 .refine tk (fun _ Z=>ZG E1 yQ rfl rfl yM)<|Yg H 7 rfl E1 ha 0 (e1) rfl rfl rfl rfl<|fun w3 H=>Z6.mk ?_
  refine ⟨0,vs,v'1,Qf,Zh,loc,stk.set (stk.length-1) e1,?_⟩
  refine ⟨rfl,?_⟩
  constructor
  .exact gr0 h1 yQ yP yP
  constructor
  .exact k_h
  exact H.Z7 [7,7,7,7,5,5,7]<|fun H=>H.drop 7<|fun H=>H
 refine tk (fun _ Z=>ZG E1 yQ rfl rfl yM)<|Yg H 7 rfl E1 ha 0 (e1) rfl rfl rfl rfl<|fun w3 H=>Z6.mk ?_
 refine ⟨0,vs,v'1,Qf,Zh,loc,stk.set (stk.length-1) e1,?_⟩
 refine ⟨rfl,?_⟩
 constructor
 .exact gr1 h1 yQ yP yP
 constructor
 .exact k_h
 exact H.Z7 [7,7,7,7,5,5,7]<|fun H=>H.drop 7<|fun H=>H
theorem amj (H:Sat g w (Pt cp (yN m [yK mp,vt,vg]) 158::Pt mp [vp,yL m.most] 221::Sl 223 256 Xh vp ps::Sl 3 1 ZJ vt Zt::Sl 2 1 ZJ vg Zh::Sl 2 1 ZJ vl loc::Sl 2 1 ZJ vs stk::l)) (ho:36<x.op/\x.op<=255) (hw:0<wid x.op) (TS:∀v∈stk,XC v) (hn:UE x.op<=stk.length) (hb:0<=x.b/\x.b<=4294967295) (hlen:stk.length<=100000) (hp:ps.length<=8):yq 160 #[yK cp,.agg #[.int .u8 x.op,yL x.a,yL x.b,Sj],vl,vs] w (fun r w'=>∃e vs' Ta ps' W1 loc' YP,r=.tuple #[vs',yL e]/\NP (WE m.most x ⟨flat ps,Zt,Zh⟩ loc stk) e (flat ps') W1 loc' YP/\ps'.length<=8/\Sat g w' (Pt cp (yN m [yK mp,vt,vg]) 158::Pt mp [Ta,yL m.most] 221::Sl 223 256 Xh Ta ps'::Sl 3 1 ZJ vt Zt::Sl 2 1 ZJ vg W1::Sl 2 1 ZJ vl loc'::Sl 2 1 ZJ vs' YP::l)):=by
 refine Fc.of Tryz.func160 rfl k_d ?_
 have B6:=RP hw
 have BB:=Q8 x.op
 have hd:WE m.most x ⟨flat ps,Zt,Zh⟩ loc stk=_:=rfl
 rw [hd]
 clear hd
 refine ZN H<|fun p1 w1 H=>YA H 7 rfl rfl<|ZW yQ<|bk<|Z9 rfl<|yI H 0 0 yF<|cF (Z5 yQ)<|Z9 rfl<|yI H 0 0 yF<|cF (Z5 yQ)<|Z9 rfl<|yI H 0 0 yF<|cF (Z5 yQ)<|Z9 rfl<|yI H 0 0 yF<|cF (Z5 yQ)<|Z9 rfl<|yI H 0 0 yF<|cF (Z5 yQ)<|Z9 rfl<|yI H 0 0 yF<|cF (Z5 yQ)<|Z9 rfl<|yI H 0 0 yF<|cF (Z5 yQ)<|Z9 rfl<|yI H 0 0 yF<|cF (Z5 yQ)<|Z9 rfl<|yI H 0 0 yF<|cF (Z5 yQ)<|Z9 rfl<|yI H 0 0 yF<|cF (Z5 yQ)<|Z9 rfl<|yI H 0 0 yF<|cF (Z5 yQ)<|Z9 rfl<|yI H 0 0 yF ?_
 refine Z8.mk (Fc.imp (YV.KQ _ _) ?_)
 rintro _ _ ⟨⟨r1,⟨rfl,h1⟩⟩,rfl⟩
 refine cT (Zd yQ)<|ZF (H.at 0 rfl) 0 rfl rfl rfl<|H.Z7 [7,6,6,6,6,6]<|fun H=>?_
 refine Z8.mk (Fc.imp (Rn.al9 H yQ yQ yQ yQ yQ yQ yQ) ?_)
 rintro _ w2 ⟨e1,⟨Zu,⟨Qf,⟨To,⟨rfl,⟨h2,⟨h3,H⟩⟩⟩⟩⟩⟩⟩
 refine Z6.mk ?_
 refine ⟨e1,Zu,vp,Qf,Zh,loc,To,?_⟩
 refine ⟨rfl,?_⟩
 constructor
 .grind
 refine ⟨yQ,?_⟩
 exact H.Z7 [5,7,6,6,6,6,6]<|fun H=>H.drop 7<|fun H=>H
theorem amk (H:Sat g w (Pt cp (yN m [yK mp,vt,vg]) 158::Pt mp [vp,yL m.most] 221::Sl 223 256 Xh vp ps::Sl 3 1 ZJ vt Zt::Sl 2 1 ZJ vg Zh::Sl 2 1 ZJ vl loc::Sl 2 1 ZJ vs stk::l)) (ho:36<x.op/\x.op<=255) (hw:¬0<wid x.op) (hq:(Xf x.op).2.2=true) (c1:x.op≠63/\x.op≠64/\x.op≠65/\x.op≠66) (TS:∀v∈stk,XC v) (hn:UE x.op<=stk.length) (hT:Fold.I6 g) (hlen:stk.length<=100000) (hp:ps.length<=8):yq 160 #[yK cp,.agg #[.int .u8 x.op,yL x.a,yL x.b,Sj],vl,vs] w (fun r w'=>∃e vs' Ta ps' W1 loc' YP,r=.tuple #[vs',yL e]/\NP (WE m.most x ⟨flat ps,Zt,Zh⟩ loc stk) e (flat ps') W1 loc' YP/\ps'.length<=8/\Sat g w' (Pt cp (yN m [yK mp,vt,vg]) 158::Pt mp [Ta,yL m.most] 221::Sl 223 256 Xh Ta ps'::Sl 3 1 ZJ vt Zt::Sl 2 1 ZJ vg W1::Sl 2 1 ZJ vl loc'::Sl 2 1 ZJ vs' YP::l)):=by
 refine Fc.of Tryz.func160 rfl k_d ?_
 have BB:=Q8 x.op
 obtain ⟨n1,n2,n3⟩:=ac4 hq hw c1.1 c1.2.1 c1.2.2.1 c1.2.2.2
 have hnn:(Xf x.op).1.length=1\/(Xf x.op).1.length=2:=by
  rw [n2]
  by_cases h:(XS x.op).1.length=1
  .omega
  .exact .inr (ac3 (a:=0) (b:=0) n1 h).2.2.2
 unfold UE at hn
 rw [if_neg yQ,if_neg yQ,if_pos yQ] at hn
 have hd:WE m.most x ⟨flat ps,Zt,Zh⟩ loc stk=(if (Xf x.op).1.length=1 then ⟨⟨flat ps,Zt,Zh⟩,loc,low stk 1++[(Xq.UO x.op (top stk 0)).1],(Xq.UO x.op (top stk 0)).2⟩ else ⟨⟨flat ps,Zt,Zh⟩,loc,low stk 2++[(Xq.UP x.op (top stk 1) (top stk 0)).1],(Xq.UP x.op (top stk 1) (top stk 0)).2⟩):=by grind [WE]
 rw [hd]
 clear hd
 refine ZN H<|fun p1 w1 H=>YA H 7 rfl rfl<|ZW yQ<|bk<|Z9 rfl<|yI H 0 0 yF<|cF (Z5 yQ)<|Z9 rfl<|yI H 0 0 yF<|cF (Z5 yQ)<|Z9 rfl<|yI H 0 0 yF<|cF (Z5 yQ)<|Z9 rfl<|yI H 0 0 yF<|cF (Z5 yQ)<|Z9 rfl<|yI H 0 0 yF<|cF (Z5 yQ)<|Z9 rfl<|yI H 0 0 yF<|cF (Z5 yQ)<|Z9 rfl<|yI H 0 0 yF<|cF (Z5 yQ)<|Z9 rfl<|yI H 0 0 yF<|cF (Z5 yQ)<|Z9 rfl<|yI H 0 0 yF<|cF (Z5 yQ)<|Z9 rfl<|yI H 0 0 yF<|cF (Z5 yQ)<|Z9 rfl<|yI H 0 0 yF<|cF (Z5 yQ)<|Z9 rfl<|yI H 0 0 yF ?_
 refine Z8.mk (Fc.imp (YV.KQ _ _) ?_)
 rintro _ _ ⟨⟨r1,⟨rfl,h1⟩⟩,rfl⟩
 refine cF (Zk yQ)<|Z9 rfl<|yI H 0 0 yF<|H.Z7 [7]<|fun H=>?_
 refine Z8.mk (Fc.imp (Rn.aha H yQ _ yQ yQ yQ yQ yQ) ?_)
 rintro _ w2 ⟨Zu,⟨To,⟨e1,⟨rfl,⟨h2,H⟩⟩⟩⟩⟩
 refine Z6.mk ?_
 refine ⟨e1,Zu,vp,ps,Zh,loc,To,?_⟩
 refine ⟨rfl,?_⟩
 constructor
 .exact aoX yP
 refine ⟨yQ,?_⟩
 exact H.Z7 [0,7,7,7,7,7,7]<|fun H=>H.drop 7<|fun H=>H
end
end Rn
namespace Xy
open Go YY Go.RowKit
open YV Zo X7 Y3 Valid
section
variable {g:ZE} {w:World} {l:List As} {m:Zq}
theorem within (H:Sat g w l) (a many all:Int) (ha:-2147483648<=a/\a<=2147483647) (hm:0<=many/\many<=1000000) (hl:0<=all/\all<=1000000):yq 43 #[yL a,yL many,yL all] w (fun r w'=>∃b,r=.bool b/\(b=true↔(0<=a/\a+many<=all))/\Sat g w' l):=by
 refine Fc.of Tryz.func43 rfl k_d<|Yl rfl rfl<|Xj yQ rfl rfl<|ZW yQ<|Z6.mk ?_
 exact ⟨_,rfl,by simp [YF];omega,H⟩
end
end Xy
namespace Xy
open Go YY Go.RowKit
open YV Zo X7 Y3 Valid
section
variable {g:ZE} {w:World} {l:List As} {m:Zq}
theorem afr {l:yp} {i:Nat} (h:l=List.replicate i (-1)):l++[-1]=List.replicate (i+1) (-1):=by
 rw [h,List.replicate_succ']
theorem afs {l:yp} {xs:List (Int × Bool × Int)} {i:Nat} {x:Int × Bool × Int} (h:l=(xs.take i).map (·.2.2)) (hx:xs[i]?=some x):l++[x.2.2]=(xs.take (i+1)).map (·.2.2):=by grind [List.take_add_one]
theorem ah0 {x:UH} (h:EV x.d=0):(-2147483648<=x.pl/\x.pl<=2147483647)/\x.fs.length<=16:=by
 unfold EV at h
 obtain ⟨h1,h2⟩:=Zi.1 h
 have h3:=(V4.1 h2).1
 unfold Oj at h1
 by_cases hq:-2147483648<=x.d.1/\x.d.1<=2147483647
 .exact ⟨hq,by have:x.d.2.length=x.fs.length:=rfl;omega⟩
 .omega
theorem aml {x:Int × yo} (h:L7 x=0):(-2147483648<=x.1/\x.1<=2147483647)/\x.2.length<=64:=by
 unfold L7 at h
 obtain ⟨h1,h2⟩:=Zi.1 h
 unfold Oj at h1
 unfold LP at h2
 refine ⟨yQ,?_⟩
 .omega
theorem amm (H:Sat g w l) (hT:NH g) (hm:XL g m):yq 14 #[.agg (yN m []).toArray] w (fun r w'=>∃(g':ZE) (mem:yo) (ts gs:yp) (vt vg:Value) (e:Int),r=.tuple #[.agg #[.string (bs mem),vt,vg],yL e]/\Ext g g'/\Z0 g' ZJ WX 1 vt ts/\Z0 g' ZJ WX 1 vg gs/\EC m mem ts gs e/\Sat g' w' l):=by
 refine Fc.of Tryz.func14 rfl k_d ?_
 have ZT:=hm.types
 have ZO:=hm.funcs
 have Zv:=hm.globals
 have Zy:=hm.ZA
 have Yz:=hm.WI
 have YR:=hm.elems
 have XO:=hm.data
 by_cases h0:WA m.d=0
 .obtain ⟨zo,hI,AG⟩:=UR (Xw h0).1
  have P:=Vf zo
  have ac9:=P.table
  have ada:=P.pages
  have ajv:=P.most
  have adE:=P.globals
  have ann:=P.elems
  have aoY:=P.data
  obtain ⟨tb,htb⟩:=lsa ac9.1
  obtain ⟨pg,hpg⟩:=lsa ada.1
  refine ZN H<|fun p1 w1 H=>ZU H rfl<|fun p2 w2 H=>ZF (H.at 1 rfl) 0 rfl rfl rfl ?_
  refine Z8.mk (Fc.imp (Valid.RT H yQ yQ) ?_)
  rintro _ w1 ⟨e1,⟨rfl,⟨h1,H⟩⟩⟩
  refine cF (WY yQ)<|Z9 rfl<|yI H 1 9 yF<|ZK YR rfl ?_
  refine Y6.rule (α:=Nat) (0) (fun x_=>[(24,yL x_)]) (fun x_ w_=>(x_<=m.elems.length)/\(AI (fun x:UH=>ED x.pl x.fs.length m.table) m.elems x_)/\Sat g w_ ((Pt p2 [.string (bs []),.slice none 0 0,.slice none 0 0] 34::Pt p1 (yN m []) 30::l))) (fun x_=>m.elems.length-x_) ?_ ?_ ?_
  .exact k_a
  .try simp only
   refine ⟨yQ,?_⟩
   constructor
   .exact AI.zero
   exact H
  rintro i f_ w_ ⟨hi,hA,H⟩
  try simp only at hi hA H ⊢
  rcases lya i m.elems.length with hlt|hge
  .obtain ⟨x,hx⟩:∃x,m.elems[i]?=some x:=⟨_,laa hlt⟩
   have JA:=lda hx
   have Kz:=Z0.all YR x JA
   have RF:=Kz.fs
   have HT:=ah0 (P.KD x JA)
   refine cT (Zd yQ)<|bk ?_
   obtain ⟨b1,o1,E1,F1,ZH⟩:=Z0.Y1 YR hx
   have RX:=ZH.pl
   have Vl:=ZH.fs
   refine ZG E1 rfl rfl rfl<|ZF (H.Yq F1) 0 rfl rfl rfl<|ZU H rfl<|fun p3 w3 H=>ZC H 0 rfl rfl rfl (by simp only [yq9,yq8,Z0.one Vl,Z0.one RF,Z0.one XO,Z0.one YR,Z0.one Yz,Z0.one Zy,Z0.one Zv,Z0.one ZO,Z0.one ZT];rfl)<|fun w4 H=>Z9 rfl<|yI H 0 0 yF<|Z9 rfl<|yI H 0 1 yF<|ZK Vl rfl<|Z9 rfl<|yI H 2 3 yF ?_
   refine Z8.mk (Fc.imp (Xy.within H _ _ _ yQ yQ yQ) ?_)
   rintro _ w3 ⟨b2,⟨rfl,⟨h2,H⟩⟩⟩
   refine cI (fun c1=>?_) (fun c1=>?_)
   .replace c1:=VN h2 (Vb (c1))
    exact Zs rfl rfl rfl<|ZC H 1 rfl rfl rfl rfl<|fun w5 H=>Xr (H.at 1 rfl) 0 rfl rfl rfl<|Z6.mk<|⟨g,[],[],[],_,_,_,rfl,Ext.refl _,Z0.NR _ _ _ _,Z0.NR _ _ _ _,mk2 yQ hA hx yQ,((H.del 0).del 0).del 0⟩
   replace c1:=h2.1 (Va (c1))
   refine ZW yQ ?_
   refine Xs.mk (i+1) (Zw rfl yQ (ZY)) ?_ ?_
   .refine ⟨yQ,?_⟩
    constructor
    .exact hA.step hx (Jw.2 yQ)
    exact H.Z7 [2,2]<|fun H=>H.drop 2<|fun H=>H
   omega
  .have hE:=hA.fin hge
   refine cF (Zk yQ)<|Z9 rfl<|yI H 1 4 yF<|ZW yQ<|Ud (en:=SK) (s:=1) H ((0:UInt8)) ((m.pages * 256).toNat) ((m.pages * 256).toNat) 1 rfl rfl rfl (fun _=>rfl) yQ yQ yQ yQ yQ<|fun v1 w3 H=>Z9 rfl<|yI H 2 10 yF<|ZK XO rfl ?_
   rw [show (m.pages * 256).toNat=256 * m.pages.toNat by omega] at H
   refine Y6.rule (α:=Nat × yo) (0,List.replicate (256 * m.pages.toNat) 0) (fun x_=>[(46,yL x_.1)]) (fun x_ w_=>(x_.1<=m.data.length)/\(AI (fun x:Int × yo=>ED x.1 x.2.length (m.pages * 256)) m.data x_.1)/\(LM (256 * m.pages.toNat) m.data x_.1 x_.2)/\Sat g w_ ((Sl 5 1 SK v1 x_.2::Pt p2 [.string (bs []),.slice none 0 0,.slice none 0 0] 34::Pt p1 (yN m []) 30::l))) (fun x_=>m.data.length-x_.1) ?_ ?_ ?_
   .exact k_a
   .try simp only
    refine ⟨yQ,?_⟩
    constructor
    .exact AI.zero
    constructor
    .exact LM.zero
    exact H
   rintro ⟨i2,cur⟩ f_ w_ ⟨hi2,hB,hL,H⟩
   try simp only at hi2 hB hL H ⊢
   have SA:=hL.len
   rcases lya i2 m.data.length with KG|KC
   .obtain ⟨x,hx⟩:∃x,m.data[i2]?=some x:=⟨_,laa KG⟩
    have JA:=lda hx
    have Kz:=Z0.all XO x JA
    have HT:=aml (P.als x JA)
    refine cT (Zd yQ)<|bk ?_
    obtain ⟨b1,o1,E1,F1,ZH⟩:=Z0.Y1 XO hx
    have RX:=ZH.pl
    have aat:=ZH.bytes
    refine ZG E1 rfl rfl rfl<|ZF (H.Yq F1) 0 rfl rfl rfl<|ZU H rfl<|fun p3 w4 H=>ZC H 0 rfl rfl rfl rfl<|fun w5 H=>Z9 rfl<|yI H 0 0 yF<|Z9 rfl<|yI H 0 1 yF<|XA rfl<|YA H 1 rfl rfl ?_
    refine Z8.mk (Fc.imp (Xy.within H _ _ _ yQ yQ yQ) ?_)
    rintro _ w4 ⟨b2,⟨rfl,⟨h2,H⟩⟩⟩
    refine cI (fun c1=>?_) (fun c1=>?_)
    .replace c1:=VN h2 (Vb (c1))
     exact Zs rfl rfl rfl<|ZC H 2 rfl rfl rfl rfl<|fun w6 H=>Xr (H.at 2 rfl) 0 rfl rfl rfl<|Z6.mk<|⟨g,[],[],[],_,_,_,rfl,Ext.refl _,Z0.NR _ _ _ _,Z0.NR _ _ _ _,mk3 yQ hE hB hx yQ,(((H.del 0).del 0).del 0).del 0⟩
    replace c1:=h2.1 (Va (c1))
    refine ZL H [] [yJp0,yJp1,yJh2,yJp3,yJp4,yJh5,yJfr6] mixed k_d k_d<|fun w6 H=>yG rfl rfl<|yH 0 0 yF rfl ?_
    obtain ⟨v2,V1⟩:=H.vw 1 rfl ((x.fst).toNat) ((cur).length) yQ yQ
    refine tk (fun _ Z=>Wr V1 rfl rfl (.inr ⟨_,by first|rfl|(congr 2;omega)⟩) (.inl yM) yM)<|yG rfl rfl<|yH 0 1 yF rfl<|ags H 1 rfl V1 yQ rfl rfl<|fun w9 H=>ZW yQ ?_
    refine Xs.mk ((i2+1,List.take x.fst.toNat cur++x.snd++List.drop (x.fst.toNat+x.snd.length) cur)) (Zw rfl yQ (ZY)) ?_ ?_
    .refine ⟨yQ,?_⟩
     constructor
     .exact hB.step hx (Jw.2 yQ)
     constructor
     .exact hL.step hx yQ
     exact H.Z7 [3,3,3]<|fun H=>H.drop 3<|fun H=>H
    omega
   .have hD:=hB.fin KC
    have hmem:=hL.fin KC
    refine cF (Zk yQ)<|ZU H rfl<|fun p3 w4 H=>Z9 rfl<|yI H 3 3 yF ?_
    replace H:=H.VS (en:=ZJ) (s:=1) 3 (fun _=>rfl)
    have apQ:m.table.toNat=tb:=by omega
    refine Y6.rule (α:=Nat × Value × yp) (0,.slice none 0 0,[]) (fun x_=>[(70,yL x_.1)]) (fun x_ w_=>(x_.1<=tb)/\(x_.2.2=List.replicate x_.1 (-1))/\Sat g w_ ((Sl 3 1 ZJ x_.2.1 x_.2.2::Pt p3 [.string (bs []),x_.2.1,.slice none 0 0] 34::Sl 5 1 SK v1 cur::Pt p2 [.string (bs []),.slice none 0 0,.slice none 0 0] 34::Pt p1 (yN m []) 30::l))) (fun x_=>tb-x_.1) ?_ ?_ ?_
    .exact k_a
    .try simp only
     refine ⟨yQ,?_⟩
     constructor
     .simp
     exact H
    rintro ⟨i3,vt,tc⟩ f_ w_ ⟨zM,Et,H⟩
    try simp only at zM Et H ⊢
    have NX:tc.length=i3:=by grind
    rcases lya i3 tb with alG|C4
    .refine cT (Zd yQ)<|bk<|Z9 rfl<|yI H 1 1 yF<|ZZ H rfl rfl rfl rfl<|fun p4 w5 H=>W3 (ys:=[_]) 8 H 1 rfl (H.at 0 rfl) rfl (fun y _=>rfl) rfl rfl rfl yQ yQ<|fun v2 w6 H=>Z9 rfl<|Yo H 2 rfl rfl rfl (H.one 1 rfl)<|fun w5 H=>ZW yQ ?_
     refine Xs.mk ((i3+1,v2,tc++[-1])) (Zw rfl yQ (ZY)) ?_ ?_
     .refine ⟨yQ,?_⟩
      constructor
      .exact afr Et
      exact H.Z7 [5,5,5,5,5]<|fun H=>H.drop 5<|fun H=>H
     omega
    .have aoZ:i3=m.table.toNat:=by omega
     have hLT:LT m.table.toNat m.elems 0 tc:=by
      rw [Et,aoZ];exact LT.zero
     refine cF (Zk yQ)<|Z9 rfl<|yI H 4 9 yF<|ZK YR rfl ?_
     refine Y6.rule (α:=Nat × yp) (0,tc) (fun x_=>[(81,yL x_.1)]) (fun x_ w_=>(x_.1<=m.elems.length)/\(LT m.table.toNat m.elems x_.1 x_.2)/\Sat g w_ ((Sl 3 1 ZJ vt x_.2::Pt p3 [.string (bs []),vt,.slice none 0 0] 34::Sl 5 1 SK v1 cur::Pt p2 [.string (bs []),.slice none 0 0,.slice none 0 0] 34::Pt p1 (yN m []) 30::l))) (fun x_=>m.elems.length-x_.1) ?_ ?_ ?_
     .exact k_a
     .grind
     rintro ⟨i4,tu⟩ f_ w_ ⟨hi4,hJ,H⟩
     try simp only at hi4 hJ H ⊢
     have apR:=hJ.len
     rcases lya i4 m.elems.length with ao0|C5
     .obtain ⟨x,hx⟩:∃x,m.elems[i4]?=some x:=⟨_,laa ao0⟩
      have JA:=lda hx
      have Kz:=Z0.all YR x JA
      have RF:=Kz.fs
      have HT:=ah0 (P.KD x JA)
      have apA:=Jw.1 (T8.1 hE x JA)
      refine cT (Zd yQ)<|bk ?_
      obtain ⟨b1,o1,E1,F1,ZH⟩:=Z0.Y1 YR hx
      have RX:=ZH.pl
      have Vl:=ZH.fs
      refine ZG E1 rfl rfl rfl<|ZF (H.Yq F1) 0 rfl rfl rfl<|ZU H rfl<|fun p4 w5 H=>ZC H 0 rfl rfl rfl (by simp only [yq9,yq8,H.one 1 rfl,H.one 3 rfl,Z0.one Vl,Z0.one RF,Z0.one XO,Z0.one YR,Z0.one Yz,Z0.one Zy,Z0.one Zv,Z0.one ZO,Z0.one ZT];rfl)<|fun w6 H=>ZL H [] [yJp0,yJh1,yJp2,yJh3,yJp4,yJp5,yJh6,yJfr7] mixed k_d k_d<|fun w5 H=>yG rfl rfl<|yH 2 1 yF rfl<|yG rfl rfl<|yH 0 0 yF rfl ?_
      obtain ⟨v2,V1⟩:=H.vw 1 rfl ((x.pl).toNat) ((tu).length) yQ yQ
      refine tk (fun _ Z=>Wr V1 rfl rfl (.inr ⟨_,by first|rfl|(congr 2;omega)⟩) (.inl yM) yM)<|yG rfl rfl<|yH 0 1 yF rfl<|agt H 1 rfl V1 (H.rd RF) yQ (fun y _=>rfl) rfl rfl<|fun w9 H=>ZW yQ ?_
      refine Xs.mk ((i4+1,List.take x.pl.toNat tu++x.fs++List.drop (x.pl.toNat+x.fs.length) tu)) (Zw rfl yQ (ZY)) ?_ ?_
      .refine ⟨yQ,?_⟩
       constructor
       .exact hJ.step hx yQ (Z0.all RF)
       exact H.Z7 [5,5,5,5,5]<|fun H=>H.drop 5<|fun H=>H
      omega
     .have Q4:=hJ.fin C5
      refine cF (Zk yQ)<|Z9 rfl<|yI H 4 6 yF<|ZK Zv rfl ?_
      replace H:=H.VS (en:=ZJ) (s:=1) 2 (fun _=>rfl)
      refine Y6.rule (α:=Nat × Value × yp) (0,.slice none 0 0,[]) (fun x_=>[(97,yL x_.1)]) (fun x_ w_=>(x_.1<=m.globals.length)/\(x_.2.2=(m.globals.take x_.1).map (·.2.2))/\Sat g w_ ((Sl 2 1 ZJ x_.2.1 x_.2.2::Sl 3 1 ZJ vt tu::Pt p3 [.string (bs []),vt,x_.2.1] 34::Sl 5 1 SK v1 cur::Pt p2 [.string (bs []),.slice none 0 0,.slice none 0 0] 34::Pt p1 (yN m []) 30::l))) (fun x_=>m.globals.length-x_.1) ?_ ?_ ?_
      .exact k_a
      .grind
      rintro ⟨i5,vg,gc⟩ f_ w_ ⟨hi5,hG,H⟩
      try simp only at hi5 hG H ⊢
      have zz:gc.length=i5:=by grind
      rcases lya i5 m.globals.length with alD|aox
      .obtain ⟨x,hx⟩:∃x,m.globals[i5]?=some x:=⟨_,laa alD⟩
       have Kz:=Z0.all Zv x (lda hx)
       have apB:=Kz.start
       refine cT (Zd yQ)<|bk ?_
       obtain ⟨b1,o1,E1,F1,ZH⟩:=Z0.Y1 Zv hx
       have Su:=ZH.kind
       have TC:=ZH.start
       refine ZG E1 rfl rfl rfl<|ZF (H.Yq F1) 0 rfl rfl rfl<|ZU H rfl<|fun p4 w5 H=>ZC H 0 rfl rfl rfl rfl<|fun w6 H=>Z9 rfl<|yI H 3 2 yF<|Z9 rfl<|yI H 0 2 yF<|ZZ H rfl rfl rfl rfl<|fun p5 w5 H=>W3 (ys:=[_]) 8 H 2 rfl (H.at 0 rfl) rfl (fun y _=>rfl) rfl rfl rfl yQ yQ<|fun v2 w6 H=>Z9 rfl<|Yo H 4 rfl rfl rfl (H.one 2 rfl)<|fun w5 H=>ZW yQ ?_
       refine Xs.mk ((i5+1,v2,gc++[x.snd.snd])) (Zw rfl yQ (ZY)) ?_ ?_
       .refine ⟨yQ,?_⟩
        constructor
        .exact afs hG hx
        exact H.Z7 [7,7,7,7,7,7]<|fun H=>yz H [7,6]<|fun H=>H
       omega
      .have F0:gc=m.globals.map (·.2.2):=by grind
       have hgo:∀y∈gc,XC y:=fun y hy=>by
        rw [F0] at hy
        obtain ⟨z,hz,rfl⟩:=lWa.1 hy
        exact (Z0.all Zv z hz).start
       refine cF (Zk yQ)<|R5 H 3 rfl rfl rfl rfl<|Z9 rfl<|Yo H 2 rfl rfl rfl rfl<|fun w5 H=>ZF (H.at 2 rfl) 0 rfl rfl rfl<|ZC H 4 rfl rfl rfl (by simp only [yq9,yq8,H.one 0 rfl,H.one 1 rfl,H.one 3 rfl,Z0.one XO,Z0.one YR,Z0.one Yz,Z0.one Zy,Z0.one Zv,Z0.one ZO,Z0.one ZT];rfl)<|fun w6 H=>Xr (H.at 4 rfl) 0 rfl rfl rfl<|H.Wn 0 WX rfl hgo<|fun g1 e1 zn H=>H.Wn 0 WX rfl hJ.ok<|fun g2 e2 htF H=>?_
       replace zn:=zn.ext e2
       have E:=e1.trans e2
       exact Z6.mk<|⟨g2,_,_,_,_,_,_,rfl,E,htF,zn,mk4 h0.symm hE hD hmem Q4 F0,(((H.del 0).del 0).del 0).del 0⟩
 .refine ZN H<|fun p1 w1 H=>ZU H rfl<|fun p2 w2 H=>ZF (H.at 1 rfl) 0 rfl rfl rfl ?_
  refine Z8.mk (Fc.imp (Valid.RT H yQ yQ) ?_)
  rintro _ w1 ⟨e1,⟨rfl,⟨h1,H⟩⟩⟩
  exact cT (Vy yQ)<|Zs rfl rfl rfl<|ZC H 0 rfl rfl rfl rfl<|fun w3 H=>Xr (H.at 0 rfl) 0 rfl rfl rfl<|Z6.mk<|⟨g,[],[],[],_,_,_,rfl,Ext.refl _,Z0.NR _ _ _ _,Z0.NR _ _ _ _,mk1 yP yQ,(H.del 0).del 0⟩
end
end Xy
namespace Xy
open Go YY Go.RowKit
open YV Zo X7 Y3 Valid
section
variable {g:ZE} {w:World} {l:List As} {m:Zq}
theorem eqL (H:Sat g w l) (u v:Value) (xs ys:yp) (hx:Z0 g ZJ WX 1 u xs) (hy:Z0 g ZJ WX 1 v ys):yq 25 #[u,v] w (fun r w'=>∃b,r=.bool b/\(b=true↔xs=ys)/\Sat g w' l):=by
 refine Fc.of Tryz.func25 rfl k_d ?_
 have GG:=Wu.len hx
 refine ZK hx rfl<|ZK hy rfl ?_
 refine yu (fun c1=>?_) (fun c1=>?_)
 .refine Z6.mk ?_
  refine ⟨false,?_⟩
  constructor
  .exact k_e
  constructor
  .exact k_p
  exact H
 refine ZK hx rfl ?_
 refine Y6.rule (α:=Nat) (0) (fun x_=>[(14,yL x_)]) (fun x_ w_=>(x_<=xs.length)/\(T6 xs ys x_)/\Sat g w_ (l)) (fun x_=>xs.length-x_) ?_ ?_ ?_
 .exact k_a
 .try simp only
  refine ⟨yQ,?_⟩
  constructor
  .exact T6.zero _ _
  exact H
 rintro i f_ w_ ⟨hi,he,H⟩
 try simp only at hi he H ⊢
 refine yy (fun c2=>?_) (fun c2=>?_)
 .refine bk ?_
  obtain ⟨x1,hx1⟩:∃x,(xs)[(i)]?=some x:=⟨_,laa yQ⟩
  obtain ⟨b1,o1,E1,F1,ZH⟩:=Z0.Y1 hx hx1
  refine ZG E1 rfl rfl rfl<|yB (H.Yq F1) 0 yA ?_
  obtain ⟨x2,Wp⟩:∃x,(ys)[(i)]?=some x:=⟨_,laa yQ⟩
  obtain ⟨b2,o2,E2,F2,Ys⟩:=Z0.Y1 hy Wp
  refine ZG E2 rfl rfl rfl<|yB (H.Yq F2) 0 yA ?_
  refine yu (fun c3=>?_) (fun c3=>?_)
  .refine Z6.mk ?_
   refine ⟨false,?_⟩
   constructor
   .exact k_e
   constructor
   .exact ⟨nofun,fun h=>absurd k_q yP⟩
   exact H
  refine ZW yQ ?_
  refine Xs.mk (i+1) (Zw rfl k_i (ZY)) ?_ ?_
  .refine ⟨yQ,?_⟩
   constructor
   .exact Uu yP (by rw [hx1,Wp];exact yq5 some yP)
   exact H
  omega
 refine Z6.mk ?_
 refine ⟨true,?_⟩
 constructor
 .exact k_e
 constructor
 .exact k_t
 exact H
theorem Er (H:Sat g w l) (k a:Int):yq 48 #[.int .u8 k,yL a] w (fun v w'=>∃r,v=yL r/\r=Sp k a/\Sat g w' l):=by
 refine Fc.of Tryz.func48 rfl k_d ?_
 refine cI (fun h=>?_) (fun h=>?_)
 .have h:=ZS h
  refine Zp rfl rfl<|Zp rfl rfl ?_
  exact Z6.mk ⟨_,rfl,by unfold Sp;rw [if_pos h],H⟩
 have h:=ZR h
 exact Z6.mk ⟨_,rfl,by unfold Sp;rw [if_neg h],H⟩
end
end Xy
namespace Rn
open Go YY Go.RowKit
open YV Zo X7 Y3 Valid Mem
section
variable {g:ZE} {w:World} {l:List As} {m:Zq} {cp mp:Nat} {vp vt vg vl vs Sj:Value} {ps:List WV} {Zt Zh loc stk:yp} {x:ZV}
theorem do_ (H:Sat g w (Pt cp (yN m [yK mp,vt,vg]) 158::Pt mp [vp,yL m.most] 221::Sl 223 256 Xh vp ps::Sl 3 1 ZJ vt Zt::Sl 2 1 ZJ vg Zh::Sl 2 1 ZJ vl loc::Sl 2 1 ZJ vs stk::l)) (hD:Gd x ⟨flat ps,Zt,Zh⟩ loc stk) (hT:Fold.I6 g) (hop:x.op<=255) (hm:ps.length<=m.most/\m.most<=8) (hlen:stk.length<=100000):yq 160 #[yK cp,.agg #[.int .u8 x.op,yL x.a,yL x.b,Sj],vl,vs] w (fun r w'=>∃e vs' Ta ps' W1 loc' YP,r=.tuple #[vs',yL e]/\NP (WE m.most x ⟨flat ps,Zt,Zh⟩ loc stk) e (flat ps') W1 loc' YP/\ps'.length<=8/\Sat g w' (Pt cp (yN m [yK mp,vt,vg]) 158::Pt mp [Ta,yL m.most] 221::Sl 223 256 Xh Ta ps'::Sl 3 1 ZJ vt Zt::Sl 2 1 ZJ vg W1::Sl 2 1 ZJ vl loc'::Sl 2 1 ZJ vs' YP::l)):=by
 have hp:ps.length<=8:=by omega
 have hn:=hD.need
 have n1:x.op=26\/x.op=33\/x.op=34\/x.op=36->1<=stk.length:=fun h=>by unfold UE at hn;rw [if_pos h] at hn;exact hn
 rcases hD.op with h|h|h|⟨L5,hq⟩
 .exact ama H h (n1 (.inl h)) hlen hp
 .exact amb H h (by unfold UE at hn;rw [if_neg yQ,if_pos h] at hn;exact hn) hlen hp
 .by_cases h2:x.op=32
  .exact amc H h2 (hD.loc h.1 yQ) hlen hp
  by_cases h3:x.op=33\/x.op=34
  .exact amd H h3 (hD.loc h.1 yQ) (n1 yQ) hlen hp
  by_cases h5:x.op=35
  .exact ame H h5 (hD.Zh (.inl h5)) hlen hp
  .exact amf H yQ (hD.Zh yQ) (n1 yQ) hlen hp
 .by_cases h5:x.op=65\/x.op=66
  .exact amg H h5 hlen hp
  by_cases h3:x.op=63
  .exact amh H h3 hlen hp
  by_cases h4:x.op=64
  .have h1:1<=stk.length:=by
    unfold UE at hn
    rw [if_neg yQ,if_neg yQ,if_pos yQ,h4,show Xf 64=([127],[127],true) by decide] at hn;exact hn
   exact ami H h4 h1 hD.G0 hm hlen hp
  by_cases hw:0<wid x.op
  .exact amj H ⟨L5,hop⟩ hw hD.G0 hn (hD.off hw) hlen hp
  .exact amk H ⟨L5,hop⟩ hw hq ⟨h3,h4,by omega,by omega⟩ hD.G0 hn hT hlen hp
theorem amn (P:U0 m.d) {n:Int} (h0:0<=n) (h1:n<(m.ZA.length:Int)+m.funcs.length):∃(i:Nat) (t:Yh),m.types[i]?=some t/\t.d=YG m.d n /\
  (n<m.ZA.length->∃y,m.ZA[n.toNat]?=some y/\y.2=i)/\(¬n<m.ZA.length->∃f,m.funcs[n.toNat-m.ZA.length]?=some f/\f.ty=i):=by
 have hfl:m.d.funcs.length=m.funcs.length:=lea ..
 have hil:m.d.ZA.length=m.ZA.length:=rfl
 have NX:m.d.types.length=m.types.length:=lea ..
 by_cases h:n<m.ZA.length
 .have hi:n.toNat<m.ZA.length:=by omega
  have hm:=P.imp _ (lob (show n.toNat<m.d.ZA.length from hi))
  have hm:0<=m.ZA[n.toNat].2/\m.ZA[n.toNat].2<m.d.types.length:=hm
  obtain ⟨i,Bi⟩:=lsa hm.1
  have hit:i<m.types.length:=by omega
  refine ⟨i,m.types[i],laa hit,?_,fun _=>⟨_,laa hi,Bi⟩,fun h'=>absurd h h'⟩
  obtain ⟨t,e1,e2,_⟩:=NF P h0 (show n<YL m.d from h)
  rw [e2]
  unfold Xl Qd at e1
  rw [if_neg yQ] at e1
  have DU:(ZB m.d).ZA.length=m.ZA.length:=lea ..
  rw [DU,if_pos h] at e1
  have e3:(ZB m.d).ZA[n.toNat]?=some m.ZA[n.toNat].2:=by
   show (m.ZA.map (·.2))[_]?=_
   rw [lwa,laa hi];rfl
  rw [e3,Bi] at e1
  have e1:(m.types.map Yh.d)[i]?=some t:=e1
  rw [lwa,laa hit] at e1
  exact yq6 e1
 .have hi:n.toNat-m.ZA.length<m.funcs.length:=by omega
  have hmem:m.funcs[n.toNat-m.ZA.length].d∈m.d.funcs:=lWa.2 ⟨_,lob hi,rfl⟩
  have hm:=(P.fn _ hmem).ty
  have hm:0<=m.funcs[n.toNat-m.ZA.length].ty/\m.funcs[n.toNat-m.ZA.length].ty<m.d.types.length:=hm
  obtain ⟨i,Bi⟩:=lsa hm.1
  have hit:i<m.types.length:=by omega
  refine ⟨i,m.types[i],laa hit,?_,fun h'=>absurd h' h,fun _=>⟨_,laa hi,Bi⟩⟩
  obtain ⟨_,e2⟩:=O5 P (n:=n-YL m.d) (by grind [YL]) (by grind [YL])
  rw [show YL m.d+(n-YL m.d)=n by omega] at e2
  rw [e2]
  have e3:Y9 m.d (n-YL m.d)=m.funcs[n.toNat-m.ZA.length].d:=by
   unfold Y9 YL
   rw [show (n-(m.d.ZA.length:Int)).toNat=n.toNat-m.ZA.length by omega]
   show (m.funcs.map YS.d).getD _ _=_
   rw [lka,lwa,laa hi];rfl
  rw [e3]
  unfold UJ
  show _=(m.types.map Yh.d).getD m.funcs[n.toNat-m.ZA.length].ty.toNat _
  rw [Bi,lga,lka,lwa,laa hit];rfl
theorem amo (H:Sat g w l) (u v:Value) (xs ys:yp) (hx:Z0 g YB U8 1 u xs) (hy:Z0 g YB U8 1 v ys) (hl:xs.length<=1000) :
  yq 166 #[u,v] w (fun r w'=>∃b,r=.bool b/\(b=true↔xs=ys)/\Sat g w' l):=by
 refine Fc.of Tryz.func166 rfl k_d<|ZK hx rfl<|ZK hy rfl ?_
 refine yu (fun c1=>?_) (fun c1=>?_)
 .exact Z6.mk<|⟨false,rfl,⟨nofun,fun h=>absurd (yq5 List.length h) yQ⟩,H⟩
 refine ZK hx rfl ?_
 refine Y6.rule (α:=Nat) (0) (fun x_=>[(13,yL x_)]) (fun x_ w_=>(x_<=xs.length)/\(∀q,q<x_->xs[q]?=ys[q]?)/\Sat g w_ (l)) (fun x_=>xs.length-x_) ?_ ?_ ?_
 .exact k_a
 .grind
 rintro i f_ w_ ⟨hi,he,H⟩
 try simp only at hi he H ⊢
 refine yy (fun c2=>?_) (fun c2=>?_)
 .refine bk<|ZL H [] [yJp0,yJp1,yJp2,yJh3,yJp4,yJp5,yJp6,yJh7,yJp8] mixed k_d k_d<|fun w1 H=>?_
  obtain ⟨x1,hx1⟩:∃x,(xs)[(i)]?=some x:=⟨_,laa yQ⟩
  obtain ⟨b1,o1,E1,F1,ZH⟩:=Z0.Y1 hx hx1
  refine tk (fun _ Z=>ZG E1 rfl rfl rfl yM)<|tk (fun _ Z=>yB (Z.Yq F1) 0 yA yM) ?_
  obtain ⟨x2,Wp⟩:∃x,(ys)[(i)]?=some x:=⟨_,laa yQ⟩
  obtain ⟨b2,o2,E2,F2,Ys⟩:=Z0.Y1 hy Wp
  refine tk (fun _ Z=>ZG E2 rfl rfl rfl yM)<|tk (fun _ Z=>yB (Z.Yq F2) 0 yA yM) ?_
  refine yu (fun c3=>?_) (fun c3=>?_)
  .exact Z6.mk<|⟨false,rfl,⟨nofun,fun h=>absurd k_q yP⟩,H⟩
  refine ZW yQ ?_
  refine Xs.mk (i+1) (Zw rfl yQ (ZY)) ?_ ?_
  .grind
  omega
 exact Z6.mk<|⟨true,rfl,⟨fun _=>Ref.Ua yQ yQ he,fun _=>rfl⟩,H⟩
theorem amq (H:Sat g w l) (a b:Yh) (ha:Xb g a) (hb:Xb g b) (h1:a.Zf.length<=1000) (h2:a.out.length<=1000) :
  yq 120 #[.agg #[a.vi,a.vo],.agg #[b.vi,b.vo]] w (fun r w'=>∃q,r=.bool q/\(q=true↔a.Zf=b.Zf/\a.out=b.out)/\Sat g w' l):=by
 refine Fc.of Tryz.func120 rfl k_d ?_
 have ajw:=ha.Zf
 have ajx:=ha.out
 have ajy:=hb.Zf
 have ajz:=hb.out
 refine ZN H<|fun p1 w1 H=>ZN H<|fun p2 w2 H=>Z9 rfl<|yI H 1 0 yF<|Z9 rfl<|yI H 0 0 yF ?_
 refine Z8.mk (Fc.imp (Rn.amo H _ _ _ _ ajw ajy ?_) ?_)
 .grind
 rintro _ w1 ⟨b1,⟨rfl,⟨h3,H⟩⟩⟩
 refine br (fun c1=>?_) (fun c1=>?_)
 .replace c1:=h3.1 (c1)
  refine Z9 rfl<|yI H 1 1 yF<|Z9 rfl<|yI H 0 1 yF ?_
  refine Z8.mk (Fc.imp (Rn.amo H _ _ _ _ ajx ajz ?_) ?_)
  .grind
  rintro _ w3 ⟨b2,⟨rfl,⟨h4,H⟩⟩⟩
  refine Z6.mk ?_
  refine ⟨b2,?_⟩
  constructor
  .grind
  constructor
  .grind
  exact yz H [1,0]<|fun H=>H
 replace c1:=VN h3 (c1)
 refine Z6.mk ?_
 refine ⟨false,?_⟩
 constructor
 .grind
 constructor
 .grind
 exact yz H [1,0]<|fun H=>H
theorem Lu (H:Sat g w (Pt cp (yN m [yK mp,vt,vg]) 158::l)) (hm:XL g m) (P:U0 m.d) (n:Int) (h0:0<=n) (h1:n<(m.ZA.length:Int)+m.funcs.length) :
  yq 75 #[yK cp,yL n] w (fun r w'=>∃t:Yh,r=.agg #[t.vi,t.vo]/\t∈m.types/\Xb g t/\t.d=YG m.d n/\t.Zf.length<=4/\t.out.length<=1/\Sat g w' (Pt cp (yN m [yK mp,vt,vg]) 158::l)):=by
 refine Fc.of Tryz.func75 rfl k_d ?_
 have ZT:=hm.types
 have Zy:=hm.ZA
 have ZO:=hm.funcs
 obtain ⟨i,t,k1,k2,k3,k4⟩:=amn P h0 h1
 have LQ:=lda k1
 have hto:=Z0.all ZT t LQ
 have Ho:t.Zf.length<=4:=(P.sig t.d (lWa.2 ⟨t,LQ,rfl⟩)).1
 have amr:t.out.length<=1:=(P.sig t.d (lWa.2 ⟨t,LQ,rfl⟩)).2
 have hni:=P.ni
 have hnf:=P.nf
 have hfl:m.d.funcs.length=m.funcs.length:=lea ..
 have hil:m.d.ZA.length=m.ZA.length:=rfl
 obtain ⟨k,rfl⟩:=lsa h0
 rw [lga] at k3 k4
 by_cases h:(k:Int)<m.ZA.length
 .obtain ⟨y,q1,q2⟩:=k3 h
  have hlt:=(lba.1 k1).1
  have hyb:0<=y.2/\y.2<m.types.length:=by omega
  have zm:m.types[y.2.toNat]?=some t:=by grind
  refine ZU H rfl<|fun p1 w1 H=>Z9 rfl<|Z9 rfl<|yI H 1 1 yF<|ZK Zy rfl<|cT (Zd yP)<|ZL H [] [yJp0,yJp1,yJp2,yJp3,yJh4,yJp5,yJp6,yJp7,yJp8,yJh9,yJp10,yJp11,yJp12,yJh13,yJp14,yJh15,yJfr16] mixed k_d k_d<|fun w2 H=>yG rfl rfl<|yG rfl rfl<|yH 1 0 yF rfl<|yG rfl rfl<|yG rfl rfl<|yH 1 1 yF rfl ?_
  obtain ⟨b1,o1,E1,F1,ZH⟩:=Z0.Y1 Zy q1
  have VC:=ZH.name
  have XD:=ZH.ty
  refine tk (fun _ Z=>ZG E1 rfl rfl rfl yM)<|yG rfl rfl<|tk (fun _ Z=>yB (Z.Yq F1) 1 yA yM) ?_
  obtain ⟨b2,o2,E2,F2,Ys⟩:=Z0.Y1 ZT zm
  have YC:=Ys.Zf
  have YH:=Ys.out
  refine tk (fun _ Z=>ZG E2 yQ rfl rfl yM)<|tk (fun _ Z=>ZF (Z.Yq F2) 0 rfl rfl rfl yM)<|ZC H 0 rfl rfl rfl (by grind [Z0.one])<|fun w1 H=>Xr (H.at 0 rfl) 0 rfl rfl rfl<|Z6.mk ?_
  refine ⟨t,?_⟩
  refine ⟨rfl,?_⟩
  refine ⟨yQ,?_⟩
  refine ⟨yQ,?_⟩
  refine ⟨yQ,?_⟩
  refine ⟨yQ,?_⟩
  refine ⟨yQ,?_⟩
  exact H.Z7 [1]<|fun H=>H.drop 1<|fun H=>H
 .obtain ⟨f,q1,q2⟩:=k4 h
  have hlt:=(lba.1 k1).1
  have hyb:0<=f.ty/\f.ty<m.types.length:=by omega
  have zm:m.types[f.ty.toNat]?=some t:=by grind
  refine ZU H rfl<|fun p1 w1 H=>Z9 rfl<|Z9 rfl<|yI H 1 1 yF<|ZK Zy rfl<|cF (Zk yQ)<|ZL H [] [yJp0,yJp1,yJp2,yJp3,yJh4,yJp5,yJp6,yJp7,yJp8,yJh9,yJp10,yJp11,yJp12,yJp13,yJp14,yJh15,yJp16,yJp17,yJp18,yJp19,yJh20,yJp21,yJh22,yJfr23] mixed k_d k_d<|fun w2 H=>yG rfl rfl<|yG rfl rfl<|yH 1 0 yF rfl<|yG rfl rfl<|yG rfl rfl<|yH 1 2 yF rfl<|yG rfl rfl<|yG rfl rfl<|yH 1 1 yF rfl<|tk (fun _ Z=>ZK Zy rfl yM)<|ZW yQ ?_
  obtain ⟨b1,o1,E1,F1,ZH⟩:=Z0.Y1 ZO q1
  have XD:=ZH.ty
  have Za:=ZH.loc
  have Zl:=ZH.body
  refine tk (fun _ Z=>ZG E1 yQ rfl rfl yM)<|yG rfl rfl<|tk (fun _ Z=>yB (Z.Yq F1) 0 yA yM) ?_
  obtain ⟨b2,o2,E2,F2,Ys⟩:=Z0.Y1 ZT zm
  have YC:=Ys.Zf
  have YH:=Ys.out
  refine tk (fun _ Z=>ZG E2 yQ rfl rfl yM)<|tk (fun _ Z=>ZF (Z.Yq F2) 0 rfl rfl rfl yM)<|ZC H 0 rfl rfl rfl (by grind [Z0.one])<|fun w1 H=>Xr (H.at 0 rfl) 0 rfl rfl rfl<|Z6.mk ?_
  refine ⟨t,?_⟩
  refine ⟨rfl,?_⟩
  refine ⟨yQ,?_⟩
  refine ⟨yQ,?_⟩
  refine ⟨yQ,?_⟩
  refine ⟨yQ,?_⟩
  refine ⟨yQ,?_⟩
  exact H.Z7 [1]<|fun H=>H.drop 1<|fun H=>H
theorem ce0 {t tx:Yh} {D:Xz} {f:Int} (h:t.d=D) (hc:¬(t.Zf=tx.Zf/\t.out=tx.out)):((0:Int),List.drop 0 (List.take (stk.length-1) stk),(25:Int))=if D.Zf≠tx.d.Zf\/D.out≠tx.d.out then (0,low stk 1,25) else (f,low stk 1,0):=by
 subst h
 rw [Jo,if_pos]
 refine Decidable.by_contra fun hn=>hc ⟨Decidable.by_contra fun h1=>hn (.inl h1),Decidable.by_contra fun h2=>hn (.inr h2)⟩
theorem ce1 {t tx:Yh} {D:Xz} {f:Int} (h:t.d=D) (hc:t.Zf=tx.Zf/\t.out=tx.out):(f,List.drop 0 (List.take (stk.length-1) stk),(0:Int))=if D.Zf≠tx.d.Zf\/D.out≠tx.d.out then (0,low stk 1,25) else (f,low stk 1,0):=by
 subst h
 rw [Jo,if_neg]
 rintro (h|h)
 .exact h hc.1
 .exact h hc.2
theorem OY (H:Sat g w (Pt cp (yN m [yK mp,vt,vg]) 158::Sl 3 1 ZJ vt Zt::Sl 2 1 ZJ vs stk::l)) (hm:XL g m) (P:U0 m.d) (ho:x.op=16\/x.op=17) (Q4:∀n∈Zt,-1<=n/\n<(m.ZA.length:Int)+m.funcs.length) (h1:x.op=17->1<=stk.length/\0<=x.a/\x.a<m.types.length)
  (TS:∀v∈stk,XC v) (hlen:stk.length<=100000) (NX:Zt.length<=1000) :
  yq 196 #[yK cp,.agg #[.int .u8 x.op,yL x.a,yL x.b,Sj],vs] w (fun r w'=>∃f vs' YP e,r=.tuple #[yL f,vs',yL e]/\(f,YP,e)=Y7 m.d Zt x stk/\Sat g w' (Pt cp (yN m [yK mp,vt,vg]) 158::Sl 3 1 ZJ vt Zt::Sl 2 1 ZJ vs' YP::l)):=by
 refine Fc.of Tryz.func196 rfl k_d ?_
 have ZT:=hm.types
 have Zy:=hm.ZA
 have ZO:=hm.funcs
 unfold Y7
 rcases ho with ho|ho
 .rw [if_pos ho]
  refine ZN H<|fun p1 w1 H=>Z9 rfl<|yI H 0 0 yF<|cT (ZI yP)<|Z9 rfl<|yI H 0 1 yF<|Z6.mk ?_
  refine ⟨x.a,vs,stk,0,?_⟩
  refine ⟨rfl,?_⟩
  refine ⟨rfl,?_⟩
  exact H.Z7 [3,3,3]<|fun H=>H.drop 3<|fun H=>H
 .rw [if_neg yQ]
  obtain ⟨h1,h2,h3⟩:=h1 ho
  obtain ⟨a,ha,Im,Hq⟩:=Ew (s:=stk) yQ
  have Eu:=TS a Hq
  rw [Im]
  have hN0:0<=a % 4294967296:=by omega
  have zl:m.types[x.a.toNat]?=some m.types[x.a.toNat]:=laa yQ
  have Kz:=Z0.all ZT _ (lda zl)
  have SI:m.d.types.getD x.a.toNat sz=m.types[x.a.toNat].d:=by
   show (m.types.map Yh.d).getD _ _=_
   rw [lka,lwa,zl];rfl
  rw [SI]
  generalize m.types[x.a.toNat]=tx at *
  by_cases hNl:(a % 4294967296).toNat<Zt.length
  .obtain ⟨f,Bh⟩:∃f,Zt[(a % 4294967296).toNat]?=some f:=⟨_,laa hNl⟩
   have hNb:=Q4 f (lda Bh)
   rw [afo Bh]
   by_cases hf:f<0
   .rw [if_pos (.inr hf)]
    refine ZN H<|fun p1 w1 H=>Z9 rfl<|yI H 0 0 yF<|cF (Z5 yQ)<|YA H 3 rfl rfl<|ZW yQ ?_
    obtain ⟨b1,o1,E1⟩:=H.Y1 3 rfl ((stk.length)-1) yQ
    refine ZG E1 yQ rfl rfl<|yB (H.el 3 rfl E1 ha) 0 yA<|Yl rfl rfl<|Xj yQ rfl rfl<|YA H 3 rfl rfl<|ZW yQ<|NT H 3 rfl 0 ((stk.length)-1) rfl rfl yQ yQ (.inl ⟨rfl,rfl⟩) (.inr ⟨_,by first|rfl|(congr 2;omega)⟩)<|fun v1 H=>Z9 rfl<|yI H 1 12 yF<|YA H 2 rfl rfl<|WK (Yv yQ)<|Z9 rfl<|yI H 1 12 yF ?_
    obtain ⟨b2,o2,E2⟩:=H.Y1 2 rfl (a % 4294967296).toNat yQ
    refine ZG E2 yQ rfl rfl<|yB (H.el 2 rfl E2 Bh) 0 yA<|cT (Zd yP)<|Z6.mk ?_
    refine ⟨0,v1,List.drop 0 (List.take (stk.length-1) stk),24,?_⟩
    refine ⟨rfl,?_⟩
    refine ⟨rfl,?_⟩
    exact H.Z7 [3,3,3]<|fun H=>H.drop 3<|fun H=>H
   .rw [if_neg yQ]
    refine ZN H<|fun p1 w1 H=>Z9 rfl<|yI H 0 0 yF<|cF (Z5 yQ)<|YA H 3 rfl rfl<|ZW yQ ?_
    obtain ⟨b1,o1,E1⟩:=H.Y1 3 rfl ((stk.length)-1) yQ
    refine ZG E1 yQ rfl rfl<|yB (H.el 3 rfl E1 ha) 0 yA<|Yl rfl rfl<|Xj yQ rfl rfl<|YA H 3 rfl rfl<|ZW yQ<|NT H 3 rfl 0 ((stk.length)-1) rfl rfl yQ yQ (.inl ⟨rfl,rfl⟩) (.inr ⟨_,by first|rfl|(congr 2;omega)⟩)<|fun v1 H=>Z9 rfl<|yI H 1 12 yF<|YA H 2 rfl rfl<|WK (Yv yQ)<|Z9 rfl<|yI H 1 12 yF ?_
    obtain ⟨b2,o2,E2⟩:=H.Y1 2 rfl (a % 4294967296).toNat yQ
    refine ZG E2 yQ rfl rfl<|yB (H.el 2 rfl E2 Bh) 0 yA<|cF (Zk yQ)<|Z9 rfl<|yI H 1 12 yF<|ZG E2 yQ rfl rfl<|yB (H.el 2 rfl E2 Bh) 0 yA<|ZL H [] [yJp0,yJp1,yJp3,yJp4,yJp5,yJp6,yJh7,yJp8,yJh9,yJp10,yJh11,yJf2,yJfr12,yJp13] mixed k_d k_d<|fun w2 H=>yG rfl rfl<|yG rfl rfl<|yH 1 0 yF rfl<|yG rfl rfl<|yH 0 1 yF rfl ?_
    obtain ⟨b3,o3,E3,F1,ZH⟩:=Z0.Y1 ZT zl
    have Rj:=ZH.Zf
    have Ri:=ZH.out
    refine tk (fun _ Z=>ZG E3 yQ rfl rfl yM)<|tk (fun _ Z=>ZF (Z.Yq F1) 0 rfl rfl rfl yM)<|H.Z7 [1]<|fun H=>?_
    refine Z8.mk (Fc.imp (Rn.Lu H yQ yQ _ yQ yQ) ?_)
    rintro _ w1 ⟨t1,⟨rfl,⟨h4,⟨h5,⟨h6,⟨h7,⟨h8,H⟩⟩⟩⟩⟩⟩⟩
    refine H.Z7 [3,3,2,3]<|fun H=>Ze.mk (H) ?_
    refine Z8.mk (Fc.imp (Rn.amq H _ _ yQ yQ yQ yQ) ?_)
    rintro _ w3 ⟨q1,⟨rfl,⟨h9,H⟩⟩⟩
    refine cI (fun c1=>?_) (fun c1=>?_)
    .replace c1:=VN h9 (Vb (c1))
     refine Z6.mk ?_
     refine ⟨0,v1,List.drop 0 (List.take (stk.length-1) stk),25,?_⟩
     refine ⟨rfl,?_⟩
     constructor
     .exact ce0 yP yP
     exact H.Z7 [3,3,3]<|fun H=>H.drop 3<|fun H=>H
    replace c1:=h9.1 (Va (c1))
    refine Z6.mk ?_
    refine ⟨f,v1,List.drop 0 (List.take (stk.length-1) stk),0,?_⟩
    refine ⟨rfl,?_⟩
    constructor
    .exact ce1 yP yP
    exact H.Z7 [3,3,3]<|fun H=>H.drop 3<|fun H=>H
  .rw [if_pos (.inl yQ)]
   refine ZN H<|fun p1 w1 H=>Z9 rfl<|yI H 0 0 yF<|cF (Z5 yQ)<|YA H 3 rfl rfl<|ZW yQ ?_
   obtain ⟨b1,o1,E1⟩:=H.Y1 3 rfl ((stk.length)-1) yQ
   refine ZG E1 yQ rfl rfl<|yB (H.el 3 rfl E1 ha) 0 yA<|Yl rfl rfl<|Xj yQ rfl rfl<|YA H 3 rfl rfl<|ZW yQ<|NT H 3 rfl 0 ((stk.length)-1) rfl rfl yQ yQ (.inl ⟨rfl,rfl⟩) (.inr ⟨_,by first|rfl|(congr 2;omega)⟩)<|fun v1 H=>Z9 rfl<|yI H 1 12 yF<|YA H 2 rfl rfl<|TL (Ya yQ)<|cT rfl<|Z6.mk ?_
   refine ⟨0,v1,List.drop 0 (List.take (stk.length-1) stk),24,?_⟩
   refine ⟨rfl,?_⟩
   refine ⟨rfl,?_⟩
   exact H.Z7 [3,3,3]<|fun H=>H.drop 3<|fun H=>H
end
end Rn
namespace Rn
open Go YY Go.RowKit
open YV Zo X7 Y3 Valid Mem
structure CV where
 fn:Int
 at_:Int
 vl:Value
 loc:yp
 vs:Value
 stk:yp
def WC (c:CV):ym:=[.int .i64 c.fn,.int .i64 c.at_,c.vl,c.vs]
def CV.d (c:CV):YJ:=⟨c.fn,c.at_,c.loc,c.stk⟩
section
variable {g:ZE} {w:World} {l:List As} {vc:Value} {cs:List CV} {i b o:Nat}
theorem OX (E:El vc 4 i b o) (c:CV) (hx:cs[i]?=some c) (H:Sat g w (Sl 79 4 WC vc cs::Sl 2 1 ZJ c.vs c.stk::l)) (h1:1<=c.stk.length) (hlen:c.stk.length<=100000) :
  yq 162 #[.pointer (some ⟨b,o,none⟩)] w (fun r w'=>∃vs' t,r=yL t/\t=top c.stk 0/\Sat g w' (Sl 79 4 WC vc (cs.set i ⟨c.fn,c.at_,c.vl,c.loc,vs',low c.stk 1⟩)::Sl 2 1 ZJ vs' (low c.stk 1)::l)):=by
 refine Fc.of Tryz.func162 rfl k_d ?_
 obtain ⟨a,ha,Im,Hq⟩:=Ew (s:=c.stk) yQ
 rw [Im]
 have hst:=H.one 1 rfl
 refine ZL H [] [yJp0,yJp1,yJp2,yJh3,yJp4,yJp5,yJp6,yJh7,yJp8,yJp9,yJp10,yJh11,yJp12] mixed k_d k_d<|fun w1 H=>yG rfl rfl<|tk (fun _ Z=>yB (Z.el 0 rfl E hx) 3 yA yM)<|yG rfl rfl<|tk (fun _ Z=>yB (Z.el 0 rfl E hx) 3 yA yM) ?_
 obtain ⟨a1,c1,V1⟩:=H.form 1 rfl
 refine tk (fun _ Z=>WZ V1 rfl yM)<|ZW yQ ?_
 obtain ⟨b1,o1,E1⟩:=H.Y1 1 rfl ((c.stk.length)-1) yQ
 refine tk (fun _ Z=>ZG E1 yQ rfl rfl yM)<|tk (fun _ Z=>yB (Z.el 1 rfl E1 ha) 0 yA yM)<|ZL H [] [yJp0,yJp1,yJp2,yJp3,yJh4,yJp5,yJp6,yJp7,yJh8,yJp9,yJp10,yJp11,yJp12,yJp13,yJfr14] mixed k_d k_d<|fun w2 H=>yG rfl rfl<|tk (fun _ Z=>yB (Z.el 0 rfl E hx) 3 yA yM)<|yG rfl rfl<|tk (fun _ Z=>yB (Z.el 0 rfl E hx) 3 yA yM)<|tk (fun _ Z=>WZ V1 rfl yM)<|ZW yQ ?_
 obtain ⟨v1,V2⟩:=H.vw 1 rfl (0) (((c.stk.length)-1)) yQ yQ
 refine tk (fun _ Z=>Wr V2 rfl rfl (.inl yM) (.inr ⟨_,by first|rfl|(congr 2;omega)⟩) yM)<|yG rfl rfl<|Yg H 0 rfl E hx 3 (⟨c.fn,c.at_,c.vl,c.loc,(v1),low c.stk 1⟩) rfl (by simp only [Bool.and_true,H.one 0 rfl,H.one 1 rfl,Vw.one V2,hst]) rfl rfl<|fun w1 H=>Z6.mk ?_
 refine ⟨v1,a,?_⟩
 constructor
 .simp
 refine ⟨yQ,?_⟩
 exact H.IP 1 rfl V2
theorem Jm (E:El vc 4 i b o) (c:CV) (hx:cs[i]?=some c) (H:Sat g w (Sl 79 4 WC vc cs::Sl 2 1 ZJ c.vs c.stk::l)) (j:Ye) (h0:0<=j.height) (h1:0<=j.keep) (hf:j.height+j.keep<=c.stk.length) (hlen:c.stk.length<=100000) :
  yq 113 #[.pointer (some ⟨b,o,none⟩),.agg #[yL j.at_,yL j.keep,yL j.height]] w (fun r w'=>∃vs',Sat g w' (Sl 79 4 WC vc (cs.set i ⟨c.fn,j.at_,c.vl,c.loc,vs',c.stk.take j.height.toNat++c.stk.drop (c.stk.length-j.keep.toNat)⟩)::Sl 2 1 ZJ vs' (c.stk.take j.height.toNat++c.stk.drop (c.stk.length-j.keep.toNat))::l)):=by
 refine Fc.of Tryz.func113 rfl k_d ?_
 have hst:=H.one 1 rfl
 obtain ⟨kk,hkk⟩:=lsa h1
 obtain ⟨hh,hhh⟩:=lsa h0
 rw [hkk,hhh,lga,lga]
 refine ZN H<|fun p1 w1 H=>ZL H [] [yJp0,yJp1,yJp2,yJh3,yJp4,yJp5,yJp6,yJh7,yJp8,yJp9,yJh10,yJp11,yJp12,yJp13] mixed k_d k_d<|fun w2 H=>yG rfl rfl<|tk (fun _ Z=>yB (Z.el 1 rfl E hx) 3 yA yM)<|yG rfl rfl<|tk (fun _ Z=>yB (Z.el 1 rfl E hx) 3 yA yM) ?_
 obtain ⟨a1,c1,V1⟩:=H.form 2 rfl
 refine tk (fun _ Z=>WZ V1 rfl yM)<|yG rfl rfl<|yH 0 1 yF rfl<|ZW yQ ?_
 obtain ⟨v1,V2⟩:=H.vw 2 rfl (((c.stk.length)-(kk))) ((c.stk).length) yQ yQ
 refine tk (fun _ Z=>Wr V2 rfl rfl (.inr ⟨_,by first|rfl|(congr 2;omega)⟩) (.inl yM) yM)<|ZL H [] [yJp0,yJp1,yJp2,yJp3,yJh4,yJp5,yJh6,yJp7,yJp8,yJfr9,yJp10,yJp11,yJfr12] mixed k_d k_d<|fun w1 H=>yG rfl rfl<|tk (fun _ Z=>yB (Z.el 1 rfl E hx) 3 yA yM)<|yG rfl rfl<|yH 0 2 yF rfl ?_
 obtain ⟨v2,V3⟩:=H.vw 2 rfl (0) ((hh)) yQ yQ
 refine tk (fun _ Z=>Wr V3 rfl rfl (.inl yM) (.inr ⟨_,by first|rfl|(congr 2;omega)⟩) yM)<|ahJ 8 H 2 rfl V3 V2 (fun y _=>rfl) rfl rfl rfl yQ yQ<|fun v3 w2 H=>yG rfl rfl<|Yg H 1 rfl E hx 3 (⟨c.fn,c.at_,c.vl,c.loc,(v3),c.stk.take hh++c.stk.drop (c.stk.length-kk)⟩) rfl (by simp only [Bool.and_true,H.one 1 rfl,H.one 2 rfl,Vw.one V3,Vw.one V2,hst]) rfl rfl<|fun w1 H=>Z9 rfl<|yI H 0 0 yF<|Z9 rfl ?_
 have hx1:(cs.set i { fn:=c.fn,at_:=c.at_,vl:=c.vl,loc:=c.loc,vs:=v3,stk:=List.take hh c.stk++List.drop (c.stk.length-kk) c.stk })[i]?=some _:=VF hx
 refine Yg H 1 rfl E hx1 1 (⟨c.fn,j.at_,c.vl,c.loc,_,c.stk.take hh++c.stk.drop (c.stk.length-kk)⟩) rfl rfl rfl rfl<|fun w2 H=>Z6.mk ?_
 refine ⟨v3,?_⟩
 refine H.Z7 [2,2]<|fun H=>H.drop 2<|fun H=>?_
 refine H.cg (Yu (Ot ?_) (Yu rfl (rfl)))
 (simp;done)
end
end Rn
namespace Rn
open Go YY Go.RowKit
open YV Zo X7 Y3 Valid Mem
section
variable {g:ZE} {w:World} {l:List As} {m:Zq} {pr cp mp:Nat} {vw vc vt vg va:Value} {host:Int} {cs:List CV} {args:yp} {c u:CV}
theorem ajA (H:Sat g w (Pt pr [yK cp,vw,vc,yL host] 148::Pt cp (yN m [yK mp,vt,vg]) 158::Sl 79 4 WC vc cs::Sl 2 1 ZJ va args::l)) (hm:XL g m) (n:Nat) (f:YS) (hf:m.funcs[n]?=some f) (h1:f.loc.length<=16) (h2:args.length<=16) (h3:cs.length<=100) (hnf:m.funcs.length<=16) :
  yq 79 #[yK pr,yL n,va] w (fun r w'=>∃NW Pz,Sat g w' (Pt pr [yK cp,vw,NW,yL host] 148::Pt cp (yN m [yK mp,vt,vg]) 158::Sl 79 4 WC NW (cs++[⟨n,0,Pz,args++List.replicate f.loc.length 0,.slice none 0 0,[]⟩])::Sl 2 1 ZJ Pz (args++List.replicate f.loc.length 0)::Sl 2 1 ZJ (.slice none 0 0) []::l)):=by
 refine Fc.of Tryz.func79 rfl k_d ?_
 have ZO:=hm.funcs
 have hfo:=Z0.all ZO f (lda hf)
 have ahb:=hfo.loc
 replace H:=H.VS (en:=ZJ) (s:=1) 2 (fun _=>rfl)
 refine Z9 rfl<|yI H 1 0 yF<|Z9 rfl<|Z9 rfl<|yI H 2 2 yF ?_
 obtain ⟨b1,o1,E1,F1,ZH⟩:=Z0.Y1 ZO hf
 have XD:=ZH.ty
 have Za:=ZH.loc
 have Zl:=ZH.body
 refine ZG E1 rfl rfl rfl<|Z9 rfl<|yB (H.Yq F1) 1 yA<|ZK Za rfl<|akV (zx:=(0:Int)) 8 H 4 rfl rfl rfl rfl rfl rfl rfl yQ yQ<|fun v1 w1 H=>Z9 rfl<|yI H 1 2 yF ?_
 obtain ⟨a1,c1,rfl⟩:=H.form 4 rfl
 refine Zs rfl rfl rfl<|ZZ H rfl rfl rfl rfl<|fun p1 w2 H=>W3 (ys:=[⟨n,0,_,args++List.replicate f.loc.length 0,.slice none 0 0,[]⟩]) 64 H 4 rfl (H.at 0 rfl) rfl (fun y hy=>by rw [lqa.1 hy];simp only [Rn.WC,yq9,yq8,H.one 1 rfl,H.one 4 rfl,H.one 5 rfl,Z0.one Zl,Z0.one Za,Z0.one ahb,Z0.one ZO];rfl) rfl rfl rfl yQ yQ<|fun v1 w1 H=>Z9 rfl<|Yo H 2 rfl rfl rfl (H.one 4 rfl)<|fun w2 H=>Z6.mk ?_
 refine ⟨v1,Value.slice a1 (args++List.replicate f.loc.length 0).length c1,?_⟩
 exact H.Z7 [1,5,5,5,5]<|fun H=>H.drop 5<|fun H=>H
theorem adb (H:Sat g w (Sl 2 1 ZJ va args::l)) (hl:args.length<=100000):yq 50 #[va] w (fun u w'=>Sat g w' (Sl 2 1 ZJ u args::Sl 2 1 ZJ va args::l)):=by
 refine Fc.of Tryz.func50 rfl k_d ?_
 rcases H.RK 0 rfl with ⟨L3,L2⟩|⟨b1,o1,c1,V1⟩
 .subst L3
  subst L2
  refine Xd rfl<|cT rfl<|Z6.mk ?_
  replace H:=H.VS (en:=ZJ) (s:=1) (2) (fun _=>rfl)
  exact H
 subst V1
 exact Xd rfl<|cF rfl<|ZZ H rfl rfl rfl rfl<|fun p1 w1 H=>H.Wt (n:=0) (en:=ZJ) (s:=1) 0 rfl [] rfl rfl (fun _=>rfl) rfl<|fun H=>VO 8 H 0 rfl (H.Cu (ok:=fun _=>True) 1 rfl (fun _ _=>trivial)) (fun y _=>rfl) rfl rfl rfl (by grind) (by grind)<|fun v1 w2 H=>Z6.mk<|H
theorem Nu {v v1:Value} {xs:yp} {a:Nat} (H:Sat g w (Sl 2 1 ZJ v xs::l)) (V:Vw v 1 xs.length a xs.length v1) (hl:xs.length<=100000):yq 50 #[v1] w (fun u w'=>Sat g w' (Sl 2 1 ZJ u (xs.drop a)::Sl 2 1 ZJ v xs::l)):=by
 refine Fc.of Tryz.func50 rfl k_d ?_
 have hle:=V.le
 obtain ⟨A,q,he,h0⟩:∃A q,v1=.slice A (xs.length-a) q/\(A=none->xs.drop a=[]):=by
  obtain ⟨ad,cap,hv,_,_,_,_,L4⟩:=V
  refine ⟨_,_,L4,fun hn=>?_⟩
  cases ad with
  | none =>
   rcases (H.off 0 rfl).1 with ⟨_,hx⟩|⟨_,_,_,_,h,_⟩
   .grind
   .grind
  | some p =>
   split at hn
   .grind
   .grind
 cases A with
 | none =>
  rw [h0 rfl]
  subst he
  replace H:=H.VS (en:=ZJ) (s:=1) 2 (fun _=>rfl)
  exact Xd rfl<|cT rfl<|Z6.mk<|H
 | some p =>
  subst he
  refine Xd rfl<|cF rfl<|ZZ H rfl rfl rfl rfl<|fun p1 w1 H=>H.Wt (n:=0) (en:=ZJ) (s:=1) 0 rfl [] rfl rfl (fun _=>rfl) rfl<|fun H=>VO 8 H 0 rfl (H.rdv (ok:=fun _=>True) 1 rfl V (fun _ _=>trivial)) (fun y _=>rfl) rfl rfl rfl (by grind) (by grind)<|fun v1 w2 H=>Z6.mk ?_
  refine H.cg (Yu (Ot ?_) (Yu rfl (rfl)))
  (simp;done)
end
end Rn
namespace Rn
open Go YY Go.RowKit
open YV Zo X7 Y3 Valid Mem
section
variable {g:ZE} {w:World} {l:List As} {m:Zq} {pr cp mp:Nat} {vw vc vt vg Sj:Value} {host f e:Int} {cs:List CV} {Zt s2:yp} {u:CV} {x:ZV} {i b o:Nat}
theorem So {n1 n2:Int} {q:Int × yp × Int} {s:yp} (h:(n1,s,n2)=q) (hq:q=(f,s2,e)):f=n1/\s2=s/\e=n2:=by grind
theorem ahc {n:Int} (h0:(m.ZA.length:Int)<=n) (h1:n<(m.ZA.length:Int)+m.funcs.length):∃(k:Nat) (F:YS),n=m.ZA.length+k/\m.funcs[k]?=some F/\Y9 m.d (n-YL m.d)=F.d:=by
 obtain ⟨k,hk⟩:=lsa (show 0<=n-m.ZA.length by omega)
 have JK:k<m.funcs.length:=by omega
 refine ⟨k,m.funcs[k],by omega,laa JK,?_⟩
 unfold Y9 YL
 show (m.funcs.map YS.d).getD (n-(m.ZA.length:Int)).toNat _=_
 rw [hk,lga,lka,lwa,laa JK];rfl
theorem aft (E:El vc 4 i b o) (c:CV) (hx:cs[i]?=some c) (H:Sat g w (Pt pr [yK cp,vw,vc,yL host] 148::Pt cp (yN m [yK mp,vt,vg]) 158::Sl 3 1 ZJ vt Zt::Sl 79 4 WC vc cs::Sl 2 1 ZJ c.vs c.stk::l)) (hm:XL g m) (P:U0 m.d) (ho:x.op=16\/x.op=17) (Q4:∀n∈Zt,-1<=n/\n<(m.ZA.length:Int)+m.funcs.length) (h1:x.op=17->1<=c.stk.length/\0<=x.a/\x.a<m.types.length) (TS:∀v∈c.stk,XC v) (hlen:c.stk.length<=10000) (NX:Zt.length<=1000) (SA:cs.length<=40) (hvl:c.vl.oneCell'=true) (hq:Y7 m.d Zt x c.stk=(f,s2,e)) (he:e≠0):yq 163 #[yK pr,.pointer (some ⟨b,o,none⟩),.agg #[.int .u8 x.op,yL x.a,yL x.b,Sj]] w (fun r w'=>r=.agg #[yL 2,.slice none 0 0,yL e,yL 0,yL 0]/\Sat g w' (Pt pr [yK cp,vw,vc,yL host] 148::Pt cp (yN m [yK mp,vt,vg]) 158::Sl 3 1 ZJ vt Zt::l)):=by
 refine Fc.of Tryz.func163 rfl k_d ?_
 have ZT:=hm.types
 have Zy:=hm.ZA
 have ZO:=hm.funcs
 have hvs:=H.one 4 rfl
 have hni:m.ZA.length<=16:=P.ni
 have hnf:m.funcs.length<=16:=by have:=P.nf;rwa [show m.d.funcs.length=m.funcs.length from lea ..] at this
 refine ZN H<|fun p1 w1 H=>ZU H rfl<|fun p2 w2 H=>ZL H [] [yJp0,yJp1,yJp2,yJh3,yJh4,yJp5,yJp6,yJp7,yJh8,yJfr9,yJp10,yJp11,yJp12,yJp13,yJp14,yJp15,yJp16] mixed k_d k_d<|fun w1 H=>yG rfl rfl<|yH 2 0 yF rfl<|tk (fun _ Z=>ZF (Z.at 1 rfl) 0 rfl rfl rfl yM)<|yG rfl rfl<|tk (fun _ Z=>yB (Z.el 5 rfl E hx) 3 yA yM)<|H.Z7 [6,5,5]<|fun H=>?_
 refine Z8.mk (Fc.imp (Rn.OY H yQ yQ yQ yQ yQ yQ yQ yQ) ?_)
 rintro _ w2 ⟨f1,⟨Zu,⟨To,⟨e1,⟨rfl,⟨h2,H⟩⟩⟩⟩⟩⟩
 obtain ⟨rfl,rfl,rfl⟩:=So h2 hq
 refine Z9 rfl<|Yg H 6 rfl E hx 3 (⟨c.fn,c.at_,c.vl,c.loc,(Zu),s2⟩) rfl k_o rfl rfl<|fun w3 H=>cT (Vy yP)<|Zs rfl rfl rfl<|ZC H 3 rfl rfl rfl rfl<|fun w2 H=>Xr (H.at 3 rfl) 0 rfl rfl rfl<|Z6.mk ?_
 refine ⟨rfl,?_⟩
 exact H.Z7 [1,1,5]<|fun H=>yz H [6,5,4,3]<|fun H=>H
theorem afu (E:El vc 4 i b o) (c:CV) (hx:cs[i]?=some c) (H:Sat g w (Pt pr [yK cp,vw,vc,yL host] 148::Pt cp (yN m [yK mp,vt,vg]) 158::Sl 3 1 ZJ vt Zt::Sl 79 4 WC vc cs::Sl 2 1 ZJ c.vs c.stk::l)) (hm:XL g m) (P:U0 m.d) (ho:x.op=16\/x.op=17) (Q4:∀n∈Zt,-1<=n/\n<(m.ZA.length:Int)+m.funcs.length) (h1:x.op=17->1<=c.stk.length/\0<=x.a/\x.a<m.types.length) (TS:∀v∈c.stk,XC v) (hlen:c.stk.length<=10000) (NX:Zt.length<=1000) (SA:cs.length<=40) (hvl:c.vl.oneCell'=true) (hq:Y7 m.d Zt x c.stk=(f,s2,0)) (hf:0<=f/\f<(m.ZA.length:Int)+m.funcs.length) (Ho:(YG m.d f).Zf.length<=s2.length) (Py:s2.length<=10000) (Bg:(m.ZA.length:Int)<=f) (Ep:cs.length=40):yq 163 #[yK pr,.pointer (some ⟨b,o,none⟩),.agg #[.int .u8 x.op,yL x.a,yL x.b,Sj]] w (fun r w'=>r=.agg #[yL 2,.slice none 0 0,yL 26,yL 0,yL 0]/\Sat g w' (Pt pr [yK cp,vw,vc,yL host] 148::Pt cp (yN m [yK mp,vt,vg]) 158::Sl 3 1 ZJ vt Zt::l)):=by
 refine Fc.of Tryz.func163 rfl k_d ?_
 have ZT:=hm.types
 have Zy:=hm.ZA
 have ZO:=hm.funcs
 have hvs:=H.one 4 rfl
 have hni:m.ZA.length<=16:=P.ni
 have hnf:m.funcs.length<=16:=by have:=P.nf;rwa [show m.d.funcs.length=m.funcs.length from lea ..] at this
 have hty:∀t:Yh,t.d=YG m.d f->t.Zf.length=(YG m.d f).Zf.length:=fun t h=>by rw [<-h];rfl
 refine ZN H<|fun p1 w1 H=>ZU H rfl<|fun p2 w2 H=>ZL H [] [yJp0,yJp1,yJp2,yJh3,yJh4,yJp5,yJp6,yJp7,yJh8,yJfr9,yJp10,yJp11,yJp12,yJp13,yJp14,yJp15,yJp16] mixed k_d k_d<|fun w1 H=>yG rfl rfl<|yH 2 0 yF rfl<|tk (fun _ Z=>ZF (Z.at 1 rfl) 0 rfl rfl rfl yM)<|yG rfl rfl<|tk (fun _ Z=>yB (Z.el 5 rfl E hx) 3 yA yM)<|H.Z7 [6,5,5]<|fun H=>?_
 refine Z8.mk (Fc.imp (Rn.OY H yQ yQ yQ yQ yQ yQ yQ yQ) ?_)
 rintro _ w2 ⟨f1,⟨Zu,⟨To,⟨e1,⟨rfl,⟨h2,H⟩⟩⟩⟩⟩⟩
 obtain ⟨rfl,rfl,rfl⟩:=So h2 hq
 refine Z9 rfl<|Yg H 6 rfl E hx 3 (⟨c.fn,c.at_,c.vl,c.loc,(Zu),s2⟩) rfl k_o rfl rfl<|fun w3 H=>cF (WY yQ)<|ZL H [] [yJp0,yJp1,yJp2,yJh3,yJp4,yJp5,yJp6,yJp7,yJh8,yJp9,yJf10,yJp11,yJp12,yJp13,yJp14] mixed k_d k_d<|fun w2 H=>yG rfl rfl ?_
 have hx1:(cs.set i { fn:=c.fn,at_:=c.at_,vl:=c.vl,loc:=c.loc,vs:=Zu,stk:=s2 })[i]?=some _:=VF hx
 refine tk (fun _ Z=>yB (Z.el 6 rfl E hx1) 3 yA yM) ?_
 obtain ⟨a1,c1,V1⟩:=H.form 2 rfl
 refine tk (fun _ Z=>WZ V1 rfl yM)<|yG rfl rfl<|yH 5 0 yF rfl ?_
 refine Z8.mk (Fc.imp (Rn.Lu H yQ yQ _ yQ yQ) ?_)
 rintro _ w3 ⟨t1,⟨rfl,⟨h3,⟨h4,⟨h5,⟨h6,⟨h7,H⟩⟩⟩⟩⟩⟩⟩
 have Il:=hty _ yP
 have N6:=Xb.Zf (by assumption:Xb g _)
 refine Ze.mk (H)<|tk (fun _ Z=>Lf rfl yM)<|tk (fun _ Z=>ZK N6 rfl yM)<|ZW yQ<|Z9 rfl<|yB (H.el 6 rfl E hx1) 3 yA ?_
 obtain ⟨v1,V2⟩:=H.vw 2 rfl (((s2.length)-(t1.Zf.length))) ((s2).length) yQ yQ
 refine Wr V2 rfl rfl (.inr ⟨_,by first|rfl|(congr 2;omega)⟩) (.inl ⟨rfl,rfl⟩)<|H.Z7 [2]<|fun H=>?_
 refine Z8.mk (Fc.imp (Rn.Nu H V2 yQ) ?_)
 rintro v' w4 H
 refine Z9 rfl<|yI H 6 0 yF<|Z9 rfl<|Z9 rfl<|yI H 2 1 yF<|ZK Zy rfl<|ZW yQ<|TL (Ya yQ)<|Z9 rfl<|yI H 6 2 yF<|YA H 7 rfl rfl<|cT (ZI (by grind))<|Zs rfl rfl rfl<|ZC H 4 rfl rfl rfl rfl<|fun w5 H=>Xr (H.at 4 rfl) 0 rfl rfl rfl<|Z6.mk ?_
 refine ⟨rfl,?_⟩
 exact H.Z7 [3,3,6]<|fun H=>yz H [7,6,5,4,3]<|fun H=>H
theorem afv (E:El vc 4 i b o) (c:CV) (hx:cs[i]?=some c) (H:Sat g w (Pt pr [yK cp,vw,vc,yL host] 148::Pt cp (yN m [yK mp,vt,vg]) 158::Sl 3 1 ZJ vt Zt::Sl 79 4 WC vc cs::Sl 2 1 ZJ c.vs c.stk::l)) (hm:XL g m) (P:U0 m.d) (ho:x.op=16\/x.op=17) (Q4:∀n∈Zt,-1<=n/\n<(m.ZA.length:Int)+m.funcs.length) (h1:x.op=17->1<=c.stk.length/\0<=x.a/\x.a<m.types.length) (TS:∀v∈c.stk,XC v) (hlen:c.stk.length<=10000) (NX:Zt.length<=1000) (SA:cs.length<=40) (hvl:c.vl.oneCell'=true) (hq:Y7 m.d Zt x c.stk=(f,s2,0)) (hf:0<=f/\f<(m.ZA.length:Int)+m.funcs.length) (Ho:(YG m.d f).Zf.length<=s2.length) (Py:s2.length<=10000) (Bg:f<m.ZA.length):yq 163 #[yK pr,.pointer (some ⟨b,o,none⟩),.agg #[.int .u8 x.op,yL x.a,yL x.b,Sj]] w (fun r w'=>∃vs' vv,r=.agg #[yL 4,vv,yL 0,yL f,yL 0]/\Sat g w' (Pt pr [yK cp,vw,vc,yL (f+1)] 148::Pt cp (yN m [yK mp,vt,vg]) 158::Sl 3 1 ZJ vt Zt::Sl 79 4 WC vc (cs.set i ⟨c.fn,c.at_,c.vl,c.loc,vs',s2.take (s2.length-(YG m.d f).Zf.length)⟩)::Sl 2 1 ZJ vs' (s2.take (s2.length-(YG m.d f).Zf.length))::Sl 2 1 ZJ vv (s2.drop (s2.length-(YG m.d f).Zf.length))::l)):=by
 refine Fc.of Tryz.func163 rfl k_d ?_
 have ZT:=hm.types
 have Zy:=hm.ZA
 have ZO:=hm.funcs
 have hvs:=H.one 4 rfl
 have hni:m.ZA.length<=16:=P.ni
 have hnf:m.funcs.length<=16:=by have:=P.nf;rwa [show m.d.funcs.length=m.funcs.length from lea ..] at this
 have hty:∀t:Yh,t.d=YG m.d f->t.Zf.length=(YG m.d f).Zf.length:=fun t h=>by rw [<-h];rfl
 refine ZN H<|fun p1 w1 H=>ZU H rfl<|fun p2 w2 H=>ZL H [] [yJp0,yJp1,yJp2,yJh3,yJh4,yJp5,yJp6,yJp7,yJh8,yJfr9,yJp10,yJp11,yJp12,yJp13,yJp14,yJp15,yJp16] mixed k_d k_d<|fun w1 H=>yG rfl rfl<|yH 2 0 yF rfl<|tk (fun _ Z=>ZF (Z.at 1 rfl) 0 rfl rfl rfl yM)<|yG rfl rfl<|tk (fun _ Z=>yB (Z.el 5 rfl E hx) 3 yA yM)<|H.Z7 [6,5,5]<|fun H=>?_
 refine Z8.mk (Fc.imp (Rn.OY H yQ yQ yQ yQ yQ yQ yQ yQ) ?_)
 rintro _ w2 ⟨f1,⟨Zu,⟨To,⟨e1,⟨rfl,⟨h2,H⟩⟩⟩⟩⟩⟩
 obtain ⟨rfl,rfl,rfl⟩:=So h2 hq
 refine Z9 rfl<|Yg H 6 rfl E hx 3 (⟨c.fn,c.at_,c.vl,c.loc,(Zu),s2.take (s2.length-(YG m.d f).Zf.length)⟩) rfl k_o rfl rfl<|fun w3 H=>cF (WY yQ)<|ZL H [] [yJp0,yJp1,yJp2,yJh3,yJp4,yJp5,yJp6,yJp7,yJh8,yJp9,yJf10,yJp11,yJp12,yJp13,yJp14] mixed k_d k_d<|fun w2 H=>yG rfl rfl ?_
 have hx1:(cs.set i { fn:=c.fn,at_:=c.at_,vl:=c.vl,loc:=c.loc,vs:=Zu,stk:=List.take (s2.length-(YG m.d f).Zf.length) s2 })[i]?=some _:=VF hx
 refine tk (fun _ Z=>yB (Z.el 6 rfl E hx1) 3 yA yM) ?_
 obtain ⟨a1,c1,V1⟩:=H.form 2 rfl
 refine tk (fun _ Z=>WZ V1 rfl yM)<|yG rfl rfl<|yH 5 0 yF rfl ?_
 refine Z8.mk (Fc.imp (Rn.Lu H yQ yQ _ yQ yQ) ?_)
 rintro _ w3 ⟨t1,⟨rfl,⟨h3,⟨h4,⟨h5,⟨h6,⟨h7,H⟩⟩⟩⟩⟩⟩⟩
 have Il:=hty _ yP
 have N6:=Xb.Zf (by assumption:Xb g _)
 refine Ze.mk (H)<|tk (fun _ Z=>Lf rfl yM)<|tk (fun _ Z=>ZK N6 rfl yM)<|ZW yQ<|Z9 rfl<|yB (H.el 6 rfl E hx1) 3 yA ?_
 obtain ⟨v1,V2⟩:=H.vw 2 rfl (((s2.length)-(t1.Zf.length))) ((s2).length) yQ yQ
 refine Wr V2 rfl rfl (.inr ⟨_,by first|rfl|(congr 2;omega)⟩) (.inl ⟨rfl,rfl⟩)<|H.Z7 [2]<|fun H=>?_
 refine Z8.mk (Fc.imp (Rn.Nu H V2 yQ) ?_)
 rintro v' w4 H
 refine Z9 rfl<|yI H 6 0 yF<|Z9 rfl<|Z9 rfl<|yI H 2 1 yF<|ZK Zy rfl<|ZW yQ<|WK (Yv yQ)<|cF rfl<|Z9 rfl<|yB (H.el 7 rfl E hx1) 3 yA ?_
 obtain ⟨v2,V3⟩:=H.vw 1 rfl (0) (((s2.length)-(t1.Zf.length))) yQ yQ
 refine Wr V3 rfl rfl (.inl ⟨rfl,rfl⟩) (.inr ⟨_,by first|rfl|(congr 2;omega)⟩)<|Z9 rfl<|Yg H 7 rfl E hx1 3 (⟨c.fn,c.at_,c.vl,c.loc,(v2),s2.take (s2.length-(YG m.d f).Zf.length)⟩) rfl (by simp only [Bool.and_true,H.one 0 rfl,H.one 1 rfl,H.one 3 rfl,H.one 7 rfl,Vw.one V3,Vw.one V2,Z0.one N6,hvs,Z0.one ZO,Z0.one Zy,Z0.one ZT,hvl]) rfl rfl<|fun w5 H=>cT (Zd yQ)<|ZW yQ<|Z9 rfl<|Yo H 6 rfl rfl rfl rfl<|fun w4 H=>?_
 obtain ⟨a2,c2,rfl⟩:=H.form 0 rfl
 refine Zs rfl rfl rfl<|ZC H 4 rfl rfl rfl rfl<|fun w5 H=>Xr (H.at 4 rfl) 0 rfl rfl rfl ?_
 replace H:=H.IP 1 rfl V3
 simp only [List.set_cons_succ,List.set_cons_zero,List.drop_zero,Il,List.set_set] at H
 refine Z6.mk ⟨v2,_,(by rw [Il]),?_⟩
 exact H.Z7 [0,1,7,4,4,7]<|fun H=>yz H [7,6]<|fun H=>H
theorem afw (E:El vc 4 i b o) (c:CV) (hx:cs[i]?=some c) (H:Sat g w (Pt pr [yK cp,vw,vc,yL host] 148::Pt cp (yN m [yK mp,vt,vg]) 158::Sl 3 1 ZJ vt Zt::Sl 79 4 WC vc cs::Sl 2 1 ZJ c.vs c.stk::l)) (hm:XL g m) (P:U0 m.d) (ho:x.op=16\/x.op=17) (Q4:∀n∈Zt,-1<=n/\n<(m.ZA.length:Int)+m.funcs.length) (h1:x.op=17->1<=c.stk.length/\0<=x.a/\x.a<m.types.length) (TS:∀v∈c.stk,XC v) (hlen:c.stk.length<=10000) (NX:Zt.length<=1000) (SA:cs.length<=40) (hvl:c.vl.oneCell'=true) (hq:Y7 m.d Zt x c.stk=(f,s2,0)) (hf:0<=f/\f<(m.ZA.length:Int)+m.funcs.length) (Ho:(YG m.d f).Zf.length<=s2.length) (Py:s2.length<=10000) (k:Nat) (F:YS) (EJ:f=m.ZA.length+k) (hF:m.funcs[k]?=some F) (hFl:F.loc.length<=16) (h4:(YG m.d f).Zf.length<=4) (Ep:cs.length<40):yq 163 #[yK pr,.pointer (some ⟨b,o,none⟩),.agg #[.int .u8 x.op,yL x.a,yL x.b,Sj]] w (fun r w'=>∃NW vs' Pz,r=.agg #[yL 0,.slice none 0 0,yL 0,yL 0,yL 0]/\Sat g w' (Pt pr [yK cp,vw,NW,yL host] 148::Pt cp (yN m [yK mp,vt,vg]) 158::Sl 3 1 ZJ vt Zt::Sl 79 4 WC NW (cs.set i ⟨c.fn,c.at_,c.vl,c.loc,vs',s2.take (s2.length-(YG m.d f).Zf.length)⟩++[⟨k,0,Pz,(s2.drop (s2.length-(YG m.d f).Zf.length))++List.replicate F.loc.length 0,.slice none 0 0,[]⟩])::Sl 2 1 ZJ vs' (s2.take (s2.length-(YG m.d f).Zf.length))::Sl 2 1 ZJ Pz ((s2.drop (s2.length-(YG m.d f).Zf.length))++List.replicate F.loc.length 0)::Sl 2 1 ZJ (.slice none 0 0) []::l)):=by
 refine Fc.of Tryz.func163 rfl k_d ?_
 have ZT:=hm.types
 have Zy:=hm.ZA
 have ZO:=hm.funcs
 have hvs:=H.one 4 rfl
 have hni:m.ZA.length<=16:=P.ni
 have hnf:m.funcs.length<=16:=by have:=P.nf;rwa [show m.d.funcs.length=m.funcs.length from lea ..] at this
 have hty:∀t:Yh,t.d=YG m.d f->t.Zf.length=(YG m.d f).Zf.length:=fun t h=>by rw [<-h];rfl
 refine ZN H<|fun p1 w1 H=>ZU H rfl<|fun p2 w2 H=>ZL H [] [yJp0,yJp1,yJp2,yJh3,yJh4,yJp5,yJp6,yJp7,yJh8,yJfr9,yJp10,yJp11,yJp12,yJp13,yJp14,yJp15,yJp16] mixed k_d k_d<|fun w1 H=>yG rfl rfl<|yH 2 0 yF rfl<|tk (fun _ Z=>ZF (Z.at 1 rfl) 0 rfl rfl rfl yM)<|yG rfl rfl<|tk (fun _ Z=>yB (Z.el 5 rfl E hx) 3 yA yM)<|H.Z7 [6,5,5]<|fun H=>?_
 refine Z8.mk (Fc.imp (Rn.OY H yQ yQ yQ yQ yQ yQ yQ yQ) ?_)
 rintro _ w2 ⟨f1,⟨Zu,⟨To,⟨e1,⟨rfl,⟨h2,H⟩⟩⟩⟩⟩⟩
 obtain ⟨rfl,rfl,rfl⟩:=So h2 hq
 refine Z9 rfl<|Yg H 6 rfl E hx 3 (⟨c.fn,c.at_,c.vl,c.loc,(Zu),s2.take (s2.length-(YG m.d f).Zf.length)⟩) rfl k_o rfl rfl<|fun w3 H=>cF (WY yQ)<|ZL H [] [yJp0,yJp1,yJp2,yJh3,yJp4,yJp5,yJp6,yJp7,yJh8,yJp9,yJf10,yJp11,yJp12,yJp13,yJp14] mixed k_d k_d<|fun w2 H=>yG rfl rfl ?_
 have hx1:(cs.set i { fn:=c.fn,at_:=c.at_,vl:=c.vl,loc:=c.loc,vs:=Zu,stk:=List.take (s2.length-(YG m.d f).Zf.length) s2 })[i]?=some _:=VF hx
 refine tk (fun _ Z=>yB (Z.el 6 rfl E hx1) 3 yA yM) ?_
 obtain ⟨a1,c1,V1⟩:=H.form 2 rfl
 refine tk (fun _ Z=>WZ V1 rfl yM)<|yG rfl rfl<|yH 5 0 yF rfl ?_
 refine Z8.mk (Fc.imp (Rn.Lu H yQ yQ _ yQ yQ) ?_)
 rintro _ w3 ⟨t1,⟨rfl,⟨h3,⟨h5,⟨h6,⟨h7,⟨h8,H⟩⟩⟩⟩⟩⟩⟩
 have Il:=hty _ yP
 have N6:=Xb.Zf (by assumption:Xb g _)
 refine Ze.mk (H)<|tk (fun _ Z=>Lf rfl yM)<|tk (fun _ Z=>ZK N6 rfl yM)<|ZW yQ<|Z9 rfl<|yB (H.el 6 rfl E hx1) 3 yA ?_
 obtain ⟨v1,V2⟩:=H.vw 2 rfl (((s2.length)-(t1.Zf.length))) ((s2).length) yQ yQ
 refine Wr V2 rfl rfl (.inr ⟨_,by first|rfl|(congr 2;omega)⟩) (.inl ⟨rfl,rfl⟩)<|H.Z7 [2]<|fun H=>?_
 refine Z8.mk (Fc.imp (Rn.Nu H V2 yQ) ?_)
 rintro v' w4 H
 refine Z9 rfl<|yI H 6 0 yF<|Z9 rfl<|Z9 rfl<|yI H 2 1 yF<|ZK Zy rfl<|ZW yQ<|TL (Ya yQ)<|Z9 rfl<|yI H 6 2 yF<|YA H 7 rfl rfl<|cF (Z5 (by grind))<|Z9 rfl<|yB (H.el 7 rfl E hx1) 3 yA ?_
 obtain ⟨v2,V3⟩:=H.vw 1 rfl (0) (((s2.length)-(t1.Zf.length))) yQ yQ
 refine Wr V3 rfl rfl (.inl ⟨rfl,rfl⟩) (.inr ⟨_,by first|rfl|(congr 2;omega)⟩)<|Z9 rfl<|Yg H 7 rfl E hx1 3 (⟨c.fn,c.at_,c.vl,c.loc,(v2),s2.take (s2.length-(YG m.d f).Zf.length)⟩) rfl (by simp only [Bool.and_true,H.one 0 rfl,H.one 1 rfl,H.one 3 rfl,H.one 7 rfl,Vw.one V3,Vw.one V2,Z0.one N6,hvs,Z0.one ZO,Z0.one Zy,Z0.one ZT,hvl]) rfl rfl<|fun w5 H=>cF (Zk yQ) ?_
 replace H:=H.IP 1 rfl V3
 simp only [List.set_cons_succ,List.set_cons_zero,List.drop_zero,Il,List.set_set] at H
 rw [show f-(m.ZA.length:Int)=(k:Int) by omega]
 refine H.Z7 [0,7,3,7]<|fun H=>?_
 refine Z8.mk (Fc.imp (Rn.ajA H yQ (k) _ hF yQ ?_ ?_ ?_) ?_)
 .grind
 .grind
 .omega
 rintro Ws w4 ⟨FZ,⟨TD,H⟩⟩
 refine Zs rfl rfl rfl<|ZC H 7 rfl rfl rfl rfl<|fun w6 H=>Xr (H.at 7 rfl) 0 rfl rfl rfl ?_
 refine Z6.mk ⟨FZ,v2,TD,rfl,?_⟩
 exact H.Z7 [4,4,5,5,6,6,6]<|fun H=>yz H [8,7]<|fun H=>H
end
end Rn
namespace Rn
open Go YY Go.RowKit
open YV Zo X7 Y3 Valid Mem
def fr (c:CV):List As:=[Sl 2 1 ZJ c.vl c.loc,Sl 2 1 ZJ c.vs c.stk]
def PZ (cs:List CV):As:=Oy (cs.flatMap fr)
section
variable {g:ZE} {w:World} {l:List As} {m:Zq} {pr cp mp:Nat} {vw vc vt vg vp Sj vj:Value} {host f e:Int} {cs up:List CV} {Zt Zh s2:yp} {ps:List WV} {c u:CV} {x:ZV} {i b o:Nat} {ws:List Ye} {j:Ye}
theorem Nt (H:Sat g w (Sl 2 1 ZJ c.vl c.loc::Sl 2 1 ZJ c.vs c.stk::PZ up::l)):Sat g w (PZ (up++[c])::l):=by
 refine H.Z7 [2]<|fun H=>?_
 have H:Sat g w (Oy (up.flatMap fr)::([Sl 2 1 ZJ c.vl c.loc,Sl 2 1 ZJ c.vs c.stk]++l)):=H
 have H:=H.unbox
 rw [<-lja] at H
 have H:=H.box
 show Sat g w (Oy ((up++[c]).flatMap fr)::l)
 rw [lQa]
 exact H
theorem Yc (hcs:cs=up++[c]):cs[up.length]?=some c:=by grind
theorem X8 (hcs:cs=up++[c]) (z:CV):cs.set up.length z=up++[z]:=by grind
theorem ams (H:Sat g w (Pt pr [yK cp,vw,vc,yL 0] 148::Pt cp (yN m [yK mp,vt,vg]) 158::Pt mp [vp,yL m.most] 221::Sl 223 256 Xh vp ps::Sl 3 1 ZJ vt Zt::Sl 2 1 ZJ vg Zh::Sl 79 4 WC vc cs::PZ up::Sl 2 1 ZJ c.vl c.loc::Sl 2 1 ZJ c.vs c.stk::l)) (hcs:cs=up++[c]) (E:El vc 4 up.length b o) (TK:0<=c.at_/\c.at_<=1000) (hlen:c.stk.length<=10000) (ho:x.op=0):yq 114 #[yK pr,.pointer (some ⟨b,o,none⟩),.agg #[.int .u8 x.op,yL x.a,yL x.b,Sj],vj] w (fun r w'=>r=.agg #[yL 2,.slice none 0 0,yL 20,yL 0,yL 0]/\Sat g w' (Pt pr [yK cp,vw,vc,yL 0] 148::Pt cp (yN m [yK mp,vt,vg]) 158::Pt mp [vp,yL m.most] 221::Sl 223 256 Xh vp ps::Sl 3 1 ZJ vt Zt::Sl 2 1 ZJ vg Zh::l)):=by
 refine Fc.of Tryz.func114 rfl k_d ?_
 have hx:=Yc hcs
 refine ZN H<|fun p1 w1 H=>ZU H rfl<|fun p2 w2 H=>Z9 rfl<|yB (H.el 8 rfl E hx) 1 yA<|ZW yQ<|Z9 rfl<|Yg H 8 rfl E hx 1 (⟨c.fn,c.at_+1,c.vl,c.loc,c.vs,c.stk⟩) rfl rfl rfl rfl<|fun w1 H=>Z9 rfl<|yI H 1 0 yF<|bk<|cT (ZI yP)<|Zs rfl rfl rfl<|ZC H 0 rfl rfl rfl rfl<|fun w2 H=>Xr (H.at 0 rfl) 0 rfl rfl rfl<|Z6.mk ?_
 refine ⟨rfl,?_⟩
 exact H.Z7 [7,7,7,7,7,7]<|fun H=>yz H [11,10,9,8,7,6]<|fun H=>H
theorem amt (H:Sat g w (Pt pr [yK cp,vw,vc,yL 0] 148::Pt cp (yN m [yK mp,vt,vg]) 158::Pt mp [vp,yL m.most] 221::Sl 223 256 Xh vp ps::Sl 3 1 ZJ vt Zt::Sl 2 1 ZJ vg Zh::Sl 79 4 WC vc cs::PZ up::Sl 2 1 ZJ c.vl c.loc::Sl 2 1 ZJ c.vs c.stk::l)) (hcs:cs=up++[c]) (E:El vc 4 up.length b o) (TK:0<=c.at_/\c.at_<=1000) (hlen:c.stk.length<=10000) (ho:x.op=1\/x.op=2\/x.op=3):yq 114 #[yK pr,.pointer (some ⟨b,o,none⟩),.agg #[.int .u8 x.op,yL x.a,yL x.b,Sj],vj] w (fun r w'=>r=.agg #[yL 0,.slice none 0 0,yL 0,yL 0,yL 0]/\Sat g w' (Pt pr [yK cp,vw,vc,yL 0] 148::Pt cp (yN m [yK mp,vt,vg]) 158::Pt mp [vp,yL m.most] 221::Sl 223 256 Xh vp ps::Sl 3 1 ZJ vt Zt::Sl 2 1 ZJ vg Zh::Sl 79 4 WC vc (up++[⟨c.fn,c.at_+1,c.vl,c.loc,c.vs,c.stk⟩])::PZ up::Sl 2 1 ZJ c.vl c.loc::Sl 2 1 ZJ c.vs c.stk::l)):=by
 refine Fc.of Tryz.func114 rfl k_d ?_
 have hx:=Yc hcs
 have VU:=X8 hcs
 rcases ho with ho|ho|ho
 .refine ZN H<|fun p1 w1 H=>ZU H rfl<|fun p2 w2 H=>Z9 rfl<|yB (H.el 8 rfl E hx) 1 yA<|ZW yQ<|Z9 rfl<|Yg H 8 rfl E hx 1 (⟨c.fn,c.at_+1,c.vl,c.loc,c.vs,c.stk⟩) rfl rfl rfl rfl<|fun w1 H=>Z9 rfl<|yI H 1 0 yF<|bk<|cF (Z5 yQ)<|cT (ZI yP)<|cT (ZI yP)<|Zs rfl rfl rfl<|ZC H 0 rfl rfl rfl rfl<|fun w2 H=>Xr (H.at 0 rfl) 0 rfl rfl rfl<|Z6.mk ?_
  refine ⟨rfl,?_⟩
  refine H.Z7 [11,11,11,11,11,11,11,11,11,11]<|fun H=>yz H [11,10]<|fun H=>?_
  refine H.cg (Yu rfl (Yu rfl (Yu rfl (Yu rfl (Yu rfl (Yu rfl (Yu (Ot ?_) (Yu rfl (Yu rfl (Yu rfl (rfl)))))))))))
  exact VU _
 .refine ZN H<|fun p1 w1 H=>ZU H rfl<|fun p2 w2 H=>Z9 rfl<|yB (H.el 8 rfl E hx) 1 yA<|ZW yQ<|Z9 rfl<|Yg H 8 rfl E hx 1 (⟨c.fn,c.at_+1,c.vl,c.loc,c.vs,c.stk⟩) rfl rfl rfl rfl<|fun w1 H=>Z9 rfl<|yI H 1 0 yF<|bk<|cF (Z5 yQ)<|cF (Z5 yQ)<|cT (ZI yP)<|cT (ZI yP)<|Zs rfl rfl rfl<|ZC H 0 rfl rfl rfl rfl<|fun w2 H=>Xr (H.at 0 rfl) 0 rfl rfl rfl<|Z6.mk ?_
  refine ⟨rfl,?_⟩
  refine H.Z7 [11,11,11,11,11,11,11,11,11,11]<|fun H=>yz H [11,10]<|fun H=>?_
  refine H.cg (Yu rfl (Yu rfl (Yu rfl (Yu rfl (Yu rfl (Yu rfl (Yu (Ot ?_) (Yu rfl (Yu rfl (Yu rfl (rfl)))))))))))
  exact VU _
 .refine ZN H<|fun p1 w1 H=>ZU H rfl<|fun p2 w2 H=>Z9 rfl<|yB (H.el 8 rfl E hx) 1 yA<|ZW yQ<|Z9 rfl<|Yg H 8 rfl E hx 1 (⟨c.fn,c.at_+1,c.vl,c.loc,c.vs,c.stk⟩) rfl rfl rfl rfl<|fun w1 H=>Z9 rfl<|yI H 1 0 yF<|bk<|cF (Z5 yQ)<|cF (Z5 yQ)<|cF (Z5 yQ)<|cT (ZI yP)<|Zs rfl rfl rfl<|ZC H 0 rfl rfl rfl rfl<|fun w2 H=>Xr (H.at 0 rfl) 0 rfl rfl rfl<|Z6.mk ?_
  refine ⟨rfl,?_⟩
  refine H.Z7 [11,11,11,11,11,11,11,11,11,11]<|fun H=>yz H [11,10]<|fun H=>?_
  refine H.cg (Yu rfl (Yu rfl (Yu rfl (Yu rfl (Yu rfl (Yu rfl (Yu (Ot ?_) (Yu rfl (Yu rfl (Yu rfl (rfl)))))))))))
  exact VU _
theorem ajB (H:Sat g w (Pt pr [yK cp,vw,vc,yL 0] 148::Pt cp (yN m [yK mp,vt,vg]) 158::Pt mp [vp,yL m.most] 221::Sl 223 256 Xh vp ps::Sl 3 1 ZJ vt Zt::Sl 2 1 ZJ vg Zh::Sl 79 4 WC vc cs::PZ up::Sl 2 1 ZJ c.vl c.loc::Sl 2 1 ZJ c.vs c.stk::l)) (hcs:cs=up++[c]) (E:El vc 4 up.length b o) (TK:0<=c.at_/\c.at_<=1000) (hlen:c.stk.length<=10000) (hj:Z0 g NA Cb 3 vj ws) (hjn:0<=j.height) (zU:0<=j.keep) (B6:ws.length<=100) (ho:x.op=12\/x.op=15) (hw:ws[0]?=some j) (hjf:j.height+j.keep<=c.stk.length):yq 114 #[yK pr,.pointer (some ⟨b,o,none⟩),.agg #[.int .u8 x.op,yL x.a,yL x.b,Sj],vj] w (fun r w'=>∃vs',r=.agg #[yL 0,.slice none 0 0,yL 0,yL 0,yL 0]/\Sat g w' (Pt pr [yK cp,vw,vc,yL 0] 148::Pt cp (yN m [yK mp,vt,vg]) 158::Pt mp [vp,yL m.most] 221::Sl 223 256 Xh vp ps::Sl 3 1 ZJ vt Zt::Sl 2 1 ZJ vg Zh::Sl 79 4 WC vc (up++[⟨c.fn,j.at_,c.vl,c.loc,vs',(c.stk.take j.height.toNat++c.stk.drop (c.stk.length-j.keep.toNat))⟩])::PZ up::Sl 2 1 ZJ c.vl c.loc::Sl 2 1 ZJ vs' (c.stk.take j.height.toNat++c.stk.drop (c.stk.length-j.keep.toNat))::l)):=by
 refine Fc.of Tryz.func114 rfl k_d ?_
 have hx:=Yc hcs
 have VU:=X8 hcs
 rcases ho with ho|ho
 .refine ZN H<|fun p1 w1 H=>ZU H rfl<|fun p2 w2 H=>Z9 rfl<|yB (H.el 8 rfl E hx) 1 yA<|ZW yQ<|Z9 rfl<|Yg H 8 rfl E hx 1 (⟨c.fn,c.at_+1,c.vl,c.loc,c.vs,c.stk⟩) rfl rfl rfl rfl<|fun w1 H=>Z9 rfl<|yI H 1 0 yF<|bk ?_
  simp only [VU] at H
  have hx1:(up++[(⟨c.fn,c.at_+1,c.vl,c.loc,c.vs,c.stk⟩:CV)])[up.length]?=some (⟨c.fn,c.at_+1,c.vl,c.loc,c.vs,c.stk⟩:CV):=Yc rfl
  clear hx
  have VW:∀z,(up++[(⟨c.fn,c.at_+1,c.vl,c.loc,c.vs,c.stk⟩:CV)]).set up.length z=up++[z]:=X8 rfl
  refine cF (Z5 yQ)<|cF (Z5 yQ)<|cF (Z5 yQ)<|cF (Z5 yQ)<|cF (Z5 yQ)<|cT (ZI yP)<|cT (ZI yP) ?_
  obtain ⟨b1,o1,E1,F1,ZH⟩:=Z0.Y1 hj hw
  refine ZG E1 rfl rfl rfl<|ZF (H.Yq F1) 0 rfl rfl rfl<|H.Z7 [11,9]<|fun H=>?_
  refine Z8.mk (Fc.imp (Rn.Jm E _ hx1 H _ yQ yQ yQ ?_) ?_)
  .grind
  rintro v' w2 ⟨Zu,H⟩
  refine Zs rfl rfl rfl<|ZC H 2 rfl rfl rfl rfl<|fun w3 H=>Xr (H.at 2 rfl) 0 rfl rfl rfl<|Z6.mk ?_
  refine ⟨Zu,?_⟩
  refine ⟨rfl,?_⟩
  refine H.Z7 [1,11,11,3,11,11,11,11,11,11]<|fun H=>yz H [11,10]<|fun H=>?_
  refine H.cg (Yu rfl (Yu rfl (Yu rfl (Yu rfl (Yu rfl (Yu rfl (Yu (Ot ?_) (Yu rfl (Yu rfl (Yu rfl (rfl)))))))))))
  exact VW _
 .refine ZN H<|fun p1 w1 H=>ZU H rfl<|fun p2 w2 H=>Z9 rfl<|yB (H.el 8 rfl E hx) 1 yA<|ZW yQ<|Z9 rfl<|Yg H 8 rfl E hx 1 (⟨c.fn,c.at_+1,c.vl,c.loc,c.vs,c.stk⟩) rfl rfl rfl rfl<|fun w1 H=>Z9 rfl<|yI H 1 0 yF<|bk ?_
  simp only [VU] at H
  have hx1:(up++[(⟨c.fn,c.at_+1,c.vl,c.loc,c.vs,c.stk⟩:CV)])[up.length]?=some (⟨c.fn,c.at_+1,c.vl,c.loc,c.vs,c.stk⟩:CV):=Yc rfl
  clear hx
  have VW:∀z,(up++[(⟨c.fn,c.at_+1,c.vl,c.loc,c.vs,c.stk⟩:CV)]).set up.length z=up++[z]:=X8 rfl
  refine cF (Z5 yQ)<|cF (Z5 yQ)<|cF (Z5 yQ)<|cF (Z5 yQ)<|cF (Z5 yQ)<|cF (Z5 yQ)<|cT (ZI yP) ?_
  obtain ⟨b1,o1,E1,F1,ZH⟩:=Z0.Y1 hj hw
  refine ZG E1 rfl rfl rfl<|ZF (H.Yq F1) 0 rfl rfl rfl<|H.Z7 [11,9]<|fun H=>?_
  refine Z8.mk (Fc.imp (Rn.Jm E _ hx1 H _ yQ yQ yQ ?_) ?_)
  .grind
  rintro v' w2 ⟨Zu,H⟩
  refine Zs rfl rfl rfl<|ZC H 2 rfl rfl rfl rfl<|fun w3 H=>Xr (H.at 2 rfl) 0 rfl rfl rfl<|Z6.mk ?_
  refine ⟨Zu,?_⟩
  refine ⟨rfl,?_⟩
  refine H.Z7 [1,11,11,3,11,11,11,11,11,11]<|fun H=>yz H [11,10]<|fun H=>?_
  refine H.cg (Yu rfl (Yu rfl (Yu rfl (Yu rfl (Yu rfl (Yu rfl (Yu (Ot ?_) (Yu rfl (Yu rfl (Yu rfl (rfl)))))))))))
  exact VW _
theorem ah1 (H:Sat g w (Pt pr [yK cp,vw,vc,yL 0] 148::Pt cp (yN m [yK mp,vt,vg]) 158::Pt mp [vp,yL m.most] 221::Sl 223 256 Xh vp ps::Sl 3 1 ZJ vt Zt::Sl 2 1 ZJ vg Zh::Sl 79 4 WC vc cs::PZ up::Sl 2 1 ZJ c.vl c.loc::Sl 2 1 ZJ c.vs c.stk::l)) (hcs:cs=up++[c]) (E:El vc 4 up.length b o) (TK:0<=c.at_/\c.at_<=1000) (hlen:c.stk.length<=10000) (hj:Z0 g NA Cb 3 vj ws) (hjn:0<=j.height) (zU:0<=j.keep) (B6:ws.length<=100) (h1:1<=c.stk.length) (ho:(x.op=4/\top c.stk 0=0)\/(x.op=13/\top c.stk 0≠0)) (hw:ws[0]?=some j) (hjf:j.height+j.keep<=(low c.stk 1).length):yq 114 #[yK pr,.pointer (some ⟨b,o,none⟩),.agg #[.int .u8 x.op,yL x.a,yL x.b,Sj],vj] w (fun r w'=>∃vs',r=.agg #[yL 0,.slice none 0 0,yL 0,yL 0,yL 0]/\Sat g w' (Pt pr [yK cp,vw,vc,yL 0] 148::Pt cp (yN m [yK mp,vt,vg]) 158::Pt mp [vp,yL m.most] 221::Sl 223 256 Xh vp ps::Sl 3 1 ZJ vt Zt::Sl 2 1 ZJ vg Zh::Sl 79 4 WC vc (up++[⟨c.fn,j.at_,c.vl,c.loc,vs',((low c.stk 1).take j.height.toNat++(low c.stk 1).drop ((low c.stk 1).length-j.keep.toNat))⟩])::PZ up::Sl 2 1 ZJ c.vl c.loc::Sl 2 1 ZJ vs' ((low c.stk 1).take j.height.toNat++(low c.stk 1).drop ((low c.stk 1).length-j.keep.toNat))::l)):=by
 refine Fc.of Tryz.func114 rfl k_d ?_
 have hx:=Yc hcs
 have VU:=X8 hcs
 have QA:(low c.stk 1).length=c.stk.length-1:=O9
 rcases ho with ⟨ho,hz⟩|⟨ho,hz⟩
 .refine ZN H<|fun p1 w1 H=>ZU H rfl<|fun p2 w2 H=>Z9 rfl<|yB (H.el 8 rfl E hx) 1 yA<|ZW yQ<|Z9 rfl<|Yg H 8 rfl E hx 1 (⟨c.fn,c.at_+1,c.vl,c.loc,c.vs,c.stk⟩) rfl rfl rfl rfl<|fun w1 H=>Z9 rfl<|yI H 1 0 yF<|bk ?_
  simp only [VU] at H
  have hx1:(up++[(⟨c.fn,c.at_+1,c.vl,c.loc,c.vs,c.stk⟩:CV)])[up.length]?=some (⟨c.fn,c.at_+1,c.vl,c.loc,c.vs,c.stk⟩:CV):=Yc rfl
  clear hx
  have VW:∀z,(up++[(⟨c.fn,c.at_+1,c.vl,c.loc,c.vs,c.stk⟩:CV)]).set up.length z=up++[z]:=X8 rfl
  refine cF (Z5 yQ)<|cF (Z5 yQ)<|cF (Z5 yQ)<|cF (Z5 yQ)<|cT (ZI yP)<|H.Z7 [11,9]<|fun H=>?_
  refine Z8.mk (Fc.imp (Rn.OX E _ hx1 H yQ ?_) ?_)
  .grind
  rintro _ w2 ⟨Zu,⟨t1,⟨rfl,⟨h2,H⟩⟩⟩⟩
  simp only [VW] at H
  replace h2:t1=top c.stk 0:=h2
  clear hx1
  have Wp:(up++[(⟨c.fn,c.at_+1,c.vl,c.loc,Zu,low c.stk 1⟩:CV)])[up.length]?=some (⟨c.fn,c.at_+1,c.vl,c.loc,Zu,low c.stk 1⟩:CV):=Yc rfl
  have PB:∀z,(up++[(⟨c.fn,c.at_+1,c.vl,c.loc,Zu,low c.stk 1⟩:CV)]).set up.length z=up++[z]:=X8 rfl
  refine cT (ZI yQ) ?_
  obtain ⟨b1,o1,E1,F1,ZH⟩:=Z0.Y1 hj hw
  refine ZG E1 rfl rfl rfl<|ZF (H.Yq F1) 0 rfl rfl rfl ?_
  refine Z8.mk (Fc.imp (Rn.Jm E _ Wp H _ yQ yQ yQ ?_) ?_)
  .grind
  rintro v' w3 ⟨VB,H⟩
  refine Zs rfl rfl rfl<|ZC H 2 rfl rfl rfl rfl<|fun w4 H=>Xr (H.at 2 rfl) 0 rfl rfl rfl<|Z6.mk ?_
  refine ⟨VB,?_⟩
  refine ⟨rfl,?_⟩
  refine H.Z7 [1,11,11,3,11,11,11,11,11,11]<|fun H=>yz H [11,10]<|fun H=>?_
  refine H.cg (Yu rfl (Yu rfl (Yu rfl (Yu rfl (Yu rfl (Yu rfl (Yu (Ot ?_) (Yu rfl (Yu rfl (Yu rfl (rfl)))))))))))
  exact PB _
 .refine ZN H<|fun p1 w1 H=>ZU H rfl<|fun p2 w2 H=>Z9 rfl<|yB (H.el 8 rfl E hx) 1 yA<|ZW yQ<|Z9 rfl<|Yg H 8 rfl E hx 1 (⟨c.fn,c.at_+1,c.vl,c.loc,c.vs,c.stk⟩) rfl rfl rfl rfl<|fun w1 H=>Z9 rfl<|yI H 1 0 yF<|bk ?_
  simp only [VU] at H
  have hx1:(up++[(⟨c.fn,c.at_+1,c.vl,c.loc,c.vs,c.stk⟩:CV)])[up.length]?=some (⟨c.fn,c.at_+1,c.vl,c.loc,c.vs,c.stk⟩:CV):=Yc rfl
  clear hx
  have VW:∀z,(up++[(⟨c.fn,c.at_+1,c.vl,c.loc,c.vs,c.stk⟩:CV)]).set up.length z=up++[z]:=X8 rfl
  refine cF (Z5 yQ)<|cF (Z5 yQ)<|cF (Z5 yQ)<|cF (Z5 yQ)<|cF (Z5 yQ)<|cF (Z5 yQ)<|cF (Z5 yQ)<|cT (ZI yP)<|H.Z7 [11,9]<|fun H=>?_
  refine Z8.mk (Fc.imp (Rn.OX E _ hx1 H yQ ?_) ?_)
  .grind
  rintro _ w2 ⟨Zu,⟨t1,⟨rfl,⟨h2,H⟩⟩⟩⟩
  simp only [VW] at H
  replace h2:t1=top c.stk 0:=h2
  clear hx1
  have Wp:(up++[(⟨c.fn,c.at_+1,c.vl,c.loc,Zu,low c.stk 1⟩:CV)])[up.length]?=some (⟨c.fn,c.at_+1,c.vl,c.loc,Zu,low c.stk 1⟩:CV):=Yc rfl
  have PB:∀z,(up++[(⟨c.fn,c.at_+1,c.vl,c.loc,Zu,low c.stk 1⟩:CV)]).set up.length z=up++[z]:=X8 rfl
  refine cT (Vy yQ) ?_
  obtain ⟨b1,o1,E1,F1,ZH⟩:=Z0.Y1 hj hw
  refine ZG E1 rfl rfl rfl<|ZF (H.Yq F1) 0 rfl rfl rfl ?_
  refine Z8.mk (Fc.imp (Rn.Jm E _ Wp H _ yQ yQ yQ ?_) ?_)
  .grind
  rintro v' w3 ⟨VB,H⟩
  refine Zs rfl rfl rfl<|ZC H 2 rfl rfl rfl rfl<|fun w4 H=>Xr (H.at 2 rfl) 0 rfl rfl rfl<|Z6.mk ?_
  refine ⟨VB,?_⟩
  refine ⟨rfl,?_⟩
  refine H.Z7 [1,11,11,3,11,11,11,11,11,11]<|fun H=>yz H [11,10]<|fun H=>?_
  refine H.cg (Yu rfl (Yu rfl (Yu rfl (Yu rfl (Yu rfl (Yu rfl (Yu (Ot ?_) (Yu rfl (Yu rfl (Yu rfl (rfl)))))))))))
  exact PB _
theorem ah2 (H:Sat g w (Pt pr [yK cp,vw,vc,yL 0] 148::Pt cp (yN m [yK mp,vt,vg]) 158::Pt mp [vp,yL m.most] 221::Sl 223 256 Xh vp ps::Sl 3 1 ZJ vt Zt::Sl 2 1 ZJ vg Zh::Sl 79 4 WC vc cs::PZ up::Sl 2 1 ZJ c.vl c.loc::Sl 2 1 ZJ c.vs c.stk::l)) (hcs:cs=up++[c]) (E:El vc 4 up.length b o) (TK:0<=c.at_/\c.at_<=1000) (hlen:c.stk.length<=10000) (h1:1<=c.stk.length) (ho:(x.op=4/\top c.stk 0≠0)\/(x.op=13/\top c.stk 0=0)):yq 114 #[yK pr,.pointer (some ⟨b,o,none⟩),.agg #[.int .u8 x.op,yL x.a,yL x.b,Sj],vj] w (fun r w'=>∃vs',r=.agg #[yL 0,.slice none 0 0,yL 0,yL 0,yL 0]/\Sat g w' (Pt pr [yK cp,vw,vc,yL 0] 148::Pt cp (yN m [yK mp,vt,vg]) 158::Pt mp [vp,yL m.most] 221::Sl 223 256 Xh vp ps::Sl 3 1 ZJ vt Zt::Sl 2 1 ZJ vg Zh::Sl 79 4 WC vc (up++[⟨c.fn,c.at_+1,c.vl,c.loc,vs',(low c.stk 1)⟩])::PZ up::Sl 2 1 ZJ c.vl c.loc::Sl 2 1 ZJ vs' (low c.stk 1)::l)):=by
 refine Fc.of Tryz.func114 rfl k_d ?_
 have hx:=Yc hcs
 have VU:=X8 hcs
 have QA:(low c.stk 1).length=c.stk.length-1:=O9
 rcases ho with ⟨ho,hz⟩|⟨ho,hz⟩
 .refine ZN H<|fun p1 w1 H=>ZU H rfl<|fun p2 w2 H=>Z9 rfl<|yB (H.el 8 rfl E hx) 1 yA<|ZW yQ<|Z9 rfl<|Yg H 8 rfl E hx 1 (⟨c.fn,c.at_+1,c.vl,c.loc,c.vs,c.stk⟩) rfl rfl rfl rfl<|fun w1 H=>Z9 rfl<|yI H 1 0 yF<|bk ?_
  simp only [VU] at H
  have hx1:(up++[(⟨c.fn,c.at_+1,c.vl,c.loc,c.vs,c.stk⟩:CV)])[up.length]?=some (⟨c.fn,c.at_+1,c.vl,c.loc,c.vs,c.stk⟩:CV):=Yc rfl
  clear hx
  have VW:∀z,(up++[(⟨c.fn,c.at_+1,c.vl,c.loc,c.vs,c.stk⟩:CV)]).set up.length z=up++[z]:=X8 rfl
  refine cF (Z5 yQ)<|cF (Z5 yQ)<|cF (Z5 yQ)<|cF (Z5 yQ)<|cT (ZI yP)<|H.Z7 [11,9]<|fun H=>?_
  refine Z8.mk (Fc.imp (Rn.OX E _ hx1 H yQ ?_) ?_)
  .grind
  rintro _ w2 ⟨Zu,⟨t1,⟨rfl,⟨h2,H⟩⟩⟩⟩
  simp only [VW] at H
  replace h2:t1=top c.stk 0:=h2
  clear hx1
  have Wp:(up++[(⟨c.fn,c.at_+1,c.vl,c.loc,Zu,low c.stk 1⟩:CV)])[up.length]?=some (⟨c.fn,c.at_+1,c.vl,c.loc,Zu,low c.stk 1⟩:CV):=Yc rfl
  have PB:∀z,(up++[(⟨c.fn,c.at_+1,c.vl,c.loc,Zu,low c.stk 1⟩:CV)]).set up.length z=up++[z]:=X8 rfl
  refine cF (Z5 yQ)<|Zs rfl rfl rfl<|ZC H 2 rfl rfl rfl rfl<|fun w3 H=>Xr (H.at 2 rfl) 0 rfl rfl rfl<|Z6.mk ?_
  refine ⟨Zu,?_⟩
  refine ⟨rfl,?_⟩
  exact H.Z7 [1,11,11,3,11,11,11,11,11,11]<|fun H=>yz H [11,10]<|fun H=>H
 .refine ZN H<|fun p1 w1 H=>ZU H rfl<|fun p2 w2 H=>Z9 rfl<|yB (H.el 8 rfl E hx) 1 yA<|ZW yQ<|Z9 rfl<|Yg H 8 rfl E hx 1 (⟨c.fn,c.at_+1,c.vl,c.loc,c.vs,c.stk⟩) rfl rfl rfl rfl<|fun w1 H=>Z9 rfl<|yI H 1 0 yF<|bk ?_
  simp only [VU] at H
  have hx1:(up++[(⟨c.fn,c.at_+1,c.vl,c.loc,c.vs,c.stk⟩:CV)])[up.length]?=some (⟨c.fn,c.at_+1,c.vl,c.loc,c.vs,c.stk⟩:CV):=Yc rfl
  clear hx
  have VW:∀z,(up++[(⟨c.fn,c.at_+1,c.vl,c.loc,c.vs,c.stk⟩:CV)]).set up.length z=up++[z]:=X8 rfl
  refine cF (Z5 yQ)<|cF (Z5 yQ)<|cF (Z5 yQ)<|cF (Z5 yQ)<|cF (Z5 yQ)<|cF (Z5 yQ)<|cF (Z5 yQ)<|cT (ZI yP)<|H.Z7 [11,9]<|fun H=>?_
  refine Z8.mk (Fc.imp (Rn.OX E _ hx1 H yQ ?_) ?_)
  .grind
  rintro _ w2 ⟨Zu,⟨t1,⟨rfl,⟨h2,H⟩⟩⟩⟩
  simp only [VW] at H
  replace h2:t1=top c.stk 0:=h2
  clear hx1
  have Wp:(up++[(⟨c.fn,c.at_+1,c.vl,c.loc,Zu,low c.stk 1⟩:CV)])[up.length]?=some (⟨c.fn,c.at_+1,c.vl,c.loc,Zu,low c.stk 1⟩:CV):=Yc rfl
  have PB:∀z,(up++[(⟨c.fn,c.at_+1,c.vl,c.loc,Zu,low c.stk 1⟩:CV)]).set up.length z=up++[z]:=X8 rfl
  refine cF (WY yQ)<|Zs rfl rfl rfl<|ZC H 2 rfl rfl rfl rfl<|fun w3 H=>Xr (H.at 2 rfl) 0 rfl rfl rfl<|Z6.mk ?_
  refine ⟨Zu,?_⟩
  refine ⟨rfl,?_⟩
  exact H.Z7 [1,11,11,3,11,11,11,11,11,11]<|fun H=>yz H [11,10]<|fun H=>H
theorem ajC (H:Sat g w (Pt pr [yK cp,vw,vc,yL 0] 148::Pt cp (yN m [yK mp,vt,vg]) 158::Pt mp [vp,yL m.most] 221::Sl 223 256 Xh vp ps::Sl 3 1 ZJ vt Zt::Sl 2 1 ZJ vg Zh::Sl 79 4 WC vc cs::PZ up::Sl 2 1 ZJ c.vl c.loc::Sl 2 1 ZJ c.vs c.stk::l)) (hcs:cs=up++[c]) (E:El vc 4 up.length b o) (TK:0<=c.at_/\c.at_<=1000) (hlen:c.stk.length<=10000) (hj:Z0 g NA Cb 3 vj ws) (hjn:0<=j.height) (zU:0<=j.keep) (B6:ws.length<=100) (h1:1<=c.stk.length) (TS:XC (top c.stk 0)) (ho:x.op=14) (hw0:1<=ws.length) (hw:ws[(min (top c.stk 0 % 4294967296) (ws.length-1)).toNat]?=some j) (hjf:j.height+j.keep<=(low c.stk 1).length):yq 114 #[yK pr,.pointer (some ⟨b,o,none⟩),.agg #[.int .u8 x.op,yL x.a,yL x.b,Sj],vj] w (fun r w'=>∃vs',r=.agg #[yL 0,.slice none 0 0,yL 0,yL 0,yL 0]/\Sat g w' (Pt pr [yK cp,vw,vc,yL 0] 148::Pt cp (yN m [yK mp,vt,vg]) 158::Pt mp [vp,yL m.most] 221::Sl 223 256 Xh vp ps::Sl 3 1 ZJ vt Zt::Sl 2 1 ZJ vg Zh::Sl 79 4 WC vc (up++[⟨c.fn,j.at_,c.vl,c.loc,vs',((low c.stk 1).take j.height.toNat++(low c.stk 1).drop ((low c.stk 1).length-j.keep.toNat))⟩])::PZ up::Sl 2 1 ZJ c.vl c.loc::Sl 2 1 ZJ vs' ((low c.stk 1).take j.height.toNat++(low c.stk 1).drop ((low c.stk 1).length-j.keep.toNat))::l)):=by
 refine Fc.of Tryz.func114 rfl k_d ?_
 have hx:=Yc hcs
 have VU:=X8 hcs
 have QA:(low c.stk 1).length=c.stk.length-1:=O9
 refine ZN H<|fun p1 w1 H=>ZU H rfl<|fun p2 w2 H=>Z9 rfl<|yB (H.el 8 rfl E hx) 1 yA<|ZW yQ<|Z9 rfl<|Yg H 8 rfl E hx 1 (⟨c.fn,c.at_+1,c.vl,c.loc,c.vs,c.stk⟩) rfl rfl rfl rfl<|fun w1 H=>Z9 rfl<|yI H 1 0 yF<|bk ?_
 simp only [VU] at H
 have hx1:(up++[(⟨c.fn,c.at_+1,c.vl,c.loc,c.vs,c.stk⟩:CV)])[up.length]?=some (⟨c.fn,c.at_+1,c.vl,c.loc,c.vs,c.stk⟩:CV):=Yc rfl
 clear hx
 have VW:∀z,(up++[(⟨c.fn,c.at_+1,c.vl,c.loc,c.vs,c.stk⟩:CV)]).set up.length z=up++[z]:=X8 rfl
 refine cF (Z5 yQ)<|cF (Z5 yQ)<|cF (Z5 yQ)<|cF (Z5 yQ)<|cF (Z5 yQ)<|cF (Z5 yQ)<|cF (Z5 yQ)<|cF (Z5 yQ)<|cT (ZI yP)<|H.Z7 [11,9]<|fun H=>?_
 refine Z8.mk (Fc.imp (Rn.OX E _ hx1 H yQ ?_) ?_)
 .grind
 rintro _ w2 ⟨Zu,⟨t1,⟨rfl,⟨h2,H⟩⟩⟩⟩
 simp only [VW] at H
 replace h2:t1=top c.stk 0:=h2
 clear hx1
 have Wp:(up++[(⟨c.fn,c.at_+1,c.vl,c.loc,Zu,low c.stk 1⟩:CV)])[up.length]?=some (⟨c.fn,c.at_+1,c.vl,c.loc,Zu,low c.stk 1⟩:CV):=Yc rfl
 have PB:∀z,(up++[(⟨c.fn,c.at_+1,c.vl,c.loc,Zu,low c.stk 1⟩:CV)]).set up.length z=up++[z]:=X8 rfl
 have Fj:ws[(min (t1 % 4294967296) (ws.length-1)).toNat]?=some j:=by grind
 have apS:XC t1:=by rw [h2];exact TS
 refine Yl rfl rfl<|Xj yQ rfl rfl<|ZK hj rfl<|ZW yQ<|anx ?_
 obtain ⟨b1,o1,E1,F1,ZH⟩:=Z0.Y1 hj Fj
 refine ZG E1 yQ rfl rfl<|ZF (H.Yq F1) 0 rfl rfl rfl ?_
 refine Z8.mk (Fc.imp (Rn.Jm E _ Wp H _ yQ yQ yQ ?_) ?_)
 .grind
 rintro v' w3 ⟨VB,H⟩
 refine Zs rfl rfl rfl<|ZC H 2 rfl rfl rfl rfl<|fun w4 H=>Xr (H.at 2 rfl) 0 rfl rfl rfl<|Z6.mk ?_
 refine ⟨VB,?_⟩
 refine ⟨rfl,?_⟩
 refine H.Z7 [1,11,11,3,11,11,11,11,11,11]<|fun H=>yz H [11,10]<|fun H=>?_
 refine H.cg (Yu rfl (Yu rfl (Yu rfl (Yu rfl (Yu rfl (Yu rfl (Yu (Ot ?_) (Yu rfl (Yu rfl (Yu rfl (rfl)))))))))))
 exact PB _
end
end Rn
namespace Rn
open Go YY Go.RowKit
open YV Zo X7 Y3 Valid Mem
section
variable {g:ZE} {w:World} {l:List As} {m:Zq} {pr cp mp:Nat} {vw vc vt vg vp Sj vj:Value} {host f e:Int} {cs up:List CV} {Zt Zh s2:yp} {ps:List WV} {c u:CV} {x:ZV} {i b o:Nat} {ws:List Ye} {j:Ye}
theorem ajD (H:Sat g w (Pt pr [yK cp,vw,vc,yL 0] 148::Pt cp (yN m [yK mp,vt,vg]) 158::Pt mp [vp,yL m.most] 221::Sl 223 256 Xh vp ps::Sl 3 1 ZJ vt Zt::Sl 2 1 ZJ vg Zh::Sl 79 4 WC vc cs::PZ up::Sl 2 1 ZJ c.vl c.loc::Sl 2 1 ZJ c.vs c.stk::l)) (hcs:cs=up++[c]) (E:El vc 4 up.length b o) (TK:0<=c.at_/\c.at_<=1000) (hlen:c.stk.length<=10000) (hm:XL g m) (P:U0 m.d) (ho:x.op=16\/x.op=17) (Q4:∀n∈Zt,-1<=n/\n<(m.ZA.length:Int)+m.funcs.length) (h1:x.op=17->1<=c.stk.length/\0<=x.a/\x.a<m.types.length) (TS:∀v∈c.stk,XC v) (NX:Zt.length<=1000) (SA:cs.length<=40) (hq:Y7 m.d Zt x c.stk=(f,s2,e)) (he:e≠0):yq 114 #[yK pr,.pointer (some ⟨b,o,none⟩),.agg #[.int .u8 x.op,yL x.a,yL x.b,Sj],vj] w (fun r w'=>r=.agg #[yL 2,.slice none 0 0,yL e,yL 0,yL 0]/\Sat g w' (Pt pr [yK cp,vw,vc,yL 0] 148::Pt cp (yN m [yK mp,vt,vg]) 158::Pt mp [vp,yL m.most] 221::Sl 223 256 Xh vp ps::Sl 3 1 ZJ vt Zt::Sl 2 1 ZJ vg Zh::l)):=by
 refine Fc.of Tryz.func114 rfl k_d ?_
 have hx:=Yc hcs
 have VU:=X8 hcs
 have hvl:=H.one 8 rfl
 have CS:up.length+1=cs.length:=by grind
 refine ZN H<|fun p1 w1 H=>ZU H rfl<|fun p2 w2 H=>Z9 rfl<|yB (H.el 8 rfl E hx) 1 yA<|ZW yQ<|Z9 rfl<|Yg H 8 rfl E hx 1 (⟨c.fn,c.at_+1,c.vl,c.loc,c.vs,c.stk⟩) rfl rfl rfl rfl<|fun w1 H=>Z9 rfl<|yI H 1 0 yF<|bk ?_
 simp only [VU] at H
 have hx1:(up++[(⟨c.fn,c.at_+1,c.vl,c.loc,c.vs,c.stk⟩:CV)])[up.length]?=some (⟨c.fn,c.at_+1,c.vl,c.loc,c.vs,c.stk⟩:CV):=Yc rfl
 clear hx
 have VW:∀z,(up++[(⟨c.fn,c.at_+1,c.vl,c.loc,c.vs,c.stk⟩:CV)]).set up.length z=up++[z]:=X8 rfl
 have Eo:(up++[(⟨c.fn,c.at_+1,c.vl,c.loc,c.vs,c.stk⟩:CV)]).length=cs.length:=by grind
 rcases ho with ho|ho
 .refine cF (Z5 yQ)<|cF (Z5 yQ)<|cF (Z5 yQ)<|cF (Z5 yQ)<|cF (Z5 yQ)<|cF (Z5 yQ)<|cF (Z5 yQ)<|cF (Z5 yQ)<|cF (Z5 yQ)<|cT (ZI yP)<|cT (ZI yP)<|ZF (H.at 1 rfl) 0 rfl rfl rfl<|H.Z7 [11,9,8,6,6]<|fun H=>?_
  refine Z8.mk (Fc.imp (Rn.aft E _ hx1 H yQ yQ yQ yQ yQ yQ yQ yQ yQ yQ hq yQ) ?_)
  rintro _ w2 ⟨rfl,H⟩
  refine ZC H 3 rfl rfl rfl rfl<|fun w3 H=>Xr (H.at 3 rfl) 0 rfl rfl rfl<|Z6.mk ?_
  refine ⟨rfl,?_⟩
  exact H.Z7 [7,3,7,7,5,5]<|fun H=>yz H [9,8,7,6]<|fun H=>H
 .refine cF (Z5 yQ)<|cF (Z5 yQ)<|cF (Z5 yQ)<|cF (Z5 yQ)<|cF (Z5 yQ)<|cF (Z5 yQ)<|cF (Z5 yQ)<|cF (Z5 yQ)<|cF (Z5 yQ)<|cF (Z5 yQ)<|cT (ZI yP)<|ZF (H.at 1 rfl) 0 rfl rfl rfl<|H.Z7 [11,9,8,6,6]<|fun H=>?_
  refine Z8.mk (Fc.imp (Rn.aft E _ hx1 H yQ yQ yQ yQ yQ yQ yQ yQ yQ yQ hq yQ) ?_)
  rintro _ w2 ⟨rfl,H⟩
  refine ZC H 3 rfl rfl rfl rfl<|fun w3 H=>Xr (H.at 3 rfl) 0 rfl rfl rfl<|Z6.mk ?_
  refine ⟨rfl,?_⟩
  exact H.Z7 [7,3,7,7,5,5]<|fun H=>yz H [9,8,7,6]<|fun H=>H
theorem ajE (H:Sat g w (Pt pr [yK cp,vw,vc,yL 0] 148::Pt cp (yN m [yK mp,vt,vg]) 158::Pt mp [vp,yL m.most] 221::Sl 223 256 Xh vp ps::Sl 3 1 ZJ vt Zt::Sl 2 1 ZJ vg Zh::Sl 79 4 WC vc cs::PZ up::Sl 2 1 ZJ c.vl c.loc::Sl 2 1 ZJ c.vs c.stk::l)) (hcs:cs=up++[c]) (E:El vc 4 up.length b o) (TK:0<=c.at_/\c.at_<=1000) (hlen:c.stk.length<=10000) (hm:XL g m) (P:U0 m.d) (ho:x.op=16\/x.op=17) (Q4:∀n∈Zt,-1<=n/\n<(m.ZA.length:Int)+m.funcs.length) (h1:x.op=17->1<=c.stk.length/\0<=x.a/\x.a<m.types.length) (TS:∀v∈c.stk,XC v) (NX:Zt.length<=1000) (SA:cs.length<=40) (hq:Y7 m.d Zt x c.stk=(f,s2,0)) (hf:0<=f/\f<(m.ZA.length:Int)+m.funcs.length) (Ho:(YG m.d f).Zf.length<=s2.length) (Py:s2.length<=10000) (Bg:(m.ZA.length:Int)<=f) (Ep:cs.length=40):yq 114 #[yK pr,.pointer (some ⟨b,o,none⟩),.agg #[.int .u8 x.op,yL x.a,yL x.b,Sj],vj] w (fun r w'=>r=.agg #[yL 2,.slice none 0 0,yL 26,yL 0,yL 0]/\Sat g w' (Pt pr [yK cp,vw,vc,yL 0] 148::Pt cp (yN m [yK mp,vt,vg]) 158::Pt mp [vp,yL m.most] 221::Sl 223 256 Xh vp ps::Sl 3 1 ZJ vt Zt::Sl 2 1 ZJ vg Zh::l)):=by
 refine Fc.of Tryz.func114 rfl k_d ?_
 have hx:=Yc hcs
 have VU:=X8 hcs
 have hvl:=H.one 8 rfl
 have CS:up.length+1=cs.length:=by grind
 refine ZN H<|fun p1 w1 H=>ZU H rfl<|fun p2 w2 H=>Z9 rfl<|yB (H.el 8 rfl E hx) 1 yA<|ZW yQ<|Z9 rfl<|Yg H 8 rfl E hx 1 (⟨c.fn,c.at_+1,c.vl,c.loc,c.vs,c.stk⟩) rfl rfl rfl rfl<|fun w1 H=>Z9 rfl<|yI H 1 0 yF<|bk ?_
 simp only [VU] at H
 have hx1:(up++[(⟨c.fn,c.at_+1,c.vl,c.loc,c.vs,c.stk⟩:CV)])[up.length]?=some (⟨c.fn,c.at_+1,c.vl,c.loc,c.vs,c.stk⟩:CV):=Yc rfl
 clear hx
 have VW:∀z,(up++[(⟨c.fn,c.at_+1,c.vl,c.loc,c.vs,c.stk⟩:CV)]).set up.length z=up++[z]:=X8 rfl
 have Eo:(up++[(⟨c.fn,c.at_+1,c.vl,c.loc,c.vs,c.stk⟩:CV)]).length=cs.length:=by grind
 rcases ho with ho|ho
 .refine cF (Z5 yQ)<|cF (Z5 yQ)<|cF (Z5 yQ)<|cF (Z5 yQ)<|cF (Z5 yQ)<|cF (Z5 yQ)<|cF (Z5 yQ)<|cF (Z5 yQ)<|cF (Z5 yQ)<|cT (ZI yP)<|cT (ZI yP)<|ZF (H.at 1 rfl) 0 rfl rfl rfl<|H.Z7 [11,9,8,6,6]<|fun H=>?_
  refine Z8.mk (Fc.imp (Rn.afu E _ hx1 H yQ yQ yQ yQ yQ yQ yQ yQ yQ yQ hq yQ yQ yQ yQ yQ) ?_)
  rintro _ w2 ⟨rfl,H⟩
  refine ZC H 3 rfl rfl rfl rfl<|fun w3 H=>Xr (H.at 3 rfl) 0 rfl rfl rfl<|Z6.mk ?_
  refine ⟨rfl,?_⟩
  exact H.Z7 [7,3,7,7,5,5]<|fun H=>yz H [9,8,7,6]<|fun H=>H
 .refine cF (Z5 yQ)<|cF (Z5 yQ)<|cF (Z5 yQ)<|cF (Z5 yQ)<|cF (Z5 yQ)<|cF (Z5 yQ)<|cF (Z5 yQ)<|cF (Z5 yQ)<|cF (Z5 yQ)<|cF (Z5 yQ)<|cT (ZI yP)<|ZF (H.at 1 rfl) 0 rfl rfl rfl<|H.Z7 [11,9,8,6,6]<|fun H=>?_
  refine Z8.mk (Fc.imp (Rn.afu E _ hx1 H yQ yQ yQ yQ yQ yQ yQ yQ yQ yQ hq yQ yQ yQ yQ yQ) ?_)
  rintro _ w2 ⟨rfl,H⟩
  refine ZC H 3 rfl rfl rfl rfl<|fun w3 H=>Xr (H.at 3 rfl) 0 rfl rfl rfl<|Z6.mk ?_
  refine ⟨rfl,?_⟩
  exact H.Z7 [7,3,7,7,5,5]<|fun H=>yz H [9,8,7,6]<|fun H=>H
theorem ajF (H:Sat g w (Pt pr [yK cp,vw,vc,yL 0] 148::Pt cp (yN m [yK mp,vt,vg]) 158::Pt mp [vp,yL m.most] 221::Sl 223 256 Xh vp ps::Sl 3 1 ZJ vt Zt::Sl 2 1 ZJ vg Zh::Sl 79 4 WC vc cs::PZ up::Sl 2 1 ZJ c.vl c.loc::Sl 2 1 ZJ c.vs c.stk::l)) (hcs:cs=up++[c]) (E:El vc 4 up.length b o) (TK:0<=c.at_/\c.at_<=1000) (hlen:c.stk.length<=10000) (hm:XL g m) (P:U0 m.d) (ho:x.op=16\/x.op=17) (Q4:∀n∈Zt,-1<=n/\n<(m.ZA.length:Int)+m.funcs.length) (h1:x.op=17->1<=c.stk.length/\0<=x.a/\x.a<m.types.length) (TS:∀v∈c.stk,XC v) (NX:Zt.length<=1000) (SA:cs.length<=40) (hq:Y7 m.d Zt x c.stk=(f,s2,0)) (hf:0<=f/\f<(m.ZA.length:Int)+m.funcs.length) (Ho:(YG m.d f).Zf.length<=s2.length) (Py:s2.length<=10000) (Bg:f<m.ZA.length):yq 114 #[yK pr,.pointer (some ⟨b,o,none⟩),.agg #[.int .u8 x.op,yL x.a,yL x.b,Sj],vj] w (fun r w'=>∃vs' vv,r=.agg #[yL 4,vv,yL 0,yL f,yL 0]/\Sat g w' (Pt pr [yK cp,vw,vc,yL (f+1)] 148::Pt cp (yN m [yK mp,vt,vg]) 158::Pt mp [vp,yL m.most] 221::Sl 223 256 Xh vp ps::Sl 3 1 ZJ vt Zt::Sl 2 1 ZJ vg Zh::Sl 79 4 WC vc (up++[⟨c.fn,c.at_+1,c.vl,c.loc,vs',s2.take (s2.length-(YG m.d f).Zf.length)⟩])::PZ up::Sl 2 1 ZJ c.vl c.loc::Sl 2 1 ZJ vs' (s2.take (s2.length-(YG m.d f).Zf.length))::Sl 2 1 ZJ vv (s2.drop (s2.length-(YG m.d f).Zf.length))::l)):=by
 refine Fc.of Tryz.func114 rfl k_d ?_
 have hx:=Yc hcs
 have VU:=X8 hcs
 have hvl:=H.one 8 rfl
 have CS:up.length+1=cs.length:=by grind
 refine ZN H<|fun p1 w1 H=>ZU H rfl<|fun p2 w2 H=>Z9 rfl<|yB (H.el 8 rfl E hx) 1 yA<|ZW yQ<|Z9 rfl<|Yg H 8 rfl E hx 1 (⟨c.fn,c.at_+1,c.vl,c.loc,c.vs,c.stk⟩) rfl rfl rfl rfl<|fun w1 H=>Z9 rfl<|yI H 1 0 yF<|bk ?_
 simp only [VU] at H
 have hx1:(up++[(⟨c.fn,c.at_+1,c.vl,c.loc,c.vs,c.stk⟩:CV)])[up.length]?=some (⟨c.fn,c.at_+1,c.vl,c.loc,c.vs,c.stk⟩:CV):=Yc rfl
 clear hx
 have VW:∀z,(up++[(⟨c.fn,c.at_+1,c.vl,c.loc,c.vs,c.stk⟩:CV)]).set up.length z=up++[z]:=X8 rfl
 have Eo:(up++[(⟨c.fn,c.at_+1,c.vl,c.loc,c.vs,c.stk⟩:CV)]).length=cs.length:=by grind
 rcases ho with ho|ho
 .refine cF (Z5 yQ)<|cF (Z5 yQ)<|cF (Z5 yQ)<|cF (Z5 yQ)<|cF (Z5 yQ)<|cF (Z5 yQ)<|cF (Z5 yQ)<|cF (Z5 yQ)<|cF (Z5 yQ)<|cT (ZI yP)<|cT (ZI yP)<|ZF (H.at 1 rfl) 0 rfl rfl rfl<|H.Z7 [11,9,8,6,6]<|fun H=>?_
  refine Z8.mk (Fc.imp (Rn.afv E _ hx1 H yQ yQ yQ yQ yQ yQ yQ yQ yQ yQ hq yQ yQ yQ yQ) ?_)
  rintro _ w2 ⟨Zu,⟨Av,⟨rfl,H⟩⟩⟩
  refine ZC H 6 rfl rfl rfl (by simp only [yq9,yq8,H.one 2 rfl,H.one 3 rfl,H.one 4 rfl,H.one 5 rfl,H.one 9 rfl,H.one 10 rfl,H.one 12 rfl,hvl];rfl)<|fun w3 H=>Xr (H.at 6 rfl) 0 rfl rfl rfl<|Z6.mk ?_
  refine ⟨Zu,Av,?_⟩
  refine ⟨rfl,?_⟩
  refine H.Z7 [5,5,12,12,7,12,8,12,12,10,10]<|fun H=>yz H [12,11]<|fun H=>?_
  refine H.cg (Yu rfl (Yu rfl (Yu rfl (Yu rfl (Yu rfl (Yu rfl (Yu (Ot ?_) (Yu rfl (Yu rfl (Yu rfl (Yu rfl (rfl))))))))))))
  exact VW _
 .refine cF (Z5 yQ)<|cF (Z5 yQ)<|cF (Z5 yQ)<|cF (Z5 yQ)<|cF (Z5 yQ)<|cF (Z5 yQ)<|cF (Z5 yQ)<|cF (Z5 yQ)<|cF (Z5 yQ)<|cF (Z5 yQ)<|cT (ZI yP)<|ZF (H.at 1 rfl) 0 rfl rfl rfl<|H.Z7 [11,9,8,6,6]<|fun H=>?_
  refine Z8.mk (Fc.imp (Rn.afv E _ hx1 H yQ yQ yQ yQ yQ yQ yQ yQ yQ yQ hq yQ yQ yQ yQ) ?_)
  rintro _ w2 ⟨Zu,⟨Av,⟨rfl,H⟩⟩⟩
  refine ZC H 6 rfl rfl rfl (by simp only [yq9,yq8,H.one 2 rfl,H.one 3 rfl,H.one 4 rfl,H.one 5 rfl,H.one 9 rfl,H.one 10 rfl,H.one 12 rfl,hvl];rfl)<|fun w3 H=>Xr (H.at 6 rfl) 0 rfl rfl rfl<|Z6.mk ?_
  refine ⟨Zu,Av,?_⟩
  refine ⟨rfl,?_⟩
  refine H.Z7 [5,5,12,12,7,12,8,12,12,10,10]<|fun H=>yz H [12,11]<|fun H=>?_
  refine H.cg (Yu rfl (Yu rfl (Yu rfl (Yu rfl (Yu rfl (Yu rfl (Yu (Ot ?_) (Yu rfl (Yu rfl (Yu rfl (Yu rfl (rfl))))))))))))
  exact VW _
theorem ajG (H:Sat g w (Pt pr [yK cp,vw,vc,yL 0] 148::Pt cp (yN m [yK mp,vt,vg]) 158::Pt mp [vp,yL m.most] 221::Sl 223 256 Xh vp ps::Sl 3 1 ZJ vt Zt::Sl 2 1 ZJ vg Zh::Sl 79 4 WC vc cs::PZ up::Sl 2 1 ZJ c.vl c.loc::Sl 2 1 ZJ c.vs c.stk::l)) (hcs:cs=up++[c]) (E:El vc 4 up.length b o) (TK:0<=c.at_/\c.at_<=1000) (hlen:c.stk.length<=10000) (hm:XL g m) (P:U0 m.d) (ho:x.op=16\/x.op=17) (Q4:∀n∈Zt,-1<=n/\n<(m.ZA.length:Int)+m.funcs.length) (h1:x.op=17->1<=c.stk.length/\0<=x.a/\x.a<m.types.length) (TS:∀v∈c.stk,XC v) (NX:Zt.length<=1000) (SA:cs.length<=40) (hq:Y7 m.d Zt x c.stk=(f,s2,0)) (hf:0<=f/\f<(m.ZA.length:Int)+m.funcs.length) (Ho:(YG m.d f).Zf.length<=s2.length) (Py:s2.length<=10000) (k:Nat) (F:YS) (EJ:f=m.ZA.length+k) (hF:m.funcs[k]?=some F) (hFl:F.loc.length<=16) (h4:(YG m.d f).Zf.length<=4) (Ep:cs.length<40):yq 114 #[yK pr,.pointer (some ⟨b,o,none⟩),.agg #[.int .u8 x.op,yL x.a,yL x.b,Sj],vj] w (fun r w'=>∃NW vs' Pz,r=.agg #[yL 0,.slice none 0 0,yL 0,yL 0,yL 0]/\Sat g w' (Pt pr [yK cp,vw,NW,yL 0] 148::Pt cp (yN m [yK mp,vt,vg]) 158::Pt mp [vp,yL m.most] 221::Sl 223 256 Xh vp ps::Sl 3 1 ZJ vt Zt::Sl 2 1 ZJ vg Zh::Sl 79 4 WC NW (up++[⟨c.fn,c.at_+1,c.vl,c.loc,vs',s2.take (s2.length-(YG m.d f).Zf.length)⟩]++[⟨k,0,Pz,s2.drop (s2.length-(YG m.d f).Zf.length)++List.replicate F.loc.length 0,.slice none 0 0,[]⟩])::PZ up::Sl 2 1 ZJ c.vl c.loc::Sl 2 1 ZJ vs' (s2.take (s2.length-(YG m.d f).Zf.length))::Sl 2 1 ZJ Pz (s2.drop (s2.length-(YG m.d f).Zf.length)++List.replicate F.loc.length 0)::Sl 2 1 ZJ (.slice none 0 0) []::l)):=by
 refine Fc.of Tryz.func114 rfl k_d ?_
 have hx:=Yc hcs
 have VU:=X8 hcs
 have hvl:=H.one 8 rfl
 have CS:up.length+1=cs.length:=by grind
 refine ZN H<|fun p1 w1 H=>ZU H rfl<|fun p2 w2 H=>Z9 rfl<|yB (H.el 8 rfl E hx) 1 yA<|ZW yQ<|Z9 rfl<|Yg H 8 rfl E hx 1 (⟨c.fn,c.at_+1,c.vl,c.loc,c.vs,c.stk⟩) rfl rfl rfl rfl<|fun w1 H=>Z9 rfl<|yI H 1 0 yF<|bk ?_
 simp only [VU] at H
 have hx1:(up++[(⟨c.fn,c.at_+1,c.vl,c.loc,c.vs,c.stk⟩:CV)])[up.length]?=some (⟨c.fn,c.at_+1,c.vl,c.loc,c.vs,c.stk⟩:CV):=Yc rfl
 clear hx
 have VW:∀z,(up++[(⟨c.fn,c.at_+1,c.vl,c.loc,c.vs,c.stk⟩:CV)]).set up.length z=up++[z]:=X8 rfl
 have Eo:(up++[(⟨c.fn,c.at_+1,c.vl,c.loc,c.vs,c.stk⟩:CV)]).length=cs.length:=by grind
 rcases ho with ho|ho
 .refine cF (Z5 yQ)<|cF (Z5 yQ)<|cF (Z5 yQ)<|cF (Z5 yQ)<|cF (Z5 yQ)<|cF (Z5 yQ)<|cF (Z5 yQ)<|cF (Z5 yQ)<|cF (Z5 yQ)<|cT (ZI yP)<|cT (ZI yP)<|ZF (H.at 1 rfl) 0 rfl rfl rfl<|H.Z7 [11,9,8,6,6]<|fun H=>?_
  refine Z8.mk (Fc.imp (Rn.afw E _ hx1 H yQ yQ yQ yQ yQ yQ yQ yQ yQ yQ hq yQ yQ yQ (k) _ EJ hF yQ yQ yQ) ?_)
  rintro _ w2 ⟨FZ,⟨Zu,⟨TD,⟨rfl,H⟩⟩⟩⟩
  refine ZC H 7 rfl rfl rfl rfl<|fun w3 H=>Xr (H.at 7 rfl) 0 rfl rfl rfl ?_
  simp only [VW] at H
  refine Z6.mk ⟨FZ,Zu,TD,rfl,?_⟩
  exact H.Z7 [6,6,6,13,13,8,13,9,13,13,11,11]<|fun H=>yz H [13,12]<|fun H=>H
 .refine cF (Z5 yQ)<|cF (Z5 yQ)<|cF (Z5 yQ)<|cF (Z5 yQ)<|cF (Z5 yQ)<|cF (Z5 yQ)<|cF (Z5 yQ)<|cF (Z5 yQ)<|cF (Z5 yQ)<|cF (Z5 yQ)<|cT (ZI yP)<|ZF (H.at 1 rfl) 0 rfl rfl rfl<|H.Z7 [11,9,8,6,6]<|fun H=>?_
  refine Z8.mk (Fc.imp (Rn.afw E _ hx1 H yQ yQ yQ yQ yQ yQ yQ yQ yQ yQ hq yQ yQ yQ (k) _ EJ hF yQ yQ yQ) ?_)
  rintro _ w2 ⟨FZ,⟨Zu,⟨TD,⟨rfl,H⟩⟩⟩⟩
  refine ZC H 7 rfl rfl rfl rfl<|fun w3 H=>Xr (H.at 7 rfl) 0 rfl rfl rfl ?_
  simp only [VW] at H
  refine Z6.mk ⟨FZ,Zu,TD,rfl,?_⟩
  exact H.Z7 [6,6,6,13,13,8,13,9,13,13,11,11]<|fun H=>yz H [13,12]<|fun H=>H
theorem ajH (H:Sat g w (Pt pr [yK cp,vw,vc,yL 0] 148::Pt cp (yN m [yK mp,vt,vg]) 158::Pt mp [vp,yL m.most] 221::Sl 223 256 Xh vp ps::Sl 3 1 ZJ vt Zt::Sl 2 1 ZJ vg Zh::Sl 79 4 WC vc cs::PZ up::Sl 2 1 ZJ c.vl c.loc::Sl 2 1 ZJ c.vs c.stk::l)) (hcs:cs=up++[c]) (E:El vc 4 up.length b o) (TK:0<=c.at_/\c.at_<=1000) (hlen:c.stk.length<=10000) (hD:Gd x ⟨flat ps,Zt,Zh⟩ c.loc c.stk) (hT:Fold.I6 g) (CU:18<=x.op) (hop:x.op<=255) (hmo:ps.length<=m.most/\m.most<=8):yq 114 #[yK pr,.pointer (some ⟨b,o,none⟩),.agg #[.int .u8 x.op,yL x.a,yL x.b,Sj],vj] w (fun r w'=>∃e vs' Ta ps' W1 loc' YP,r=(if e≠0 then .agg #[yL 2,.slice none 0 0,yL e,yL 0,yL 0] else .agg #[yL 0,.slice none 0 0,yL 0,yL 0,yL 0])/\NP (WE m.most x ⟨flat ps,Zt,Zh⟩ c.loc c.stk) e (flat ps') W1 loc' YP/\ps'.length<=8/\Sat g w' (Pt pr [yK cp,vw,vc,yL 0] 148::Pt cp (yN m [yK mp,vt,vg]) 158::Pt mp [Ta,yL m.most] 221::Sl 223 256 Xh Ta ps'::Sl 3 1 ZJ vt Zt::Sl 2 1 ZJ vg W1::Sl 79 4 WC vc (up++[⟨c.fn,c.at_+1,c.vl,loc',vs',YP⟩])::PZ up::Sl 2 1 ZJ c.vl loc'::Sl 2 1 ZJ vs' YP::l)):=by
 refine Fc.of Tryz.func114 rfl k_d ?_
 have hx:=Yc hcs
 have VU:=X8 hcs
 have hvl:=H.one 8 rfl
 refine ZN H<|fun p1 w1 H=>ZU H rfl<|fun p2 w2 H=>Z9 rfl<|yB (H.el 8 rfl E hx) 1 yA<|ZW yQ<|Z9 rfl<|Yg H 8 rfl E hx 1 (⟨c.fn,c.at_+1,c.vl,c.loc,c.vs,c.stk⟩) rfl rfl rfl rfl<|fun w1 H=>Z9 rfl<|yI H 1 0 yF<|bk ?_
 simp only [VU] at H
 have hx1:(up++[(⟨c.fn,c.at_+1,c.vl,c.loc,c.vs,c.stk⟩:CV)])[up.length]?=some (⟨c.fn,c.at_+1,c.vl,c.loc,c.vs,c.stk⟩:CV):=Yc rfl
 clear hx
 have VW:∀z,(up++[(⟨c.fn,c.at_+1,c.vl,c.loc,c.vs,c.stk⟩:CV)]).set up.length z=up++[z]:=X8 rfl
 have Eo:(up++[(⟨c.fn,c.at_+1,c.vl,c.loc,c.vs,c.stk⟩:CV)]).length=cs.length:=by grind
 refine cF (Z5 yQ)<|cF (Z5 yQ)<|cF (Z5 yQ)<|cF (Z5 yQ)<|cF (Z5 yQ)<|cF (Z5 yQ)<|cF (Z5 yQ)<|cF (Z5 yQ)<|cF (Z5 yQ)<|cF (Z5 yQ)<|cF (Z5 yQ)<|ZL H [] [yJp0,yJp1,yJp2,yJh3,yJh4,yJp5,yJp6,yJp7,yJh8,yJp9,yJp10,yJp11,yJh12,yJfr13,yJp14,yJp15,yJp16,yJp17,yJp18] mixed k_d k_d<|fun w2 H=>yG rfl rfl<|yH 2 0 yF rfl<|tk (fun _ Z=>ZF (Z.at 1 rfl) 0 rfl rfl rfl yM)<|yG rfl rfl<|tk (fun _ Z=>yB (Z.el 8 rfl E hx1) 2 yA yM)<|yG rfl rfl<|tk (fun _ Z=>yB (Z.el 8 rfl E hx1) 3 yA yM)<|H.Z7 [11,11,9,9,9,9,9]<|fun H=>?_
 refine Z8.mk (Fc.imp (Rn.do_ H yQ yQ yQ yQ yQ) ?_)
 rintro _ w1 ⟨e1,⟨Zu,⟨CR,⟨Qf,⟨Jl,⟨Lt,⟨To,⟨rfl,⟨h1,⟨h2,H⟩⟩⟩⟩⟩⟩⟩⟩⟩⟩
 refine Z9 rfl<|Yg H 10 rfl E hx1 3 (⟨c.fn,c.at_+1,c.vl,Lt,(Zu),To⟩) rfl (by simp only [Bool.and_true,H.one 2 rfl,H.one 3 rfl,H.one 4 rfl,H.one 5 rfl,H.one 6 rfl,H.one 10 rfl,hvl]) rfl rfl<|fun w3 H=>?_
 refine cI (fun c1=>?_) (fun c1=>?_)
 focus
  replace c1:=YX (c1)
  refine Zs rfl rfl rfl<|ZC H 7 rfl rfl rfl rfl<|fun w1 H=>Xr (H.at 7 rfl) 0 rfl rfl rfl ?_
 rotate_left 1
 focus
  replace c1:=YW (c1)
  refine Zs rfl rfl rfl<|ZC H 7 rfl rfl rfl rfl<|fun w1 H=>Xr (H.at 7 rfl) 0 rfl rfl rfl ?_
 rotate_left 1
 .simp only [VW] at H
  refine Z6.mk ⟨e1,Zu,CR,Qf,Jl,Lt,To,(if_pos yP).symm,by assumption,by assumption,?_⟩
  exact H.Z7 [6,6,11,11,8,8,8,8,8,11]<|fun H=>yz H [11,10]<|fun H=>H
 .simp only [VW] at H
  refine Z6.mk ⟨e1,Zu,CR,Qf,Jl,Lt,To,(if_neg yQ).symm,by assumption,by assumption,?_⟩
  exact H.Z7 [6,6,11,11,8,8,8,8,8,11]<|fun H=>yz H [11,10]<|fun H=>H
end
end Rn
end Go.Proofs.YtakpnepblgfknaaGreatDoor
