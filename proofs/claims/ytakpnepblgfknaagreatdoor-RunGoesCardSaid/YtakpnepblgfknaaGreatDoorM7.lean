/- Texts of this claim, one behind the other. -/
import Derived.Test.YtakpnepblgfknaaGreatDoorM6
import Derived.Test.YtakpnepblgfknaaGreatDoorM3
set_option maxRecDepth 100000
set_option maxHeartbeats 4000000
set_option linter.unusedVariables false
set_option linter.unusedSimpArgs false
set_option linter.defProp false
namespace Go.Proofs.YtakpnepblgfknaaGreatDoor
namespace Valid
open Go YZ Go.RowKit
open YS Zk XV YQ
section
variable {g:Zv} {w:World} {l:List As} {pc:Nat} {m:Y9} {vl vs vo:Value} {st:List Int} {op:List ZK} {b:Int}
theorem ako {a:Int} (h:0≤a∧a≤3):Ws .i64 1 a=GU a:=by
 obtain ⟨k,rfl⟩:∃k:Nat,a=k:=⟨a.toNat,by omega⟩
 match k,h with
 | 0,_=>unfold Ws GU;rfl
 | 1,_=>unfold Ws GU;rfl
 | 2,_=>unfold Ws GU;rfl
 | 3,_=>unfold Ws GU;rfl
 | n+4,h=>omega
section
variable {E:Yj} {c c1 c2 c':Ck} {o a bb:Int} {tt xs ys:List Int} {q:Bool}
theorem DJ (h0:E.most=0) (h:0<wid o∨o=63∨o=64) (hf:Is (YO c 8) c'):Is (W3 E c ⟨o,a,bb,tt⟩) c':=by
 unfold W3;rw [if_pos ⟨h0,h⟩];exact hf
theorem Gx (h0:¬(E.most=0∧(0<wid o∨o=63∨o=64))) (h:0<wid o∧(3<a∨wid o<GU a)) (hf:Is (YO c 9) c'):Is (W3 E c ⟨o,a,bb,tt⟩) c':=by
 unfold W3;rw [if_neg h0,if_pos h];exact hf
theorem C9 (h0:¬(E.most=0∧(0<wid o∨o=63∨o=64))) (h:¬(0<wid o∧(3<a∨wid o<GU a))) (hp:XE o=(xs,ys,q)) (ht:Is (Xw c xs) c1) (hg:Is (W4 c1 ys) c2):Is (W3 E c ⟨o,a,bb,tt⟩) c2:=by
 unfold W3 Is at *;rw [if_neg h0,if_neg h,hp];simp only;rw [←ht];exact hg
end
theorem LW {o:Int} {xs ys:List Int} {q:Bool} (h:XE o=(xs,ys,q)):xs.length≤2∧ys.length≤1:=by
 have h1:(XE o).1.length≤2∧(XE o).2.1.length≤1:=by
  unfold XE X7
  repeat' split
  all_goals simp
 rw [h] at h1;exact h1
theorem aew:(ZF m.d).most=m.most:=rfl
theorem plain (H:Sat g w (Pt pc [m.vt,m.vm,m.vf,.int .i64 m.table,.int .i64 m.pages,.int .i64 m.most,m.vg,m.vx,.int .i64 m.start,m.ve,m.vd,vl,vs,vo,.int .i64 b] 241::Sl 97 1 YL vs st::Sl 246 5 Yq vo op::l)) (o a bb:Int) (tv:Value) (tt:List Int) (ht:ZZ g ZG Us 1 tv tt) (ha:0<wid o→0≤a) (HF:WU a) (hn:0<op.length) (hop:op.length≤99) (hst:st.length≤90000) (hok:Yn st op):Fc Tryz.prog 195 #[.pointer (some ⟨pc,0,none⟩),.agg #[.int .u8 o,.int .i64 a,.int .i64 bb,tv]] w (fun r w'=>∃vs' st' b',Is (W3 (ZF m.d) ⟨st,op,b⟩ ⟨o,a,bb,tt⟩) ⟨st',op,b'⟩∧Yn st' op∧st'.length≤st.length+1∧Sat g w' (Pt pc [m.vt,m.vm,m.vf,.int .i64 m.table,.int .i64 m.pages,.int .i64 m.most,m.vg,m.vx,.int .i64 m.start,m.ve,m.vd,vl,vs',vo,.int .i64 b'] 241::Sl 97 1 YL vs' st'::Sl 246 5 Yq vo op::l)):=by
 have hem:=aew (m:=m)
 by_cases hw0:0<wid o
 ·have ha:=ha hw0
  by_cases h3:a≤3
  ·have hsh:=ako ⟨ha,h3⟩
   refine Fc.of Tryz.func195 rfl k_i<|ZH H<|fun p1 w1 H=>Z9 rfl<|Z4 (H.at 0 rfl) 0 rfl rfl rfl ?_
   refine Z7.mk (Fc.imp (Valid.NW _ _) ?_)
   rintro _ w2 ⟨u1,⟨y1,⟨KU,⟨DI,⟨q1,⟨rfl,⟨h1,H'⟩⟩⟩⟩⟩⟩⟩
   refine H.XZ H' ?_
   clear H H'
   intro H
   have Ts:=LW h1
   refine Z9 rfl<|Z4 (H.at 2 rfl) 0 rfl rfl rfl ?_
   refine Z7.mk (Fc.imp (YS.width _ _) ?_)
   rintro _ _ ⟨⟨r1,⟨rfl,h2⟩⟩,rfl⟩
   refine bk<|Z9 rfl<|Z9 rfl<|Z4 (H.at 3 rfl) 5 rfl rfl rfl ?_
   refine br (fun c1=>?_) (fun c1=>?_)
   ·replace c1:=ZR (c1)
    refine VA (Y4 qo)<|cT rfl<|H.Z8 [5,5,5]<|fun H=>?_
    refine Z7.mk (Fc.imp (Valid.fail H _) ?_)
    clear H
    rintro v' w3 ⟨X9,⟨h4,H⟩⟩
    refine Z6.mk ?_
    refine ⟨vs,st,X9,?_⟩
    refine ⟨?_,?_⟩
    ·exact DJ qo qo qa
    refine ⟨?_,?_⟩
    ·exact k_k
    refine ⟨qo,?_⟩
    refine H.drop 5<|fun H=>H.drop 4<|fun H=>H.drop 3<|fun H=>?_
    exact H
   replace c1:=ZQ (c1)
   refine cF rfl<|VA (Y4 qo)<|Z9 rfl<|Z4 (H.at 2 rfl) 1 rfl rfl rfl<|XB (Zl qa)<|Z9 rfl<|Z4 (H.at 2 rfl) 1 rfl rfl rfl<|YN.mk qo<|W6.mk _ hsh ?_
   refine cI (fun c2=>?_) (fun c2=>?_)
   ·replace c2:=Yx (c2)
    refine H.Z8 [5,5,5]<|fun H=>?_
    refine Z7.mk (Fc.imp (Valid.fail H _) ?_)
    clear H
    rintro v' w3 ⟨X9,⟨h4,H⟩⟩
    refine Z6.mk ?_
    refine ⟨vs,st,X9,?_⟩
    refine ⟨?_,?_⟩
    ·exact Gx qo qo qa
    refine ⟨?_,?_⟩
    ·exact k_k
    refine ⟨qo,?_⟩
    refine H.drop 5<|fun H=>H.drop 4<|fun H=>H.drop 3<|fun H=>?_
    exact H
   replace c2:=Yw (c2)
   refine H.Z8 [1,5,5,5]<|fun H=>?_
   refine Z7.mk (Fc.imp (Valid.JX _ _ H qo qa qo qa ?_) ?_)
   ·exact k_k
   clear H
   rintro v' w3 ⟨Zx,⟨Y7,⟨X9,⟨h4,⟨h5,⟨h6,H⟩⟩⟩⟩⟩⟩
   refine H.Z8 [4,3,3,3]<|fun H=>?_
   refine Z7.mk (Fc.imp (Valid.JW _ _ H qo qo) ?_)
   clear H
   rintro UR w4 ⟨V0,⟨Vh,⟨h7,⟨h8,⟨h9,H⟩⟩⟩⟩⟩
   refine Z6.mk ?_
   refine ⟨V0,Vh,X9,?_⟩
   refine ⟨?_,?_⟩
   ·exact C9 qo qo h1 qa qa
   refine ⟨?_,?_⟩
   ·exact k_k
   refine ⟨qo,?_⟩
   refine H.drop 5<|fun H=>H.drop 4<|fun H=>H.drop 3<|fun H=>?_
   exact H
  ·refine Fc.of Tryz.func195 rfl k_i<|ZH H<|fun p1 w1 H=>Z9 rfl<|Z4 (H.at 0 rfl) 0 rfl rfl rfl ?_
   refine Z7.mk (Fc.imp (Valid.NW _ _) ?_)
   rintro _ w2 ⟨u1,⟨y1,⟨KU,⟨DI,⟨q1,⟨rfl,⟨h1,H'⟩⟩⟩⟩⟩⟩⟩
   refine H.XZ H' ?_
   clear H H'
   intro H
   have Ts:=LW h1
   refine Z9 rfl<|Z4 (H.at 2 rfl) 0 rfl rfl rfl ?_
   refine Z7.mk (Fc.imp (YS.width _ _) ?_)
   rintro _ _ ⟨⟨r1,⟨rfl,h2⟩⟩,rfl⟩
   refine bk<|Z9 rfl<|Z9 rfl<|Z4 (H.at 3 rfl) 5 rfl rfl rfl ?_
   refine br (fun c1=>?_) (fun c1=>?_)
   ·replace c1:=ZR (c1)
    refine VA (Y4 qo)<|cT rfl<|H.Z8 [5,5,5]<|fun H=>?_
    refine Z7.mk (Fc.imp (Valid.fail H _) ?_)
    clear H
    rintro v' w3 ⟨X9,⟨h4,H⟩⟩
    refine Z6.mk ?_
    refine ⟨vs,st,X9,?_⟩
    refine ⟨?_,?_⟩
    ·exact DJ qo qo qa
    refine ⟨?_,?_⟩
    ·exact k_k
    refine ⟨qo,?_⟩
    refine H.drop 5<|fun H=>H.drop 4<|fun H=>H.drop 3<|fun H=>?_
    exact H
   replace c1:=ZQ (c1)
   refine cF rfl<|VA (Y4 qo)<|Z9 rfl<|Z4 (H.at 2 rfl) 1 rfl rfl rfl<|VA (Y4 qo)<|cT rfl<|H.Z8 [5,5,5]<|fun H=>?_
   refine Z7.mk (Fc.imp (Valid.fail H _) ?_)
   clear H
   rintro v' w3 ⟨X9,⟨h4,H⟩⟩
   refine Z6.mk ?_
   refine ⟨vs,st,X9,?_⟩
   refine ⟨?_,?_⟩
   ·exact Gx qo qo qa
   refine ⟨?_,?_⟩
   ·exact k_k
   refine ⟨qo,?_⟩
   refine H.drop 5<|fun H=>H.drop 4<|fun H=>H.drop 3<|fun H=>?_
   exact H
 ·refine Fc.of Tryz.func195 rfl k_i<|ZH H<|fun p1 w1 H=>Z9 rfl<|Z4 (H.at 0 rfl) 0 rfl rfl rfl ?_
  refine Z7.mk (Fc.imp (Valid.NW _ _) ?_)
  rintro _ w2 ⟨u1,⟨y1,⟨KU,⟨DI,⟨q1,⟨rfl,⟨h1,H'⟩⟩⟩⟩⟩⟩⟩
  refine H.XZ H' ?_
  clear H H'
  intro H
  have Ts:=LW h1
  refine Z9 rfl<|Z4 (H.at 2 rfl) 0 rfl rfl rfl ?_
  refine Z7.mk (Fc.imp (YS.width _ _) ?_)
  rintro _ _ ⟨⟨r1,⟨rfl,h2⟩⟩,rfl⟩
  refine bk<|Z9 rfl<|Z9 rfl<|Z4 (H.at 3 rfl) 5 rfl rfl rfl ?_
  refine br (fun c1=>?_) (fun c1=>?_)
  ·replace c1:=ZR (c1)
   refine XB (Zl qo)<|Z9 rfl<|Z4 (H.at 2 rfl) 0 rfl rfl rfl ?_
   refine br (fun c2=>?_) (fun c2=>?_)
   ·replace c2:=ZR (c2)
    refine cT rfl<|H.Z8 [5,5,5]<|fun H=>?_
    refine Z7.mk (Fc.imp (Valid.fail H _) ?_)
    clear H
    rintro v' w3 ⟨X9,⟨h3,H⟩⟩
    refine Z6.mk ?_
    refine ⟨vs,st,X9,?_⟩
    refine ⟨?_,?_⟩
    ·exact DJ qo qo qa
    refine ⟨?_,?_⟩
    ·exact k_k
    refine ⟨qo,?_⟩
    refine H.drop 5<|fun H=>H.drop 4<|fun H=>H.drop 3<|fun H=>?_
    exact H
   replace c2:=ZQ (c2)
   refine Z9 rfl<|Z4 (H.at 2 rfl) 0 rfl rfl rfl ?_
   refine cI (fun c3=>?_) (fun c3=>?_)
   ·replace c3:=ZR (c3)
    refine H.Z8 [5,5,5]<|fun H=>?_
    refine Z7.mk (Fc.imp (Valid.fail H _) ?_)
    clear H
    rintro v' w3 ⟨X9,⟨h3,H⟩⟩
    refine Z6.mk ?_
    refine ⟨vs,st,X9,?_⟩
    refine ⟨?_,?_⟩
    ·exact DJ qo qo qa
    refine ⟨?_,?_⟩
    ·exact k_k
    refine ⟨qo,?_⟩
    refine H.drop 5<|fun H=>H.drop 4<|fun H=>H.drop 3<|fun H=>?_
    exact H
   replace c3:=ZQ (c3)
   refine XB (Zl qo)<|cF rfl<|H.Z8 [1,5,5,5]<|fun H=>?_
   refine Z7.mk (Fc.imp (Valid.JX _ _ H qo qa qo qa ?_) ?_)
   ·exact k_k
   clear H
   rintro v' w3 ⟨Zx,⟨Y7,⟨X9,⟨h3,⟨h4,⟨h5,H⟩⟩⟩⟩⟩⟩
   refine H.Z8 [4,3,3,3]<|fun H=>?_
   refine Z7.mk (Fc.imp (Valid.JW _ _ H qo qo) ?_)
   clear H
   rintro UR w4 ⟨V0,⟨Vh,⟨h6,⟨h7,⟨h8,H⟩⟩⟩⟩⟩
   refine Z6.mk ?_
   refine ⟨V0,Vh,X9,?_⟩
   refine ⟨?_,?_⟩
   ·exact C9 qo qo h1 qa qa
   refine ⟨?_,?_⟩
   ·exact k_k
   refine ⟨qo,?_⟩
   refine H.drop 5<|fun H=>H.drop 4<|fun H=>H.drop 3<|fun H=>?_
   exact H
  replace c1:=ZQ (c1)
  refine cF rfl<|XB (Zl qo)<|cF rfl<|H.Z8 [1,5,5,5]<|fun H=>?_
  refine Z7.mk (Fc.imp (Valid.JX _ _ H qo qa qo qa ?_) ?_)
  ·exact k_k
  clear H
  rintro v' w3 ⟨Zx,⟨Y7,⟨X9,⟨h3,⟨h4,⟨h5,H⟩⟩⟩⟩⟩⟩
  refine H.Z8 [4,3,3,3]<|fun H=>?_
  refine Z7.mk (Fc.imp (Valid.JW _ _ H qo qo) ?_)
  clear H
  rintro UR w4 ⟨V0,⟨Vh,⟨h6,⟨h7,⟨h8,H⟩⟩⟩⟩⟩
  refine Z6.mk ?_
  refine ⟨V0,Vh,X9,?_⟩
  refine ⟨?_,?_⟩
  ·exact C9 qo qo h1 qa qa
  refine ⟨?_,?_⟩
  ·exact k_k
  refine ⟨qo,?_⟩
  refine H.drop 5<|fun H=>H.drop 4<|fun H=>H.drop 3<|fun H=>?_
  exact H
section
variable {E:Yj} {L:List Int} {c c1 c2 c':Ck} {o bb k k':Int} {a:Nat} {tt:List Int} {x:Int × Bool × Int}
theorem va1 (ho:o<35) (h:L.length≤a) (hf:Is (YO c 8) c'):Is (YH E L c ⟨o,(a:Int),bb,tt⟩) c':=by
 unfold YH;rw [if_pos ho,if_pos k_u];exact hf
theorem va2 (hk:L[a]?=some k) (hp:Is (XN c k) c'):Is (YH E L c ⟨32,(a:Int),bb,tt⟩) c':=by
 have hl:=Nat.not_le.2 (lca.1 hk).1
 have e:L.getD a 0=k:=by rw [lea,hk];rfl
 have:YH E L c ⟨32,(a:Int),bb,tt⟩=XN c k:=by unfold YH;simp only [Int.toNat_natCast,e];simp [hl]
 rw [this];exact hp
theorem va3 (hk:L[a]?=some k) (hp:Is (Zj c k) (c',k')):Is (YH E L c ⟨33,(a:Int),bb,tt⟩) c':=by
 have hl:=Nat.not_le.2 (lca.1 hk).1
 have e:L.getD a 0=k:=by rw [lea,hk];rfl
 have:YH E L c ⟨33,(a:Int),bb,tt⟩=(Zj c k).1:=by unfold YH;simp only [Int.toNat_natCast,e];simp [hl]
 unfold Is at *
 rw [this,←hp]
theorem va4 (hk:L[a]?=some k) (hp:Is (Zj c k) (c1,k')) (hq:Is (XN c1 k) c'):Is (YH E L c ⟨34,(a:Int),bb,tt⟩) c':=by
 have hl:=Nat.not_le.2 (lca.1 hk).1
 have e:L.getD a 0=k:=by rw [lea,hk];rfl
 have:YH E L c ⟨34,(a:Int),bb,tt⟩=XN (Zj c k).1 k:=by unfold YH;simp only [Int.toNat_natCast,e];simp [hl]
 unfold Is at *
 rw [this,←hp];exact hq
theorem va5 (ho:¬o<35) (h:E.globals.length≤a) (hf:Is (YO c 8) c'):Is (YH E L c ⟨o,(a:Int),bb,tt⟩) c':=by
 unfold YH;rw [if_neg ho,if_pos k_u];exact hf
theorem va6 (hk:E.globals[a]?=some x) (hp:Is (XN c x.1) c'):Is (YH E L c ⟨35,(a:Int),bb,tt⟩) c':=by
 have hl:=Nat.not_le.2 (lca.1 hk).1
 have e:E.globals.getD a (0,false,0)=x:=by rw [lea,hk];rfl
 have:YH E L c ⟨35,(a:Int),bb,tt⟩=XN c x.1:=by unfold YH;simp only [Int.toNat_natCast,e];simp [hl]
 rw [this];exact hp
theorem va7 (hk:E.globals[a]?=some x) (hm:x.2.1=true) (hp:Is (Zj c x.1) (c',k')):Is (YH E L c ⟨36,(a:Int),bb,tt⟩) c':=by
 have hl:=Nat.not_le.2 (lca.1 hk).1
 have e:E.globals.getD a (0,false,0)=x:=by rw [lea,hk];rfl
 have:YH E L c ⟨36,(a:Int),bb,tt⟩=(Zj c x.1).1:=by unfold YH;simp only [Int.toNat_natCast,e];simp [hl,hm]
 unfold Is at *
 rw [this,←hp]
theorem va8 (hk:E.globals[a]?=some x) (hm:x.2.1=false) (hf:Is (YO c 10) c1) (hp:Is (Zj c1 x.1) (c',k')):Is (YH E L c ⟨36,(a:Int),bb,tt⟩) c':=by
 have hl:=Nat.not_le.2 (lca.1 hk).1
 have e:E.globals.getD a (0,false,0)=x:=by rw [lea,hk];rfl
 have:YH E L c ⟨36,(a:Int),bb,tt⟩=(Zj (YO c 10) x.1).1:=by unfold YH;simp only [Int.toNat_natCast,e];simp [hl,hm]
 unfold Is at *
 rw [this,←hf,←hp]
end
theorem value (L:List Int) (H:Sat g w (Pt pc [m.vt,m.vm,m.vf,.int .i64 m.table,.int .i64 m.pages,.int .i64 m.most,m.vg,m.vx,.int .i64 m.start,m.ve,m.vd,vl,vs,vo,.int .i64 b] 241::Sl 97 1 YL vs st::Sl 246 5 Yq vo op::Sl 97 1 YL vl L::l)) (hm:XF g m) (o a bb:Int) (tv:Value) (tt:List Int) (ht:ZZ g ZG Us 1 tv tt) (ho:32≤o∧o≤36) (ha:0≤a∧a≤4294967295) (hn:0<op.length) (hop:op.length≤99) (hst:st.length≤90000) (hok:Yn st op):Fc Tryz.prog 194 #[.pointer (some ⟨pc,0,none⟩),.agg #[.int .u8 o,.int .i64 a,.int .i64 bb,tv]] w (fun r w'=>∃vs' st' b',Is (YH (ZF m.d) L ⟨st,op,b⟩ ⟨o,a,bb,tt⟩) ⟨st',op,b'⟩∧Yn st' op∧st'.length≤st.length+1∧Sat g w' (Pt pc [m.vt,m.vm,m.vf,.int .i64 m.table,.int .i64 m.pages,.int .i64 m.most,m.vg,m.vx,.int .i64 m.start,m.ve,m.vd,vl,vs',vo,.int .i64 b'] 241::Sl 97 1 YL vs' st'::Sl 246 5 Yq vo op::Sl 97 1 YL vl L::l)):=by
 have Y8:=hm.globals
 obtain ⟨k,rfl⟩:∃k:Nat,a=k:=⟨a.toNat,by omega⟩
 by_cases Gn:o<35
 ·rcases lEa k L.length with hk|hk
  ·obtain ⟨z,hz⟩:∃z,L[k]?=some z:=⟨_,laa hk⟩
   rcases (by omega:o=32∨o=33∨o=34) with rfl|rfl|rfl
   ·refine Fc.of Tryz.func194 rfl k_i<|ZH H<|fun p1 w1 H=>Z9 rfl<|Z4 (H.at 0 rfl) 0 rfl rfl rfl<|cT (Y4 qa)<|ZM H [] [(0,.pure),(1,.held),(2,.pure),(3,.pure),(4,.pure),(5,.held),(6,.pure),(7,.pure)] mixed k_i k_i<|fun w2 H=>tk (fun wx HS=>Z9 rfl ⟨rfl,rfl⟩)<|tk (fun wx HS=>Z4 (HS.at 0 rfl) 1 rfl rfl rfl ⟨rfl,rfl⟩)<|tk (fun wx HS=>Z9 rfl ⟨rfl,rfl⟩)<|tk (fun wx HS=>Z4 (HS.at 1 rfl) 11 rfl rfl rfl ⟨rfl,rfl⟩) ?_
    obtain ⟨a1,c1,V1⟩:=H.form 4 rfl
    refine tk (fun wx HS=>XP V1 rfl ⟨rfl,rfl⟩)<|cF (YM qo)<|ZM H [] [(0,.pure),(1,.pure),(2,.pure),(3,.held),(4,.pure),(5,.held),(6,.pure),(7,.held),(8,.pure)] mixed k_i k_i<|fun w1 H=>tk (fun wx HS=>Z9 rfl ⟨rfl,rfl⟩)<|tk (fun wx HS=>Z4 (HS.at 1 rfl) 11 rfl rfl rfl ⟨rfl,rfl⟩)<|tk (fun wx HS=>Z9 rfl ⟨rfl,rfl⟩)<|tk (fun wx HS=>Z4 (HS.at 0 rfl) 1 rfl rfl rfl ⟨rfl,rfl⟩) ?_
    obtain ⟨b1,o1,E1⟩:=H.Y1 4 rfl (k) qo
    refine tk (fun wx HS=>ZJ E1 rfl rfl rfl ⟨rfl,rfl⟩)<|tk (fun wx HS=>Z4 (HS.el 4 rfl E1 hz) 0 rfl rfl rfl ⟨rfl,rfl⟩)<|Z9 rfl<|Z4 (H.at 0 rfl) 0 rfl rfl rfl<|cF (WG qo)<|Z9 rfl<|Z4 (H.at 0 rfl) 0 rfl rfl rfl<|cT (Vg qo)<|H.Z8 [3,3,3]<|fun H=>?_
    refine Z7.mk (Fc.imp (Valid.push H _ qo) ?_)
    clear H
    rintro v' w2 ⟨Zx,⟨Y7,⟨h1,⟨h2,⟨h3,H⟩⟩⟩⟩⟩
    refine Z6.mk ?_
    refine ⟨Zx,Y7,b,?_⟩
    refine ⟨?_,?_⟩
    ·exact va2 hz qa
    refine ⟨?_,?_⟩
    ·exact k_k
    refine ⟨qa,?_⟩
    refine H.Z8 [4,3,3,3]<|fun H=>H.drop 4<|fun H=>?_
    exact H
   ·refine Fc.of Tryz.func194 rfl k_i<|ZH H<|fun p1 w1 H=>Z9 rfl<|Z4 (H.at 0 rfl) 0 rfl rfl rfl<|cT (Y4 qa)<|ZM H [] [(0,.pure),(1,.held),(2,.pure),(3,.pure),(4,.pure),(5,.held),(6,.pure),(7,.pure)] mixed k_i k_i<|fun w2 H=>tk (fun wx HS=>Z9 rfl ⟨rfl,rfl⟩)<|tk (fun wx HS=>Z4 (HS.at 0 rfl) 1 rfl rfl rfl ⟨rfl,rfl⟩)<|tk (fun wx HS=>Z9 rfl ⟨rfl,rfl⟩)<|tk (fun wx HS=>Z4 (HS.at 1 rfl) 11 rfl rfl rfl ⟨rfl,rfl⟩) ?_
    obtain ⟨a1,c1,V1⟩:=H.form 4 rfl
    refine tk (fun wx HS=>XP V1 rfl ⟨rfl,rfl⟩)<|cF (YM qo)<|ZM H [] [(0,.pure),(1,.pure),(2,.pure),(3,.held),(4,.pure),(5,.held),(6,.pure),(7,.held),(8,.pure)] mixed k_i k_i<|fun w1 H=>tk (fun wx HS=>Z9 rfl ⟨rfl,rfl⟩)<|tk (fun wx HS=>Z4 (HS.at 1 rfl) 11 rfl rfl rfl ⟨rfl,rfl⟩)<|tk (fun wx HS=>Z9 rfl ⟨rfl,rfl⟩)<|tk (fun wx HS=>Z4 (HS.at 0 rfl) 1 rfl rfl rfl ⟨rfl,rfl⟩) ?_
    obtain ⟨b1,o1,E1⟩:=H.Y1 4 rfl (k) qo
    refine tk (fun wx HS=>ZJ E1 rfl rfl rfl ⟨rfl,rfl⟩)<|tk (fun wx HS=>Z4 (HS.el 4 rfl E1 hz) 0 rfl rfl rfl ⟨rfl,rfl⟩)<|Z9 rfl<|Z4 (H.at 0 rfl) 0 rfl rfl rfl<|cT (Vg qo)<|H.Z8 [3,3,3]<|fun H=>?_
    refine Z7.mk (Fc.imp (Valid.pop H _ qa qo qo ?_) ?_)
    ·exact k_k
    clear H
    rintro _ w2 ⟨k1,⟨Zx,⟨Y7,⟨X9,⟨rfl,⟨h1,⟨h2,⟨h3,H⟩⟩⟩⟩⟩⟩⟩⟩
    refine Z9 rfl<|Z4 (H.at 3 rfl) 0 rfl rfl rfl<|cF (WG qo)<|Z6.mk ?_
    refine ⟨Zx,Y7,X9,?_⟩
    refine ⟨?_,?_⟩
    ·exact va3 hz qa
    refine ⟨?_,?_⟩
    ·exact k_k
    refine ⟨qo,?_⟩
    refine H.Z8 [4,3,3,3]<|fun H=>H.drop 4<|fun H=>?_
    exact H
   ·refine Fc.of Tryz.func194 rfl k_i<|ZH H<|fun p1 w1 H=>Z9 rfl<|Z4 (H.at 0 rfl) 0 rfl rfl rfl<|cT (Y4 qa)<|ZM H [] [(0,.pure),(1,.held),(2,.pure),(3,.pure),(4,.pure),(5,.held),(6,.pure),(7,.pure)] mixed k_i k_i<|fun w2 H=>tk (fun wx HS=>Z9 rfl ⟨rfl,rfl⟩)<|tk (fun wx HS=>Z4 (HS.at 0 rfl) 1 rfl rfl rfl ⟨rfl,rfl⟩)<|tk (fun wx HS=>Z9 rfl ⟨rfl,rfl⟩)<|tk (fun wx HS=>Z4 (HS.at 1 rfl) 11 rfl rfl rfl ⟨rfl,rfl⟩) ?_
    obtain ⟨a1,c1,V1⟩:=H.form 4 rfl
    refine tk (fun wx HS=>XP V1 rfl ⟨rfl,rfl⟩)<|cF (YM qo)<|ZM H [] [(0,.pure),(1,.pure),(2,.pure),(3,.held),(4,.pure),(5,.held),(6,.pure),(7,.held),(8,.pure)] mixed k_i k_i<|fun w1 H=>tk (fun wx HS=>Z9 rfl ⟨rfl,rfl⟩)<|tk (fun wx HS=>Z4 (HS.at 1 rfl) 11 rfl rfl rfl ⟨rfl,rfl⟩)<|tk (fun wx HS=>Z9 rfl ⟨rfl,rfl⟩)<|tk (fun wx HS=>Z4 (HS.at 0 rfl) 1 rfl rfl rfl ⟨rfl,rfl⟩) ?_
    obtain ⟨b1,o1,E1⟩:=H.Y1 4 rfl (k) qo
    refine tk (fun wx HS=>ZJ E1 rfl rfl rfl ⟨rfl,rfl⟩)<|tk (fun wx HS=>Z4 (HS.el 4 rfl E1 hz) 0 rfl rfl rfl ⟨rfl,rfl⟩)<|Z9 rfl<|Z4 (H.at 0 rfl) 0 rfl rfl rfl<|cT (Vg qo)<|H.Z8 [3,3,3]<|fun H=>?_
    refine Z7.mk (Fc.imp (Valid.pop H _ qa qo qo ?_) ?_)
    ·exact k_k
    clear H
    rintro _ w2 ⟨k1,⟨Zx,⟨Y7,⟨X9,⟨rfl,⟨h1,⟨h2,⟨h3,H⟩⟩⟩⟩⟩⟩⟩⟩
    refine Z9 rfl<|Z4 (H.at 3 rfl) 0 rfl rfl rfl<|cT (Vg qo) ?_
    refine Z7.mk (Fc.imp (Valid.push H _ qo) ?_)
    clear H
    rintro v' w3 ⟨V0,⟨Vh,⟨h4,⟨h5,⟨h6,H⟩⟩⟩⟩⟩
    refine Z6.mk ?_
    refine ⟨V0,Vh,X9,?_⟩
    refine ⟨?_,?_⟩
    ·exact va4 hz qa qa
    refine ⟨?_,?_⟩
    ·exact k_k
    refine ⟨qo,?_⟩
    refine H.Z8 [4,3,3,3]<|fun H=>H.drop 4<|fun H=>?_
    exact H
  ·refine Fc.of Tryz.func194 rfl k_i<|ZH H<|fun p1 w1 H=>Z9 rfl<|Z4 (H.at 0 rfl) 0 rfl rfl rfl<|cT (Y4 qa)<|ZM H [] [(0,.pure),(1,.held),(2,.pure),(3,.pure),(4,.pure),(5,.held),(6,.pure),(7,.pure)] mixed k_i k_i<|fun w2 H=>tk (fun wx HS=>Z9 rfl ⟨rfl,rfl⟩)<|tk (fun wx HS=>Z4 (HS.at 0 rfl) 1 rfl rfl rfl ⟨rfl,rfl⟩)<|tk (fun wx HS=>Z9 rfl ⟨rfl,rfl⟩)<|tk (fun wx HS=>Z4 (HS.at 1 rfl) 11 rfl rfl rfl ⟨rfl,rfl⟩) ?_
   obtain ⟨a1,c1,V1⟩:=H.form 4 rfl
   refine tk (fun wx HS=>XP V1 rfl ⟨rfl,rfl⟩)<|cT (Ys qo)<|H.Z8 [3,3,3]<|fun H=>?_
   refine Z7.mk (Fc.imp (Valid.fail H _) ?_)
   clear H
   rintro v' w1 ⟨X9,⟨h1,H⟩⟩
   refine Z6.mk ?_
   refine ⟨vs,st,X9,?_⟩
   refine ⟨?_,?_⟩
   ·exact va1 Gn qo qa
   refine ⟨qa,?_⟩
   refine ⟨qo,?_⟩
   refine H.Z8 [4,3,3,3]<|fun H=>H.drop 4<|fun H=>?_
   exact H
 ·rcases lEa k m.globals.length with hk|hk
  ·obtain ⟨z,hz⟩:∃z,m.globals[k]?=some z:=⟨_,laa hk⟩
   rcases (by omega:o=35∨o=36) with rfl|rfl
   ·refine Fc.of Tryz.func194 rfl k_i<|ZH H<|fun p1 w1 H=>Z9 rfl<|Z4 (H.at 0 rfl) 0 rfl rfl rfl<|cF (Zl qo)<|ZM H [] [(0,.pure),(1,.held),(2,.pure),(3,.pure),(4,.pure),(5,.pure),(6,.held),(7,.pure),(8,.pure)] mixed k_i k_i<|fun w2 H=>tk (fun wx HS=>Z9 rfl ⟨rfl,rfl⟩)<|tk (fun wx HS=>Z4 (HS.at 0 rfl) 1 rfl rfl rfl ⟨rfl,rfl⟩)<|tk (fun wx HS=>Z9 rfl ⟨rfl,rfl⟩)<|tk (fun wx HS=>Z9 rfl ⟨rfl,rfl⟩)<|tk (fun wx HS=>Z4 (HS.at 1 rfl) 6 rfl rfl rfl ⟨rfl,rfl⟩)<|tk (fun wx HS=>Zw Y8 rfl ⟨rfl,rfl⟩)<|cF (YM qo)<|ZM H [] [(0,.pure),(1,.pure),(2,.pure),(3,.pure),(4,.held),(5,.pure),(6,.held),(7,.pure),(8,.held),(9,.forced),(10,.free)] mixed k_i k_i<|fun w1 H=>tk (fun wx HS=>Z9 rfl ⟨rfl,rfl⟩)<|tk (fun wx HS=>Z9 rfl ⟨rfl,rfl⟩)<|tk (fun wx HS=>Z4 (HS.at 1 rfl) 6 rfl rfl rfl ⟨rfl,rfl⟩)<|tk (fun wx HS=>Z9 rfl ⟨rfl,rfl⟩)<|tk (fun wx HS=>Z4 (HS.at 0 rfl) 1 rfl rfl rfl ⟨rfl,rfl⟩) ?_
    obtain ⟨b1,o1,E1,F1,ZE⟩:=ZZ.Y1 Y8 hz
    have Pj:=ZE.kind
    have QS:=ZE.start
    refine tk (fun wx HS=>ZJ E1 rfl rfl rfl ⟨rfl,rfl⟩)<|tk (fun wx HS=>ZA (HS.XQ F1) 0 rfl rfl rfl ⟨rfl,rfl⟩)<|ZS H rfl<|fun p2 w2 H=>Yt.mk (H.drop 0 (fun H=>H))<|ZD H 0 rfl rfl rfl rfl<|fun w1 H=>Z9 rfl<|Z4 (H.at 1 rfl) 0 rfl rfl rfl<|cT (ZN qo)<|Z9 rfl<|Z4 (H.at 0 rfl) 0 rfl rfl rfl<|H.Z8 [4,4,4]<|fun H=>?_
    refine Z7.mk (Fc.imp (Valid.push H _ qo) ?_)
    clear H
    rintro v' w2 ⟨Zx,⟨Y7,⟨h1,⟨h2,⟨h3,H⟩⟩⟩⟩⟩
    refine Z6.mk ?_
    refine ⟨Zx,Y7,b,?_⟩
    refine ⟨?_,?_⟩
    ·exact va6 hz qa
    refine ⟨?_,?_⟩
    ·exact k_k
    refine ⟨qa,?_⟩
    refine H.Z8 [5,3,3,3]<|fun H=>H.drop 5<|fun H=>H.drop 4<|fun H=>?_
    exact H
   ·refine Fc.of Tryz.func194 rfl k_i<|ZH H<|fun p1 w1 H=>Z9 rfl<|Z4 (H.at 0 rfl) 0 rfl rfl rfl<|cF (Zl qo)<|ZM H [] [(0,.pure),(1,.held),(2,.pure),(3,.pure),(4,.pure),(5,.pure),(6,.held),(7,.pure),(8,.pure)] mixed k_i k_i<|fun w2 H=>tk (fun wx HS=>Z9 rfl ⟨rfl,rfl⟩)<|tk (fun wx HS=>Z4 (HS.at 0 rfl) 1 rfl rfl rfl ⟨rfl,rfl⟩)<|tk (fun wx HS=>Z9 rfl ⟨rfl,rfl⟩)<|tk (fun wx HS=>Z9 rfl ⟨rfl,rfl⟩)<|tk (fun wx HS=>Z4 (HS.at 1 rfl) 6 rfl rfl rfl ⟨rfl,rfl⟩)<|tk (fun wx HS=>Zw Y8 rfl ⟨rfl,rfl⟩)<|cF (YM qo)<|ZM H [] [(0,.pure),(1,.pure),(2,.pure),(3,.pure),(4,.held),(5,.pure),(6,.held),(7,.pure),(8,.held),(9,.forced),(10,.free)] mixed k_i k_i<|fun w1 H=>tk (fun wx HS=>Z9 rfl ⟨rfl,rfl⟩)<|tk (fun wx HS=>Z9 rfl ⟨rfl,rfl⟩)<|tk (fun wx HS=>Z4 (HS.at 1 rfl) 6 rfl rfl rfl ⟨rfl,rfl⟩)<|tk (fun wx HS=>Z9 rfl ⟨rfl,rfl⟩)<|tk (fun wx HS=>Z4 (HS.at 0 rfl) 1 rfl rfl rfl ⟨rfl,rfl⟩) ?_
    obtain ⟨b1,o1,E1,F1,ZE⟩:=ZZ.Y1 Y8 hz
    have Pj:=ZE.kind
    have QS:=ZE.start
    refine tk (fun wx HS=>ZJ E1 rfl rfl rfl ⟨rfl,rfl⟩)<|tk (fun wx HS=>ZA (HS.XQ F1) 0 rfl rfl rfl ⟨rfl,rfl⟩)<|ZS H rfl<|fun p2 w2 H=>Yt.mk (H.drop 0 (fun H=>H))<|ZD H 0 rfl rfl rfl rfl<|fun w1 H=>Z9 rfl<|Z4 (H.at 1 rfl) 0 rfl rfl rfl<|cF (Z5 qo)<|Z9 rfl<|Z4 (H.at 0 rfl) 1 rfl rfl rfl ?_
    refine cI (fun c1=>?_) (fun c1=>?_)
    ·replace c1:=Si (c1)
     refine H.Z8 [4,4,4]<|fun H=>?_
     refine Z7.mk (Fc.imp (Valid.fail H _) ?_)
     clear H
     rintro v' w2 ⟨X9,⟨h1,H⟩⟩
     refine Z9 rfl<|Z4 (H.at 3 rfl) 0 rfl rfl rfl ?_
     refine Z7.mk (Fc.imp (Valid.pop H _ qa qo qo ?_) ?_)
     ·exact k_k
     clear H
     rintro _ w3 ⟨k1,⟨Zx,⟨Y7,⟨Ko,⟨rfl,⟨h2,⟨h3,⟨h4,H⟩⟩⟩⟩⟩⟩⟩⟩
     refine Z6.mk ?_
     refine ⟨Zx,Y7,Ko,?_⟩
     refine ⟨?_,?_⟩
     ·exact va8 hz qa qa qa
     refine ⟨?_,?_⟩
     ·exact k_k
     refine ⟨qo,?_⟩
     refine H.Z8 [5,3,3,3]<|fun H=>H.drop 5<|fun H=>H.drop 4<|fun H=>?_
     exact H
    replace c1:=Sh (c1)
    refine Z9 rfl<|Z4 (H.at 0 rfl) 0 rfl rfl rfl<|H.Z8 [4,4,4]<|fun H=>?_
    refine Z7.mk (Fc.imp (Valid.pop H _ qa qo qo ?_) ?_)
    ·exact k_k
    clear H
    rintro _ w2 ⟨k1,⟨Zx,⟨Y7,⟨X9,⟨rfl,⟨h1,⟨h2,⟨h3,H⟩⟩⟩⟩⟩⟩⟩⟩
    refine Z6.mk ?_
    refine ⟨Zx,Y7,X9,?_⟩
    refine ⟨?_,?_⟩
    ·exact va7 hz qa qa
    refine ⟨?_,?_⟩
    ·exact k_k
    refine ⟨qo,?_⟩
    refine H.Z8 [5,3,3,3]<|fun H=>H.drop 5<|fun H=>H.drop 4<|fun H=>?_
    exact H
  ·refine Fc.of Tryz.func194 rfl k_i<|ZH H<|fun p1 w1 H=>Z9 rfl<|Z4 (H.at 0 rfl) 0 rfl rfl rfl<|cF (Zl qo)<|ZM H [] [(0,.pure),(1,.held),(2,.pure),(3,.pure),(4,.pure),(5,.pure),(6,.held),(7,.pure),(8,.pure)] mixed k_i k_i<|fun w2 H=>tk (fun wx HS=>Z9 rfl ⟨rfl,rfl⟩)<|tk (fun wx HS=>Z4 (HS.at 0 rfl) 1 rfl rfl rfl ⟨rfl,rfl⟩)<|tk (fun wx HS=>Z9 rfl ⟨rfl,rfl⟩)<|tk (fun wx HS=>Z9 rfl ⟨rfl,rfl⟩)<|tk (fun wx HS=>Z4 (HS.at 1 rfl) 6 rfl rfl rfl ⟨rfl,rfl⟩)<|tk (fun wx HS=>Zw Y8 rfl ⟨rfl,rfl⟩)<|cT (Ys qo)<|H.Z8 [3,3,3]<|fun H=>?_
   refine Z7.mk (Fc.imp (Valid.fail H _) ?_)
   clear H
   rintro v' w1 ⟨X9,⟨h1,H⟩⟩
   refine Z6.mk ?_
   refine ⟨vs,st,X9,?_⟩
   refine ⟨?_,?_⟩
   ·exact va5 Gn hk qa
   refine ⟨qa,?_⟩
   refine ⟨qo,?_⟩
   refine H.Z8 [4,3,3,3]<|fun H=>H.drop 4<|fun H=>?_
   exact H
end
end Valid
namespace Valid
open Go YZ Go.RowKit
open YS Zk XV YQ
section
variable {g:Zv} {w:World} {l:List As} {pc:Nat} {m:Y9} {vl vs vo:Value} {st:List Int} {op:List ZK} {b:Int}
structure Qd (m:Y9):Prop where
 im:∀x∈m.ZB,0≤x.2∧x.2<m.types.length
 fu:∀f∈m.funcs,0≤f.ty∧f.ty<m.types.length
 li:m.ZB.length≤16
 lf:m.funcs.length≤16
 lt:m.types.length≤16
structure TR (m:Y9) (n:Int) (vi vo:Value) (q:Bool):Prop where
 yes:q=true→∃s∈m.types,s.vi=vi∧s.vo=vo∧Xx (ZF m.d) n=some s.d
 no:q=false→vi=.slice none 0 0∧vo=.slice none 0 0∧Xx (ZF m.d) n=none
theorem TR.get {n:Int} {vi vo:Value} {q:Bool} {d:Xm} (h:TR m n vi vo q) (hs:Xx (ZF m.d) n=some d):q=true∧∃s∈m.types,s.vi=vi∧s.vo=vo∧s.d=d:=by
 cases q with
 | false=>rw [(h.no rfl).2.2] at hs;cases hs
 | true =>
  obtain ⟨s,h1,h2,h3,h4⟩:=h.yes rfl
  rw [h4] at hs
  exact ⟨rfl,s,h1,h2,h3,Option.some.inj hs⟩
theorem TR.Em {n:Int} {vi vo:Value} {q:Bool} (h:TR m n vi vo q) (hs:Xx (ZF m.d) n=none):q=false∧vi=.slice none 0 0∧vo=.slice none 0 0:=by
 cases q with
 | false=>exact ⟨rfl,(h.no rfl).1,(h.no rfl).2.1⟩
 | true =>
  obtain ⟨s,h1,h2,h3,h4⟩:=h.yes rfl
  rw [h4] at hs;cases hs
theorem OI {k:Nat} {x:List UInt8 × Int} {s:Xy} (hx:m.ZB[k]?=some x) (hs:m.types[x.2.toNat]?=some s):Xx (ZF m.d) (k:Int)=some s.d:=by
 have hl:=(lca.1 hx).1
 unfold Xx QO ZF
 rw [if_neg qo,if_pos (by simp only [Y9.d,List.length_map];omega)]
 simp only [Y9.d,Int.toNat_natCast,List.getElem?_map,hx,Option.map_some,Option.bind_some,hs]
theorem agm {k:Nat} {f:YA} {s:Xy} (hk:m.ZB.length≤k) (hx:m.funcs[k-m.ZB.length]?=some f) (hs:m.types[f.ty.toNat]?=some s):Xx (ZF m.d) (k:Int)=some s.d:=by
 unfold Xx QO ZF
 rw [if_neg qo,if_neg (by simp only [Y9.d,List.length_map];omega)]
 simp only [Y9.d,Int.toNat_natCast,List.getElem?_map,List.map_map,List.length_map,hx,Option.map_some,Option.bind_some,Function.comp,YA.d,hs]
theorem ait {n:Int} (h:n<0∨(m.ZB.length:Int)+m.funcs.length≤n):Xx (ZF m.d) n=none:=by
 unfold Xx QO ZF
 by_cases h0:n<0
 ·rw [if_pos h0];rfl
 ·rw [if_neg h0,if_neg (by simp only [Y9.d,List.length_map];omega)]
  simp only [Y9.d,List.length_map]
  rw [lSa (by simp only [List.length_map];omega)];rfl
theorem TR.C8 {n:Int} {s:Xy} (hs:s∈m.types) (h:Xx (ZF m.d) n=some s.d):TR m n s.vi s.vo true:=⟨fun _=>⟨s,hs,rfl,rfl,h⟩,nofun⟩
theorem TR.mkN {n:Int} (h:Xx (ZF m.d) n=none):TR m n (.slice none 0 0) (.slice none 0 0) false:=⟨nofun,fun _=>⟨rfl,rfl,h⟩⟩
theorem typeOf (H:Sat g w l) (hm:XF g m) (hI:Qd m) (n:Int) (hn:0≤n∧n≤9223372036854775807):Fc Tryz.prog 129 #[.agg #[m.vt,m.vm,m.vf,.int .i64 m.table,.int .i64 m.pages,.int .i64 m.most,m.vg,m.vx,.int .i64 m.start,m.ve,m.vd],.int .i64 n] w (fun r w'=>∃vi vo q,r=.tuple #[.agg #[vi,vo],.bool q]∧TR m n vi vo q∧Sat g w' l):=by
 have ZP:=hm.types
 have Zt:=hm.ZB
 have ZW:=hm.funcs
 have Gm:=hI.li
 have hlf:=hI.lf
 have hlt:=hI.lt
 obtain ⟨k,rfl⟩:∃k:Nat,n=k:=⟨n.toNat,by omega⟩
 rcases lEa k m.ZB.length with hk|hk
 ·obtain ⟨x,hx⟩:∃x,m.ZB[k]?=some x:=⟨_,laa hk⟩
  have MO:=hI.im x (lha hx)
  obtain ⟨s,hs⟩:∃s,m.types[x.2.toNat]?=some s:=⟨_,laa qo⟩
  refine Fc.of Tryz.func129 rfl k_i<|ZH H<|fun p1 w1 H=>ZS H rfl<|fun p2 w2 H=>Z9 rfl<|Z4 (H.at 1 rfl) 1 rfl rfl rfl<|Zw Zt rfl<|ZX qo<|bk<|VA (Ys qo)<|cT (Y4 qo)<|ZM H [] [(0,.pure),(1,.held),(2,.pure),(3,.held),(4,.pure),(5,.pure),(6,.pure),(7,.held),(8,.pure),(9,.held),(10,.free),(11,.pure)] mixed k_i k_i<|fun w1 H=>tk (fun wx HS=>Z9 rfl ⟨rfl,rfl⟩)<|tk (fun wx HS=>Z4 (HS.at 1 rfl) 0 rfl rfl rfl ⟨rfl,rfl⟩)<|tk (fun wx HS=>Z9 rfl ⟨rfl,rfl⟩)<|tk (fun wx HS=>Z4 (HS.at 1 rfl) 1 rfl rfl rfl ⟨rfl,rfl⟩) ?_
  obtain ⟨b1,o1,E1,F1,ZE⟩:=ZZ.Y1 Zt hx
  have U7:=ZE.name
  have XR:=ZE.ty
  refine tk (fun wx HS=>ZJ E1 rfl rfl rfl ⟨rfl,rfl⟩)<|tk (fun wx HS=>Z9 rfl ⟨rfl,rfl⟩)<|tk (fun wx HS=>Z4 (HS.XQ F1) 1 rfl rfl rfl ⟨rfl,rfl⟩) ?_
  obtain ⟨b2,o2,E2,F2,X3⟩:=ZZ.Y1 ZP hs
  have YG:=X3.Zc
  have YX:=X3.out
  refine tk (fun wx HS=>ZJ E2 qo rfl rfl ⟨rfl,rfl⟩)<|tk (fun wx HS=>ZA (HS.XQ F2) 0 rfl rfl rfl ⟨rfl,rfl⟩)<|ZD H 0 rfl rfl rfl (by simp only [List.all_cons,List.all_nil,ZZ.one YX,ZZ.one YG,ZZ.one ZW,ZZ.one Zt,ZZ.one ZP];rfl)<|fun w2 H=>Xd (H.at 0 rfl) 0 rfl rfl rfl<|Z6.mk ?_
  refine ⟨s.vi,s.vo,true,?_⟩
  refine ⟨rfl,?_⟩
  refine ⟨?_,?_⟩
  ·exact TR.C8 (lha hs) (OI hx hs)
  refine H.drop 1<|fun H=>H.drop 0<|fun H=>?_
  exact H
 ·by_cases hk2:k<m.ZB.length+m.funcs.length
  ·obtain ⟨x,hx⟩:∃x,m.funcs[k-m.ZB.length]?=some x:=⟨_,laa qo⟩
   have MO:=hI.fu x (lha hx)
   obtain ⟨s,hs⟩:∃s,m.types[x.ty.toNat]?=some s:=⟨_,laa qo⟩
   refine Fc.of Tryz.func129 rfl k_i<|ZH H<|fun p1 w1 H=>ZS H rfl<|fun p2 w2 H=>Z9 rfl<|Z4 (H.at 1 rfl) 1 rfl rfl rfl<|Zw Zt rfl<|ZX qo<|bk<|VA (Ys qo)<|cF (Zl qo)<|VA (Ys qo)<|Z9 rfl<|Z4 (H.at 1 rfl) 2 rfl rfl rfl<|Zw ZW rfl<|cT (Y4 qo)<|ZM H [] [(0,.pure),(1,.held),(2,.pure),(3,.held),(4,.pure),(5,.pure),(6,.pure),(7,.held),(8,.pure),(9,.held),(10,.free),(11,.pure)] mixed k_i k_i<|fun w1 H=>tk (fun wx HS=>Z9 rfl ⟨rfl,rfl⟩)<|tk (fun wx HS=>Z4 (HS.at 1 rfl) 0 rfl rfl rfl ⟨rfl,rfl⟩)<|tk (fun wx HS=>Z9 rfl ⟨rfl,rfl⟩)<|tk (fun wx HS=>Z4 (HS.at 1 rfl) 2 rfl rfl rfl ⟨rfl,rfl⟩) ?_
   obtain ⟨b1,o1,E1,F1,ZE⟩:=ZZ.Y1 ZW hx
   have XR:=ZE.ty
   have Zy:=ZE.loc
   have ZI:=ZE.body
   refine tk (fun wx HS=>ZJ E1 qo rfl rfl ⟨rfl,rfl⟩)<|tk (fun wx HS=>Z9 rfl ⟨rfl,rfl⟩)<|tk (fun wx HS=>Z4 (HS.XQ F1) 0 rfl rfl rfl ⟨rfl,rfl⟩) ?_
   obtain ⟨b2,o2,E2,F2,X3⟩:=ZZ.Y1 ZP hs
   have YG:=X3.Zc
   have YX:=X3.out
   refine tk (fun wx HS=>ZJ E2 qo rfl rfl ⟨rfl,rfl⟩)<|tk (fun wx HS=>ZA (HS.XQ F2) 0 rfl rfl rfl ⟨rfl,rfl⟩)<|ZD H 0 rfl rfl rfl (by simp only [List.all_cons,List.all_nil,ZZ.one YX,ZZ.one YG,ZZ.one ZI,ZZ.one Zy,ZZ.one ZW,ZZ.one Zt,ZZ.one ZP];rfl)<|fun w2 H=>Xd (H.at 0 rfl) 0 rfl rfl rfl<|Z6.mk ?_
   refine ⟨s.vi,s.vo,true,?_⟩
   refine ⟨rfl,?_⟩
   refine ⟨?_,?_⟩
   ·exact TR.C8 (lha hs) (agm hk hx hs)
   refine H.drop 1<|fun H=>H.drop 0<|fun H=>?_
   exact H
  ·refine Fc.of Tryz.func129 rfl k_i<|ZH H<|fun p1 w1 H=>ZS H rfl<|fun p2 w2 H=>Z9 rfl<|Z4 (H.at 1 rfl) 1 rfl rfl rfl<|Zw Zt rfl<|ZX qo<|bk<|VA (Ys qo)<|cF (Zl qo)<|VA (Ys qo)<|Z9 rfl<|Z4 (H.at 1 rfl) 2 rfl rfl rfl<|Zw ZW rfl<|cF (Zl qo)<|Zf rfl rfl rfl<|ZD H 0 rfl rfl rfl rfl<|fun w1 H=>Xd (H.at 0 rfl) 0 rfl rfl rfl<|Z6.mk ?_
   refine ⟨Value.slice none 0 0,Value.slice none 0 0,false,?_⟩
   refine ⟨rfl,?_⟩
   refine ⟨?_,?_⟩
   ·exact TR.mkN (ait qo)
   refine H.drop 1<|fun H=>H.drop 0<|fun H=>?_
   exact H
section
variable {E:Yj} {c c1 c2 c3 c':Ck} {a bb k:Int} {tt:List Int} {t:Xm}
theorem ca1 (h:Xx E a=none) (hf:Is (YO c 8) c'):Is (Wx E c ⟨16,a,bb,tt⟩) c':=by
 unfold Wx;rw [if_pos rfl];simp only;rw [h];exact hf
theorem ca2 (h:Xx E a=some t) (h1:Is (Xw c t.Zc) c1) (h2:Is (W4 c1 t.out) c'):Is (Wx E c ⟨16,a,bb,tt⟩) c':=by
 unfold Wx Is at *;rw [if_pos rfl];simp only;rw [h];simp only;rw [←h1];exact h2
theorem ca3 (h:E.table=0∨(E.types.length:Int)≤a) (hf:Is (YO c 8) c'):Is (Wx E c ⟨17,a,bb,tt⟩) c':=by
 unfold Wx;rw [if_neg qs,if_pos h];exact hf
theorem ca4 {a:Nat} (h:¬(E.table=0∨(E.types.length:Int)≤(a:Int))) (ht:E.types[a]?=some t) (h0:Is (Zj c 127) (c1,k)) (h1:Is (Xw c1 t.Zc) c2) (h2:Is (W4 c2 t.out) c'):Is (Wx E c ⟨17,(a:Int),bb,tt⟩) c':=by
 have e:E.types.getD a ⟨[],[]⟩=t:=by rw [lea,ht];rfl
 unfold Wx Is at *;rw [if_neg qs,if_neg h];simp only [Int.toNat_natCast,e];rw [←h0];simp only;rw [←h1];exact h2
end
theorem aaG {a:Nat} {s:Xy} (h:m.types[a]?=some s):(ZF m.d).types[a]?=some s.d:=by
 show (m.types.map Xy.d)[a]?=_
 rw [lva,h];rfl
theorem aiu:(ZF m.d).types.length=m.types.length:=by show (m.types.map Xy.d).length=_;rw [lia0]
theorem agn:(ZF m.d).table=m.table:=rfl
structure KL (m:Y9):Prop where
 Zc:∀s∈m.types,s.Zc.length≤4
 out:∀s∈m.types,s.out.length≤1
theorem call (H:Sat g w (Pt pc [m.vt,m.vm,m.vf,.int .i64 m.table,.int .i64 m.pages,.int .i64 m.most,m.vg,m.vx,.int .i64 m.start,m.ve,m.vd,vl,vs,vo,.int .i64 b] 241::Sl 97 1 YL vs st::Sl 246 5 Yq vo op::l)) (hm:XF g m) (hI:Qd m) (hS:KL m) (o a bb:Int) (tv:Value) (tt:List Int) (ht:ZZ g ZG Us 1 tv tt) (ho:o=16∨o=17) (ha:0≤a∧a≤4294967295) (hn:0<op.length) (hop:op.length≤99) (hst:st.length≤90000) (hok:Yn st op):Fc Tryz.prog 191 #[.pointer (some ⟨pc,0,none⟩),.agg #[.int .u8 o,.int .i64 a,.int .i64 bb,tv]] w (fun r w'=>∃vs' st' b',Is (Wx (ZF m.d) ⟨st,op,b⟩ ⟨o,a,bb,tt⟩) ⟨st',op,b'⟩∧Yn st' op∧st'.length≤st.length+1∧Sat g w' (Pt pc [m.vt,m.vm,m.vf,.int .i64 m.table,.int .i64 m.pages,.int .i64 m.most,m.vg,m.vx,.int .i64 m.start,m.ve,m.vd,vl,vs',vo,.int .i64 b'] 241::Sl 97 1 YL vs' st'::Sl 246 5 Yq vo op::l)):=by
 have ZP:=hm.types
 have hlt:=hI.lt
 have MQ:=aiu (m:=m)
 have htb:=agn (m:=m)
 rcases ho with rfl|rfl
 ·cases hty:Xx (ZF m.d) a with
  | none =>
   refine Fc.of Tryz.func191 rfl k_i<|ZH H<|fun p1 w1 H=>ZS H rfl<|fun p2 w2 H=>Z9 rfl<|Z4 (H.at 1 rfl) 0 rfl rfl rfl<|cT (ZN qo)<|Kf H [] (.op 0 .pure (.op 1 .pure (.op 2 .pure (.op 3 .held (.op 4 .pure (.op 5 .held (.fork (.op 6 .forced (.op 7 .pure (.op 8 .pure (.op 9 .pure (.op 10 .forced (.op 11 .free (.op 12 .pure .nil))))))) (.op 10 .forced (.op 6 .free (.op 7 .pure (.op 8 .pure (.op 9 .pure (.op 11 .free (.op 12 .pure .nil)))))))))))))) mixed k_i<|fun w1 H=>tk (fun wx HS=>Z9 rfl ⟨rfl,rfl⟩)<|tk (fun wx HS=>ZA (HS.at 2 rfl) 0 rfl rfl rfl ⟨rfl,rfl⟩)<|tk (fun wx HS=>Z9 rfl ⟨rfl,rfl⟩)<|tk (fun wx HS=>Z4 (HS.at 1 rfl) 1 rfl rfl rfl ⟨rfl,rfl⟩) ?_
   refine ⟨?_,?_⟩
   ·refine Z7.mk (Fc.imp (Valid.typeOf H qa qa _ qo) ?_)
    clear H
    rintro _ w2 ⟨Hu,⟨Kq,⟨q1,⟨rfl,⟨h1,H⟩⟩⟩⟩⟩
    obtain ⟨rfl,rfl,rfl⟩:=TR.Em h1 hty
    refine Yt.mk (H)<|ZS H rfl<|fun p3 w3 H=>Yt.mk (H.drop 0 (fun H=>H))<|ZD H 0 rfl rfl rfl rfl<|fun w2 H=>cT rfl<|H.Z8 [5,5,5]<|fun H=>?_
    refine Z7.mk (Fc.imp (Valid.fail H _) ?_)
    clear H
    rintro v' w3 ⟨X9,⟨h2,H⟩⟩
    refine Z6.mk ?_
    refine ⟨vs,st,X9,?_⟩
    refine ⟨?_,?_⟩
    ·exact ca1 hty qa
    refine ⟨qa,?_⟩
    refine ⟨qo,?_⟩
    refine H.drop 5<|fun H=>H.drop 4<|fun H=>H.drop 3<|fun H=>?_
    exact H
   refine ZS H rfl<|fun p3 w2 H=>Yt.mk (H.drop 0 (fun H=>H)) ?_
   refine Z7.mk (Fc.imp (Valid.typeOf H qa qa _ qo) ?_)
   clear H
   rintro _ w1 ⟨Hu,⟨Kq,⟨q1,⟨rfl,⟨h1,H⟩⟩⟩⟩⟩
   obtain ⟨rfl,rfl,rfl⟩:=TR.Em h1 hty
   refine ZD H 0 rfl rfl rfl rfl<|fun w3 H=>cT rfl<|H.Z8 [5,5,5]<|fun H=>?_
   refine Z7.mk (Fc.imp (Valid.fail H _) ?_)
   clear H
   rintro v' w1 ⟨X9,⟨h2,H⟩⟩
   refine Z6.mk ?_
   refine ⟨vs,st,X9,?_⟩
   refine ⟨?_,?_⟩
   ·exact ca1 hty qa
   refine ⟨qa,?_⟩
   refine ⟨qo,?_⟩
   refine H.drop 5<|fun H=>H.drop 4<|fun H=>H.drop 3<|fun H=>?_
   exact H
  | some d =>
   refine Fc.of Tryz.func191 rfl k_i<|ZH H<|fun p1 w1 H=>ZS H rfl<|fun p2 w2 H=>Z9 rfl<|Z4 (H.at 1 rfl) 0 rfl rfl rfl<|cT (ZN qo)<|Kf H [] (.op 0 .pure (.op 1 .pure (.op 2 .pure (.op 3 .held (.op 4 .pure (.op 5 .held (.fork (.op 6 .forced (.op 7 .pure (.op 8 .pure (.op 9 .pure (.op 10 .forced (.op 11 .free (.op 12 .pure .nil))))))) (.op 10 .forced (.op 6 .free (.op 7 .pure (.op 8 .pure (.op 9 .pure (.op 11 .free (.op 12 .pure .nil)))))))))))))) mixed k_i<|fun w1 H=>tk (fun wx HS=>Z9 rfl ⟨rfl,rfl⟩)<|tk (fun wx HS=>ZA (HS.at 2 rfl) 0 rfl rfl rfl ⟨rfl,rfl⟩)<|tk (fun wx HS=>Z9 rfl ⟨rfl,rfl⟩)<|tk (fun wx HS=>Z4 (HS.at 1 rfl) 1 rfl rfl rfl ⟨rfl,rfl⟩) ?_
   refine ⟨?_,?_⟩
   ·refine Z7.mk (Fc.imp (Valid.typeOf H qa qa _ qo) ?_)
    clear H
    rintro _ w2 ⟨Hu,⟨Kq,⟨q1,⟨rfl,⟨h1,H⟩⟩⟩⟩⟩
    obtain ⟨rfl,s,hs,rfl,rfl,rfl⟩:=TR.get h1 hty
    have X5:=(ZZ.all ZP s hs).Zc
    have X4:=(ZZ.all ZP s hs).out
    have Nn:=hS.Zc s hs
    have FT:=hS.out s hs
    refine Yt.mk (H)<|ZS H rfl<|fun p3 w3 H=>Yt.mk (H.drop 0 (fun H=>H))<|ZD H 0 rfl rfl rfl k_B<|fun w2 H=>cF rfl<|ZA (H.at 0 rfl) 0 rfl rfl rfl<|ZD H 1 rfl rfl rfl k_B<|fun w3 H=>Z9 rfl<|Z4 (H.at 1 rfl) 0 rfl rfl rfl<|H.Z8 [5,5,5]<|fun H=>?_
    refine Z7.mk (Fc.imp (Valid.Wp H _ _ X5 qo qa qo qo ?_) ?_)
    ·exact k_k
    clear H
    rintro v' w2 ⟨Zx,⟨Y7,⟨X9,⟨h2,⟨h3,⟨h4,H⟩⟩⟩⟩⟩⟩
    refine Z9 rfl<|Z4 (H.at 4 rfl) 1 rfl rfl rfl ?_
    refine Z7.mk (Fc.imp (Valid.TO H _ _ X4 qo qo) ?_)
    clear H
    rintro UR w4 ⟨V0,⟨Vh,⟨h5,⟨h6,⟨h7,H⟩⟩⟩⟩⟩
    refine Z6.mk ?_
    refine ⟨V0,Vh,X9,?_⟩
    refine ⟨?_,?_⟩
    ·exact ca2 hty qa qa
    refine ⟨?_,?_⟩
    ·exact k_k
    refine ⟨qo,?_⟩
    refine H.drop 5<|fun H=>H.drop 4<|fun H=>H.drop 3<|fun H=>?_
    exact H
   refine ZS H rfl<|fun p3 w2 H=>Yt.mk (H.drop 0 (fun H=>H)) ?_
   refine Z7.mk (Fc.imp (Valid.typeOf H qa qa _ qo) ?_)
   clear H
   rintro _ w1 ⟨Hu,⟨Kq,⟨q1,⟨rfl,⟨h1,H⟩⟩⟩⟩⟩
   obtain ⟨rfl,s,hs,rfl,rfl,rfl⟩:=TR.get h1 hty
   have X5:=(ZZ.all ZP s hs).Zc
   have X4:=(ZZ.all ZP s hs).out
   have Nn:=hS.Zc s hs
   have FT:=hS.out s hs
   refine ZD H 0 rfl rfl rfl k_B<|fun w3 H=>cF rfl<|ZA (H.at 0 rfl) 0 rfl rfl rfl<|ZD H 1 rfl rfl rfl k_B<|fun w1 H=>Z9 rfl<|Z4 (H.at 1 rfl) 0 rfl rfl rfl<|H.Z8 [5,5,5]<|fun H=>?_
   refine Z7.mk (Fc.imp (Valid.Wp H _ _ X5 qo qa qo qo ?_) ?_)
   ·exact k_k
   clear H
   rintro v' w3 ⟨Zx,⟨Y7,⟨X9,⟨h2,⟨h3,⟨h4,H⟩⟩⟩⟩⟩⟩
   refine Z9 rfl<|Z4 (H.at 4 rfl) 1 rfl rfl rfl ?_
   refine Z7.mk (Fc.imp (Valid.TO H _ _ X4 qo qo) ?_)
   clear H
   rintro UR w4 ⟨V0,⟨Vh,⟨h5,⟨h6,⟨h7,H⟩⟩⟩⟩⟩
   refine Z6.mk ?_
   refine ⟨V0,Vh,X9,?_⟩
   refine ⟨?_,?_⟩
   ·exact ca2 hty qa qa
   refine ⟨?_,?_⟩
   ·exact k_k
   refine ⟨qo,?_⟩
   refine H.drop 5<|fun H=>H.drop 4<|fun H=>H.drop 3<|fun H=>?_
   exact H
 ·obtain ⟨k,rfl⟩:∃k:Nat,a=k:=⟨a.toNat,by omega⟩
  by_cases hc:m.table=0∨(m.types.length:Int)≤(k:Int)
  ·refine Fc.of Tryz.func191 rfl k_i<|ZH H<|fun p1 w1 H=>ZS H rfl<|fun p2 w2 H=>Z9 rfl<|Z4 (H.at 1 rfl) 0 rfl rfl rfl<|cF (Z5 qo)<|ZM H [] [(0,.pure),(1,.pure),(2,.pure),(3,.pure),(4,.held),(5,.pure),(6,.pure),(7,.pure),(8,.held),(9,.pure),(10,.pure),(11,.pure),(12,.pure),(13,.held),(14,.pure),(15,.pure),(16,.pure)] mixed k_i k_i<|fun w1 H=>tk (fun wx HS=>Z9 rfl ⟨rfl,rfl⟩)<|tk (fun wx HS=>Z9 rfl ⟨rfl,rfl⟩)<|tk (fun wx HS=>Z4 (HS.at 2 rfl) 3 rfl rfl rfl ⟨rfl,rfl⟩) ?_
   refine br (fun c1=>?_) (fun c1=>?_)
   ·replace c1:=ZR (c1)
    refine cT rfl<|H.Z8 [4,4,4]<|fun H=>?_
    refine Z7.mk (Fc.imp (Valid.fail H _) ?_)
    clear H
    rintro v' w2 ⟨X9,⟨h1,H⟩⟩
    refine Z6.mk ?_
    refine ⟨vs,st,X9,?_⟩
    refine ⟨?_,?_⟩
    ·exact ca3 qo qa
    refine ⟨qa,?_⟩
    refine ⟨qo,?_⟩
    refine H.drop 4<|fun H=>H.drop 3<|fun H=>?_
    exact H
   replace c1:=ZQ (c1)
   refine tk (fun wx HS=>Z9 rfl ⟨rfl,rfl⟩)<|tk (fun wx HS=>Z4 (HS.at 1 rfl) 1 rfl rfl rfl ⟨rfl,rfl⟩)<|tk (fun wx HS=>Z9 rfl ⟨rfl,rfl⟩)<|tk (fun wx HS=>Z9 rfl ⟨rfl,rfl⟩)<|tk (fun wx HS=>Z4 (HS.at 2 rfl) 0 rfl rfl rfl ⟨rfl,rfl⟩)<|tk (fun wx HS=>Zw ZP rfl ⟨rfl,rfl⟩)<|cT (Ys qo)<|H.Z8 [4,4,4]<|fun H=>?_
   refine Z7.mk (Fc.imp (Valid.fail H _) ?_)
   clear H
   rintro v' w2 ⟨X9,⟨h1,H⟩⟩
   refine Z6.mk ?_
   refine ⟨vs,st,X9,?_⟩
   refine ⟨?_,?_⟩
   ·exact ca3 qo qa
   refine ⟨qa,?_⟩
   refine ⟨qo,?_⟩
   refine H.drop 4<|fun H=>H.drop 3<|fun H=>?_
   exact H
  ·obtain ⟨s,hs⟩:∃s,m.types[k]?=some s:=⟨_,laa qo⟩
   have NV:=lha hs
   have X5:=(ZZ.all ZP s NV).Zc
   have X4:=(ZZ.all ZP s NV).out
   have Nn:=hS.Zc s NV
   have FT:=hS.out s NV
   refine Fc.of Tryz.func191 rfl k_i<|ZH H<|fun p1 w1 H=>ZS H rfl<|fun p2 w2 H=>Z9 rfl<|Z4 (H.at 1 rfl) 0 rfl rfl rfl<|cF (Z5 qo)<|ZM H [] [(0,.pure),(1,.pure),(2,.pure),(3,.pure),(4,.held),(5,.pure),(6,.pure),(7,.pure),(8,.held),(9,.pure),(10,.pure),(11,.pure),(12,.pure),(13,.held),(14,.pure),(15,.pure),(16,.pure)] mixed k_i k_i<|fun w1 H=>tk (fun wx HS=>Z9 rfl ⟨rfl,rfl⟩)<|tk (fun wx HS=>Z9 rfl ⟨rfl,rfl⟩)<|tk (fun wx HS=>Z4 (HS.at 2 rfl) 3 rfl rfl rfl ⟨rfl,rfl⟩)<|XB (Z5 qo)<|tk (fun wx HS=>Z9 rfl ⟨rfl,rfl⟩)<|tk (fun wx HS=>Z4 (HS.at 1 rfl) 1 rfl rfl rfl ⟨rfl,rfl⟩)<|tk (fun wx HS=>Z9 rfl ⟨rfl,rfl⟩)<|tk (fun wx HS=>Z9 rfl ⟨rfl,rfl⟩)<|tk (fun wx HS=>Z4 (HS.at 2 rfl) 0 rfl rfl rfl ⟨rfl,rfl⟩)<|tk (fun wx HS=>Zw ZP rfl ⟨rfl,rfl⟩)<|cF (YM qo)<|ZM H [] [(0,.pure),(1,.pure),(2,.pure),(3,.pure),(4,.held),(5,.pure),(6,.held),(7,.pure),(8,.held),(9,.free)] mixed k_i k_i<|fun w2 H=>tk (fun wx HS=>Z9 rfl ⟨rfl,rfl⟩)<|tk (fun wx HS=>Z9 rfl ⟨rfl,rfl⟩)<|tk (fun wx HS=>Z4 (HS.at 2 rfl) 0 rfl rfl rfl ⟨rfl,rfl⟩)<|tk (fun wx HS=>Z9 rfl ⟨rfl,rfl⟩)<|tk (fun wx HS=>Z4 (HS.at 1 rfl) 1 rfl rfl rfl ⟨rfl,rfl⟩) ?_
   obtain ⟨b1,o1,E1,F1,ZE⟩:=ZZ.Y1 ZP hs
   have R8:=ZE.Zc
   have R7:=ZE.out
   refine tk (fun wx HS=>ZJ E1 rfl rfl rfl ⟨rfl,rfl⟩)<|tk (fun wx HS=>ZA (HS.XQ F1) 0 rfl rfl rfl ⟨rfl,rfl⟩)<|ZD H 0 rfl rfl rfl (by simp only [List.all_cons,List.all_nil,H.one 3 rfl,H.one 4 rfl,ZZ.one R7,ZZ.one R8,ZZ.one X4,ZZ.one X5,ZZ.one ZP,ZZ.one ht];rfl)<|fun w1 H=>H.Z8 [4,4,4]<|fun H=>?_
   refine Z7.mk (Fc.imp (Valid.pop H _ qa qo qo ?_) ?_)
   ·exact k_k
   clear H
   rintro _ w2 ⟨k1,⟨Zx,⟨Y7,⟨X9,⟨rfl,⟨h1,⟨h2,⟨h3,H⟩⟩⟩⟩⟩⟩⟩⟩
   refine Z9 rfl<|Z4 (H.at 3 rfl) 0 rfl rfl rfl ?_
   refine Z7.mk (Fc.imp (Valid.Wp H _ _ R8 qo qa qo qo ?_) ?_)
   ·exact k_k
   clear H
   rintro v' w3 ⟨V0,⟨Vh,⟨Ko,⟨h4,⟨h5,⟨h6,H⟩⟩⟩⟩⟩⟩
   refine Z9 rfl<|Z4 (H.at 3 rfl) 1 rfl rfl rfl ?_
   refine Z7.mk (Fc.imp (Valid.TO H _ _ R7 qo qo) ?_)
   clear H
   rintro UR w4 ⟨GS,⟨GR,⟨h7,⟨h8,⟨h9,H⟩⟩⟩⟩⟩
   refine Z6.mk ?_
   refine ⟨GS,GR,Ko,?_⟩
   refine ⟨?_,?_⟩
   ·exact ca4 qo (aaG hs) qa qa qa
   refine ⟨?_,?_⟩
   ·exact k_k
   refine ⟨qo,?_⟩
   refine H.drop 4<|fun H=>H.drop 3<|fun H=>?_
   exact H
end
end Valid
namespace Valid
open Go YZ Go.RowKit
open YS Zk XV YQ
section
variable {E:Yj} {L:List Int} {c c':Ck} {o a bb k:Int} {tt:List Int}
theorem on1:Is (Y2 E L c ⟨1,a,bb,tt⟩) c:=(if_pos rfl:Y2 E L c ⟨1,a,bb,tt⟩=c).symm
theorem Ht (h1:o≠1) (h:o≤15) (hc:Is (ZC c ⟨o,a,bb,tt⟩) c'):Is (Y2 E L c ⟨o,a,bb,tt⟩) c':=by
 unfold Y2;rw [if_neg h1,if_pos h];exact hc
theorem onA (h1:15<o) (h:o≤17) (hc:Is (Wx E c ⟨o,a,bb,tt⟩) c'):Is (Y2 E L c ⟨o,a,bb,tt⟩) c':=by
 unfold Y2;rw [if_neg k_u,if_neg k_u,if_pos h];exact hc
theorem onD (hc:Is (Zj c 0) (c',k)):Is (Y2 E L c ⟨26,a,bb,tt⟩) c':=by
 unfold Y2 Is at *;rw [if_neg qs,if_neg qs,if_neg qs,if_pos rfl,←hc]
theorem onS (hc:Is (Xl c) c'):Is (Y2 E L c ⟨27,a,bb,tt⟩) c':=by
 unfold Y2;rw [if_neg qs,if_neg qs,if_neg qs,if_neg qs,if_pos rfl];exact hc
theorem onV (h1:31<o) (h:o≤36) (hc:Is (YH E L c ⟨o,a,bb,tt⟩) c'):Is (Y2 E L c ⟨o,a,bb,tt⟩) c':=by
 unfold Y2;rw [if_neg k_u,if_neg k_u,if_neg k_u,if_neg k_u,if_neg k_u,if_pos h];exact hc
theorem onP (h:36<o) (hc:Is (W3 E c ⟨o,a,bb,tt⟩) c'):Is (Y2 E L c ⟨o,a,bb,tt⟩) c':=by
 unfold Y2;rw [if_neg k_u,if_neg k_u,if_neg k_u,if_neg k_u,if_neg k_u,if_neg k_u];exact hc
theorem aex {o:Int} (h:YR o≠0) (h0:0≤o):o=0∨o=1∨o=2∨o=3∨o=4∨o=5∨o=11∨o=12∨o=13∨o=14∨o=15∨o=16∨o=17∨o=26∨o=27∨(32≤o∧o≤36)∨36<o:=by
 by_cases M4:36<o
 ·omega
 ·obtain ⟨k,rfl⟩:∃k:Nat,o=k:=⟨o.toNat,by omega⟩
  have hk:k<37:=by omega
  have all:∀k:Nat,k<37→YR (k:Int)=0∨k=0∨k=1∨k=2∨k=3∨k=4∨k=5∨k=11∨k=12∨k=13∨k=14∨k=15∨k=16∨k=17∨k=26∨k=27∨(32≤k∧k≤36):=by decide +kernel
  rcases all k hk with h1|h1
  ·exact absurd h1 h
  ·omega
theorem adk {o:Int} (h:0<wid o):40≤o∧o≤62:=by
 unfold wid at h
 by_cases h1:40≤o∧o≤62
 ·exact h1
 ·rw [if_neg qo,if_neg qo,if_neg qo,if_neg qo] at h
  exact absurd h (by decide)
theorem ago {o:Int} (h:0<wid o):YR o=6:=by
 have:=adk h
 unfold YR
 rw [if_neg qo,if_neg qo,if_neg qo,if_neg qo,if_pos h]
theorem NU {o a b:Int} (ho:o=2∨o=3∨o=4) (h:Ze (YR o) a b):a=64∨a=127∨a=126:=by
 have:YR o=2:=if_pos ho
 exact (OK this).1 h
theorem Tf {o a b:Int} (ho:o=12∨o=13∨o=14∨o=16∨o=17∨(32≤o∧o≤36)) (h:Ze (YR o) a b):0≤a∧a≤4294967295:=by
 have hk:YR o=3∨YR o=4∨YR o=5:=by
  unfold YR
  rw [if_neg qo]
  by_cases h1:o=12∨o=13∨o=16∨(32≤o∧o≤36)
  ·rw [if_pos h1];simp
  ·rw [if_neg h1]
   by_cases h2:o=14
   ·rw [if_pos h2];simp
   ·rw [if_neg h2,if_pos qo];simp
 exact (RD hk).1 h
theorem aey {o a b:Int} (ho:0<wid o) (h:Ze (YR o) a b):0≤a:=((Mb (ago ho)).1 h).1.1
end
section
variable {g:Zv} {w:World} {l:List As} {pc:Nat} {m:Y9} {vl vs vo:Value} {st:List Int} {op:List ZK} {b:Int}
theorem one (L:List Int) (H:Sat g w (Pt pc [m.vt,m.vm,m.vf,.int .i64 m.table,.int .i64 m.pages,.int .i64 m.most,m.vg,m.vx,.int .i64 m.start,m.ve,m.vd,vl,vs,vo,.int .i64 b] 241::Sl 97 1 YL vs st::Sl 246 5 Yq vo op::Sl 97 1 YL vl L::l)) (hm:XF g m) (hI:Qd m) (hS:KL m) (o a bb:Int) (tv:Value) (tt:List Int) (ho:U8 o) (HF:WU a) (ht:ZZ g ZG Us 1 tv tt) (hc:WK ⟨o,a,bb,tt⟩=0) (hn:0<op.length) (hop:op.length≤99) (hst:st.length≤90000) (hok:Yn st op):Fc Tryz.prog 133 #[.pointer (some ⟨pc,0,none⟩),.agg #[.int .u8 o,.int .i64 a,.int .i64 bb,tv]] w (fun r w'=>∃vs' Tt st' op' b',Is (Y2 (ZF m.d) L ⟨st,op,b⟩ ⟨o,a,bb,tt⟩) ⟨st',op',b'⟩∧Yn st' op'∧st'.length≤st.length+1∧Sat g w' (Pt pc [m.vt,m.vm,m.vf,.int .i64 m.table,.int .i64 m.pages,.int .i64 m.most,m.vg,m.vx,.int .i64 m.start,m.ve,m.vd,vl,vs',Tt,.int .i64 b'] 241::Sl 97 1 YL vs' st'::Sl 246 5 Yq Tt op'::Sl 97 1 YL vl L::l)):=by
 obtain ⟨q0,q16,q4,q6,hg,ahq⟩:=ad4 hc
 simp only at q0 hg ahq
 have hall:∀n∈tt,0≤n∧n≤9223372036854775807:=fun n h=>by have:=ahq n h;unfold XL at this;omega
 rcases aex q0 qo with rfl|rfl|rfl|rfl|rfl|rfl|rfl|rfl|rfl|rfl|rfl|rfl|rfl|rfl|rfl|hv|hp
 ·refine Fc.of Tryz.func133 rfl k_i<|ZH H<|fun p1 w1 H=>bk<|Z9 rfl<|Z4 (H.at 0 rfl) 0 rfl rfl rfl<|cF (Z5 qo)<|Z9 rfl<|Z4 (H.at 0 rfl) 0 rfl rfl rfl<|cT (Ys qo)<|ZA (H.at 0 rfl) 0 rfl rfl rfl<|H.Z8 [3,3,3]<|fun H=>?_
  refine Z7.mk (Fc.imp (Valid.amF H _ _ _ _ ht qa qa qa ?_) ?_)
  ·exact k_k
  clear H
  rintro v' w2 ⟨Zx,⟨Xn,⟨Y7,⟨XU,⟨X9,⟨h1,⟨h2,⟨h3,H⟩⟩⟩⟩⟩⟩⟩⟩
  refine Z6.mk ?_
  refine ⟨Zx,Xn,Y7,XU,X9,?_⟩
  refine ⟨?_,?_⟩
  ·exact k_E
  refine ⟨?_,?_⟩
  ·exact k_k
  refine ⟨qa,?_⟩
  refine H.Z8 [4,3,3,3]<|fun H=>H.drop 4<|fun H=>?_
  exact H
 ·refine Fc.of Tryz.func133 rfl k_i<|ZH H<|fun p1 w1 H=>bk<|Z9 rfl<|Z4 (H.at 0 rfl) 0 rfl rfl rfl<|cT (ZN qo)<|Z6.mk ?_
  refine ⟨vs,vo,st,op,b,?_⟩
  refine ⟨?_,?_⟩
  ·exact on1
  refine ⟨?_,?_⟩
  ·exact k_k
  refine ⟨qo,?_⟩
  refine H.Z8 [4,4,4,4]<|fun H=>H.drop 4<|fun H=>?_
  exact H
 ·have Nd:=NU qo hg
  refine Fc.of Tryz.func133 rfl k_i<|ZH H<|fun p1 w1 H=>bk<|Z9 rfl<|Z4 (H.at 0 rfl) 0 rfl rfl rfl<|cF (Z5 qo)<|Z9 rfl<|Z4 (H.at 0 rfl) 0 rfl rfl rfl<|cT (Ys qo)<|ZA (H.at 0 rfl) 0 rfl rfl rfl<|H.Z8 [3,3,3]<|fun H=>?_
  refine Z7.mk (Fc.imp (Valid.amG H _ _ _ _ ht qa qa qa qa ?_) ?_)
  ·exact k_k
  clear H
  rintro v' w2 ⟨Zx,⟨Xn,⟨Y7,⟨XU,⟨X9,⟨h1,⟨h2,⟨h3,H⟩⟩⟩⟩⟩⟩⟩⟩
  refine Z6.mk ?_
  refine ⟨Zx,Xn,Y7,XU,X9,?_⟩
  refine ⟨?_,?_⟩
  ·exact k_E
  refine ⟨?_,?_⟩
  ·exact k_k
  refine ⟨qa,?_⟩
  refine H.Z8 [4,3,3,3]<|fun H=>H.drop 4<|fun H=>?_
  exact H
 ·have Nd:=NU qo hg
  refine Fc.of Tryz.func133 rfl k_i<|ZH H<|fun p1 w1 H=>bk<|Z9 rfl<|Z4 (H.at 0 rfl) 0 rfl rfl rfl<|cF (Z5 qo)<|Z9 rfl<|Z4 (H.at 0 rfl) 0 rfl rfl rfl<|cT (Ys qo)<|ZA (H.at 0 rfl) 0 rfl rfl rfl<|H.Z8 [3,3,3]<|fun H=>?_
  refine Z7.mk (Fc.imp (Valid.amH H _ _ _ _ ht qa qa qa qa ?_) ?_)
  ·exact k_k
  clear H
  rintro v' w2 ⟨Zx,⟨Xn,⟨Y7,⟨XU,⟨X9,⟨h1,⟨h2,⟨h3,H⟩⟩⟩⟩⟩⟩⟩⟩
  refine Z6.mk ?_
  refine ⟨Zx,Xn,Y7,XU,X9,?_⟩
  refine ⟨?_,?_⟩
  ·exact k_E
  refine ⟨?_,?_⟩
  ·exact k_k
  refine ⟨qa,?_⟩
  refine H.Z8 [4,3,3,3]<|fun H=>H.drop 4<|fun H=>?_
  exact H
 ·have Nd:=NU qo hg
  refine Fc.of Tryz.func133 rfl k_i<|ZH H<|fun p1 w1 H=>bk<|Z9 rfl<|Z4 (H.at 0 rfl) 0 rfl rfl rfl<|cF (Z5 qo)<|Z9 rfl<|Z4 (H.at 0 rfl) 0 rfl rfl rfl<|cT (Ys qo)<|ZA (H.at 0 rfl) 0 rfl rfl rfl<|H.Z8 [3,3,3]<|fun H=>?_
  refine Z7.mk (Fc.imp (Valid.amI H _ _ _ _ ht qa qa qa qa ?_) ?_)
  ·exact k_k
  clear H
  rintro v' w2 ⟨Zx,⟨Xn,⟨Y7,⟨XU,⟨X9,⟨h1,⟨h2,⟨h3,H⟩⟩⟩⟩⟩⟩⟩⟩
  refine Z6.mk ?_
  refine ⟨Zx,Xn,Y7,XU,X9,?_⟩
  refine ⟨?_,?_⟩
  ·exact k_E
  refine ⟨?_,?_⟩
  ·exact k_k
  refine ⟨qa,?_⟩
  refine H.Z8 [4,3,3,3]<|fun H=>H.drop 4<|fun H=>?_
  exact H
 ·refine Fc.of Tryz.func133 rfl k_i<|ZH H<|fun p1 w1 H=>bk<|Z9 rfl<|Z4 (H.at 0 rfl) 0 rfl rfl rfl<|cF (Z5 qo)<|Z9 rfl<|Z4 (H.at 0 rfl) 0 rfl rfl rfl<|cT (Ys qo)<|ZA (H.at 0 rfl) 0 rfl rfl rfl<|H.Z8 [3,3,3]<|fun H=>?_
  refine Z7.mk (Fc.imp (Valid.amJ H _ _ _ _ ht qa qa qa ?_) ?_)
  ·exact k_k
  clear H
  rintro v' w2 ⟨Zx,⟨Xn,⟨Y7,⟨XU,⟨X9,⟨h1,⟨h2,⟨h3,H⟩⟩⟩⟩⟩⟩⟩⟩
  refine Z6.mk ?_
  refine ⟨Zx,Xn,Y7,XU,X9,?_⟩
  refine ⟨?_,?_⟩
  ·exact k_E
  refine ⟨?_,?_⟩
  ·exact k_k
  refine ⟨qa,?_⟩
  refine H.Z8 [4,3,3,3]<|fun H=>H.drop 4<|fun H=>?_
  exact H
 ·refine Fc.of Tryz.func133 rfl k_i<|ZH H<|fun p1 w1 H=>bk<|Z9 rfl<|Z4 (H.at 0 rfl) 0 rfl rfl rfl<|cF (Z5 qo)<|Z9 rfl<|Z4 (H.at 0 rfl) 0 rfl rfl rfl<|cT (Ys qo)<|ZA (H.at 0 rfl) 0 rfl rfl rfl<|H.Z8 [3,3,3]<|fun H=>?_
  refine Z7.mk (Fc.imp (Valid.akn H _ _ _ _ ht qa qa qa ?_) ?_)
  ·exact k_k
  clear H
  rintro v' w2 ⟨Zx,⟨Xn,⟨Y7,⟨XU,⟨X9,⟨h1,⟨h2,⟨h3,H⟩⟩⟩⟩⟩⟩⟩⟩
  refine Z6.mk ?_
  refine ⟨Zx,Xn,Y7,XU,X9,?_⟩
  refine ⟨?_,?_⟩
  ·exact k_E
  refine ⟨?_,?_⟩
  ·exact k_k
  refine ⟨qa,?_⟩
  refine H.Z8 [4,3,3,3]<|fun H=>H.drop 4<|fun H=>?_
  exact H
 ·have Gb:=Tf qo hg
  refine Fc.of Tryz.func133 rfl k_i<|ZH H<|fun p1 w1 H=>bk<|Z9 rfl<|Z4 (H.at 0 rfl) 0 rfl rfl rfl<|cF (Z5 qo)<|Z9 rfl<|Z4 (H.at 0 rfl) 0 rfl rfl rfl<|cT (Ys qo)<|ZA (H.at 0 rfl) 0 rfl rfl rfl<|H.Z8 [3,3,3]<|fun H=>?_
  refine Z7.mk (Fc.imp (Valid.ake H _ _ _ _ ht qo qa qa qa ?_) ?_)
  ·exact k_k
  clear H
  rintro v' w2 ⟨Zx,⟨Xn,⟨Y7,⟨XU,⟨X9,⟨h1,⟨h2,⟨h3,H⟩⟩⟩⟩⟩⟩⟩⟩
  refine Z6.mk ?_
  refine ⟨Zx,Xn,Y7,XU,X9,?_⟩
  refine ⟨?_,?_⟩
  ·exact k_E
  refine ⟨?_,?_⟩
  ·exact k_k
  refine ⟨qa,?_⟩
  refine H.Z8 [4,3,3,3]<|fun H=>H.drop 4<|fun H=>?_
  exact H
 ·have Gb:=Tf qo hg
  refine Fc.of Tryz.func133 rfl k_i<|ZH H<|fun p1 w1 H=>bk<|Z9 rfl<|Z4 (H.at 0 rfl) 0 rfl rfl rfl<|cF (Z5 qo)<|Z9 rfl<|Z4 (H.at 0 rfl) 0 rfl rfl rfl<|cT (Ys qo)<|ZA (H.at 0 rfl) 0 rfl rfl rfl<|H.Z8 [3,3,3]<|fun H=>?_
  refine Z7.mk (Fc.imp (Valid.akf H _ _ _ _ ht qo qa qa qa ?_) ?_)
  ·exact k_k
  clear H
  rintro v' w2 ⟨Zx,⟨Xn,⟨Y7,⟨XU,⟨X9,⟨h1,⟨h2,⟨h3,H⟩⟩⟩⟩⟩⟩⟩⟩
  refine Z6.mk ?_
  refine ⟨Zx,Xn,Y7,XU,X9,?_⟩
  refine ⟨?_,?_⟩
  ·exact k_E
  refine ⟨?_,?_⟩
  ·exact k_k
  refine ⟨qa,?_⟩
  refine H.Z8 [4,3,3,3]<|fun H=>H.drop 4<|fun H=>?_
  exact H
 ·have Gb:=Tf qo hg
  refine Fc.of Tryz.func133 rfl k_i<|ZH H<|fun p1 w1 H=>bk<|Z9 rfl<|Z4 (H.at 0 rfl) 0 rfl rfl rfl<|cF (Z5 qo)<|Z9 rfl<|Z4 (H.at 0 rfl) 0 rfl rfl rfl<|cT (Ys qo)<|ZA (H.at 0 rfl) 0 rfl rfl rfl<|H.Z8 [3,3,3]<|fun H=>?_
  refine Z7.mk (Fc.imp (Valid.akh H _ _ _ _ ht qo qa qa qa qa ?_) ?_)
  ·exact k_k
  clear H
  rintro v' w2 ⟨Zx,⟨Xn,⟨Y7,⟨XU,⟨X9,⟨h1,⟨h2,⟨h3,H⟩⟩⟩⟩⟩⟩⟩⟩
  refine Z6.mk ?_
  refine ⟨Zx,Xn,Y7,XU,X9,?_⟩
  refine ⟨?_,?_⟩
  ·exact k_E
  refine ⟨?_,?_⟩
  ·exact k_k
  refine ⟨qa,?_⟩
  refine H.Z8 [4,3,3,3]<|fun H=>H.drop 4<|fun H=>?_
  exact H
 ·refine Fc.of Tryz.func133 rfl k_i<|ZH H<|fun p1 w1 H=>bk<|Z9 rfl<|Z4 (H.at 0 rfl) 0 rfl rfl rfl<|cF (Z5 qo)<|Z9 rfl<|Z4 (H.at 0 rfl) 0 rfl rfl rfl<|cT (Ys qo)<|ZA (H.at 0 rfl) 0 rfl rfl rfl<|H.Z8 [3,3,3]<|fun H=>?_
  refine Z7.mk (Fc.imp (Valid.akg H _ _ _ _ ht qa qa qa ?_) ?_)
  ·exact k_k
  clear H
  rintro v' w2 ⟨Zx,⟨Xn,⟨Y7,⟨XU,⟨X9,⟨h1,⟨h2,⟨h3,H⟩⟩⟩⟩⟩⟩⟩⟩
  refine Z6.mk ?_
  refine ⟨Zx,Xn,Y7,XU,X9,?_⟩
  refine ⟨?_,?_⟩
  ·exact k_E
  refine ⟨?_,?_⟩
  ·exact k_k
  refine ⟨qa,?_⟩
  refine H.Z8 [4,3,3,3]<|fun H=>H.drop 4<|fun H=>?_
  exact H
 ·have Gb:=Tf qo hg
  refine Fc.of Tryz.func133 rfl k_i<|ZH H<|fun p1 w1 H=>bk<|Z9 rfl<|Z4 (H.at 0 rfl) 0 rfl rfl rfl<|cF (Z5 qo)<|Z9 rfl<|Z4 (H.at 0 rfl) 0 rfl rfl rfl<|cF (YM qo)<|Z9 rfl<|Z4 (H.at 0 rfl) 0 rfl rfl rfl<|cT (Ys qo)<|ZA (H.at 0 rfl) 0 rfl rfl rfl<|H.Z8 [3,3,3]<|fun H=>?_
  refine Z7.mk (Fc.imp (Valid.call H qa qa qa _ _ _ _ _ ht qo qa qa qa qa ?_) ?_)
  ·exact k_k
  clear H
  rintro v' w2 ⟨Zx,⟨Y7,⟨X9,⟨h1,⟨h2,⟨h3,H⟩⟩⟩⟩⟩⟩
  refine Z6.mk ?_
  refine ⟨Zx,vo,Y7,op,X9,?_⟩
  refine ⟨?_,?_⟩
  ·exact onA (by decide) (by decide) qa
  refine ⟨?_,?_⟩
  ·exact k_k
  refine ⟨qa,?_⟩
  refine H.Z8 [4,3,3,3]<|fun H=>H.drop 4<|fun H=>?_
  exact H
 ·have Gb:=Tf qo hg
  refine Fc.of Tryz.func133 rfl k_i<|ZH H<|fun p1 w1 H=>bk<|Z9 rfl<|Z4 (H.at 0 rfl) 0 rfl rfl rfl<|cF (Z5 qo)<|Z9 rfl<|Z4 (H.at 0 rfl) 0 rfl rfl rfl<|cF (YM qo)<|Z9 rfl<|Z4 (H.at 0 rfl) 0 rfl rfl rfl<|cT (Ys qo)<|ZA (H.at 0 rfl) 0 rfl rfl rfl<|H.Z8 [3,3,3]<|fun H=>?_
  refine Z7.mk (Fc.imp (Valid.call H qa qa qa _ _ _ _ _ ht qo qa qa qa qa ?_) ?_)
  ·exact k_k
  clear H
  rintro v' w2 ⟨Zx,⟨Y7,⟨X9,⟨h1,⟨h2,⟨h3,H⟩⟩⟩⟩⟩⟩
  refine Z6.mk ?_
  refine ⟨Zx,vo,Y7,op,X9,?_⟩
  refine ⟨?_,?_⟩
  ·exact onA (by decide) (by decide) qa
  refine ⟨?_,?_⟩
  ·exact k_k
  refine ⟨qa,?_⟩
  refine H.Z8 [4,3,3,3]<|fun H=>H.drop 4<|fun H=>?_
  exact H
 ·refine Fc.of Tryz.func133 rfl k_i<|ZH H<|fun p1 w1 H=>bk<|Z9 rfl<|Z4 (H.at 0 rfl) 0 rfl rfl rfl<|cF (Z5 qo)<|Z9 rfl<|Z4 (H.at 0 rfl) 0 rfl rfl rfl<|cF (YM qo)<|Z9 rfl<|Z4 (H.at 0 rfl) 0 rfl rfl rfl<|cF (YM qo)<|Z9 rfl<|Z4 (H.at 0 rfl) 0 rfl rfl rfl<|cT (ZN qo)<|H.Z8 [3,3,3]<|fun H=>?_
  refine Z7.mk (Fc.imp (Valid.pop H _ qa qo qo ?_) ?_)
  ·exact k_k
  clear H
  rintro _ w2 ⟨k1,⟨Zx,⟨Y7,⟨X9,⟨rfl,⟨h1,⟨h2,⟨h3,H⟩⟩⟩⟩⟩⟩⟩⟩
  refine Z6.mk ?_
  refine ⟨Zx,vo,Y7,op,X9,?_⟩
  refine ⟨?_,?_⟩
  ·exact onD qa
  refine ⟨?_,?_⟩
  ·exact k_k
  refine ⟨qo,?_⟩
  refine H.Z8 [4,3,3,3]<|fun H=>H.drop 4<|fun H=>?_
  exact H
 ·refine Fc.of Tryz.func133 rfl k_i<|ZH H<|fun p1 w1 H=>bk<|Z9 rfl<|Z4 (H.at 0 rfl) 0 rfl rfl rfl<|cF (Z5 qo)<|Z9 rfl<|Z4 (H.at 0 rfl) 0 rfl rfl rfl<|cF (YM qo)<|Z9 rfl<|Z4 (H.at 0 rfl) 0 rfl rfl rfl<|cF (YM qo)<|Z9 rfl<|Z4 (H.at 0 rfl) 0 rfl rfl rfl<|cF (Z5 qo)<|Z9 rfl<|Z4 (H.at 0 rfl) 0 rfl rfl rfl<|cT (ZN qo)<|H.Z8 [3,3,3]<|fun H=>?_
  refine Z7.mk (Fc.imp (Valid.choose H qa qo qo ?_) ?_)
  ·exact k_k
  clear H
  rintro v' w2 ⟨Zx,⟨Y7,⟨X9,⟨h1,⟨h2,⟨h3,H⟩⟩⟩⟩⟩⟩
  refine Z6.mk ?_
  refine ⟨Zx,vo,Y7,op,X9,?_⟩
  refine ⟨?_,?_⟩
  ·exact onS qa
  refine ⟨?_,?_⟩
  ·exact k_k
  refine ⟨qa,?_⟩
  refine H.Z8 [4,3,3,3]<|fun H=>H.drop 4<|fun H=>?_
  exact H
 ·obtain ⟨LV,ID⟩:=hv
  have Gb:=Tf qo hg
  refine Fc.of Tryz.func133 rfl k_i<|ZH H<|fun p1 w1 H=>bk<|Z9 rfl<|Z4 (H.at 0 rfl) 0 rfl rfl rfl<|cF (Z5 qo)<|Z9 rfl<|Z4 (H.at 0 rfl) 0 rfl rfl rfl<|cF (YM qo)<|Z9 rfl<|Z4 (H.at 0 rfl) 0 rfl rfl rfl<|cF (YM qo)<|Z9 rfl<|Z4 (H.at 0 rfl) 0 rfl rfl rfl<|cF (Z5 qo)<|Z9 rfl<|Z4 (H.at 0 rfl) 0 rfl rfl rfl<|cF (Z5 qo)<|Z9 rfl<|Z4 (H.at 0 rfl) 0 rfl rfl rfl<|cT (Ys qa)<|ZA (H.at 0 rfl) 0 rfl rfl rfl<|H.Z8 [4,4,4,4]<|fun H=>?_
  refine Z7.mk (Fc.imp (Valid.value _ H qa _ _ _ _ _ ht qo qa qa qa qa ?_) ?_)
  ·exact k_k
  clear H
  rintro v' w2 ⟨Zx,⟨Y7,⟨X9,⟨h1,⟨h2,⟨h3,H⟩⟩⟩⟩⟩⟩
  refine Z6.mk ?_
  refine ⟨Zx,vo,Y7,op,X9,?_⟩
  refine ⟨?_,?_⟩
  ·exact onV qo qo qa
  refine ⟨?_,?_⟩
  ·exact k_k
  refine ⟨qa,?_⟩
  refine H.drop 4<|fun H=>?_
  exact H
 ·have T0:0<wid o→0≤a:=fun h=>aey h hg
  refine Fc.of Tryz.func133 rfl k_i<|ZH H<|fun p1 w1 H=>bk<|Z9 rfl<|Z4 (H.at 0 rfl) 0 rfl rfl rfl<|cF (Z5 qo)<|Z9 rfl<|Z4 (H.at 0 rfl) 0 rfl rfl rfl<|cF (YM qo)<|Z9 rfl<|Z4 (H.at 0 rfl) 0 rfl rfl rfl<|cF (YM qo)<|Z9 rfl<|Z4 (H.at 0 rfl) 0 rfl rfl rfl<|cF (Z5 qo)<|Z9 rfl<|Z4 (H.at 0 rfl) 0 rfl rfl rfl<|cF (Z5 qo)<|Z9 rfl<|Z4 (H.at 0 rfl) 0 rfl rfl rfl<|cF (YM qa)<|ZA (H.at 0 rfl) 0 rfl rfl rfl<|H.Z8 [3,3,3]<|fun H=>?_
  refine Z7.mk (Fc.imp (Valid.plain H _ _ _ _ _ ht qa qa qa qa qa ?_) ?_)
  ·exact k_k
  clear H
  rintro v' w2 ⟨Zx,⟨Y7,⟨X9,⟨h1,⟨h2,⟨h3,H⟩⟩⟩⟩⟩⟩
  refine Z6.mk ?_
  refine ⟨Zx,vo,Y7,op,X9,?_⟩
  refine ⟨?_,?_⟩
  ·exact onP hp qa
  refine ⟨?_,?_⟩
  ·exact k_k
  refine ⟨qa,?_⟩
  refine H.Z8 [4,3,3,3]<|fun H=>H.drop 4<|fun H=>?_
  exact H
end
end Valid
namespace Valid
open Go YZ Go.RowKit
open YS Zk XV YQ
section
variable (E:Yj) (L:List Int) (c:Ck)
theorem Xh (e:Int):(YO c e).Zp=c.Zp:=by unfold YO;split <;> rfl
theorem U5 (k:Int):(XN c k).Zp=c.Zp:=by unfold XN;split <;> rfl
theorem YF (k:Int):(Zj c k).1.Zp=c.Zp:=by
 unfold Zj
 split
 ·rfl
 ·split
  ·simp only
   split
   ·rfl
   ·exact Xh c 10
  ·simp only
   split
   ·rfl
   ·split
    ·exact Xh _ 10
    ·rfl
theorem QN (l:List Int):(Xw c l).Zp=c.Zp:=by
 induction l with
 | nil=>rfl
 | cons k r ih=>rw [Xw,YF,ih]
theorem QM (l:List Int):∀c:Ck,(W4 c l).Zp=c.Zp:=by
 induction l with
 | nil=>intro c;rfl
 | cons k r ih=>intro c;rw [W4,ih,U5]
theorem UQ (n:Int):(YV c n).1.Zp=c.Zp:=by
 unfold YV
 split
 ·exact Xh c 8
 ·rfl
theorem Qc:(U6 c).Zp.length=c.Zp.length:=by unfold U6;exact lfa
theorem SK:(Y0 c).Zp=c.Zp:=by
 unfold Y0
 split
 ·rw [Xh,YF]
 ·rw [YF]
theorem NT (a:Int):(UG c a).Zp=c.Zp:=by
 unfold UG
 split
 ·rw [YF,UQ]
 ·rw [UQ]
theorem Ph (k:Int) (l:List Int):∀s:Ck × Bool,(XD k l s).1.Zp=s.1.Zp:=by
 induction l with
 | nil=>intro s;rfl
 | cons n r ih=>intro s;rw [XD,ih];exact UQ _ _
theorem QL (a:Int) (l:List Int):(XW c a l).Zp=c.Zp:=by
 unfold XW
 simp only
 split
 ·rw [Ph];exact UQ _ _
 ·rw [YF,YF]
  split
  ·rw [Ph];exact UQ _ _
  ·rw [Xh,Ph];exact UQ _ _
theorem aaH (a:Int):(Wb c a).Zp=c.Zp:=by
 unfold Wb
 simp only
 split
 ·rw [U5,YF,YF,UQ]
 ·rw [UQ]
theorem aal:(Xl c).Zp=c.Zp:=by
 unfold Xl;simp only;rw [U5,YF,YF,YF]
theorem aaI (x:ZU):(Wx E c x).Zp=c.Zp:=by
 unfold Wx
 split
 ·split
  ·exact Xh _ _
  ·rw [QM,QN]
 ·split
  ·exact Xh _ _
  ·simp only;rw [QM,QN,YF]
theorem aas (x:ZU):(YH E L c x).Zp=c.Zp:=by
 unfold YH
 split
 ·split
  ·exact Xh _ _
  ·simp only
   split
   ·rw [U5];split
    ·rw [YF]
    ·rfl
   ·split
    ·rw [YF]
    ·rfl
 ·split
  ·exact Xh _ _
  ·simp only
   split
   ·rw [U5]
   ·rw [YF];split
    ·rfl
    ·exact Xh _ _
theorem aat (x:ZU):(W3 E c x).Zp=c.Zp:=by
 unfold W3
 split
 ·exact Xh _ _
 ·split
  ·exact Xh _ _
  ·rw [QM,QN]
theorem QK (o k:Int):(Wc c o k).Zp.length=c.Zp.length+1:=by unfold Wc;simp
theorem adl (h:0<c.Zp.length):(Vo c).Zp.length=c.Zp.length:=by
 unfold Vo
 simp only
 split
 ·rw [lba,lla,SK];simp;omega
 ·rw [SK]
theorem agp (c2:Ck) (k:Int) (he:c2.Zp=c.Zp) (h:(if c2.bad=0 then XN { c2 with Zp:=c2.Zp.take (c2.Zp.length-1) } k else c2).bad=0):(if c2.bad=0 then XN { c2 with Zp:=c2.Zp.take (c2.Zp.length-1) } k else c2).Zp.length=c.Zp.length-1:=by
 by_cases hb:c2.bad=0
 ·rw [if_pos hb,U5]
  simp only
  rw [lla,he];omega
 ·rw [if_neg hb] at h;exact absurd h hb
theorem aez (h:(TA c).bad=0):(TA c).Zp.length=c.Zp.length-1:=by
 refine agp c _ _ ?_ h
 split
 ·rw [Xh,SK]
 ·rw [SK]
theorem abr (x:ZU) (h0:0<c.Zp.length) (hb:(Y2 E L c x).bad=0):(Y2 E L c x).Zp.length=if x.op=2∨x.op=3∨x.op=4 then c.Zp.length+1 else if x.op=11 then c.Zp.length-1 else c.Zp.length:=by
 unfold Y2 at *
 by_cases h1:x.op=1
 ·rw [if_pos h1,if_neg qo,if_neg qo]
 ·rw [if_neg h1] at hb ⊢
  by_cases KK:x.op≤15
  ·rw [if_pos KK] at hb ⊢
   unfold ZC at *
   by_cases a0:x.op=0
   ·rw [if_pos a0,if_neg qo,if_neg qo,Qc]
   ·rw [if_neg a0] at hb ⊢
    by_cases a2:x.op=2∨x.op=3
    ·rw [if_pos a2,if_pos qo,QK]
    ·rw [if_neg a2] at hb ⊢
     by_cases a4:x.op=4
     ·rw [if_pos a4,if_pos qo,QK,YF]
     ·rw [if_neg a4] at hb ⊢
      rw [if_neg (by omega:¬(x.op=2∨x.op=3∨x.op=4))]
      by_cases a5:x.op=5
      ·rw [if_pos a5,if_neg (by omega:¬x.op=11),adl c h0]
      ·rw [if_neg a5] at hb ⊢
       by_cases FH:x.op=11
       ·rw [if_pos FH] at hb ⊢
        rw [if_pos FH,aez c hb]
       ·rw [if_neg FH] at hb ⊢
        rw [if_neg FH]
        clear hb
        repeat' split
        ·rw [Qc,NT]
        ·rw [aaH]
        ·rw [Qc,YF]
        ·rw [Qc,QL]
        ·rfl
  ·rw [if_neg KK] at hb ⊢
   rw [if_neg (by omega:¬(x.op=2∨x.op=3∨x.op=4)),if_neg (by omega:¬x.op=11)]
   clear hb
   repeat' split
   ·rw [aaI]
   ·rw [YF]
   ·rw [aal]
   ·rw [aas]
   ·rw [aat]
end
theorem abt {st:NS} (ho:st.over=false) (o k:Int) (he:(Zs st o k).2.2=0) (hp:0<st.op.length):(Zs st o k).1.op.length=if o=2∨o=3∨o=4 then st.op.length+1 else if o=11 then st.op.length-1 else st.op.length:=by
 unfold Zs at *
 rw [if_neg (by rw [ho];decide)] at he ⊢
 by_cases h2:o=2∨o=3∨o=4
 ·rw [if_pos h2] at he
  rw [if_pos h2,if_pos h2]
  by_cases hd:12≤st.op.length-1
  ·rw [if_pos hd] at he;exact absurd he (show ¬(7:Int)=0 by decide)
  ·rw [if_neg hd];simp
 ·rw [if_neg h2] at he
  rw [if_neg h2,if_neg h2]
  by_cases h5:o=5
  ·rw [if_pos h5] at he
   rw [if_pos h5,if_neg (show ¬o=11 by omega)]
   by_cases hd:st.last.getD (st.op.length-1) 0≠4
   ·rw [if_pos hd] at he;exact absurd he (show ¬(4:Int)=0 by decide)
   ·rw [if_neg hd]
  ·rw [if_neg h5]
   by_cases h11:o=11
   ·rw [if_pos h11,if_pos h11];simp
   ·rw [if_neg h11,if_neg h11]
end Valid
namespace Valid
open Go YZ Go.RowKit
open YS Zk XV YQ
section
variable {E:Yj} {L:List Int} {bd:List ZU} {c0:Ck} {k:Nat} {st st':List Int} {op op':List ZK} {b':Int} {x:ZU}
structure RI (E:Yj) (L:List Int) (bd:List ZU) (c0:Ck) (k:Nat) (st:List Int) (op:List ZK):Prop where
 run:V4 E L bd c0=V4 E L (bd.drop k) ⟨st,op,0⟩
 len:op.length=(Zq bd k).op.length
theorem RI.pos (h:RI E L bd c0 k st op) (hc:Yp bd=0) (hk:k<bd.length):0<op.length∧op.length≤13∧(Zq bd k).over=false:=by
 obtain ⟨_,hS,_⟩:=Zb hc
 have hx:bd[k]?=some bd[k]:=laa hk
 have hn:=(hS k _ hk hx).2
 have ho:(Zq bd k).over=false:=by
  cases h2:(Zq bd k).over with
  | false=>rfl
  | true=>rw [Qn h2] at hn;exact absurd hn (by decide)
 have hok:=X6 bd k
 exact ⟨h.len ▸ hok.pos ho,h.len ▸ hok.le,ho⟩
theorem RI.step (h:RI E L bd c0 k st op) (hc:Yp bd=0) (hx:bd[k]?=some x) (hi:Is (Y2 E L ⟨st,op,0⟩ x) ⟨st',op',b'⟩) (hb:b'=0):RI E L bd c0 (k+1) st' op':=by
 have hh:=lca.1 hx
 obtain ⟨hp,_,ho⟩:=h.pos hc hh.1
 obtain ⟨_,hS,_⟩:=Zb hc
 have hn:=(hS k x hh.1 hx).2
 subst hb
 unfold Is at hi
 refine ⟨?_,?_⟩
 ·rw [h.run,lwa hh.1,hh.2,V4,←hi];simp
 ·have h1:=abr E L ⟨st,op,0⟩ x hp (by rw [←hi])
  rw [←hi] at h1
  rw [Yo hx,abt ho x.op k hn (h.len ▸ hp),←h.len]
  exact h1
theorem RI.bad (h:RI E L bd c0 k st op) (hx:bd[k]?=some x) (hi:Is (Y2 E L ⟨st,op,0⟩ x) ⟨st',op',b'⟩) (hb:b'≠0):b'=(V4 E L bd c0).bad:=by
 have hh:=lca.1 hx
 unfold Is at hi
 rw [h.run,lwa hh.1,hh.2,V4,←hi]
 rw [if_pos hb]
theorem RI.fin (h:RI E L bd c0 k st op) (hk:bd.length≤k):0=(V4 E L bd c0).bad:=by
 rw [h.run,lDa hk];rfl
theorem RI.zero {t:Xm} (hi:Is (Wc ⟨[],[],0⟩ 2 (t.out.getD 0 64)) ⟨[],op,0⟩):RI E L bd (Z0 t) 0 [] op:=by
 unfold Is at hi
 refine ⟨by rw [hi];rfl,?_⟩
 have:=congrArg (fun c:Ck=>c.Zp.length) hi
 simp only [QK] at this
 rw [this];rfl
end
section
variable {g:Zv} {w:World} {l:List As} {pc:Nat} {m:Y9} {vl vs vo:Value} {st:List Int} {op:List ZK} {b:Int}
theorem FG (d:Bool) (a:Option Addr) (n c:Nat) (w:World):Fc Tryz.prog 98 #[.agg #[.bool d,.slice a n c]] w (fun _ w'=>Sat (WA w) w' []):=by
 refine Fc.of Tryz.func98 rfl k_i ?_
 have H:=Sat.start w
 refine ZH H<|fun p1 w1 H=>Z6.mk<|H.firsts 0<|fun H=>?_
 exact H
theorem OH {f:YA} {s:Xy} (hs:m.types[f.ty.toNat]?=some s):Tg (ZF m.d) f.d=(V4 (ZF m.d) (s.Zc++f.loc) (f.body.map Za.d) (Z0 s.d)).bad:=by
 have e:(ZF m.d).types.getD f.d.ty.toNat ⟨[],[]⟩=s.d:=by rw [lea,show f.d.ty=f.ty from rfl,aaG hs];rfl
 unfold Tg
 rw [e];rfl
theorem C7 {s:Xy} {x:Int} (h:s.out[0]?=some x):x=s.d.out.getD 0 64:=by
 show x=s.out.getD 0 64
 rw [lea,h];rfl
theorem C6 {s:Xy} (h:s.out.length=0):64=s.d.out.getD 0 64:=by
 show 64=s.out.getD 0 64
 rw [lqa h];rfl
theorem FF:Yn [] []:=⟨List.Pairwise.nil,nofun⟩
theorem aiv (H:Sat g w l) (hm:XF g m) (hI:Qd m) (hS:KL m) (k:Nat) (f:YA) (hf:m.funcs[k]?=some f) (hc:Yp (f.body.map Za.d)=0) (hl:f.loc.length≤16):Fc Tryz.prog 97 #[.agg #[m.vt,m.vm,m.vf,.int .i64 m.table,.int .i64 m.pages,.int .i64 m.most,m.vg,m.vx,.int .i64 m.start,m.ve,m.vd],.int .i64 k,.func (.func 98) #[] #[]] w (fun r w'=>∃i e,r=.tuple #[.int .i64 i,.int .i64 e]∧e=Tg (ZF m.d) f.d∧Sat g w' l):=by
 have ZP:=hm.types
 have ZW:=hm.funcs
 have hlf:=hI.lf
 have LU:=lha hf
 have Jb:=(lca.1 hf).1
 have hty:=hI.fu f LU
 have hfo:=ZZ.all ZW f LU
 have Uc:=hfo.loc
 have WZ:=hfo.body
 obtain ⟨s,hs⟩:∃s,m.types[f.ty.toNat]?=some s:=⟨_,laa qo⟩
 have NV:=lha hs
 have X5:=(ZZ.all ZP s NV).Zc
 have X4:=(ZZ.all ZP s NV).out
 have Nn:=hS.Zc s NV
 have FT:=hS.out s NV
 rw [OH hs]
 have MU:=(Zb hc).1
 rw [lia0] at MU
 refine Fc.of Tryz.func97 rfl k_i<|ZH H<|fun p1 w1 H=>Z9 rfl<|Z4 (H.at 0 rfl) 2 rfl rfl rfl ?_
 obtain ⟨b1,o1,E1,F1,ZE⟩:=ZZ.Y1 ZW hf
 have XR:=ZE.ty
 have Zy:=ZE.loc
 have ZI:=ZE.body
 refine ZJ E1 rfl rfl rfl<|ZA (H.XQ F1) 0 rfl rfl rfl<|ZS H rfl<|fun p2 w2 H=>ZD H 0 rfl rfl rfl (by simp only [List.all_cons,List.all_nil,ZZ.one ZI,ZZ.one Zy,ZZ.one X4,ZZ.one X5,ZZ.one WZ,ZZ.one Uc,ZZ.one ZW,ZZ.one ZP];rfl)<|fun w1 H=>Z9 rfl<|Z4 (H.at 1 rfl) 0 rfl rfl rfl<|Z9 rfl<|Z4 (H.at 0 rfl) 0 rfl rfl rfl ?_
 obtain ⟨b2,o2,E2,F2,X3⟩:=ZZ.Y1 ZP hs
 have YG:=X3.Zc
 have YX:=X3.out
 refine ZJ E2 qo rfl rfl<|ZA (H.XQ F2) 0 rfl rfl rfl<|ZS H rfl<|fun p3 w2 H=>ZD H 0 rfl rfl rfl (by simp only [List.all_cons,List.all_nil,ZZ.one YX,ZZ.one YG,ZZ.one ZI,ZZ.one Zy,ZZ.one X4,ZZ.one X5,ZZ.one WZ,ZZ.one Uc,ZZ.one ZW,ZZ.one ZP];rfl)<|fun w1 H=>ZM H [] [(0,.held),(1,.pure),(2,.held),(4,.pure),(5,.held),(3,.forced),(6,.forced),(7,.pure),(8,.free),(9,.pure)] mixed k_i k_i<|fun w2 H=>tk (fun wx HS=>ZA (HS.at 2 rfl) 0 rfl rfl rfl ⟨rfl,rfl⟩)<|tk (fun wx HS=>Z9 rfl ⟨rfl,rfl⟩)<|tk (fun wx HS=>Z4 (HS.at 0 rfl) 0 rfl rfl rfl ⟨rfl,rfl⟩)<|tk (fun wx HS=>Z9 rfl ⟨rfl,rfl⟩)<|tk (fun wx HS=>Z4 (HS.at 1 rfl) 1 rfl rfl rfl ⟨rfl,rfl⟩) ?_
 replace H:=H.UK (en:=YL) (s:=1) (97) (fun _=>rfl)
 refine Uo 1 H 0 rfl (H.rd YG) (fun y _=>rfl) rfl rfl rfl k_a k_a<|fun v1=>?_
 intro w1 H
 refine Yt.mk (H.drop 0 (fun H=>H))<|Uo 1 H 0 rfl (H.rd Zy) (fun y _=>rfl) rfl rfl rfl k_a k_a<|fun v2=>?_
 intro w2 H
 refine Yt.mk (H.drop 0 (fun H=>H)) ?_
 obtain ⟨aL,cL,ID⟩:=H.form 0 rfl
 subst ID
 refine tk (fun wx HS=>Zf rfl rfl rfl ⟨rfl,rfl⟩)<|ZH H<|fun p4 w1 H=>Z9 rfl<|Z4 (H.at 2 rfl) 1 rfl rfl rfl<|Zw YX rfl ?_
 simp only [List.nil_append] at H ⊢
 generalize hvl:Value.slice aL (s.Zc++f.loc).length cL=vl at H ⊢
 replace H:=H.UK (en:=Yq) (s:=5) 246 (fun _=>rfl)
 replace H:=H.UK (en:=YL) (s:=1) 97 (fun _=>rfl)
 refine PD (α:=Int) (fun x_=>[(11,.int .u8 x_)]) (fun x_ w_=>(x_=s.d.out.getD 0 64)∧Sat g w_ ((Pt p4 [m.vt,m.vm,m.vf,.int .i64 m.table,.int .i64 m.pages,.int .i64 m.most,m.vg,m.vx,.int .i64 m.start,m.ve,m.vd,vl,.slice none 0 0,.slice none 0 0,.int .i64 0] 241::Sl 97 1 YL (.slice none 0 0) []::Sl 246 5 Yq (.slice none 0 0) []::Sl 97 1 YL vl (s.Zc++f.loc)::Pt p2 [.int .i64 f.ty,f.vl,f.vb] 107::l))) (fun hb=>?_) (fun hb=>?_) ?_
 ·replace hb:=Yx hb
  refine Z9 rfl<|Z4 (H.at 4 rfl) 1 rfl rfl rfl ?_
  obtain ⟨x1,hx1⟩:∃x,(s.out)[0]?=some x:=⟨_,laa qo⟩
  obtain ⟨b3,o3,E3,F3,WX⟩:=ZZ.Y1 YX hx1
  refine ZJ E3 rfl rfl rfl<|Z4 (H.XQ F3) 0 rfl rfl rfl<|Jn.mk (x1) (ZL rfl (ZT)) ?_
  refine ⟨?_,?_⟩
  ·exact C7 hx1
  refine H.Z8 [5,4,3,3,4]<|fun H=>H.drop 6<|fun H=>H.drop 5<|fun H=>?_
  exact H
 ·replace hb:=Yw hb
  refine Jn.mk (64) (ZL rfl (ZT)) ?_
  refine ⟨?_,?_⟩
  ·exact C6 qo
  refine H.Z8 [5,4,3,3,4]<|fun H=>H.drop 6<|fun H=>H.drop 5<|fun H=>?_
  exact H
 clear H
 rintro kd f_ w_ ⟨T3,H⟩
 try simp only at T3 H ⊢
 have ER:=FF
 refine Z7.mk (Fc.imp (Valid.Xo H _ _ ?_ ?_ ?_) ?_)
 ·exact k_a
 ·exact k_a
 ·assumption
 clear H
 rintro v' w2 ⟨Xn,⟨XU,⟨h1,⟨h2,⟨h3,H⟩⟩⟩⟩⟩
 refine Z9 rfl<|Z4 (H.at 4 rfl) 2 rfl rfl rfl<|Zw ZI rfl ?_
 refine YP.rule (α:=Nat × Value × Value × List Int × List ZK) (0,.slice none 0 0,Xn,[],XU) (fun x_=>[(49,.int .i64 x_.1)]) (fun x_ w_=>(x_.1≤f.body.length)∧(RI (ZF m.d) (s.Zc++f.loc) (f.body.map Za.d) (Z0 s.d) x_.1 x_.2.2.2.1 x_.2.2.2.2)∧(Yn x_.2.2.2.1 x_.2.2.2.2)∧(x_.2.2.2.1.length≤x_.1)∧Sat g w_ ((Pt p4 [m.vt,m.vm,m.vf,.int .i64 m.table,.int .i64 m.pages,.int .i64 m.most,m.vg,m.vx,.int .i64 m.start,m.ve,m.vd,vl,x_.2.1,x_.2.2.1,.int .i64 0] 241::Sl 97 1 YL x_.2.1 x_.2.2.2.1::Sl 246 5 Yq x_.2.2.1 x_.2.2.2.2::Sl 97 1 YL vl (s.Zc++f.loc)::Pt p2 [.int .i64 f.ty,f.vl,f.vb] 107::l))) (fun x_=>f.body.length-x_.1) ?_ ?_ ?_
 ·exact k_b
 ·try simp only
  refine ⟨qo,?_⟩
  refine ⟨?_,?_⟩
  ·exact RI.zero (T3 ▸ h1)
  refine ⟨qa,?_⟩
  refine ⟨?_,?_⟩
  ·exact k_P
  exact H
 clear H
 rintro ⟨i,us,uo,Gl,GQ⟩ f_ w_ ⟨hi,hR,hok,JV,H⟩
 try simp only at hi hR hok JV H ⊢
 rcases lEa i f.body.length with hlt|hge
 ·obtain ⟨x,hx⟩:∃x,f.body[i]?=some x:=⟨_,laa hlt⟩
  have Tq:=Uy hx
  obtain ⟨DP,akp,_⟩:=hR.pos hc (by rw [lia0];exact hlt)
  have OU:WK ⟨x.op,x.a,x.b,x.to⟩=0:=((Zb hc).2.1 i x.d (by rw [lia0];exact hlt) Tq).1
  obtain ⟨p,hp⟩:∃p,GQ[GQ.length-1]?=some p:=⟨_,laa qo⟩
  refine cT (Y4 qo)<|bk ?_
  obtain ⟨b3,o3,E3,F3,WX⟩:=ZZ.Y1 ZI hx
  have Qb:=WX.op
  have NR:=WX.a
  have NQ:=WX.b
  have Yl:=WX.to
  refine ZJ E3 rfl rfl rfl<|ZA (H.XQ F3) 0 rfl rfl rfl<|ZS H rfl<|fun p5 w3 H=>ZD H 0 rfl rfl rfl (by simp only [List.all_cons,List.all_nil,H.one 2 rfl,H.one 3 rfl,H.one 4 rfl,ZZ.one Yl,ZZ.one YX,ZZ.one YG,ZZ.one ZI,ZZ.one Zy,ZZ.one X4,ZZ.one X5,ZZ.one WZ,ZZ.one Uc,ZZ.one ZW,ZZ.one ZP];rfl)<|fun w4 H=>H.Z8 [3,3,3]<|fun H=>?_
  refine Z7.mk (Fc.imp (Valid.top H _ hp qa qo) ?_)
  clear H
  rintro _ w3 ⟨IX,⟨FJ,⟨rfl,⟨h4,H⟩⟩⟩⟩
  refine Z9 rfl<|Z4 (H.el 2 rfl h4 hp) 3 rfl rfl rfl ?_
  refine br (fun c1=>?_) (fun c1=>?_)
  ·refine cT rfl<|Zf rfl rfl rfl ?_
   refine Z7.mk (Fc.imp (Valid.FG _ _ (0) (0) _) ?_)
   rintro UR w5 H'
   refine H.XZ H' ?_
   clear H H'
   intro H
   refine ZA (H.at 3 rfl) 0 rfl rfl rfl<|H.Z8 [4,3,3,3]<|fun H=>?_
   refine Z7.mk (Fc.imp (Valid.one _ H qa qa qa _ _ _ _ _ qa qa Yl qa qa qo qo qa) ?_)
   clear H
   rintro M6 w6 ⟨Zx,⟨R5,⟨Y7,⟨R4,⟨X9,⟨h5,⟨h6,⟨h7,H⟩⟩⟩⟩⟩⟩⟩⟩
   refine Z9 rfl<|Z4 (H.at 0 rfl) 14 rfl rfl rfl ?_
   refine cI (fun c2=>?_) (fun c2=>?_)
   ·replace c2:=Ye (c2)
    refine ZM H [] [(0,.pure),(1,.pure),(2,.pure),(3,.pure),(4,.held),(5,.pure),(6,.pure)] mixed k_i k_i<|fun w7 H=>tk (fun wx HS=>Z9 rfl ⟨rfl,rfl⟩)<|tk (fun wx HS=>Z4 (HS.at 0 rfl) 14 rfl rfl rfl ⟨rfl,rfl⟩)<|Z6.mk ?_
    refine ⟨(↑i:Int),X9,?_⟩
    refine ⟨rfl,?_⟩
    refine ⟨?_,?_⟩
    ·exact hR.bad Tq qa qo
    refine H.drop 5<|fun H=>H.drop 4<|fun H=>H.drop 3<|fun H=>H.drop 2<|fun H=>H.drop 1<|fun H=>H.drop 0<|fun H=>?_
    exact H
   replace c2:=Yd (c2)
   refine ZX qo ?_
   refine WN.mk ((i+1,Zx,R5,Y7,R4)) (Zo rfl k_c (ZT)) ?_ ?_
   ·refine ⟨qa,?_⟩
    refine ⟨?_,?_⟩
    ·exact hR.step hc Tq qa qo
    refine ⟨qa,?_⟩
    refine ⟨?_,?_⟩
    ·exact k_a
    refine H.Z8 [5,4,4,4,4]<|fun H=>H.drop 5<|fun H=>?_
    refine H.cg (YT (Mf ?_) (YT rfl (YT rfl (YT rfl (YT rfl (rfl))))))
    (simp;omega)
   omega
  refine Z9 rfl<|Z4 (H.el 2 rfl h4 hp) 4 rfl rfl rfl ?_
  refine cI (fun c2=>?_) (fun c2=>?_)
  ·refine Zf rfl rfl rfl ?_
   refine Z7.mk (Fc.imp (Valid.FG _ _ (0) (0) _) ?_)
   rintro UR w5 H'
   refine H.XZ H' ?_
   clear H H'
   intro H
   refine ZA (H.at 3 rfl) 0 rfl rfl rfl<|H.Z8 [4,3,3,3]<|fun H=>?_
   refine Z7.mk (Fc.imp (Valid.one _ H qa qa qa _ _ _ _ _ qa qa Yl qa qa qo qo qa) ?_)
   clear H
   rintro M6 w6 ⟨Zx,⟨R5,⟨Y7,⟨R4,⟨X9,⟨h5,⟨h6,⟨h7,H⟩⟩⟩⟩⟩⟩⟩⟩
   refine Z9 rfl<|Z4 (H.at 0 rfl) 14 rfl rfl rfl ?_
   refine cI (fun c3=>?_) (fun c3=>?_)
   ·replace c3:=Ye (c3)
    refine ZM H [] [(0,.pure),(1,.pure),(2,.pure),(3,.pure),(4,.held),(5,.pure),(6,.pure)] mixed k_i k_i<|fun w7 H=>tk (fun wx HS=>Z9 rfl ⟨rfl,rfl⟩)<|tk (fun wx HS=>Z4 (HS.at 0 rfl) 14 rfl rfl rfl ⟨rfl,rfl⟩)<|Z6.mk ?_
    refine ⟨(↑i:Int),X9,?_⟩
    refine ⟨rfl,?_⟩
    refine ⟨?_,?_⟩
    ·exact hR.bad Tq qa qo
    refine H.drop 5<|fun H=>H.drop 4<|fun H=>H.drop 3<|fun H=>H.drop 2<|fun H=>H.drop 1<|fun H=>H.drop 0<|fun H=>?_
    exact H
   replace c3:=Yd (c3)
   refine ZX qo ?_
   refine WN.mk ((i+1,Zx,R5,Y7,R4)) (Zo rfl k_c (ZT)) ?_ ?_
   ·refine ⟨qa,?_⟩
    refine ⟨?_,?_⟩
    ·exact hR.step hc Tq qa qo
    refine ⟨qa,?_⟩
    refine ⟨?_,?_⟩
    ·exact k_a
    refine H.Z8 [5,4,4,4,4]<|fun H=>H.drop 5<|fun H=>?_
    refine H.cg (YT (Mf ?_) (YT rfl (YT rfl (YT rfl (YT rfl (rfl))))))
    (simp;omega)
   omega
  refine Z9 rfl<|Z4 (H.at 0 rfl) 12 rfl rfl rfl ?_
  replace H:=H.UK (en:=YL) (s:=1) (97) (fun _=>rfl)
  refine Uo 1 H 0 rfl (H.E7 (ok:=fun _=>True) 2 rfl (fun _ _=>trivial)) (fun y _=>rfl) rfl rfl rfl k_a k_a<|fun v2=>?_
  intro w5 H
  obtain ⟨a1,c3,rfl⟩:=H.form 0 rfl
  refine Zf rfl rfl rfl ?_
  refine Z7.mk (Fc.imp (Valid.FG _ _ (([]++Gl).length) (c3) _) ?_)
  rintro UR w3 H'
  refine H.XZ H' ?_
  clear H H'
  intro H
  refine ZA (H.at 4 rfl) 0 rfl rfl rfl<|H.Z8 [5,4,4,4]<|fun H=>?_
  refine Z7.mk (Fc.imp (Valid.one _ H qa qa qa _ _ _ _ _ qa qa Yl qa qa qo qo qa) ?_)
  clear H
  rintro M6 w6 ⟨Zx,⟨R5,⟨Y7,⟨R4,⟨X9,⟨h5,⟨h6,⟨h7,H⟩⟩⟩⟩⟩⟩⟩⟩
  refine Z9 rfl<|Z4 (H.at 0 rfl) 14 rfl rfl rfl ?_
  refine cI (fun c4=>?_) (fun c4=>?_)
  ·replace c4:=Ye (c4)
   refine ZM H [] [(0,.pure),(1,.pure),(2,.pure),(3,.pure),(4,.held),(5,.pure),(6,.pure)] mixed k_i k_i<|fun w7 H=>tk (fun wx HS=>Z9 rfl ⟨rfl,rfl⟩)<|tk (fun wx HS=>Z4 (HS.at 0 rfl) 14 rfl rfl rfl ⟨rfl,rfl⟩)<|Z6.mk ?_
   refine ⟨(↑i:Int),X9,?_⟩
   refine ⟨rfl,?_⟩
   refine ⟨?_,?_⟩
   ·exact hR.bad Tq qa qo
   refine H.drop 6<|fun H=>H.drop 5<|fun H=>H.drop 4<|fun H=>H.drop 3<|fun H=>H.drop 2<|fun H=>H.drop 1<|fun H=>H.drop 0<|fun H=>?_
   exact H
  replace c4:=Yd (c4)
  refine ZX qo ?_
  refine WN.mk ((i+1,Zx,R5,Y7,R4)) (Zo rfl k_c (ZT)) ?_ ?_
  ·refine ⟨qa,?_⟩
   refine ⟨?_,?_⟩
   ·exact hR.step hc Tq qa qo
   refine ⟨qa,?_⟩
   refine ⟨?_,?_⟩
   ·exact k_a
   refine H.Z8 [6,4,4,4,4]<|fun H=>H.drop 6<|fun H=>H.drop 5<|fun H=>?_
   refine H.cg (YT (Mf ?_) (YT rfl (YT rfl (YT rfl (YT rfl (rfl))))))
   (simp;omega)
  omega
 ·refine cF (Zl qo)<|Z6.mk ?_
  refine ⟨0,0,?_⟩
  refine ⟨rfl,?_⟩
  refine ⟨?_,?_⟩
  ·exact hR.fin (by rw [lia0];exact hge)
  refine H.drop 4<|fun H=>H.drop 3<|fun H=>H.drop 2<|fun H=>H.drop 1<|fun H=>H.drop 0<|fun H=>?_
  exact H
end
end Valid
namespace YQ
open Go YZ Go.RowKit
open YS Zk XV
def FD (n:Int):List UInt8:=Xt n.toNat
def opB (k:Int):UInt8:=if k=127 then 65 else 66
def elT (x:Int × List Int):List UInt8:=[0,65]++VK x.1++[11]++Xt x.2.length++x.2.flatMap FD
def Le:List Int→List (Nat × Int)
 | []=>[]
 | x::r=>match Le r with
  | []=>[(1,x)]
  | (n,y)::q=>if x=y then (n+1,y)::q else (1,x)::(n,y)::q
def runT (x:Nat × Int):List UInt8:=Xt x.1++[Gv x.2]
def Mh (f:Qh):List UInt8:=Xt (Le f.loc).length++(Le f.loc).flatMap runT++G5 f.body
def akq (i:UInt8) (c:List UInt8):List UInt8:=if c=[] then [] else [i]++Xt c.length++c
theorem aeA {l:List Int} {n:Nat} {y:Int} {q:List (Nat × Int)} (h:Le l=(n,y)::q):l.head?=some y:=by
 cases l with
 | nil=>cases h
 | cons x r =>
  rw [Le] at h
  split at h
  ·injection h with h _;injection h with _ h;rw [h];rfl
  ·split at h
   ·rename_i hxy;injection h with h _;injection h with _ h;rw [←h,hxy];rfl
   ·injection h with h _;injection h with _ h;rw [h];rfl
theorem agq (k:Int) (r:List Int) (hr:r.head?≠some k):∀n,Le (List.replicate (n+1) k++r)=(n+1,k)::Le r:=by
 intro n
 induction n with
 | zero =>
  show Le (k::r)=_
  rw [Le]
  split
  ·rename_i h;rw [h]
  ·rename_i n y q h
   rw [if_neg (fun e=>hr (by rw [aeA h,e])),h]
 | succ n ih =>
  rw [lQb,lOa,Le,ih]
  simp
theorem aiw {l:List Int} {i j:Nat} {k:Int} (hi:l[i]?=some k) (hij:i<j) (hj:j≤l.length) (hrun:∀q,i≤q→q<j→l[q]?=some k) (hend:l[j]?≠some k):Le (l.drop i)=(j-i,k)::Le (l.drop j):=by
 have e:l.drop i=List.replicate ((j-i-1)+1) k++l.drop j:=by
  apply lJa
  intro q
  rw [lNa]
  by_cases hq:q<j-i
  ·rw [hrun (i+q) qo qo,loa (by rw [lja];omega),List.getElem?_replicate,if_pos qo]
  ·rw [lsa (by rw [lja];omega),lja,lNa]
   congr 1;omega
 rw [e,agq k _ (by rw [List.head?_drop];exact hend)]
 congr 2;omega
end YQ
namespace YQ
open Go YZ Go.RowKit
open YS Zk XV
section
variable {g:Zv} {w:World} {l:List As} {q:Nat}
theorem Ub {k:Int} (h:U9 k=0):0≤k∧k≤4294967295:=by
 unfold U9 at h
 split at h
 ·assumption
 ·cases h
theorem GQ {k:Int} (h:k=127):UInt8.ofNat 65=opB k:=(if_pos h).symm
end
end YQ
namespace YQ
open Go YZ Go.RowKit
open YS Zk XV
section
variable {g:Zv} {w:World} {l:List As} {q:Nat}
def ST (ot c:List UInt8) (i:Int) (r:List UInt8):Prop:=r=ot++akq (Gv i) c
theorem Gl {ot c t:List UInt8} {i:Int} {b:UInt8} (h:c≠[]) (hb:b=Gv i) (ht:t=Xt c.length):ST ot c i (ot++([b]++t++c)):=by
 subst hb ht;unfold ST akq;rw [if_neg h]
end
end YQ
namespace YQ
open Go YZ Go.RowKit
open YS Zk XV
section
variable {g:Zv} {w:World} {l:List As} {q:Nat}
structure RL (loc:List Int) (fr:Nat) (ds:List (Nat × Int)):Prop where
 all:Le loc=ds++Le (loc.drop fr)
 le:ds.length≤fr
theorem RL.zero (loc:List Int):RL loc 0 []:=⟨rfl,lra _⟩
theorem RL.step {loc:List Int} {fr tt:Nat} {ds:List (Nat × Int)} {k:Int} (h:RL loc fr ds) (hi:loc[fr]?=some k) (hij:fr<tt) (hj:tt≤loc.length) (hrun:∀q,fr≤q→q<tt→loc[q]?=some k) (hend:loc[tt]?≠some k):RL loc tt (ds++[(tt-fr,k)]) :=
 ⟨by rw [h.all,aiw hi hij hj hrun hend,lma];rfl,by rw [lba];have:=h.le;simp;omega⟩
theorem RL.fin {loc:List Int} {fr:Nat} {ds:List (Nat × Int)} (h:RL loc fr ds) (hf:loc.length≤fr):ds=Le loc:=by
 rw [h.all,lDa hf];simp [Le]
def RG (loc:List Int) (fr:Nat) (gt:List UInt8) (n:Nat):Prop:=∃ds,RL loc fr ds∧gt=ds.flatMap runT∧n=ds.length
theorem RG.zero (loc:List Int):RG loc 0 [] 0:=⟨[],RL.zero _,rfl,rfl⟩
theorem RG.le {loc:List Int} {fr n:Nat} {gt:List UInt8} (h:RG loc fr gt n):n≤fr:=by obtain ⟨ds,h1,_,rfl⟩:=h;exact h1.le
theorem RG.step {loc:List Int} {fr tt n:Nat} {gt t:List UInt8} {k:Int} {b:UInt8} (h:RG loc fr gt n) (hi:loc[fr]?=some k) (hij:fr<tt) (hj:tt≤loc.length) (hrun:∀q,fr≤q→q<tt→loc[q]?=some k) (hend:loc[tt]?≠some k) (ht:t=FD ((tt:Int)-fr)) (hb:b=Gv k):RG loc tt (gt++(t++[b])) (n+1):=by
 obtain ⟨ds,h1,h2,h3⟩:=h
 subst hb ht
 refine ⟨ds++[(tt-fr,k)],h1.step hi hij hj hrun hend,?_,by rw [h3];simp⟩
 have e:((tt:Int)-fr).toNat=tt-fr:=by omega
 rw [h2,lMa]
 simp [runT,FD,e]
theorem RG.fin {loc:List Int} {fr n:Nat} {gt:List UInt8} (h:RG loc fr gt n) (hf:loc.length≤fr):gt=(Le loc).flatMap runT∧n=(Le loc).length:=by
 obtain ⟨ds,h1,h2,h3⟩:=h
 rw [h1.fin hf] at h2 h3
 exact ⟨h2,h3⟩
end
end YQ
namespace YQ
open Go YZ Go.RowKit
open YS Zk XV
section
variable {g:Zv} {w:World} {l:List As} {q:Nat}
structure aeB (m:Y9):Prop where
 types:m.types.length≤16
 JU:∀x∈m.types,J2 x.d=0
 ZB:m.ZB.length≤16
 ahr:∀x∈m.ZB,Qg x=0
 funcs:m.funcs.length≤16
 R3:∀x∈m.funcs,LZ x.d=0
 table:0≤m.table∧m.table≤16
 pages:0≤m.pages∧m.pages≤m.most
 most:m.most≤8
 globals:m.globals.length≤16
 NP:∀x∈m.globals,M9 x=0
 We:m.We.length≤16
 Te:∀x∈m.We,Qg x=0
 start:0≤m.start∧m.start≤4294967295
 elems:m.elems.length≤16
 JT:∀x∈m.elems,G0 x.d=0
 data:m.data.length≤16
 akr:∀x∈m.data,M8 x=0
theorem aks {a b:Int} (h:EW a b=0):a≤b:=by
 unfold EW at h
 split at h
 ·assumption
 ·cases h
theorem ahs {a b:Int} (h:EV a b=0):a≤b:=by
 unfold EV at h
 split at h
 ·assumption
 ·cases h
theorem aix {a b:Int} (h:KO a b=0):0≤a∧a≤b:=by
 unfold KO at h
 split at h
 ·assumption
 ·cases h
theorem U4 {m:Y9} (h:Pn m.d=0):aeB m:=by
 unfold Pn at h
 simp only [Y9.d,aaF,Zm,V6] at h
 obtain ⟨⟨a1,a2⟩,⟨b1,b2⟩,⟨c1,c2⟩,d1,d2,e1,e2,⟨f1,f2⟩,⟨g1,g2⟩,h1,⟨i1,i2⟩,j1,j2⟩:=h
 exact ⟨by omega,a2,by omega,b2,by omega,c2,⟨aks d1,ahs d2⟩,aix e1,ahs e2,by omega,f2,by omega,g2,Ub h1,by omega,i2,by omega,j2⟩
end
end YQ
namespace Valid
open Go YZ Go.RowKit
open YS Zk XV YQ
def R1 (E:Yj) (n:Int):Int:=if Xx E n=none then 8 else 0
def TN (E:Yj) (x:Int × List Int):Int:=if E.table=0 then 8 else Yb (R1 E) x.2
def Tz (m:Yf):Int:=fst (Yb (TN (ZF m)) m.elems) (if m.data≠[]∧m.most=0 then 8 else 0)
def Wz (n:Nat) (k:Int):Int:=if (n:Int)≤k then 8 else 0
def Te (E:Yj):List (List UInt8 × Int)→List (List UInt8)→Int
 | [],_=>0
 | x::r,sn=>if Xx E x.2=none then 8 else if x.1∈sn then 12 else Te E r (x.1::sn)
def JS (E:Yj) (n:Int):Int:=if 0<n then (match Xx E (n-1) with|none=>8|some t=>if 0<t.Zc.length+t.out.length then 10 else 0) else 0
def Vf (m:Yf):Int:=fst (Pn m) (fst (Yb (fun x=>Wz m.types.length x.2) m.ZB) (fst (Yb (fun f=>Wz m.types.length f.ty) m.funcs) (fst (Te (ZF m) m.We []) (fst (JS (ZF m) m.start) (Tz m)))))
def Wq (m:Yf):Int:=fst (Vf m) (Yb (Tg (ZF m)) m.funcs)
def AI {α:Type} (f:α→Int) (xs:List α) (i:Nat):Prop:=Yb f xs=Yb f (xs.drop i)
theorem AI.zero {α:Type} {f:α→Int} {xs:List α}:AI f xs 0:=rfl
theorem AI.step {α:Type} {f:α→Int} {xs:List α} {i:Nat} {x:α} (h:AI f xs i) (hx:xs[i]?=some x) (h0:f x=0):AI f xs (i+1):=by
 have hh:=lca.1 hx
 unfold AI at *
 rw [h,lwa hh.1,hh.2,Yb,h0,Wy]
theorem AI.bad {α:Type} {f:α→Int} {xs:List α} {i:Nat} {x:α} (h:AI f xs i) (hx:xs[i]?=some x) (h0:f x≠0):Yb f xs=f x:=by
 have hh:=lca.1 hx
 unfold AI at *
 rw [h,lwa hh.1,hh.2,Yb,SM _ h0]
theorem AI.fin {α:Type} {f:α→Int} {xs:List α} {i:Nat} (h:AI f xs i) (hi:xs.length≤i):Yb f xs=0:=by
 unfold AI at h;rw [h,lDa hi];rfl
section
variable {g:Zv} {w:World} {l:List As} {pc:Nat} {m:Y9} {vl vs vo:Value} {st:List Int} {op:List ZK} {b:Int}
theorem kn0 {E:Yj} {n:Int} {d:Xm} (h:Xx E n=some d):R1 E n=0:=if_neg (by rw [h];nofun)
theorem kn8 {E:Yj} {n:Int} (h:Xx E n=none):R1 E n=8:=if_pos h
theorem JR:Yb (TN (ZF m.d)) m.d.elems=Yb (fun x:SL=>TN (ZF m.d) x.d) m.elems:=by
 show Yb _ (m.elems.map SL.d)=_
 rw [Qi]
theorem akt {i:Nat} {x:SL} (h:AI (fun x:SL=>TN (ZF m.d) x.d) m.elems i) (hx:m.elems[i]?=some x) (h8:TN (ZF m.d) x.d=8):8=Tz m.d:=by
 unfold Tz
 rw [JR,h.bad hx (by rw [h8];decide),h8];rfl
theorem amN (h:Yb (fun x:SL=>TN (ZF m.d) x.d) m.elems=0) (hd:m.data.length≠0) (h0:m.most=0):8=Tz m.d:=by
 unfold Tz
 rw [JR,h,Wy]
 exact (if_pos ⟨fun e=>hd (by have:m.data=[]:=e;rw [this];rfl),h0⟩).symm
theorem aku (h:Yb (fun x:SL=>TN (ZF m.d) x.d) m.elems=0) (hd:m.data.length=0∨m.most≠0):0=Tz m.d:=by
 unfold Tz
 rw [JR,h,Wy]
 refine (if_neg fun k=>?_).symm
 rcases hd with hd|hd
 ·exact k.1 (lqa hd)
 ·exact hd k.2
theorem elT {x:SL} (h:m.table=0):TN (ZF m.d) x.d=8:=if_pos h
theorem elB {x:SL} {i:Nat} {n:Int} (h:m.table≠0) (hi:AI (R1 (ZF m.d)) x.fs i) (hn:x.fs[i]?=some n) (hty:Xx (ZF m.d) n=none):TN (ZF m.d) x.d=8:=by
 unfold TN
 rw [if_neg (show ¬(ZF m.d).table=0 from h)]
 show Yb _ x.fs=8
 rw [hi.bad hn (by rw [kn8 hty];decide),kn8 hty]
theorem elO {x:SL} {i:Nat} (h:m.table≠0) (hi:AI (R1 (ZF m.d)) x.fs i) (hl:x.fs.length≤i):TN (ZF m.d) x.d=0:=by
 unfold TN
 rw [if_neg (show ¬(ZF m.d).table=0 from h)]
 exact hi.fin hl
theorem parts (H:Sat g w l) (hm:XF g m) (hI:Qd m) (hE:∀x∈m.elems,∀n∈x.fs,0≤n∧n≤4294967295):Fc Tryz.prog 130 #[.agg #[m.vt,m.vm,m.vf,.int .i64 m.table,.int .i64 m.pages,.int .i64 m.most,m.vg,m.vx,.int .i64 m.start,m.ve,m.vd]] w (fun r w'=>∃e,r=.int .i64 e∧e=Tz m.d∧Sat g w' l):=by
 have ZP:=hm.types
 have XX:=hm.elems
 have V5:=hm.data
 have hle:=VS.len XX
 refine Fc.of Tryz.func130 rfl k_i<|ZH H<|fun p1 w1 H=>Z9 rfl<|Z4 (H.at 0 rfl) 9 rfl rfl rfl<|Zw XX rfl ?_
 refine YP.rule (α:=Nat) (0) (fun x_=>[(12,.int .i64 x_)]) (fun x_ w_=>(x_≤m.elems.length)∧(AI (fun x:SL=>TN (ZF m.d) x.d) m.elems x_)∧Sat g w_ ((Pt p1 [m.vt,m.vm,m.vf,.int .i64 m.table,.int .i64 m.pages,.int .i64 m.most,m.vg,m.vx,.int .i64 m.start,m.ve,m.vd] 30::l))) (fun x_=>m.elems.length-x_) ?_ ?_ ?_
 ·exact k_b
 ·try simp only
  refine ⟨qo,?_⟩
  refine ⟨?_,?_⟩
  ·exact AI.zero
  exact H
 clear H
 rintro i f_ w_ ⟨hi,hA,H⟩
 try simp only at hi hA H ⊢
 rcases lEa i m.elems.length with hlt|hge
 ·obtain ⟨x,hx⟩:∃x,m.elems[i]?=some x:=⟨_,laa hlt⟩
  have Jv:=lha hx
  have R6:=(ZZ.all XX x Jv).fs
  have hxl:=VS.len R6
  refine cT (Y4 qo)<|bk ?_
  obtain ⟨b1,o1,E1,F1,ZE⟩:=ZZ.Y1 XX hx
  have Qf:=ZE.pl
  have VL:=ZE.fs
  refine ZJ E1 rfl rfl rfl<|ZA (H.XQ F1) 0 rfl rfl rfl<|ZS H rfl<|fun p2 w2 H=>ZD H 0 rfl rfl rfl (by simp only [List.all_cons,List.all_nil,ZZ.one VL,ZZ.one R6,ZZ.one V5,ZZ.one XX,ZZ.one ZP];rfl)<|fun w3 H=>Z9 rfl<|Z4 (H.at 1 rfl) 3 rfl rfl rfl ?_
  refine cI (fun c1=>?_) (fun c1=>?_)
  ·replace c1:=ZR (c1)
   refine Z6.mk ?_
   refine ⟨8,?_⟩
   refine ⟨?_,?_⟩
   ·refine int_eq ?_
    omega
   refine ⟨?_,?_⟩
   ·exact akt hA hx (elT qa)
   refine H.drop 1<|fun H=>H.drop 0<|fun H=>?_
   exact H
  replace c1:=ZQ (c1)
  refine Z9 rfl<|Z4 (H.at 0 rfl) 1 rfl rfl rfl<|Zw VL rfl ?_
  refine YP.rule (α:=Nat) (0) (fun x_=>[(22,.int .i64 x_)]) (fun x_ w_=>(x_≤x.fs.length)∧(AI (R1 (ZF m.d)) x.fs x_)∧Sat g w_ ((Pt p1 [m.vt,m.vm,m.vf,.int .i64 m.table,.int .i64 m.pages,.int .i64 m.most,m.vg,m.vx,.int .i64 m.start,m.ve,m.vd] 30::l))) (fun x_=>x.fs.length-x_) ?_ ?_ ?_
  ·exact k_b
  ·try simp only
   refine ⟨qo,?_⟩
   refine ⟨?_,?_⟩
   ·exact AI.zero
   refine H.Z8 [1]<|fun H=>H.drop 1<|fun H=>?_
   exact H
  clear H
  rintro j f_ w_ ⟨hj,hB,H⟩
  try simp only at hj hB H ⊢
  rcases lEa j x.fs.length with JZ|LS
  ·obtain ⟨n,hn⟩:∃n,x.fs[j]?=some n:=⟨_,laa JZ⟩
   have hnb:=hE x Jv n (lha hn)
   cases hty:Xx (ZF m.d) n with
   | none =>
    refine cT (Y4 qo)<|bk ?_
    obtain ⟨b2,o2,E2,F2,X3⟩:=ZZ.Y1 VL hn
    refine ZJ E2 rfl rfl rfl<|Z4 (H.XQ F2) 0 rfl rfl rfl<|ZA (H.at 0 rfl) 0 rfl rfl rfl ?_
    refine Z7.mk (Fc.imp (Valid.typeOf H qa qa _ qo) ?_)
    clear H
    rintro _ w2 ⟨Hu,⟨Kq,⟨q1,⟨rfl,⟨h1,H⟩⟩⟩⟩⟩
    obtain ⟨rfl,rfl,rfl⟩:=TR.Em ‹TR m n _ _ _› hty
    refine ZS H rfl<|fun p3 w4 H=>ZD H 0 rfl rfl rfl rfl<|fun w2 H=>cT rfl<|Z6.mk ?_
    refine ⟨8,?_⟩
    refine ⟨?_,?_⟩
    ·refine int_eq ?_
     omega
    refine ⟨?_,?_⟩
    ·exact akt hA hx (elB qa hB hn hty)
    refine H.drop 1<|fun H=>H.drop 0<|fun H=>?_
    exact H
   | some d =>
    refine cT (Y4 qo)<|bk ?_
    obtain ⟨b2,o2,E2,F2,X3⟩:=ZZ.Y1 VL hn
    refine ZJ E2 rfl rfl rfl<|Z4 (H.XQ F2) 0 rfl rfl rfl<|ZA (H.at 0 rfl) 0 rfl rfl rfl ?_
    refine Z7.mk (Fc.imp (Valid.typeOf H qa qa _ qo) ?_)
    clear H
    rintro _ w2 ⟨Hu,⟨Kq,⟨q1,⟨rfl,⟨h1,H⟩⟩⟩⟩⟩
    obtain ⟨rfl,s,hs,rfl,rfl,rfl⟩:=TR.get ‹TR m n _ _ _› hty
    have X5:=(ZZ.all ZP s hs).Zc
    have X4:=(ZZ.all ZP s hs).out
    refine ZS H rfl<|fun p3 w4 H=>ZD H 0 rfl rfl rfl (by simp only [List.all_cons,List.all_nil,ZZ.one X4,ZZ.one X5,ZZ.one VL,ZZ.one R6,ZZ.one V5,ZZ.one XX,ZZ.one ZP];rfl)<|fun w2 H=>cF rfl<|ZX qo ?_
    refine WN.mk (j+1) (Zo rfl k_c (ZT)) ?_ ?_
    ·refine ⟨qa,?_⟩
     refine ⟨?_,?_⟩
     ·exact hB.step hn (kn0 hty)
     refine H.Z8 [1]<|fun H=>H.drop 1<|fun H=>?_
     exact H
    omega
  ·refine cF (Zl qo)<|ZX qo ?_
   refine WN.mk (i+1) (Zo rfl k_c (ZT)) ?_ ?_
   ·refine ⟨qa,?_⟩
    refine ⟨?_,?_⟩
    ·exact hA.step hx (elO qa hB LS)
    exact H
   omega
 ·have EP:=hA.fin hge
  refine cF (Zl qo)<|Z9 rfl<|Z4 (H.at 0 rfl) 10 rfl rfl rfl<|Zw V5 rfl ?_
  refine br (fun c1=>?_) (fun c1=>?_)
  ·replace c1:=Yx (c1)
   refine Z9 rfl<|Z4 (H.at 0 rfl) 5 rfl rfl rfl ?_
   refine cI (fun c2=>?_) (fun c2=>?_)
   ·replace c2:=ZR (c2)
    refine Z6.mk ?_
    refine ⟨8,?_⟩
    refine ⟨?_,?_⟩
    ·refine int_eq ?_
     omega
    refine ⟨?_,?_⟩
    ·exact amN EP qo qa
    refine H.drop 0<|fun H=>?_
    exact H
   replace c2:=ZQ (c2)
   refine Z6.mk ?_
   refine ⟨0,?_⟩
   refine ⟨?_,?_⟩
   ·refine int_eq ?_
    omega
   refine ⟨?_,?_⟩
   ·exact aku EP qo
   refine H.drop 0<|fun H=>?_
   exact H
  replace c1:=Yw (c1)
  refine cF rfl<|Z6.mk ?_
  refine ⟨0,?_⟩
  refine ⟨?_,?_⟩
  ·refine int_eq ?_
   omega
  refine ⟨?_,?_⟩
  ·exact aku EP qo
  refine H.drop 0<|fun H=>?_
  exact H
end
end Valid
namespace Valid
open Go YZ Go.RowKit
open YS Zk XV YQ
section
variable {m:Y9}
theorem be0 {n:Nat} {k:Int} (h:k<n):Wz n k=0:=if_neg qo
theorem DH {n:Nat} {k:Int} (h:(n:Int)≤k):Wz n k=8:=if_pos h
theorem LR:Yb (fun x=>Wz m.d.types.length x.2) m.d.ZB=Yb (fun x:List UInt8 × Int=>Wz m.types.length x.2) m.ZB:=by
 have e:m.d.types.length=m.types.length:=lia0 ..
 rw [e];rfl
theorem JQ:Yb (fun f=>Wz m.d.types.length f.ty) m.d.funcs=Yb (fun f:YA=>Wz m.types.length f.ty) m.funcs:=by
 have e:m.d.types.length=m.types.length:=lia0 ..
 rw [e]
 show Yb _ (m.funcs.map YA.d)=_
 rw [Qi];rfl
section
variable {i:Nat} {x:List UInt8 × Int} {f:YA} {e c:Int}
theorem hd1 (hc:Pn m.d≠0) (he:e=Pn m.d):e=Vf m.d:=by
 unfold Vf;rw [SM _ hc,he]
theorem hd2 (hc:Pn m.d=0) (h:AI (fun x:List UInt8 × Int=>Wz m.types.length x.2) m.ZB i) (hx:m.ZB[i]?=some x) (hb:(m.types.length:Int)≤x.2):8=Vf m.d:=by
 have Hw:=h.bad hx (by rw [DH hb];decide)
 rw [DH hb] at Hw
 unfold Vf
 rw [hc,Wy,LR,Hw];rfl
theorem FC (hc:Pn m.d=0) (h1:Yb (fun x:List UInt8 × Int=>Wz m.types.length x.2) m.ZB=0) (h:AI (fun f:YA=>Wz m.types.length f.ty) m.funcs i) (hx:m.funcs[i]?=some f) (hb:(m.types.length:Int)≤f.ty):8=Vf m.d:=by
 have Hw:=h.bad hx (by rw [DH hb];decide)
 rw [DH hb] at Hw
 unfold Vf
 rw [hc,Wy,LR,h1,Wy,JQ,Hw];rfl
theorem FB (hc:Pn m.d=0) (h1:Yb (fun x:List UInt8 × Int=>Wz m.types.length x.2) m.ZB=0) (h2:Yb (fun f:YA=>Wz m.types.length f.ty) m.funcs=0):Vf m.d=fst (Te (ZF m.d) m.We []) (fst (JS (ZF m.d) m.start) (Tz m.d)):=by
 unfold Vf
 rw [hc,Wy,LR,h1,Wy,JQ,h2,Wy];rfl
theorem abu (h:Yb (fun x:List UInt8 × Int=>Wz m.types.length x.2) m.ZB=0):∀x∈m.ZB,x.2<m.types.length:=fun x hx=>by
 have:=UH.1 h x hx
 unfold Wz at this
 split at this
 ·cases this
 ·omega
theorem abv (h:Yb (fun f:YA=>Wz m.types.length f.ty) m.funcs=0):∀f∈m.funcs,f.ty<m.types.length:=fun x hx=>by
 have:=UH.1 h x hx
 unfold Wz at this
 split at this
 ·cases this
 ·omega
end
section
variable {E:Yj} {xs:List (List UInt8 × Int)} {i:Nat} {x:List UInt8 × Int} {sn:List (List UInt8)} {f:List UInt8→Option Int} {v:Int} {d:Xm}
structure XI (E:Yj) (xs:List (List UInt8 × Int)) (i:Nat) (sn:List (List UInt8)) (f:List UInt8→Option Int):Prop where
 run:Te E xs []=Te E (xs.drop i) sn
 seen:∀s,f s=none↔s∉sn
theorem XI.zero:XI E xs 0 [] (fun _=>none):=⟨rfl,fun s=>by simp⟩
theorem XI.no (h:XI E xs i sn f) (hx:xs[i]?=some x) (ht:Xx E x.2=none):Te E xs []=8:=by
 have hh:=lca.1 hx
 rw [h.run,lwa hh.1,hh.2,Te,if_pos ht]
theorem XI.akv (h:XI E xs i sn f) (hx:xs[i]?=some x) (ht:Xx E x.2=some d) (hf:f x.1=some v):Te E xs []=12:=by
 have hh:=lca.1 hx
 have hm:x.1∈sn:=Classical.byContradiction fun n=>by rw [(h.seen x.1).2 n] at hf;cases hf
 rw [h.run,lwa hh.1,hh.2,Te,if_neg (by rw [ht];nofun),if_pos hm]
theorem XI.step (h:XI E xs i sn f) (hx:xs[i]?=some x) (ht:Xx E x.2=some d) (hf:f x.1=none):XI E xs (i+1) (x.1::sn) (HD f x.1 (some v)):=by
 have hh:=lca.1 hx
 refine ⟨?_,fun s=>?_⟩
 ·rw [h.run,lwa hh.1,hh.2,Te,if_neg (by rw [ht];nofun),if_neg ((h.seen x.1).1 hf)]
 ·unfold HD
  by_cases e:s=x.1
  ·rw [if_pos e];simp [e]
  ·rw [if_neg e,h.seen s];simp [e]
structure XJ (E:Yj) (xs:List (List UInt8 × Int)) (i:Nat) (f:List UInt8→Option Int):Prop where
 ex:∃sn,XI E xs i sn f
theorem XJ.zero:XJ E xs 0 (fun _=>none):=⟨⟨[],XI.zero⟩⟩
theorem XJ.step (h:XJ E xs i f) (hx:xs[i]?=some x) (ht:Xx E x.2=some d) (hf:f x.1=none):XJ E xs (i+1) (HD f x.1 (some v)):=by
 obtain ⟨sn,h⟩:=h.ex;exact ⟨⟨_,h.step hx ht hf⟩⟩
theorem XI.fin (h:XI E xs i sn f) (hi:xs.length≤i):Te E xs []=0:=by
 rw [h.run,lDa hi];rfl
end
end
section
variable {g:Zv} {w:World} {l:List As} {pc:Nat} {m:Y9} {vl vs vo:Value} {st:List Int} {op:List ZK} {b:Int}
theorem akw {c:Bool} {f:Option Int} {x:Int} {Q:Prop} (h:c=true∧f=some x∨c=false∧f=none∧x=0) (hc:c=true) (hf:f=none):Q:=by
 rcases h with ⟨_,h⟩|⟨h,_⟩
 ·rw [hf] at h;cases h
 ·rw [hc] at h;cases h
theorem aeC {c:Bool} {f:Option Int} {x v:Int} {Q:Prop} (h:c=true∧f=some x∨c=false∧f=none∧x=0) (hc:c=false) (hf:f=some v):Q:=by
 rcases h with ⟨h,_⟩|⟨_,h,_⟩
 ·rw [hc] at h;cases h
 ·rw [hf] at h;cases h
theorem amO {a b:Nat} {p:Int} (h:0<(a:Int)+b):10=fst (if 0<a+b then 10 else 0) p:=by
 rw [if_pos (show 0<a+b by omega)];exact (SM _ (by decide)).symm
theorem amP {a b:Nat} {p e:Int} (h:(a:Int)+b≤0) (he:e=p):e=fst (if 0<a+b then 10 else 0) p:=by
 rw [if_neg (show ¬0<a+b by omega),Wy];exact he
theorem acF (P:aeB m):KL m:=⟨fun s hs=>by have:=(V6.1 (Zm.1 (P.JU s hs)).1).1;simp only [Xy.d] at this;omega,fun s hs=>by have:=(V6.1 (Zm.1 (P.JU s hs)).2).1;simp only [Xy.d] at this;omega⟩
theorem head (H:Sat g w l) (hT:NX g) (hm:XF g m):Fc Tryz.prog 96 #[.agg #[m.vt,m.vm,m.vf,.int .i64 m.table,.int .i64 m.pages,.int .i64 m.most,m.vg,m.vx,.int .i64 m.start,m.ve,m.vd]] w (fun r w'=>∃e,r=.int .i64 e∧e=Vf m.d∧Sat g w' l):=by
 have ZP:=hm.types
 have Zt:=hm.ZB
 have ZW:=hm.funcs
 have XY:=hm.We
 refine Fc.of Tryz.func96 rfl k_i ?_
 by_cases hc:Pn m.d=0
 ·have P:=U4 hc
  have aiy:=P.ZB
  have agr:=P.funcs
  have ags:=P.types
  have amQ:=P.We
  have alJ:=P.start
  refine ZH H<|fun p1 w1 H=>ZA (H.at 0 rfl) 0 rfl rfl rfl ?_
  refine Z7.mk (Fc.imp (YQ.check H qa _ qa) ?_)
  clear H
  rintro _ w2 ⟨⟨e1,⟨rfl,h1⟩⟩,H⟩
  refine cF (WG qo)<|Z9 rfl<|Z4 (H.at 0 rfl) 1 rfl rfl rfl<|Zw Zt rfl ?_
  refine YP.rule (α:=Nat) (0) (fun x_=>[(25,.int .i64 x_)]) (fun x_ w_=>(x_≤m.ZB.length)∧(AI (fun x:List UInt8 × Int=>Wz m.types.length x.2) m.ZB x_)∧Sat g w_ ((Pt p1 [m.vt,m.vm,m.vf,.int .i64 m.table,.int .i64 m.pages,.int .i64 m.most,m.vg,m.vx,.int .i64 m.start,m.ve,m.vd] 30::l))) (fun x_=>m.ZB.length-x_) ?_ ?_ ?_
  ·exact k_b
  ·try simp only
   refine ⟨qo,?_⟩
   refine ⟨?_,?_⟩
   ·exact AI.zero
   exact H
  clear H
  rintro i f_ w_ ⟨hi,hA,H⟩
  try simp only at hi hA H ⊢
  rcases lEa i m.ZB.length with hlt|hge
  ·obtain ⟨x,hx⟩:∃x,m.ZB[i]?=some x:=⟨_,laa hlt⟩
   refine cT (Y4 qo)<|bk ?_
   obtain ⟨b1,o1,E1,F1,ZE⟩:=ZZ.Y1 Zt hx
   have U7:=ZE.name
   have XR:=ZE.ty
   refine ZJ E1 rfl rfl rfl<|ZA (H.XQ F1) 0 rfl rfl rfl<|ZS H rfl<|fun p2 w3 H=>ZD H 0 rfl rfl rfl rfl<|fun w4 H=>Z9 rfl<|Z4 (H.at 0 rfl) 1 rfl rfl rfl<|Z9 rfl<|Z4 (H.at 1 rfl) 0 rfl rfl rfl<|Zw ZP rfl ?_
   refine cI (fun c1=>?_) (fun c1=>?_)
   ·replace c1:=Xv (c1)
    refine Z6.mk ?_
    refine ⟨8,?_⟩
    refine ⟨?_,?_⟩
    ·refine int_eq ?_
     omega
    refine ⟨?_,?_⟩
    ·exact hd2 hc hA hx qa
    refine H.drop 1<|fun H=>H.drop 0<|fun H=>?_
    exact H
   replace c1:=Xu (c1)
   refine ZX qo ?_
   refine WN.mk (i+1) (Zo rfl k_c (ZT)) ?_ ?_
   ·refine ⟨qa,?_⟩
    refine ⟨?_,?_⟩
    ·exact hA.step hx (be0 qo)
    refine H.Z8 [1]<|fun H=>H.drop 1<|fun H=>?_
    exact H
   omega
  ·have h1:=hA.fin hge
   refine cF (Zl qo)<|Z9 rfl<|Z4 (H.at 0 rfl) 2 rfl rfl rfl<|Zw ZW rfl ?_
   refine YP.rule (α:=Nat) (0) (fun x_=>[(39,.int .i64 x_)]) (fun x_ w_=>(x_≤m.funcs.length)∧(AI (fun f:YA=>Wz m.types.length f.ty) m.funcs x_)∧Sat g w_ ((Pt p1 [m.vt,m.vm,m.vf,.int .i64 m.table,.int .i64 m.pages,.int .i64 m.most,m.vg,m.vx,.int .i64 m.start,m.ve,m.vd] 30::l))) (fun x_=>m.funcs.length-x_) ?_ ?_ ?_
   ·exact k_b
   ·try simp only
    refine ⟨qo,?_⟩
    refine ⟨?_,?_⟩
    ·exact AI.zero
    exact H
   clear H
   rintro k f_ w_ ⟨hk,hB,H⟩
   try simp only at hk hB H ⊢
   rcases lEa k m.funcs.length with JZ|LS
   ·obtain ⟨f,hf⟩:∃f,m.funcs[k]?=some f:=⟨_,laa JZ⟩
    refine cT (Y4 qo)<|bk ?_
    obtain ⟨b1,o1,E1,F1,ZE⟩:=ZZ.Y1 ZW hf
    have XR:=ZE.ty
    have Zy:=ZE.loc
    have ZI:=ZE.body
    refine ZJ E1 rfl rfl rfl<|ZA (H.XQ F1) 0 rfl rfl rfl<|ZS H rfl<|fun p2 w3 H=>ZD H 0 rfl rfl rfl (by simp only [List.all_cons,List.all_nil,ZZ.one ZI,ZZ.one Zy,ZZ.one XY,ZZ.one ZW,ZZ.one Zt,ZZ.one ZP];rfl)<|fun w4 H=>Z9 rfl<|Z4 (H.at 0 rfl) 0 rfl rfl rfl<|Z9 rfl<|Z4 (H.at 1 rfl) 0 rfl rfl rfl<|Zw ZP rfl ?_
    refine cI (fun c1=>?_) (fun c1=>?_)
    ·replace c1:=Xv (c1)
     refine Z6.mk ?_
     refine ⟨8,?_⟩
     refine ⟨?_,?_⟩
     ·refine int_eq ?_
      omega
     refine ⟨?_,?_⟩
     ·exact FC hc h1 hB hf qa
     refine H.drop 1<|fun H=>H.drop 0<|fun H=>?_
     exact H
    replace c1:=Xu (c1)
    refine ZX qo ?_
    refine WN.mk (k+1) (Zo rfl k_c (ZT)) ?_ ?_
    ·refine ⟨qa,?_⟩
     refine ⟨?_,?_⟩
     ·exact hB.step hf (be0 qo)
     refine H.Z8 [1]<|fun H=>H.drop 1<|fun H=>?_
     exact H
    omega
   ·have h2:=hB.fin LS
    have hh:=FB hc h1 h2
    have hI:Qd m:=⟨fun x hx=>⟨(Ub (Zm.1 (P.ahr x hx)).2).1,abu h1 x hx⟩,fun f hf=>⟨(Ub (Zm.1 (P.R3 f hf)).1).1,abv h2 f hf⟩,aiy,agr,ags⟩
    have C5:KL m:=acF P
    have hE:∀x∈m.elems,∀n∈x.fs,0≤n∧n≤4294967295:=fun x hx n hn=>Ub ((V6.1 (Zm.1 (P.JT x hx)).2).2 n hn)
    rw [hh]
    refine cF (Zl qo)<|aee H<|fun b1=>?_
    intro w3 H
    refine Z9 rfl<|Z4 (H.at 1 rfl) 7 rfl rfl rfl<|Zw XY rfl ?_
    refine YP.rule (α:=Nat × MF × Nat) (0,(fun _=>none),0) (fun x_=>[(54,.int .i64 x_.1)]) (fun x_ w_=>(x_.1≤m.We.length)∧(XJ (ZF m.d) m.We x_.1 x_.2.1)∧Sat g w_ ((Mp b1 x_.2.1 x_.2.2::Pt p1 [m.vt,m.vm,m.vf,.int .i64 m.table,.int .i64 m.pages,.int .i64 m.most,m.vg,m.vx,.int .i64 m.start,m.ve,m.vd] 30::l))) (fun x_=>m.We.length-x_.1) ?_ ?_ ?_
    ·exact k_b
    ·try simp only
     refine ⟨qo,?_⟩
     refine ⟨?_,?_⟩
     ·exact XJ.zero
     exact H
    clear H
    rintro ⟨i3,mf,nm⟩ f_ w_ ⟨C4,hX,H⟩
    try simp only at C4 hX H ⊢
    obtain ⟨sn,C3⟩:=hX.ex
    rcases lEa i3 m.We.length with akx|aky
    ·obtain ⟨x,hx⟩:∃x,m.We[i3]?=some x:=⟨_,laa akx⟩
     have Jv:=lha hx
     have hnb:=Ub (Zm.1 (P.Te x Jv)).2
     cases hty:Xx (ZF m.d) x.2 with
     | none =>
      rw [C3.no hx hty]
      refine cT (Y4 qo)<|bk ?_
      obtain ⟨b2,o1,E1,F1,ZE⟩:=ZZ.Y1 XY hx
      have U7:=ZE.name
      have XR:=ZE.ty
      refine ZJ E1 rfl rfl rfl<|ZA (H.XQ F1) 0 rfl rfl rfl<|ZS H rfl<|fun p2 w4 H=>ZD H 0 rfl rfl rfl rfl<|fun w5 H=>ZA (H.at 2 rfl) 0 rfl rfl rfl<|Z9 rfl<|Z4 (H.at 0 rfl) 1 rfl rfl rfl ?_
      refine Z7.mk (Fc.imp (Valid.typeOf H qa qa _ qo) ?_)
      clear H
      rintro _ w4 ⟨Hu,⟨Kq,⟨q1,⟨rfl,⟨h3,H⟩⟩⟩⟩⟩
      obtain ⟨rfl,rfl,rfl⟩:=TR.Em ‹TR m x.2 _ _ _› hty
      refine ZS H rfl<|fun p3 w6 H=>ZD H 0 rfl rfl rfl rfl<|fun w4 H=>cT rfl<|Z6.mk ?_
      refine ⟨8,?_⟩
      refine ⟨?_,?_⟩
      ·refine int_eq ?_
       omega
      refine ⟨rfl,?_⟩
      refine H.drop 3<|fun H=>H.drop 2<|fun H=>H.drop 1<|fun H=>H.drop 0<|fun H=>?_
      exact H
     | some d =>
      cases It:mf x.1 with
      | none =>
       refine cT (Y4 qo)<|bk ?_
       obtain ⟨b2,o1,E1,F1,ZE⟩:=ZZ.Y1 XY hx
       have U7:=ZE.name
       have XR:=ZE.ty
       refine ZJ E1 rfl rfl rfl<|ZA (H.XQ F1) 0 rfl rfl rfl<|ZS H rfl<|fun p2 w4 H=>ZD H 0 rfl rfl rfl rfl<|fun w5 H=>ZA (H.at 2 rfl) 0 rfl rfl rfl<|Z9 rfl<|Z4 (H.at 0 rfl) 1 rfl rfl rfl ?_
       refine Z7.mk (Fc.imp (Valid.typeOf H qa qa _ qo) ?_)
       clear H
       rintro _ w4 ⟨Hu,⟨Kq,⟨q1,⟨rfl,⟨h3,H⟩⟩⟩⟩⟩
       obtain ⟨rfl,s,hs,rfl,rfl,rfl⟩:=TR.get ‹TR m x.2 _ _ _› hty
       have X5:=(ZZ.all ZP s hs).Zc
       have X4:=(ZZ.all ZP s hs).out
       refine ZS H rfl<|fun p3 w6 H=>ZD H 0 rfl rfl rfl k_J<|fun w4 H=>cF rfl<|Z9 rfl<|Z4 (H.at 1 rfl) 0 rfl rfl rfl<|acw H 2 rfl rfl rfl rfl<|fun mx1 mc1 Iz=>?_
       refine cI (fun c1=>?_) (fun c1=>?_)
       ·refine Z6.mk ?_
        exact akw Iz c1 It
       refine Z9 rfl<|Z4 (H.at 1 rfl) 0 rfl rfl rfl<|acy H 2 rfl rfl rfl<|fun n1 DG=>?_
       intro w6 H
       refine ZX qo ?_
       refine WN.mk ((i3+1,fun x_1=>Decidable.rec (fun h=>(fun x=>mf x_1) h) (fun h=>(fun x=>some (↑i3:Int)) h) (instDecidableEqList x_1 x.fst),n1)) (Zo rfl k_c (ZT)) ?_ ?_
       ·refine ⟨qa,?_⟩
        refine ⟨?_,?_⟩
        ·exact XJ.step hX hx hty It
        refine H.Z8 [3,3]<|fun H=>H.drop 3<|fun H=>H.drop 2<|fun H=>?_
        exact H
       omega
      | some v0 =>
       rw [C3.akv hx hty It]
       refine cT (Y4 qo)<|bk ?_
       obtain ⟨b2,o1,E1,F1,ZE⟩:=ZZ.Y1 XY hx
       have U7:=ZE.name
       have XR:=ZE.ty
       refine ZJ E1 rfl rfl rfl<|ZA (H.XQ F1) 0 rfl rfl rfl<|ZS H rfl<|fun p2 w4 H=>ZD H 0 rfl rfl rfl rfl<|fun w5 H=>ZA (H.at 2 rfl) 0 rfl rfl rfl<|Z9 rfl<|Z4 (H.at 0 rfl) 1 rfl rfl rfl ?_
       refine Z7.mk (Fc.imp (Valid.typeOf H qa qa _ qo) ?_)
       clear H
       rintro _ w4 ⟨Hu,⟨Kq,⟨q1,⟨rfl,⟨h3,H⟩⟩⟩⟩⟩
       obtain ⟨rfl,s,hs,rfl,rfl,rfl⟩:=TR.get ‹TR m x.2 _ _ _› hty
       have X5:=(ZZ.all ZP s hs).Zc
       have X4:=(ZZ.all ZP s hs).out
       refine ZS H rfl<|fun p3 w6 H=>ZD H 0 rfl rfl rfl k_J<|fun w4 H=>cF rfl<|Z9 rfl<|Z4 (H.at 1 rfl) 0 rfl rfl rfl<|acw H 2 rfl rfl rfl rfl<|fun mx1 mc1 Iz=>?_
       refine cI (fun c1=>?_) (fun c1=>?_)
       ·refine Z6.mk ?_
        refine ⟨12,?_⟩
        refine ⟨?_,?_⟩
        ·refine int_eq ?_
         omega
        refine ⟨rfl,?_⟩
        refine H.drop 3<|fun H=>H.drop 2<|fun H=>H.drop 1<|fun H=>H.drop 0<|fun H=>?_
        exact H
       refine Z9 rfl<|Z4 (H.at 1 rfl) 0 rfl rfl rfl<|acy H 2 rfl rfl rfl<|fun n1 DG=>?_
       intro w6 H
       refine ZX qo ?_
       refine WN.mk ((i3+1,fun x_1=>Decidable.rec (fun h=>(fun x=>mf x_1) h) (fun h=>(fun x=>some (↑i3:Int)) h) (instDecidableEqList x_1 x.fst),n1)) (Zo rfl k_c (ZT)) ?_ ?_
       ·exact aeC Iz c1 It
       exact aeC Iz c1 It
    ·rw [C3.fin aky,Wy]
     by_cases hst:0<m.start
     ·cases hty:Xx (ZF m.d) (m.start-1) with
      | none =>
       have Ek:JS (ZF m.d) m.start=8:=by unfold JS;rw [if_pos hst,hty]
       rw [Ek]
       refine cF (Zl qo)<|Z9 rfl<|Z4 (H.at 1 rfl) 8 rfl rfl rfl<|cT (Y4 qa)<|ZA (H.at 1 rfl) 0 rfl rfl rfl<|Z9 rfl<|Z4 (H.at 1 rfl) 8 rfl rfl rfl<|ZX qo ?_
       refine Z7.mk (Fc.imp (Valid.typeOf H qa qa _ qo) ?_)
       clear H
       rintro _ w4 ⟨Hu,⟨Kq,⟨q1,⟨rfl,⟨h3,H⟩⟩⟩⟩⟩
       obtain ⟨rfl,rfl,rfl⟩:=TR.Em ‹TR m (m.start-1) _ _ _› hty
       refine ZS H rfl<|fun p2 w5 H=>ZD H 0 rfl rfl rfl rfl<|fun w4 H=>cT rfl<|Z6.mk ?_
       refine ⟨8,?_⟩
       refine ⟨?_,?_⟩
       ·refine int_eq ?_
        omega
       refine ⟨rfl,?_⟩
       refine H.drop 2<|fun H=>H.drop 1<|fun H=>H.drop 0<|fun H=>?_
       exact H
      | some d =>
       have Ek:JS (ZF m.d) m.start=if 0<d.Zc.length+d.out.length then 10 else 0:=by unfold JS;rw [if_pos hst,hty]
       rw [Ek]
       refine cF (Zl qo)<|Z9 rfl<|Z4 (H.at 1 rfl) 8 rfl rfl rfl<|cT (Y4 qa)<|ZA (H.at 1 rfl) 0 rfl rfl rfl<|Z9 rfl<|Z4 (H.at 1 rfl) 8 rfl rfl rfl<|ZX qo ?_
       refine Z7.mk (Fc.imp (Valid.typeOf H qa qa _ qo) ?_)
       clear H
       rintro _ w4 ⟨Hu,⟨Kq,⟨q1,⟨rfl,⟨h3,H⟩⟩⟩⟩⟩
       obtain ⟨rfl,s,hs,rfl,rfl,rfl⟩:=TR.get ‹TR m (m.start-1) _ _ _› hty
       have X5:=(ZZ.all ZP s hs).Zc
       have X4:=(ZZ.all ZP s hs).out
       have anQ:=C5.Zc s hs
       have anR:=C5.out s hs
       simp only [Xy.d]
       refine ZS H rfl<|fun p2 w5 H=>ZD H 0 rfl rfl rfl k_J<|fun w4 H=>cF rfl<|Z9 rfl<|Z4 (H.at 0 rfl) 0 rfl rfl rfl<|Zw X5 rfl<|Z9 rfl<|Z4 (H.at 0 rfl) 1 rfl rfl rfl<|Zw X4 rfl<|ZX qo ?_
       refine cI (fun c1=>?_) (fun c1=>?_)
       ·replace c1:=Yx (c1)
        refine Z6.mk ?_
        refine ⟨10,?_⟩
        refine ⟨?_,?_⟩
        ·refine int_eq ?_
         omega
        refine ⟨?_,?_⟩
        ·exact amO c1
        refine H.drop 2<|fun H=>H.drop 1<|fun H=>H.drop 0<|fun H=>?_
        exact H
       replace c1:=Yw (c1)
       refine ZA (H.at 2 rfl) 0 rfl rfl rfl ?_
       refine Z7.mk (Fc.imp (Valid.parts H qa qa qa) ?_)
       clear H
       rintro _ w5 ⟨e2,⟨rfl,⟨h4,H⟩⟩⟩
       refine Z6.mk ?_
       refine ⟨e2,?_⟩
       refine ⟨?_,?_⟩
       ·refine int_eq ?_
        omega
       refine ⟨?_,?_⟩
       ·exact amP c1 qa
       refine H.drop 2<|fun H=>H.drop 1<|fun H=>H.drop 0<|fun H=>?_
       exact H
     ·have Ek:JS (ZF m.d) m.start=0:=if_neg hst
      rw [Ek,Wy]
      refine cF (Zl qo)<|Z9 rfl<|Z4 (H.at 1 rfl) 8 rfl rfl rfl<|cF (Zl qo)<|ZA (H.at 1 rfl) 0 rfl rfl rfl ?_
      refine Z7.mk (Fc.imp (Valid.parts H qa qa qa) ?_)
      clear H
      rintro _ w4 ⟨e2,⟨rfl,⟨h3,H⟩⟩⟩
      refine Z6.mk ?_
      refine ⟨e2,?_⟩
      refine ⟨?_,?_⟩
      ·refine int_eq ?_
       omega
      refine ⟨qa,?_⟩
      refine H.drop 1<|fun H=>H.drop 0<|fun H=>?_
      exact H
 ·refine ZH H<|fun p1 w1 H=>ZA (H.at 0 rfl) 0 rfl rfl rfl ?_
  refine Z7.mk (Fc.imp (YQ.check H qa _ qa) ?_)
  clear H
  rintro _ w2 ⟨⟨e1,⟨rfl,h1⟩⟩,H⟩
  refine cT (Vg qo)<|Z6.mk ?_
  refine ⟨e1,?_⟩
  refine ⟨?_,?_⟩
  ·refine int_eq ?_
   omega
  refine ⟨?_,?_⟩
  ·exact hd1 hc qa
  refine H.drop 0<|fun H=>?_
  exact H
end
end Valid
namespace Valid
open Go YZ Go.RowKit
open YS Zk XV YQ
section
variable {g:Zv} {w:World} {l:List As} {pc:Nat} {m:Y9} {vl vs vo:Value} {st:List Int} {op:List ZK} {b:Int}
theorem UF (h:Vf m.d=0):Pn m.d=0∧Qd m∧KL m:=by
 unfold Vf at h
 obtain ⟨hc,h⟩:=Zm.1 h
 obtain ⟨h1,h⟩:=Zm.1 h
 obtain ⟨h2,_⟩:=Zm.1 h
 rw [LR] at h1
 rw [JQ] at h2
 have P:=U4 hc
 exact ⟨hc,⟨fun x hx=>⟨(Ub (Zm.1 (P.ahr x hx)).2).1,abu h1 x hx⟩,fun f hf=>⟨(Ub (Zm.1 (P.R3 f hf)).1).1,abv h2 f hf⟩,P.ZB,P.funcs,P.types⟩,acF P⟩
theorem QJ:Yb (Tg (ZF m.d)) m.d.funcs=Yb (fun f:YA=>Tg (ZF m.d) f.d) m.funcs:=by
 show Yb _ (m.funcs.map YA.d)=_
 rw [Qi]
theorem mo1 {e:Int} (h:e=Vf m.d) (he:e≠0):e=Wq m.d:=by
 unfold Wq;rw [SM _ (h ▸ he)];exact h
theorem mo2 {i:Nat} {f:YA} {e:Int} (h0:Vf m.d=0) (h:AI (fun f:YA=>Tg (ZF m.d) f.d) m.funcs i) (hf:m.funcs[i]?=some f) (h1:e=Tg (ZF m.d) f.d) (he:e≠0):e=Wq m.d:=by
 unfold Wq;rw [h0,Wy,QJ,h.bad hf (h1 ▸ he)];exact h1
theorem mo3 {i:Nat} (h0:Vf m.d=0) (h:AI (fun f:YA=>Tg (ZF m.d) f.d) m.funcs i) (hi:m.funcs.length≤i):0=Wq m.d:=by
 unfold Wq;rw [h0,Wy,QJ,h.fin hi]
theorem LQ (H:Sat g w l) (hT:NX g) (hm:XF g m):Fc Tryz.prog 42 #[.agg #[m.vt,m.vm,m.vf,.int .i64 m.table,.int .i64 m.pages,.int .i64 m.most,m.vg,m.vx,.int .i64 m.start,m.ve,m.vd]] w (fun r w'=>∃e,r=.int .i64 e∧e=Wq m.d∧Sat g w' l):=by
 have ZW:=hm.funcs
 have hlf:=VS.len ZW
 refine Fc.of Tryz.func42 rfl k_i ?_
 by_cases h0:Vf m.d=0
 ·obtain ⟨hc,hI,hS⟩:=UF h0
  have P:=U4 hc
  refine ZH H<|fun p1 w1 H=>ZA (H.at 0 rfl) 0 rfl rfl rfl ?_
  refine Z7.mk (Fc.imp (Valid.head H qa qa) ?_)
  clear H
  rintro _ w2 ⟨e1,⟨rfl,⟨h1,H⟩⟩⟩
  refine cF (WG qo)<|Z9 rfl<|Z4 (H.at 0 rfl) 2 rfl rfl rfl<|Zw ZW rfl ?_
  refine YP.rule (α:=Nat) (0) (fun x_=>[(15,.int .i64 x_)]) (fun x_ w_=>(x_≤m.funcs.length)∧(AI (fun f:YA=>Tg (ZF m.d) f.d) m.funcs x_)∧Sat g w_ ((Pt p1 [m.vt,m.vm,m.vf,.int .i64 m.table,.int .i64 m.pages,.int .i64 m.most,m.vg,m.vx,.int .i64 m.start,m.ve,m.vd] 30::l))) (fun x_=>m.funcs.length-x_) ?_ ?_ ?_
  ·exact k_b
  ·try simp only
   refine ⟨qo,?_⟩
   refine ⟨?_,?_⟩
   ·exact AI.zero
   exact H
  clear H
  rintro i f_ w_ ⟨hi,hA,H⟩
  try simp only at hi hA H ⊢
  rcases lEa i m.funcs.length with hlt|hge
  ·obtain ⟨f,hf⟩:∃f,m.funcs[i]?=some f:=⟨_,laa hlt⟩
   have Ir:=P.R3 f (lha hf)
   have hcb:Yp (f.body.map Za.d)=0:=(Zm.1 (Zm.1 Ir).2).2
   have hfl:f.loc.length≤16:=by
    have:=(V6.1 (Zm.1 (Zm.1 Ir).2).1).1
    simp only [YA.d] at this
    omega
   refine cT (Y4 qo)<|bk<|ZA (H.at 0 rfl) 0 rfl rfl rfl ?_
   refine Z7.mk (Fc.imp (Valid.aiv H qa qa qa (i) _ hf qa qa) ?_)
   clear H
   rintro _ w3 ⟨i1,⟨e2,⟨rfl,⟨h2,H⟩⟩⟩⟩
   refine cI (fun c1=>?_) (fun c1=>?_)
   ·replace c1:=Ye (c1)
    refine Z6.mk ?_
    refine ⟨e2,?_⟩
    refine ⟨?_,?_⟩
    ·refine int_eq ?_
     omega
    refine ⟨?_,?_⟩
    ·exact mo2 h0 hA hf qa qa
    refine H.drop 0<|fun H=>?_
    exact H
   replace c1:=Yd (c1)
   refine ZX qo ?_
   refine WN.mk (i+1) (Zo rfl k_c (ZT)) ?_ ?_
   ·refine ⟨qa,?_⟩
    refine ⟨?_,?_⟩
    ·exact hA.step hf qo
    exact H
   omega
  ·refine cF (Zl qo)<|Z6.mk ?_
   refine ⟨0,?_⟩
   refine ⟨?_,?_⟩
   ·refine int_eq ?_
    omega
   refine ⟨?_,?_⟩
   ·exact mo3 h0 hA hge
   refine H.drop 0<|fun H=>?_
   exact H
 ·refine ZH H<|fun p1 w1 H=>ZA (H.at 0 rfl) 0 rfl rfl rfl ?_
  refine Z7.mk (Fc.imp (Valid.head H qa qa) ?_)
  clear H
  rintro _ w2 ⟨e1,⟨rfl,⟨h1,H⟩⟩⟩
  refine cT (Vg qo)<|Z6.mk ?_
  refine ⟨e1,?_⟩
  refine ⟨?_,?_⟩
  ·refine int_eq ?_
   omega
  refine ⟨?_,?_⟩
  ·exact mo1 qa qo
  refine H.drop 0<|fun H=>?_
  exact H
end
end Valid
namespace YQ
open Go YZ Go.RowKit
open YS Zk XV
section
variable {g g':Zv}
theorem Wd.ext {x:Xy} (h:Wd g x) (E:Ext g g'):Wd g' x:=⟨h.Zc.ext E,h.out.ext E⟩
theorem US.ext {x:YA} (h:US g x) (E:Ext g g'):US g' x:=⟨h.ty,h.loc.ext E,ZZ.UU (ok:=okV) (fun _ _ _ h E=>h.ext E) h.body E⟩
theorem M7.ext {x:SL} (h:M7 g x) (E:Ext g g'):M7 g' x:=⟨h.pl,h.fs.ext E⟩
theorem XF.ext {m:Y9} (h:XF g m) (E:Ext g g'):XF g' m :=
 ⟨ZZ.UU (ok:=Wd) (fun _ _ _ h E=>h.ext E) h.types E,h.ZB.ext E,ZZ.UU (ok:=US) (fun _ _ _ h E=>h.ext E) h.funcs E,h.table,h.pages,h.most,h.globals.ext E,h.We.ext E,h.start,ZZ.UU (ok:=M7) (fun _ _ _ h E=>h.ext E) h.elems E,h.data.ext E⟩
theorem aeD (h:XV.NX g) (E:Ext g g'):XV.NX g':=fun w l H=>h w l (H.forget E)
end
end YQ
namespace Valid
open Go YZ Go.RowKit
open YS Zk XV YQ
section
variable {g:Zv} {w:World} {l:List As}
structure SR (m:Y9) (a k x y:Int) (b:Bool):Prop where
 yes:b=true→Wq m.d=0∧0<m.funcs.length∧x=a % m.funcs.length∧∃f,m.funcs[x.toNat]?=some f∧y=k % f.body.length
 no:b=false→Wq m.d≠0∨m.funcs.length=0
theorem SR.mkN {m:Y9} {a k x y:Int} (h:Wq m.d≠0∨m.funcs.length=0):SR m a k x y false:=⟨nofun,fun _=>h⟩
theorem SR.C8 {m:Y9} {a k:Int} {f:YA} (h:Wq m.d=0) (hl:0<m.funcs.length) (hf:m.funcs[(a % m.funcs.length).toNat]?=some f):SR m a k (a % m.funcs.length) (k % f.body.length) true:=⟨fun _=>⟨h,hl,rfl,f,hf,rfl⟩,nofun⟩
theorem Xb {m:Y9} (h:Wq m.d=0):Vf m.d=0∧∀f∈m.funcs,Tg (ZF m.d) f.d=0:=by
 unfold Wq at h
 obtain ⟨h1,h2⟩:=Zm.1 h
 rw [QJ] at h2
 exact ⟨h1,UH.1 h2⟩
end
end Valid
namespace Valid
open Go YZ Go.RowKit
open YS Zk XV YQ
structure Ej (E E':Yj):Prop where
 types:∃ts,E'.types=E.types++ts
 ZB:E'.ZB=E.ZB
 M5:E'.M5=E.M5
 globals:∃gs,E'.globals=E.globals++gs
 table:E'.table=E.table
 most:E'.most=E.most
section
variable {E E':Yj} {L ks:List Int} {c:Ck} {n:Int}
theorem adm {e:Int} (he:e≠0):(YO c e).bad≠0:=by
 unfold YO
 split
 ·exact he
 ·assumption
theorem Ej.QO (W:Ej E E'):QO E' n=QO E n:=by
 unfold Valid.QO;rw [W.ZB,W.M5]
theorem Ej.Xx {d:Xm} (W:Ej E E') (h:Xx E n=some d):Xx E' n=some d:=by
 obtain ⟨ts,ht⟩:=W.types
 unfold Valid.Xx at *
 rw [W.QO]
 cases hk:Valid.QO E n with
 | none=>rw [hk] at h;cases h
 | some k =>
  rw [hk] at h
  simp only [Option.bind_some] at h ⊢
  rw [ht,loa (lca.1 h).1];exact h
theorem abw {α:Type} {l r:List α} {i:Nat} {z:α} (h:i<l.length):(l++r).getD i z=l.getD i z:=by
 rw [lea,lea,loa h]
end
structure akz (m n:Yf):Prop where
 types:∃ts,n.types=m.types++ts
 ZB:n.ZB=m.ZB
 tys:n.funcs.map (·.ty)=m.funcs.map (·.ty)
 funcs:∀f'∈n.funcs,∃f∈m.funcs,∃ks,f'.ty=f.ty∧f'.body=f.body∧f'.loc=f.loc++ks
 table:n.table=m.table
 most:n.most=m.most
 globals:∃gs,n.globals=m.globals++gs
 We:n.We=m.We
 start:n.start=m.start
 elems:n.elems=m.elems
 data:n.data=m.data
theorem akz.wid {m n:Yf} (h:akz m n):Ej (ZF m) (ZF n) :=
 ⟨h.types,by unfold ZF;simp only;rw [h.ZB],h.tys,h.globals,h.table,h.most⟩
end Valid
namespace Valid
open Go YZ Go.RowKit
open YS Zk XV YQ
def Vr (a b:Int):Prop:=a=b∨(a=0∧b≠64)
theorem Vr.zero {a b:Int} (h:Vr a b) (hb:b=0):a=0:=by
 rcases h with h|h
 ·exact h.trans hb
 ·exact h.1
theorem Vr.ne {a b:Int} (h:Vr a b) (ha:a≠0):a=b:=by
 rcases h with h|h
 ·exact h
 ·exact absurd h.1 ha
inductive Sg:List Int→List Int→Prop
 | nil (w:List Int):(∀x∈w,x≠64)→Sg [] w
 | snoc {u' u:List Int} {a b:Int}:Sg u' u→Vr a b→b≠64→Sg (u'++[a]) (u++[b])
def DF (a b:Int):Prop:=(a=3↔b=3)∧(a=4→b=4)
theorem DF.refl (a:Int):DF a a:=⟨Iff.rfl,id⟩
structure Pr (p' p:ZK) (b' b:Nat) (u' u:List Int):Prop where
 op:DF p'.op p.op
 kind:p'.kind=p.kind
 base':p'.base=b'
 base:p.base=b
 dead:p.dead=true→p'.dead=true
 seg:Sg u' u
 len:p'.dead=false→u'.length=u.length
inductive Rel (pre:List ZK) (K:Int):List ZK→List Int→List ZK→List Int→Prop
 | nil:Rel pre K pre [] [] []
 | snoc {o' o:List ZK} {s' s:List Int} {p' p:ZK} {u' u:List Int}:Rel pre K o' s' o s→Pr p' p s'.length s.length u' u→(o=[]→p.kind=K)→Rel pre K (o'++[p']) (s'++u') (o++[p]) (s++u)
section
variable {E:Yj} {L:List Int} {c c':Ck} {pre:List ZK} {K:Int}
theorem acG {e:Int} (h:(YO c e).bad=0):c.bad=0:=by
 unfold YO at h
 split at h
 ·assumption
 ·exact h
theorem Yi {e:Int} (he:e≠0) (h:(YO c e).bad=0):False:=adm he h
theorem VE (k:Int):(XN c k).bad=c.bad:=by unfold XN;split <;> rfl
theorem WW {k:Int} (h:(Zj c k).1.bad=0):c.bad=0:=by
 unfold Zj at h
 split at h
 ·exact h
 ·split at h
  ·simp only at h
   split at h
   ·exact h
   ·exact acG h
  ·simp only at h
   split at h
   ·exact h
   ·split at h
    ·exact acG (c:={ c with stack:=c.stack.take (c.stack.length-1) }) h
    ·exact h
theorem abx {l:List Int} (h:(Xw c l).bad=0):c.bad=0:=by
 induction l with
 | nil=>exact h
 | cons k r ih=>exact ih (WW h)
theorem Ua (l:List Int):∀c:Ck,(W4 c l).bad=c.bad:=by
 induction l with
 | nil=>intro c;rfl
 | cons k r ih=>intro c;rw [W4,ih,VE]
theorem Tw {n:Int} (h:(YV c n).1.bad=0):c.bad=0∧n<c.Zp.length∧YV c n=(c,c.Zp.getD (c.Zp.length-1-n.toNat) pz):=by
 unfold YV at h ⊢
 split at h
 ·exact (Yi (by decide) h).elim
 ·rename_i hn
  rw [if_neg hn]
  exact ⟨h,by omega,rfl⟩
theorem Sg.len {u' u:List Int} (h:Sg u' u):u'.length≤u.length:=by
 induction h with
 | nil w _=>simp
 | snoc _ _ _ ih=>simp;exact ih
theorem Sg.ne {u' u:List Int} (h:Sg u' u):∀x∈u,x≠64:=by
 induction h with
 | nil w hw=>exact hw
 | snoc _ _ hb ih =>
  intro x hx
  rcases lFa.1 hx with hx|hx
  ·exact ih x hx
  ·rw [lta.1 hx];exact hb
theorem Rel.lens {o' o:List ZK} {s' s:List Int} (h:Rel pre K o' s' o s):o'.length=pre.length+o.length:=by
 induction h with
 | nil=>simp
 | snoc _ _ _ ih=>simp [ih];omega
theorem aau {α:Type} (l r:List α) (z:α):(l++r).getD l.length z=r.getD 0 z:=by
 rw [lea,lea,lsa (lra _),lqb]
theorem Rel.get {o' o:List ZK} {s' s:List Int} (h:Rel pre K o' s' o s):∀i,i<o.length→DF (o'.getD (pre.length+i) pz).op (o.getD i pz).op∧(o'.getD (pre.length+i) pz).kind=(o.getD i pz).kind:=by
 induction h with
 | nil=>intro i hi;simp at hi
 | snoc hr hp hk ih =>
  intro i hi
  have hl:=hr.lens
  rename_i o' o s' s p' p u' u
  by_cases h:i<o.length
  ·rw [abw qo,abw h];exact ih i h
  ·have hi:i=o.length:=by simp at hi;omega
   subst hi
   rw [←hl,aau,aau]
   exact ⟨hp.op,hp.kind⟩
theorem Rz {o:List ZK} {p:ZK} (h:c.Zp=o++[p]):WS c=p:=by
 unfold WS;rw [h];simp [List.getD_eq_getElem?_getD]
theorem Pg {α:Type} (l:List α) (x:α):(l++[x]).take ((l++[x]).length-1)=l:=by simp
theorem adn (l:List Int) (x z:Int):(l++[x]).getD ((l++[x]).length-1) z=x:=by simp [List.getD_eq_getElem?_getD]
theorem acj {k:Int} {p:ZK} (U2:k≠64) (ht:WS c=p) (hl:c.stack.length=p.base):Zj c k=(if p.dead=true then c else YO c 10,k):=by
 unfold Zj;rw [if_neg U2,ht,if_pos hl]
theorem ado {k x:Int} {p:ZK} {l:List Int} (U2:k≠64) (ht:WS c=p) (hs:c.stack=l++[x]) (hl:c.stack.length≠p.base):Zj c k=if x=0 then ({ c with stack:=l },k) else if k≠0∧x≠k then (YO { c with stack:=l } 10,x) else ({ c with stack:=l },x):=by
 unfold Zj;rw [if_neg U2,ht,if_neg hl]
 simp only [hs,adn,Pg]
theorem aeE (s u:List Int):(s++u).take s.length=s:=by simp
theorem aeF (o:List ZK) (p q:ZK):(o++[p]).set ((o++[p]).length-1) q=o++[q]:=by simp
theorem agt {o:List ZK} {p:ZK} {s u:List Int} (e1:c.Zp=o++[p]) (hb:p.base=s.length) (e2:c.stack=s++u):U6 c={ stack:=s,Zp:=o++[{ p with dead:=true }],bad:=c.bad }:=by
 have h1:c.stack.take p.base=s:=by rw [e2,hb,aeE]
 unfold U6
 rw [Rz e1,h1,e1,aeF]
theorem LP {a:Int} (h:(UG c a).bad=0):(YV c a).1.bad=0:=by
 unfold UG at h
 split at h
 ·assumption
 ·exact h
theorem SJ (k:Int):∀(l:List Int) (s:Ck × Bool),(XD k l s).1.bad=0→s.1.bad=0
 | [],_,h=>h
 | n::r,s,h=>(Tw (SJ k r _ h)).1
end
end Valid
namespace Valid
open Go YZ Go.RowKit
open YS Zk XV YQ
section
variable {E:Yj} {L:List Int} {c c':Ck} {pre:List ZK} {K:Int}
theorem aaJ {x:ZU} {r:List ZU} (h:(V4 E L (x::r) c).bad=0):(Y2 E L c x).bad=0∧V4 E L (x::r) c=V4 E L r (Y2 E L c x):=by
 rw [V4] at h ⊢
 by_cases hc:(Y2 E L c x).bad≠0
 ·rw [if_pos hc] at h;exact absurd h hc
 ·rw [if_neg hc];exact ⟨Decidable.of_not_not hc,rfl⟩
theorem agu {x:ZU} {r:List ZU} (h:(Y2 E L c x).bad=0):V4 E L (x::r) c=V4 E L r (Y2 E L c x):=by
 rw [V4,if_neg (by rw [h];simp)]
theorem aby {r:List ZU}:∀(l:List ZU) (c:Ck),(V4 E L l c).bad=0→V4 E L (l++r) c=V4 E L r (V4 E L l c)
 | [],_,_=>rfl
 | x::l,c,h=>by
  obtain ⟨h1,h2⟩:=aaJ h
  rw [h2] at h ⊢
  rw [lOa,agu h1]
  exact aby l _ h
theorem aeG {st:NS} {k:Nat} {x:ZU} (ho:st.over=false) (hN:Gu st) (hl:c.Zp.length=st.op.length) (hn:(Zs st x.op k).2.2=0) (hb:(Y2 E L c x).bad=0):(Y2 E L c x).Zp.length=(Zs st x.op k).1.op.length:=by
 have hp:=hN.pos ho
 rw [abr E L c x qo hb,abt ho _ _ hn hp,hl]
end
section
variable {m:Yf} {fs:List Qh}
end
end Valid
end Go.Proofs.YtakpnepblgfknaaGreatDoor
