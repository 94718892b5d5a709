/- Texts of this claim, one behind the other. -/
import Derived.Test.YtakpnepblgfknaaGreatDoorM8
import Derived.Test.YtakpnepblgfknaaGreatDoorM7
import Derived.Test.YtakpnepblgfknaaGreatDoorM4
import Derived.Test.YtakpnepblgfknaaGreatDoorM11
import Derived.Test.YtakpnepblgfknaaGreatDoorM3
import Derived.Test.YtakpnepblgfknaaGreatDoorM10
import Derived.Test.YtakpnepblgfknaaGreatDoorM9
import Derived.Test.YtakpnepblgfknaaGreatDoorM6
import Derived.Lib.LaidTab
import Derived.Test.YtakpnepblgfknaaGreatDoorM2
import Derived.Test.YtakpnepblgfknaaGreatDoorTie
import Derived.SevenTiedAt
import Derived.Lib.LaidU8T
import Derived.LaidMore
import Derived.Lay
import Derived.JoinedCond
import Derived.Stop.LaidErr
set_option maxRecDepth 100000
set_option maxHeartbeats 4000000
set_option linter.unusedVariables false
set_option linter.unusedSimpArgs false
set_option linter.defProp false
namespace Go.Proofs.YtakpnepblgfknaaGreatDoor
namespace Rn
open Go YZ Go.RowKit
open YS Zk XV YQ Valid
theorem Sa {α β:Type} {f:α→β} {ys:List α} {i:Nat} {y y2:α} (h:ys[i]?=some y) (hd:f y2=f y):(ys.set i y2).map f=ys.map f:=by
 rw [List.map_set,hd]
 refine lJa fun j=>?_
 rw [lPa]
 by_cases e:i=j
 ·subst e
  have hl:=(lca.1 h).1
  rw [if_pos rfl,if_pos (by rw [lia0];exact hl),lva,h];rfl
 ·rw [if_neg e]
theorem Ln {α:Type} {ys:List α} {i:Nat} {y2:α} {ok:α→Prop} (h:∀y∈ys,ok y) (h2:ok y2):∀y∈ys.set i y2,ok y:=by
 intro y hy
 rcases List.mem_or_eq_of_mem_set hy with h3|h3
 ·exact h y h3
 ·rw [h3];exact h2
theorem Lm {α β:Type} {f:α→β} {xs ys:List α} {i:Nat} {y:α} (hd:ys.map f=xs.map f) (hy:ys[i]?=some y):∃x,xs[i]?=some x∧x∈xs∧f y=f x:=by
 have h9:=congrArg (fun z=>z[i]?) hd
 simp only [List.getElem?_map,hy,Option.map_some] at h9
 obtain ⟨x,h1,h2⟩:=Option.map_eq_some_iff.1 h9.symm
 exact ⟨x,h1,lha h1,h2.symm⟩
theorem abN {g g':Zv} {x:Xy} (h:Wd g x) (E:Ext g g'):Wd g' x:=⟨h.Zc.ext E,h.out.ext E⟩
theorem abO {g g':Zv} {x:YA} (h:US g x) (E:Ext g g'):US g' x:=⟨h.ty,h.loc.ext E,ZZ.UU (ok:=okV) (fun _ _ _ h E=>h.ext E) h.body E⟩
section
variable {g:Zv} {w:World} {l:List As} {m:Y9}
theorem Ox {α:Type} {e:TypeId} {s:Nat} {en:α→List Value} {u:Value} {xs:List α} (H:Sat g w (Sl e s en u xs::l)):∃a c,u=.slice a xs.length c∧Sat g w (Sl e s en (.slice a xs.length c) xs::l):=by
 obtain ⟨a,c,rfl⟩:=H.form 0 rfl
 exact ⟨a,c,rfl,H⟩
theorem aly (H:Sat g w l) (v:Value) (xs:List Xy) (hx:ZZ g Pm (Wd g) 2 v xs) (hl:xs.length≤1000):Fc Tryz.prog 134 #[v] w (fun u w'=>Sat g w' (Sl 104 2 Pm u xs::l)):=by
 have Gj:∀y∈xs,((Pm y).all (·.oneCell'))=true:=fun y h=>by have o:=ZZ.all hx y h;simp only [Pm,List.all_cons,List.all_nil,ZZ.one o.Zc,ZZ.one o.out];rfl
 refine Fc.of Tryz.func134 rfl k_i ?_
 rcases ZZ.Sz hx with ⟨M0,MZ⟩|⟨b1,c1,V1⟩
 ·subst M0
  subst MZ
  refine Xp rfl<|cT rfl<|Z6.mk ?_
  replace H:=H.UK (en:=Pm) (s:=2) (104) (fun _=>rfl)
  exact H
 subst V1
 refine Xp rfl<|cF rfl<|ZY H rfl rfl rfl rfl<|fun p1 w1 H=>H.WI (n:=0) (en:=Pm) (s:=2) 0 rfl [] rfl rfl (fun _=>rfl) rfl<|fun H=>Uo 48 H 0 rfl (H.rd hx) qa rfl rfl rfl k_a k_a<|fun v1=>?_
 intro w2 H
 refine Z6.mk ?_
 exact H
theorem alz (H:Sat g w l) (v:Value) (xs:List (List UInt8 × Int)) (hx:ZZ g Uf R9 2 v xs) (hl:xs.length≤1000):Fc Tryz.prog 135 #[v] w (fun u w'=>Sat g w' (Sl 125 2 Uf u xs::l)):=by
 refine Fc.of Tryz.func135 rfl k_i ?_
 rcases ZZ.Sz hx with ⟨M0,MZ⟩|⟨b1,c1,V1⟩
 ·subst M0
  subst MZ
  refine Xp rfl<|cT rfl<|Z6.mk ?_
  replace H:=H.UK (en:=Uf) (s:=2) (125) (fun _=>rfl)
  exact H
 subst V1
 refine Xp rfl<|cF rfl<|ZY H rfl rfl rfl rfl<|fun p1 w1 H=>H.WI (n:=0) (en:=Uf) (s:=2) 0 rfl [] rfl rfl (fun _=>rfl) rfl<|fun H=>Uo 24 H 0 rfl (H.rd hx) (fun y _=>rfl) rfl rfl rfl k_a k_a<|fun v1=>?_
 intro w2 H
 refine Z6.mk ?_
 exact H
theorem alA (H:Sat g w l) (v:Value) (xs:List (List UInt8 × Int)) (hx:ZZ g Uf R9 2 v xs) (hl:xs.length≤1000):Fc Tryz.prog 137 #[v] w (fun u w'=>Sat g w' (Sl 129 2 Uf u xs::l)):=by
 refine Fc.of Tryz.func137 rfl k_i ?_
 rcases ZZ.Sz hx with ⟨M0,MZ⟩|⟨b1,c1,V1⟩
 ·subst M0
  subst MZ
  refine Xp rfl<|cT rfl<|Z6.mk ?_
  replace H:=H.UK (en:=Uf) (s:=2) (129) (fun _=>rfl)
  exact H
 subst V1
 refine Xp rfl<|cF rfl<|ZY H rfl rfl rfl rfl<|fun p1 w1 H=>H.WI (n:=0) (en:=Uf) (s:=2) 0 rfl [] rfl rfl (fun _=>rfl) rfl<|fun H=>Uo 24 H 0 rfl (H.rd hx) (fun y _=>rfl) rfl rfl rfl k_a k_a<|fun v1=>?_
 intro w2 H
 refine Z6.mk ?_
 exact H
theorem alB (H:Sat g w l) (v:Value) (xs:List (Int × Bool × Int)) (hx:ZZ g OV LY 3 v xs) (hl:xs.length≤1000):Fc Tryz.prog 136 #[v] w (fun u w'=>Sat g w' (Sl 99 3 OV u xs::l)):=by
 refine Fc.of Tryz.func136 rfl k_i ?_
 rcases ZZ.Sz hx with ⟨M0,MZ⟩|⟨b1,c1,V1⟩
 ·subst M0
  subst MZ
  refine Xp rfl<|cT rfl<|Z6.mk ?_
  replace H:=H.UK (en:=OV) (s:=3) (99) (fun _=>rfl)
  exact H
 subst V1
 refine Xp rfl<|cF rfl<|ZY H rfl rfl rfl rfl<|fun p1 w1 H=>H.WI (n:=0) (en:=OV) (s:=3) 0 rfl [] rfl rfl (fun _=>rfl) rfl<|fun H=>Uo 16 H 0 rfl (H.rd hx) (fun y _=>rfl) rfl rfl rfl k_a k_a<|fun v1=>?_
 intro w2 H
 refine Z6.mk ?_
 exact H
theorem Fg (H:Sat g w l) (v:Value) (xs:List Int) (hx:ZZ g YL U8 1 v xs) (hl:xs.length≤1000):Fc Tryz.prog 119 #[v] w (fun u w'=>∃a c,u=.slice a xs.length c∧Sat g w' (Sl 97 1 YL (.slice a xs.length c) xs::l)):=by
 refine Fc.of Tryz.func119 rfl k_i ?_
 rcases ZZ.Sz hx with ⟨M0,MZ⟩|⟨b1,c1,V1⟩
 ·subst M0
  subst MZ
  refine Xp rfl<|cT rfl<|Z6.mk ?_
  refine ⟨none,0,?_⟩
  refine ⟨rfl,?_⟩
  replace H:=H.UK (en:=YL) (s:=1) (97) (fun _=>rfl)
  exact H
 subst V1
 refine Xp rfl<|cF rfl<|ZY H rfl rfl rfl rfl<|fun p1 w1 H=>H.WI (n:=0) (en:=YL) (s:=1) 0 rfl [] rfl rfl (fun _=>rfl) rfl<|fun H=>Uo 1 H 0 rfl (H.rd hx) (fun y _=>rfl) rfl rfl rfl k_a k_a<|fun v1=>?_
 intro w2 H
 refine Z6.mk ?_
 exact Ox H
theorem anw (H:Sat g w l) (v:Value) (xs:List Int) (hx:ZZ g ZG Us 1 v xs) (hl:xs.length≤1000):Fc Tryz.prog 101 #[v] w (fun u w'=>∃a c,u=.slice a xs.length c∧Sat g w' (Sl 3 1 ZG (.slice a xs.length c) xs::l)):=by
 refine Fc.of Tryz.func101 rfl k_i ?_
 rcases ZZ.Sz hx with ⟨M0,MZ⟩|⟨b1,c1,V1⟩
 ·subst M0
  subst MZ
  refine Xp rfl<|cT rfl<|Z6.mk ?_
  refine ⟨none,0,?_⟩
  refine ⟨rfl,?_⟩
  replace H:=H.UK (en:=ZG) (s:=1) (3) (fun _=>rfl)
  exact H
 subst V1
 refine Xp rfl<|cF rfl<|ZY H rfl rfl rfl rfl<|fun p1 w1 H=>H.WI (n:=0) (en:=ZG) (s:=1) 0 rfl [] rfl rfl (fun _=>rfl) rfl<|fun H=>Uo 8 H 0 rfl (H.rd hx) (fun y _=>rfl) rfl rfl rfl k_a k_a<|fun v1=>?_
 intro w2 H
 refine Z6.mk ?_
 exact Ox H
theorem alC (H:Sat g w l) (v:Value) (xs:List YA) (hx:ZZ g Pk (US g) 3 v xs) (hl:xs.length≤1000):Fc Tryz.prog 138 #[v] w (fun u w'=>Sat g w' (Sl 107 3 Pk u xs::l)):=by
 have Gj:∀y∈xs,((Pk y).all (·.oneCell'))=true:=fun y h=>by have o:=ZZ.all hx y h;simp only [Pk,List.all_cons,List.all_nil,ZZ.one o.loc,ZZ.one o.body];rfl
 refine Fc.of Tryz.func138 rfl k_i ?_
 rcases ZZ.Sz hx with ⟨M0,MZ⟩|⟨b1,c1,V1⟩
 ·subst M0
  subst MZ
  refine Xp rfl<|cT rfl<|Z6.mk ?_
  replace H:=H.UK (en:=Pk) (s:=3) (107) (fun _=>rfl)
  exact H
 subst V1
 refine Xp rfl<|cF rfl<|ZY H rfl rfl rfl rfl<|fun p1 w1 H=>H.WI (n:=0) (en:=Pk) (s:=3) 0 rfl [] rfl rfl (fun _=>rfl) rfl<|fun H=>Uo 56 H 0 rfl (H.rd hx) qa rfl rfl rfl k_a k_a<|fun v1=>?_
 intro w2 H
 refine Z6.mk ?_
 exact H
theorem anx (H:Sat g w l) (v:Value) (xs:List Za) (hx:ZZ g Kr (okV g) 4 v xs) (hl:xs.length≤1000):Fc Tryz.prog 139 #[v] w (fun u w'=>∃a c,u=.slice a xs.length c∧Sat g w' (Sl 196 4 Kr (.slice a xs.length c) xs::l)):=by
 have Gj:∀y∈xs,((Kr y).all (·.oneCell'))=true:=fun y h=>by have o:=ZZ.all hx y h;simp only [Kr,List.all_cons,List.all_nil,ZZ.one o.to];rfl
 refine Fc.of Tryz.func139 rfl k_i ?_
 rcases ZZ.Sz hx with ⟨M0,MZ⟩|⟨b1,c1,V1⟩
 ·subst M0
  subst MZ
  refine Xp rfl<|cT rfl<|Z6.mk ?_
  refine ⟨none,0,?_⟩
  refine ⟨rfl,?_⟩
  replace H:=H.UK (en:=Kr) (s:=4) (196) (fun _=>rfl)
  exact H
 subst V1
 refine Xp rfl<|cF rfl<|ZY H rfl rfl rfl rfl<|fun p1 w1 H=>H.WI (n:=0) (en:=Kr) (s:=4) 0 rfl [] rfl rfl (fun _=>rfl) rfl<|fun H=>Uo 48 H 0 rfl (H.rd hx) qa rfl rfl rfl k_a k_a<|fun v1=>?_
 intro w2 H
 refine Z6.mk ?_
 exact Ox H
theorem alD (H:Sat g w l) (v:Value) (xs:List Int) (hx:ZZ g ZG Us 1 v xs) (hl:xs.length≤1000):Fc Tryz.prog 50 #[v] w (fun u w'=>∃a c,u=.slice a xs.length c∧Sat g w' (Sl 2 1 ZG (.slice a xs.length c) xs::l)):=by
 refine Fc.of Tryz.func50 rfl k_i ?_
 rcases ZZ.Sz hx with ⟨M0,MZ⟩|⟨b1,c1,V1⟩
 ·subst M0
  subst MZ
  refine Xp rfl<|cT rfl<|Z6.mk ?_
  refine ⟨none,0,?_⟩
  refine ⟨rfl,?_⟩
  replace H:=H.UK (en:=ZG) (s:=1) (2) (fun _=>rfl)
  exact H
 subst V1
 refine Xp rfl<|cF rfl<|ZY H rfl rfl rfl rfl<|fun p1 w1 H=>H.WI (n:=0) (en:=ZG) (s:=1) 0 rfl [] rfl rfl (fun _=>rfl) rfl<|fun H=>Uo 8 H 0 rfl (H.rd hx) (fun y _=>rfl) rfl rfl rfl k_a k_a<|fun v1=>?_
 intro w2 H
 refine Z6.mk ?_
 exact Ox H
def VU (m:Yf):Yf:=⟨m.types,m.ZB,m.funcs,m.table,m.pages,m.most,m.globals,m.We,m.start,[],[]⟩
theorem afs (H:Sat g w l) (hm:XF g m) (h1:m.types.length≤100) (h2:m.ZB.length≤100) (h3:m.funcs.length≤100) (h4:m.globals.length≤100) (h5:m.We.length≤100) (hT:∀t∈m.types,t.d.Zc.length≤100∧t.d.out.length≤100) (hF:∀f∈m.funcs,f.d.loc.length≤100∧f.d.body.length≤200) (hB:∀f∈m.funcs,∀x∈f.d.body,x.to.length≤1000) :
  Fc Tryz.prog 100 #[.agg #[m.vt,m.vm,m.vf,.int .i64 m.table,.int .i64 m.pages,.int .i64 m.most,m.vg,m.vx,.int .i64 m.start,m.ve,m.vd]] w (fun r w'=>∃(g':Zv) (m':Y9),r=.agg #[m'.vt,m'.vm,m'.vf,.int .i64 m'.table,.int .i64 m'.pages,.int .i64 m'.most,m'.vg,m'.vx,.int .i64 m'.start,m'.ve,m'.vd]∧Ext g g'∧XF g' m'∧m'.d=VU m.d∧Sat g' w' l):=by
 have ZP:=hm.types
 have Zt:=hm.ZB
 have ZW:=hm.funcs
 have Y8:=hm.globals
 have XY:=hm.We
 refine Fc.of Tryz.func100 rfl k_i<|ZH H<|fun p1 w1 H=>ZS H rfl<|fun p2 w2 H=>Z9 rfl<|Z4 (H.at 1 rfl) 0 rfl rfl rfl ?_
 refine Z7.mk (Fc.imp (Rn.aly H _ _ ZP qo) ?_)
 clear H
 rintro v' w1 H
 refine Z9 rfl<|XA H 2 rfl rfl rfl (H.one 0 rfl)<|fun w3 H=>Z9 rfl<|Z4 (H.at 2 rfl) 0 rfl rfl rfl<|YJ H 0 rfl rfl ?_
 refine YP.rule (α:=Zv × Nat × List Xy) (g,0,m.types) (fun x_=>[(15,.int .i64 x_.2.1)]) (fun x_ w_=>(Ext g x_.1)∧(x_.2.1≤m.types.length)∧(x_.2.2.map Xy.d=m.types.map Xy.d)∧(∀y∈x_.2.2,Wd x_.1 y)∧Sat x_.1 w_ ((Sl 104 2 Pm v' x_.2.2::Pt p2 [.slice none 0 0,.slice none 0 0,.slice none 0 0,.int .i64 0,.int .i64 0,.int .i64 0,.slice none 0 0,.slice none 0 0,.int .i64 0,.slice none 0 0,.slice none 0 0] 30::Pt p1 [v',m.vm,m.vf,.int .i64 m.table,.int .i64 m.pages,.int .i64 m.most,m.vg,m.vx,.int .i64 m.start,m.ve,m.vd] 30::l))) (fun x_=>m.types.length-x_.2.1) ?_ ?_ ?_
 ·exact k_b
 ·try simp only
  refine ⟨?_,?_⟩
  ·exact Ext.refl _
  refine ⟨qo,?_⟩
  refine ⟨?_,?_⟩
  ·exact k_P
  refine ⟨?_,?_⟩
  ·exact ZZ.all ZP
  exact H
 clear H
 rintro ⟨gg,i,ts⟩ f_ w_ ⟨E,hi,hd,ho,H⟩
 try simp only at E hi hd ho H ⊢
 have MQ:ts.length=m.types.length:=by have:=congrArg List.length hd;simpa using this
 rcases lEa i m.types.length with hlt|hge
 ·obtain ⟨t,ht⟩:∃t,ts[i]?=some t:=⟨_,laa qo⟩
  have hto:=ho t (lha ht)
  obtain ⟨t0,ht0,GF,HV⟩:=Lm hd ht
  obtain ⟨ht1,I9⟩:=hT t0 GF
  rw [←HV] at ht1 I9
  have ht1:t.Zc.length≤100:=ht1
  have I9:t.out.length≤100:=I9
  have Ll:=hto.Zc
  have Lj:=hto.out
  refine cT (Y4 qo)<|bk ?_
  obtain ⟨b1,o1,E1⟩:=H.Y1 0 rfl (i) qo
  refine ZJ E1 rfl rfl rfl<|ZA (H.el 0 rfl E1 ht) 0 rfl rfl rfl<|ZS H rfl<|fun p3 w1 H=>ZD H 0 rfl rfl rfl (by simp only [List.all_cons,List.all_nil,H.one 1 rfl,ZZ.one Lj,ZZ.one Ll,ZZ.one XY,ZZ.one Y8,ZZ.one ZW,ZZ.one Zt,ZZ.one ZP];rfl)<|fun w4 H=>ZM H [] [(0,.pure),(1,.held),(2,.pure),(3,.pure),(4,.held),(6,.pure),(7,.held),(5,.forced),(8,.forced),(9,.pure),(10,.pure),(11,.free)] mixed k_i k_i<|fun w1 H=>tk (fun wx HS=>Z9 rfl ⟨rfl,rfl⟩)<|tk (fun wx HS=>Z4 (HS.at 3 rfl) 0 rfl rfl rfl ⟨rfl,rfl⟩)<|tk (fun wx HS=>Z9 rfl ⟨rfl,rfl⟩)<|tk (fun wx HS=>Z4 (HS.at 0 rfl) 0 rfl rfl rfl ⟨rfl,rfl⟩)<|tk (fun wx HS=>Z9 rfl ⟨rfl,rfl⟩)<|tk (fun wx HS=>Z4 (HS.at 0 rfl) 1 rfl rfl rfl ⟨rfl,rfl⟩) ?_
  refine Z7.mk (Fc.imp (Rn.Fg H _ _ Ll qo) ?_)
  clear H
  rintro _ w4 ⟨a1,⟨c1,⟨rfl,H⟩⟩⟩
  refine Yt.mk (H.drop 0 (fun H=>H)) ?_
  refine Z7.mk (Fc.imp (Rn.Fg H _ _ Lj qo) ?_)
  clear H
  rintro _ w5 ⟨a2,⟨c2,⟨rfl,H⟩⟩⟩
  refine Yt.mk (H.drop 1 (fun H=>H.drop 0 (fun H=>H)))<|tk (fun wx HS=>Zf rfl rfl rfl ⟨rfl,rfl⟩)<|tk (fun wx HS=>ZJ E1 rfl rfl rfl ⟨rfl,rfl⟩)<|ahd H 3 rfl E1 ht 0 (⟨.slice a1 t.Zc.length c1,t.Zc,.slice a2 t.out.length c2,t.out⟩:Xy) rfl rfl rfl rfl<|fun w9 H=>ZX qo<|H.SN 0 U8 rfl (ZZ.all Lj)<|fun g8 E8 Ff=>?_
  intro H
  refine H.SN 0 U8 rfl (ZZ.all (Ll.ext E8))<|fun g9 E9 Hl=>?_
  intro H
  have Ff:=Ff.ext E9
  have HH:=E8.trans E9
  have E:=E.trans HH
  have hd2:=(Sa (y2:=(⟨.slice a1 t.Zc.length c1,t.Zc,.slice a2 t.out.length c2,t.out⟩:Xy)) ht rfl).trans hd
  have OT:=Ln (i:=i) (ok:=Wd g9) (fun y hy=>⟨(ho y hy).Zc.ext HH,(ho y hy).out.ext HH⟩) (y2:=(⟨.slice a1 t.Zc.length c1,t.Zc,.slice a2 t.out.length c2,t.out⟩:Xy)) ⟨Hl,Ff⟩
  refine WN.mk ((g9,i+1,ts.set i { vi:=Value.slice a1 t.Zc.length c1,Zc:=t.Zc,vo:=Value.slice a2 t.out.length c2,out:=t.out })) (Zo rfl k_c (ZT)) ?_ ?_
  ·refine ⟨qa,?_⟩
   refine ⟨qa,?_⟩
   refine ⟨qa,?_⟩
   refine ⟨qa,?_⟩
   refine H.Z8 [3,3,3]<|fun H=>H.drop 3<|fun H=>?_
   exact H
  (simp only [List.length_append,List.length_set,List.length_cons,List.length_nil];omega)
 ·have Zt:=Zt.ext E
  have Y8:=Y8.ext E
  have XY:=XY.ext E
  have ZW:ZZ gg Pk (US gg) 3 m.vf m.funcs:=ZZ.UU (ok:=US) (fun _ _ _ h E=>⟨h.ty,h.loc.ext E,ZZ.UU (ok:=okV) (fun _ _ _ h E=>h.ext E) h.body E⟩) ZW E
  refine cF (Zl qo)<|ZM H [] [(0,.pure),(1,.held),(3,.pure),(4,.held),(2,.forced),(6,.pure),(5,.free),(7,.free),(8,.pure),(9,.free)] mixed k_i k_i<|fun w1 H=>tk (fun wx HS=>Z9 rfl ⟨rfl,rfl⟩)<|tk (fun wx HS=>Z4 (HS.at 2 rfl) 1 rfl rfl rfl ⟨rfl,rfl⟩)<|tk (fun wx HS=>Z9 rfl ⟨rfl,rfl⟩)<|tk (fun wx HS=>Z4 (HS.at 2 rfl) 6 rfl rfl rfl ⟨rfl,rfl⟩) ?_
  refine Z7.mk (Fc.imp (Rn.alz H _ _ Zt qo) ?_)
  clear H
  rintro UR w4 H
  refine Yt.mk (H.drop 0 (fun H=>H))<|tk (fun wx HS=>Z9 rfl ⟨rfl,rfl⟩) ?_
  refine Z7.mk (Fc.imp (Rn.alB H _ _ Y8 qo) ?_)
  clear H
  rintro M6 w5 H
  refine XA H 4 rfl rfl rfl (H.one 1 rfl)<|fun w6 H=>tk (fun wx HS=>Z9 rfl ⟨rfl,rfl⟩)<|XA H 4 rfl rfl rfl (H.one 0 rfl)<|fun w5 H=>Z9 rfl<|Z4 (H.at 4 rfl) 7 rfl rfl rfl ?_
  refine Z7.mk (Fc.imp (Rn.alA H _ _ XY qo) ?_)
  clear H
  rintro Qe w6 H
  refine Z9 rfl<|XA H 5 rfl rfl rfl (H.one 0 rfl)<|fun w7 H=>Z9 rfl<|XA H 5 rfl rfl rfl rfl<|fun w6 H=>Z9 rfl<|XA H 5 rfl rfl rfl rfl<|fun w7 H=>Z9 rfl<|Z4 (H.at 5 rfl) 2 rfl rfl rfl ?_
  refine Z7.mk (Fc.imp (Rn.alC H _ _ ZW qo) ?_)
  clear H
  rintro EU w6 H
  refine Z9 rfl<|XA H 6 rfl rfl rfl (H.one 0 rfl)<|fun w8 H=>Z9 rfl<|Z4 (H.at 6 rfl) 2 rfl rfl rfl<|YJ H 0 rfl rfl ?_
  refine YP.rule (α:=Zv × Nat × List YA) (gg,0,m.funcs) (fun x_=>[(53,.int .i64 x_.2.1)]) (fun x_ w_=>(Ext gg x_.1)∧(x_.2.1≤m.funcs.length)∧(x_.2.2.map YA.d=m.funcs.map YA.d)∧(∀y∈x_.2.2,US x_.1 y)∧Sat x_.1 w_ ((Sl 107 3 Pk EU x_.2.2::Sl 129 2 Uf Qe m.We::Sl 99 3 OV M6 m.globals::Sl 125 2 Uf UR m.ZB::Sl 104 2 Pm v' ts::Pt p2 [.slice none 0 0,.slice none 0 0,.slice none 0 0,.int .i64 0,.int .i64 0,.int .i64 0,.slice none 0 0,.slice none 0 0,.int .i64 0,.slice none 0 0,.slice none 0 0] 30::Pt p1 [v',UR,EU,.int .i64 m.table,.int .i64 m.pages,.int .i64 m.most,M6,Qe,.int .i64 m.start,.slice none 0 0,.slice none 0 0] 30::l))) (fun x_=>m.funcs.length-x_.2.1) ?_ ?_ ?_
  ·exact k_b
  ·try simp only
   refine ⟨?_,?_⟩
   ·exact Ext.refl _
   refine ⟨qo,?_⟩
   refine ⟨?_,?_⟩
   ·exact k_P
   refine ⟨?_,?_⟩
   ·exact ZZ.all ZW
   exact H
  clear H
  rintro ⟨g3,n,fs⟩ f_ w_ ⟨E3,hn,FC,Dr,H⟩
  try simp only at E3 hn FC Dr H ⊢
  have hfl:fs.length=m.funcs.length:=by have:=congrArg List.length FC;simpa using this
  rcases lEa n m.funcs.length with hlt|alf
  ·obtain ⟨t,ht⟩:∃t,fs[n]?=some t:=⟨_,laa qo⟩
   have hto:=Dr t (lha ht)
   obtain ⟨t0,ht0,GF,HV⟩:=Lm FC ht
   obtain ⟨ht1,I9⟩:=hF t0 GF
   have EX:=hB t0 GF
   rw [←HV] at ht1 I9 EX
   have ht1:t.loc.length≤100:=ht1
   have I9:t.body.length≤200:=by have h:(t.body.map Za.d).length≤200:=I9;rwa [lia0] at h
   have EX:∀x∈t.body,x.to.length≤1000:=fun x hx=>EX x.d (List.mem_map_of_mem hx)
   have Li:=hto.loc
   have Ns:=hto.body
   refine cT (Y4 qo)<|bk ?_
   obtain ⟨b1,o1,E1⟩:=H.Y1 0 rfl (n) qo
   refine ZJ E1 rfl rfl rfl<|ZA (H.el 0 rfl E1 ht) 0 rfl rfl rfl<|ZS H rfl<|fun p3 w6 H=>ZD H 0 rfl rfl rfl (by simp only [List.all_cons,List.all_nil,H.one 1 rfl,H.one 2 rfl,H.one 3 rfl,H.one 4 rfl,H.one 5 rfl,ZZ.one Ns,ZZ.one Li,ZZ.one ZW,ZZ.one XY,ZZ.one Y8,ZZ.one Zt,ZZ.one ZP];rfl)<|fun w9 H=>ZM H [] [(0,.pure),(1,.held),(3,.pure),(4,.held),(2,.forced),(6,.pure),(5,.free),(7,.free),(8,.pure),(9,.free)] mixed k_i k_i<|fun w6 H=>tk (fun wx HS=>Z9 rfl ⟨rfl,rfl⟩)<|tk (fun wx HS=>Z4 (HS.at 0 rfl) 1 rfl rfl rfl ⟨rfl,rfl⟩)<|tk (fun wx HS=>Z9 rfl ⟨rfl,rfl⟩)<|tk (fun wx HS=>Z4 (HS.at 0 rfl) 2 rfl rfl rfl ⟨rfl,rfl⟩) ?_
   refine Z7.mk (Fc.imp (Rn.Fg H _ _ Li qo) ?_)
   clear H
   rintro _ w9 ⟨a1,⟨c1,⟨rfl,H⟩⟩⟩
   refine Yt.mk (H.drop 0 (fun H=>H))<|tk (fun wx HS=>Z9 rfl ⟨rfl,rfl⟩) ?_
   refine Z7.mk (Fc.imp (Rn.anx H _ _ Ns qo) ?_)
   clear H
   rintro _ DL ⟨a2,⟨c2,⟨rfl,H⟩⟩⟩
   refine XA H 2 rfl rfl rfl rfl<|fun DK H=>tk (fun wx HS=>Z9 rfl ⟨rfl,rfl⟩)<|XA H 2 rfl rfl rfl rfl<|fun DL H=>Z9 rfl<|Z4 (H.at 2 rfl) 2 rfl rfl rfl<|WM rfl ?_
   refine YP.rule (α:=Zv × Nat × List Za) (g3,0,t.body) (fun x_=>[(69,.int .i64 x_.2.1)]) (fun x_ w_=>(Ext g3 x_.1)∧(x_.2.1≤t.body.length)∧(x_.2.2.map Za.d=t.body.map Za.d)∧(∀y∈x_.2.2,okV x_.1 y)∧Sat x_.1 w_ ((Sl 196 4 Kr (.slice a2 t.body.length c2) x_.2.2::Sl 97 1 YL (.slice a1 t.loc.length c1) t.loc::Pt p3 [.int .i64 t.ty,.slice a1 t.loc.length c1,.slice a2 t.body.length c2] 107::Sl 107 3 Pk EU fs::Sl 129 2 Uf Qe m.We::Sl 99 3 OV M6 m.globals::Sl 125 2 Uf UR m.ZB::Sl 104 2 Pm v' ts::Pt p2 [.slice none 0 0,.slice none 0 0,.slice none 0 0,.int .i64 0,.int .i64 0,.int .i64 0,.slice none 0 0,.slice none 0 0,.int .i64 0,.slice none 0 0,.slice none 0 0] 30::Pt p1 [v',UR,EU,.int .i64 m.table,.int .i64 m.pages,.int .i64 m.most,M6,Qe,.int .i64 m.start,.slice none 0 0,.slice none 0 0] 30::l))) (fun x_=>t.body.length-x_.2.1) ?_ ?_ ?_
   ·exact k_b
   ·try simp only
    refine ⟨?_,?_⟩
    ·exact Ext.refl _
    refine ⟨qo,?_⟩
    refine ⟨?_,?_⟩
    ·exact k_P
    refine ⟨?_,?_⟩
    ·exact ZZ.all Ns
    exact H
   clear H
   rintro ⟨g4,k,bs⟩ f_ w_ ⟨E4,hk,FB,Dq,H⟩
   try simp only at E4 hk FB Dq H ⊢
   have MU:bs.length=t.body.length:=by have:=congrArg List.length FB;simpa using this
   rcases lEa k t.body.length with alg|alh
   ·obtain ⟨x,hx⟩:∃x,bs[k]?=some x:=⟨_,laa qo⟩
    have LI:=Dq x (lha hx)
    obtain ⟨x0,hx0,anz,Tq⟩:=Lm FB hx
    have hx1:x.to.length≤1000:=by rw [show x.to=x0.to from congrArg ZU.to Tq];exact EX x0 anz
    have aft:=LI.to
    refine cT (Y4 qo)<|bk<|ZM H [] [(0,.pure),(1,.held),(2,.pure),(3,.pure),(4,.held),(5,.pure),(6,.pure),(7,.pure),(8,.held),(9,.forced),(10,.pure),(11,.pure),(12,.free)] mixed k_i k_i<|fun DK H=>tk (fun wx HS=>Z9 rfl ⟨rfl,rfl⟩)<|tk (fun wx HS=>Z4 (HS.at 2 rfl) 2 rfl rfl rfl ⟨rfl,rfl⟩)<|tk (fun wx HS=>Z9 rfl ⟨rfl,rfl⟩)<|tk (fun wx HS=>Z4 (HS.at 2 rfl) 2 rfl rfl rfl ⟨rfl,rfl⟩) ?_
    obtain ⟨b2,o2,E2⟩:=H.Y1 0 rfl (k) qo
    refine tk (fun wx HS=>ZJ E2 rfl rfl rfl ⟨rfl,rfl⟩)<|tk (fun wx HS=>Z9 rfl ⟨rfl,rfl⟩)<|tk (fun wx HS=>Z4 (HS.el 0 rfl E2 hx) 3 rfl rfl rfl ⟨rfl,rfl⟩) ?_
    refine Z7.mk (Fc.imp (Rn.alD H _ _ aft qa) ?_)
    clear H
    rintro _ Da ⟨a3,⟨c3,⟨rfl,H⟩⟩⟩
    refine Yt.mk (H.drop 0 (fun H=>H))<|tk (fun wx HS=>ZJ E2 rfl rfl rfl ⟨rfl,rfl⟩)<|tk (fun wx HS=>Z9 rfl ⟨rfl,rfl⟩)<|YB H 1 rfl E2 hx 3 (⟨x.op,x.a,x.b,(Value.slice a3 x.to.length c3),x.to⟩) rfl rfl rfl rfl<|fun w13 H=>ZX qo<|H.SN 0 Us rfl (ZZ.all aft)<|fun g9 HH Hl=>?_
    intro H
    have E5:=E4.trans HH
    have hd5:=(Sa (y2:=(⟨x.op,x.a,x.b,.slice a3 x.to.length c3,x.to⟩:Za)) hx rfl).trans FB
    have ho5:=Ln (i:=k) (ok:=okV g9) (fun y hy=>(Dq y hy).ext HH) (y2:=(⟨x.op,x.a,x.b,.slice a3 x.to.length c3,x.to⟩:Za)) ⟨LI.op,LI.a,LI.b,Hl⟩
    refine WN.mk ((g9,k+1,bs.set k { op:=x.op,a:=x.a,b:=x.b,tv:=Value.slice a3 x.to.length c3,«to»:=x.to })) (Zo rfl k_c (ZT)) ?_ ?_
    ·refine ⟨qa,?_⟩
     refine ⟨qa,?_⟩
     refine ⟨qa,?_⟩
     refine ⟨qa,?_⟩
     exact H
    (simp only [List.length_append,List.length_set,List.length_cons,List.length_nil];omega)
   ·refine cF (Zl qo)<|Z9 rfl<|Z4 (H.at 9 rfl) 2 rfl rfl rfl<|ZA (H.at 2 rfl) 0 rfl rfl rfl<|ZJ E1 rfl rfl rfl<|ahd H 3 rfl E1 ht 0 (⟨t.ty,.slice a1 t.loc.length c1,t.loc,.slice a2 t.body.length c2,bs⟩:YA) rfl rfl rfl rfl<|fun w99 H=>ZX qo<|H.SN 0 (okV g4) rfl Dq<|fun g8 E8 Ff=>?_
    intro H
    refine H.SN 0 U8 rfl (ZZ.all ((Li.ext E4).ext E8))<|fun g9 E9 Hl=>?_
    intro H
    have Ff:=ZZ.FU (Ff.ext E9) (fun y hy h=>(h.ext E8).ext E9)
    have E5:=E4.trans (E8.trans E9)
    have E6:=E3.trans E5
    have hd5:=(Sa (y2:=(⟨t.ty,.slice a1 t.loc.length c1,t.loc,.slice a2 t.body.length c2,bs⟩:YA)) ht (by unfold YA.d;simp only [FB])).trans FC
    have ho5:=Ln (i:=n) (ok:=US g9) (fun y hy=>abO (Dr y hy) E5) (y2:=(⟨t.ty,.slice a1 t.loc.length c1,t.loc,.slice a2 t.body.length c2,bs⟩:YA)) ⟨hto.ty,Hl,Ff⟩
    refine WN.mk ((g9,n+1,fs.set n { ty:=t.ty,vl:=Value.slice a1 t.loc.length c1,loc:=t.loc,vb:=Value.slice a2 t.body.length c2,body:=bs })) (Zo rfl k_c (ZT)) ?_ ?_
    ·refine ⟨qa,?_⟩
     refine ⟨qa,?_⟩
     refine ⟨qa,?_⟩
     refine ⟨qa,?_⟩
     refine H.Z8 [7,7,7,7,7,7,7]<|fun H=>H.drop 7<|fun H=>?_
     exact H
    (simp only [List.length_append,List.length_set,List.length_cons,List.length_nil];omega)
  ·refine cF (Zl qo)<|ZA (H.at 6 rfl) 0 rfl rfl rfl<|ZD H 5 rfl rfl rfl (by simp only [List.all_cons,List.all_nil,H.one 0 rfl,H.one 1 rfl,H.one 2 rfl,H.one 3 rfl,H.one 4 rfl,ZZ.one ZW,ZZ.one XY,ZZ.one Y8,ZZ.one Zt,ZZ.one ZP];rfl)<|fun w6 H=>Xd (H.at 5 rfl) 0 rfl rfl rfl<|H.SN 0 (US g3) rfl Dr<|fun ga Ea fa=>?_
   intro H
   refine H.SN 0 R9 rfl (ZZ.all XY)<|fun gb Eb fb=>?_
   intro H
   refine H.SN 0 LY rfl (ZZ.all Y8)<|fun gc Ec fc=>?_
   intro H
   refine H.SN 0 R9 rfl (ZZ.all Zt)<|fun gd' Ed fd=>?_
   intro H
   have x3:=(Ea.trans Eb).trans (Ec.trans Ed)
   have EG:=E3.trans x3
   refine H.SN 0 (Wd gd') rfl (fun y hy=>abN (ho y hy) EG)<|fun ge Ee fe=>?_
   intro H
   exact Z6.mk ⟨ge,⟨v',ts,UR,m.ZB,EU,fs,m.table,m.pages,m.most,M6,m.globals,Qe,m.We,m.start,.slice none 0 0,[],.slice none 0 0,[]⟩,rfl,(E.trans EG).trans Ee,
    ⟨ZZ.FU fe (fun y hy h=>abN h Ee),fd.ext Ee,ZZ.FU (fa.ext (((Eb.trans Ec).trans Ed).trans Ee)) (fun y hy h=>abO h (x3.trans Ee)),hm.table,hm.pages,hm.most,fc.ext (Ed.trans Ee),fb.ext ((Ec.trans Ed).trans Ee),hm.start,ZZ.N9 _ _ _ _,ZZ.N9 _ _ _ _⟩,by
     unfold Y9.d VU
     simp only [hd,FC];rfl,H.del 0 |>.del 0⟩
end
end Rn
namespace Valid
open Go YZ Go.RowKit
open YS Zk XV YQ
theorem Pd.ext' {g g':Zv} {xs:List ML} (h:∀x∈xs,Pd g x) (E:Ext g g'):∀x∈xs,Pd g' x:=fun x hx=>(h x hx).ext E
theorem ajg {ok:ML→Prop} {ys:List ML} {i:Nat} {y:ML} (h:∀x∈ys,ok x) (h2:ok y):∀x∈ys.set i y,ok x:=by
 intro x hx
 rcases List.mem_or_eq_of_mem_set hx with h3|h3
 ·exact h x h3
 ·rw [h3];exact h2
theorem ajh {g:Zv} {n:Nat}:∀x∈List.replicate n DE,Pd g x:=fun x hx=>by
 rw [(List.mem_replicate.1 hx).2];exact ⟨ZZ.N9 _ _ _ _⟩
section
variable {bd:List ZU} {k:Nat} {x:Za} {sh:Nat→Bool × List Int} {K0:Int} {Es:List Int} {bl:List XT} {st:List Int} {j:XT}
theorem Rr (hc:Yp bd=0) (hx:bd[k]?=some x.d) (hb:bl=Ur Es bd sh K0 k) (hst:(sh k).2=st) (ho:x.op=2∨x.op=3) (hj:j=⟨if x.op=3 then (k:Int) else gd Es k,if x.op=3 then 0 else Xj x.a,(st.length:Int)⟩):bl++[j]=Ur Es bd sh K0 (k+1):=by
 refine abC hc hx (show x.op=2∨x.op=3∨x.op=4 by omega) hb ?_
 rw [hj,hst,if_neg (show ¬x.d.op=4 by show ¬x.op=4;omega),Int.sub_zero];rfl
theorem aaP (hc:Yp bd=0) (hx:bd[k]?=some x.d) (hb:bl=Ur Es bd sh K0 k) (hst:(sh k).2=st) (ho:x.op=4) (hj:j=⟨if x.op=3 then (k:Int) else gd Es k,if x.op=3 then 0 else Xj x.a,(st.length:Int)-1⟩):bl++[j]=Ur Es bd sh K0 (k+1):=by
 refine abC hc hx (show x.op=2∨x.op=3∨x.op=4 by omega) hb ?_
 rw [hj,hst,if_pos (show x.d.op=4 from ho)];rfl
end
section
variable {g:Zv} {w:World} {l:List As} {m:Y9}
theorem alE (H:Sat g w l) (hT:NX g) (hm:XF g m) (h0:Wq m.d=0) (k:Nat) (f:YA) (hf:m.funcs[k]?=some f):Fc Tryz.prog 164 #[.agg #[m.vt,m.vm,m.vf,.int .i64 m.table,.int .i64 m.pages,.int .i64 m.most,m.vg,m.vx,.int .i64 m.start,m.ve,m.vd],.int .i64 k] w (fun r w'=>∃g' v outs e,r=.tuple #[v,.int .i64 e]∧e=0∧Ext g g'∧ZZ g' GP (Pd g') 1 v outs∧EL m f outs∧Sat g' w' l):=by
 have ZP:=hm.types
 have hty:=(UF (Xb h0).1).2.1.fu f (lha hf)
 have an6:0≤f.ty:=by omega
 have ZW:=hm.funcs
 have hlf:=VS.len ZW
 have Jb:=(lca.1 hf).1
 have LU:=lha hf
 have hfo:=ZZ.all ZW f LU
 have WZ:=hfo.body
 obtain ⟨⟨s,hs,Gg⟩,_,_,OX,hc,_⟩:=EN h0 LU
 have Gp:=ZZ.all ZP s (lha hs)
 have PO:=Gp.out
 have I8:s.out.length≤1:=by rw [Gg] at OX;exact OX
 have MU:=(Zb hc).1
 rw [lia0] at MU
 have hbp:0<f.body.length:=by
  have:=OJ hc
  rw [←lIb,lia0] at this;exact this
 refine Fc.of Tryz.func164 rfl k_i ?_
 refine ZH H ?_
 clear H
 intro p1 w1 H
 refine ZA (H.at 0 rfl) 0 rfl rfl rfl ?_
 refine Z7.mk (Fc.imp (Valid.agy H qa qa qa (k) _ hf) ?_)
 clear H
 rintro _ w2 ⟨g'1,⟨v1,⟨KU,⟨e1,⟨rfl,⟨h1,⟨HE,⟨h2,⟨h3,H⟩⟩⟩⟩⟩⟩⟩⟩⟩
 replace PO:=ZZ.ext PO HE
 replace Gp:=Gp.ext HE
 replace WZ:=ZZ.UU (ok:=YS.okV) (fun _ _ _ h E=>YS.okV.ext h E) WZ HE
 replace hfo:=hfo.ext HE
 replace ZW:=ZZ.UU (ok:=YQ.US) (fun _ _ _ h E=>YQ.US.ext h E) ZW HE
 replace ZP:=ZZ.UU (ok:=YQ.Wd) (fun _ _ _ h E=>YQ.Wd.ext h E) ZP HE
 replace hm:=hm.ext HE
 have E:=HE
 clear HE
 have hSR:EO m f KU:=by assumption
 refine cF (WG qa) ?_
 refine Z9 rfl ?_
 refine Z4 (H.at 0 rfl) 2 rfl rfl rfl ?_
 obtain ⟨b1,o1,E1,F1,ZE⟩:=ZZ.Y1 ZW hf
 have XR:=ZE.ty
 have Zy:=ZE.loc
 have ZI:=ZE.body
 refine ZJ E1 rfl rfl rfl ?_
 refine Z9 rfl ?_
 refine Z4 (H.XQ F1) 2 rfl rfl rfl ?_
 refine Z7.mk (Fc.imp (Zk.match_ H f.vb f.body ZI) ?_)
 clear H
 rintro _ w9 ⟨ue,ul,Es,Ls,e9,rfl,Cu,hM9,H⟩
 obtain ⟨op9,la9,hM⟩:∃op last,MK (f.body.map Za.d) f.body.length ⟨op,last,true⟩ Es Ls:=by
  rcases hM9 with ⟨q1,_⟩|⟨_,q⟩
  ·exact absurd (Cu.trans hc) q1
  ·exact q
 have CC:e9=0:=Cu.trans hc
 subst CC
 clear hM9 Cu
 have S:=aiD h0 LU hM rfl
 have FN:=hM.eL
 have En:=hM.lL
 rw [lia0] at FN En
 refine H.SN 0 Gi rfl (fun _ _=>trivial) ?_
 intro g2 E2 Hj
 clear H
 intro H
 refine H.SN 0 Gi rfl (fun _ _=>trivial) ?_
 intro g3 E3 Ct
 clear H
 intro H
 have Hj:=Hj.ext E3
 have HE:=E2.trans E3
 clear E2 E3
 obtain ⟨a0,c0,hvb⟩:=ZZ.form ZI
 rw [hvb]
 replace H:=H.UK (en:=OF) (s:=3) 215 (fun _=>rfl)
 replace ZI:=ZZ.UU (ok:=YS.okV) (fun _ _ _ h E=>YS.okV.ext h E) ZI HE
 replace Zy:=ZZ.ext Zy HE
 replace ZE:=ZE.ext HE
 replace F1:=No.ext F1 HE
 replace E:=E.trans HE
 replace hm:=hm.ext HE
 replace ZP:=ZZ.UU (ok:=YQ.Wd) (fun _ _ _ h E=>YQ.Wd.ext h E) ZP HE
 replace ZW:=ZZ.UU (ok:=YQ.US) (fun _ _ _ h E=>YQ.US.ext h E) ZW HE
 replace hfo:=hfo.ext HE
 replace WZ:=ZZ.UU (ok:=YS.okV) (fun _ _ _ h E=>YS.okV.ext h E) WZ HE
 replace Gp:=Gp.ext HE
 replace PO:=ZZ.ext PO HE
 replace h2:=ZZ.UU (ok:=Valid.Tv) (fun _ _ _ h E=>Valid.Tv.ext h E) h2 HE
 clear HE
 obtain ⟨a1,c1,rfl⟩:=ZZ.form Hj
 obtain ⟨a2,c2,rfl⟩:=ZZ.form Ct
 obtain ⟨a3,c3,rfl⟩:=ZZ.form h2
 refine Zf rfl rfl rfl ?_
 refine ZH H ?_
 clear H
 intro p2 w3 H
 clear w9
 refine ZM H [] [(0,.pure),(1,.pure),(2,.pure),(3,.pure),(4,.held),(5,.pure),(6,.pure),(7,.pure),(8,.pure),(9,.held),(10,.pure),(11,.held),(12,.pure),(13,.pure),(14,.pure),(15,.held),(16,.pure),(17,.pure),(18,.held),(19,.pure),(20,.pure),(21,.forced),(22,.free),(23,.pure),(24,.pure),(25,.free)] mixed k_i k_i ?_
 clear H
 intro w4 H
 clear w3
 refine tk (fun wx HS=>Z9 rfl ⟨rfl,rfl⟩) ?_
 refine tk (fun wx HS=>Z4 (HS.at 0 rfl) 4 rfl rfl rfl ⟨rfl,rfl⟩) ?_
 refine tk (fun wx HS=>WM rfl ⟨rfl,rfl⟩) ?_
 refine ZX qo ?_
 refine tk (fun wx HS=>Z9 rfl ⟨rfl,rfl⟩) ?_
 refine tk (fun wx HS=>Z4 (HS.at 2 rfl) 0 rfl rfl rfl ⟨rfl,rfl⟩) ?_
 refine tk (fun wx HS=>Z9 rfl ⟨rfl,rfl⟩) ?_
 refine tk (fun wx HS=>Z4 (HS.at 2 rfl) 2 rfl rfl rfl ⟨rfl,rfl⟩) ?_
 refine tk (fun wx HS=>ZJ E1 rfl rfl rfl ⟨rfl,rfl⟩) ?_
 refine tk (fun wx HS=>Z9 rfl ⟨rfl,rfl⟩) ?_
 refine tk (fun wx HS=>Z4 (HS.XQ F1) 0 rfl rfl rfl ⟨rfl,rfl⟩) ?_
 obtain ⟨b2,o2,E2,F2,X3⟩:=ZZ.Y1 ZP hs
 have YG:=X3.Zc
 have YX:=X3.out
 refine tk (fun wx HS=>ZJ E2 qo rfl rfl ⟨rfl,rfl⟩) ?_
 refine tk (fun wx HS=>Z9 rfl ⟨rfl,rfl⟩) ?_
 refine tk (fun wx HS=>Z4 (HS.XQ F2) 1 rfl rfl rfl ⟨rfl,rfl⟩) ?_
 refine tk (fun wx HS=>Zw YX rfl ⟨rfl,rfl⟩) ?_
 refine tk (fun wx HS=>Zf rfl rfl rfl ⟨rfl,rfl⟩) ?_
 refine ZY H rfl rfl rfl rfl ?_
 clear H
 intro p3 w3 H
 clear w4
 refine Yt.mk (H.drop 0 (fun H=>H)) ?_
 refine Wk (ys:=[⟨_,_,_⟩]) 24 H 2 rfl (H.at 0 rfl) rfl (fun y _=>rfl) rfl rfl rfl k_a k_a ?_
 intro v1
 clear H
 intro w4 H
 clear w3
 refine tk (fun wx HS=>Z9 rfl ⟨rfl,rfl⟩) ?_
 refine XA H 1 rfl rfl rfl (H.one 2 rfl) ?_
 clear H
 intro w3 H
 clear w4
 refine WM rfl ?_
 refine SS (en:=GP) (s:=1) H (DE) ((f.body.length)) ((f.body.length)) 24 rfl rfl rfl (fun _=>rfl) qo qo qo qo qo ?_
 intro v2
 clear H
 intro w4 H
 clear w3
 refine WM rfl ?_
 clear WZ hfo ZP ZW Gp PO
 obtain ⟨bd,hbd⟩:∃bd,bd=f.body.map Za.d:=⟨_,rfl⟩
 obtain ⟨sh,hsh⟩:∃sh,sh=Yu (ZF m.d) ((XK m f).Zc++f.loc) (f.body.map Za.d) (XK m f).d:=⟨_,rfl⟩
 have anA:sh=Yu (ZF m.d) ((XK m f).Zc++f.loc) bd (XK m f).d:=by rw [hsh,hbd]
 obtain ⟨K0,hK0⟩:∃K0:Int,K0=((XK m f).d.out.length:Int):=⟨_,rfl⟩
 have hcb:Yp bd=0:=by rw [hbd];exact hc
 have hxl:=hSR.len
 refine YP.rule (α:=Zv × Nat × Value × List XT × List ML) (g3,0,v1,[⟨f.body.length-1,s.out.length,0⟩],List.replicate f.body.length DE) (fun x_=>[(74,.int .i64 x_.2.1)]) (fun x_ w_=>(Ext g3 x_.1)∧(x_.2.1≤f.body.length)∧(x_.2.2.2.1=Ur Es bd sh K0 x_.2.1)∧(Il Es Ls bd sh K0 x_.2.1 x_.2.2.2.2)∧(∀x∈x_.2.2.2.2,Pd x_.1 x)∧Sat x_.1 w_ ((Pt p2 [.slice a0 f.body.length c0,.slice a1 Es.length c1,.slice a2 Ls.length c2,.slice a3 KU.length c3,x_.2.2.1] 298::Sl 215 3 OF x_.2.2.1 x_.2.2.2.1::Sl 211 1 GP v2 x_.2.2.2.2::l))) (fun x_=>f.body.length-x_.2.1) ?_ ?_ ?_
 ·exact k_b
 ·try simp only
  refine ⟨?_,?_⟩
  ·exact Ext.refl _
  refine ⟨qo,?_⟩
  refine ⟨?_,?_⟩
  ·(rw [aeJ,hbd,hK0,Gg,lia0];rfl)
  refine ⟨?_,?_⟩
  ·exact Il.zero (by rw [hbd,lia0])
  refine ⟨?_,?_⟩
  ·exact ajh
  refine H.Z8 [0,3,3] ?_
  clear H
  intro H
  refine H.drop 4 ?_
  clear H
  intro H
  refine H.drop 3 ?_
  clear H
  intro H
  exact H
 clear H
 rintro ⟨g4,i,vk,bl,outs⟩ f_ w_ ⟨E4,hi,hb,hI,ho,H⟩
 try simp only at E4 hi hb hI ho H ⊢
 have I8:=hI.len
 rw [hbd,lia0] at I8
 have L0:ZZ g4 Kr (okV g4) 4 (.slice a0 f.body.length c0) f.body:=hvb ▸ ZZ.UU (ok:=okV) (fun _ _ _ h E=>h.ext E) ZI E4
 have PN:=Hj.ext E4
 have Kz:=Ct.ext E4
 have Nr:ZZ g4 NN (Tv g4) 2 (.slice a3 KU.length c3) KU:=ZZ.UU (ok:=Tv) (fun _ _ _ h E=>h.ext E) h2 E4
 clear ZI Hj Ct h2
 rcases lEa i f.body.length with hlt|hge
 ·obtain ⟨x,hx⟩:∃x,f.body[i]?=some x:=⟨_,laa hlt⟩
  obtain ⟨sp,hsp⟩:∃sp,KU[i]?=some sp:=⟨_,laa qo⟩
  obtain ⟨oy,Dx⟩:∃oy,outs[i]?=some oy:=⟨_,laa qo⟩
  have Tq:bd[i]?=some x.d:=by rw [hbd,lva,hx];rfl
  have hpos:=agz (Es:=Es) (sh:=sh) (K0:=K0) hcb (k:=i) (by rw [hbd,lia0];exact hlt)
  rw [←hb] at hpos
  obtain ⟨hp1,hp2⟩:=hpos
  have hW:CY bl x.d:=by
   rw [hb,hbd]
   exact aiB S (by rw [←hbd];exact Tq)
  have UA:(sp.dead,sp.st)=sh i:=by rw [hsh];exact hSR.at_ hsp
  have GD:(sh i).1=sp.dead:=by rw [←UA]
  have JG:(sh i).2=sp.st:=by rw [←UA]
  have OU:WK x.d=0:=((Zb hcb).2.1 i x.d (by rw [hbd,lia0];exact hlt) Tq).1
  have hto:=aeK OU
  have hxa:x.op=2∨x.op=3∨x.op=4→0≤x.a∧x.a≤255:=fun ho=>agC OU ho
  have an7:x.op=4→gd Ls i≤1000:=fun h4=>aiC S (by rw [←hbd];exact Tq) h4
  cases hd:sp.dead
  ·rw [hd] at GD
   refine cT (Y4 qo) ?_
   refine bk ?_
   obtain ⟨b3,o3,E3,F3,WX⟩:=ZZ.Y1 L0 hx
   have Qb:=WX.op
   have NR:=WX.a
   have NQ:=WX.b
   have Yl:=WX.to
   refine ZJ E3 rfl rfl rfl ?_
   refine ZA (H.XQ F3) 0 rfl rfl rfl ?_
   refine ZS H rfl ?_
   clear H
   intro p4 w3 H
   clear w_
   refine ZD H 0 rfl rfl rfl k_A ?_
   clear H
   intro w5 H
   clear w3
   obtain ⟨b4,o4,E5,F4,TX⟩:=ZZ.Y1 Nr hsp
   have Wl:=TX.st
   have P6:=TX.len
   refine ZJ E5 rfl rfl rfl ?_
   refine Z9 rfl ?_
   refine Z4 (H.XQ F4) 0 rfl rfl rfl ?_
   refine cT (IG (qa)) ?_
   refine H.Z8 [2,2] ?_
   clear H
   intro H
   refine Z7.mk (Fc.imp (Valid.akD H L0 PN Kz Nr (i) _ hx qa qo qo qa _ hsp qo qa qa qo qa _ JG) ?_)
   clear H
   rintro v' w3 ⟨Fe,⟨h2,H⟩⟩
   refine H.SN 0 EM rfl (fun _ _=>trivial) ?_
   intro g9 HE Hl
   clear H
   intro H
   have E9:=E4.trans HE
   have ho9:=Pd.ext' ho HE
   replace Wl:=ZZ.ext Wl HE
   replace TX:=TX.ext HE
   replace F4:=No.ext F4 HE
   replace Yl:=ZZ.ext Yl HE
   replace WX:=WX.ext HE
   replace F3:=No.ext F3 HE
   replace Nr:=ZZ.UU (ok:=Valid.Tv) (fun _ _ _ h E=>Valid.Tv.ext h E) Nr HE
   replace Kz:=ZZ.ext Kz HE
   replace PN:=ZZ.ext PN HE
   replace L0:=ZZ.UU (ok:=YS.okV) (fun _ _ _ h E=>YS.okV.ext h E) L0 HE
   replace ho:=fun y hy=>(ho y hy).ext HE
   replace E4:=E4.trans HE
   clear HE
   obtain ⟨b5,o5,E6⟩:=H.Y1 3 rfl (i) qo
   refine ZJ E6 rfl rfl rfl ?_
   refine Z9 rfl ?_
   have hv9:=ZZ.one Hl
   refine YB H 3 rfl E6 Dx 0 ⟨v',Fe⟩ rfl (by exact ZZ.one Hl) rfl rfl ?_
   clear H
   intro w9 H
   have DV:=hI.put Tq GD (v:=v') hb h2
   have hO9:=ajg (i:=i) ho9 (y:=⟨v',Fe⟩) ⟨Hl⟩
   by_cases h11:x.op=11
   ·refine ZJ E5 rfl rfl rfl ?_
    refine Z9 rfl ?_
    refine Z4 (H.XQ F4) 1 rfl rfl rfl ?_
    refine Zw Wl rfl ?_
    refine Z9 rfl ?_
    refine Z4 (H.at 2 rfl) 0 rfl rfl rfl ?_
    refine bk ?_
    refine cF (Z5 qo) ?_
    refine cF (Z5 qo) ?_
    refine cF (Z5 qo) ?_
    refine cT (ZN qa) ?_
    refine ZM H [] [(0,.pure),(1,.pure),(2,.pure),(3,.pure),(4,.held),(5,.pure),(6,.pure),(7,.pure),(8,.held),(9,.pure),(10,.pure),(11,.pure),(12,.pure),(13,.pure),(14,.free)] mixed k_i k_i ?_
    clear H
    intro w6 H
    clear w9
    refine tk (fun wx HS=>Z9 rfl ⟨rfl,rfl⟩) ?_
    refine tk (fun wx HS=>Z4 (HS.at 0 rfl) 4 rfl rfl rfl ⟨rfl,rfl⟩) ?_
    refine tk (fun wx HS=>Z9 rfl ⟨rfl,rfl⟩) ?_
    refine tk (fun wx HS=>Z4 (HS.at 0 rfl) 4 rfl rfl rfl ⟨rfl,rfl⟩) ?_
    obtain ⟨a4,c4,V1⟩:=H.form 1 rfl
    refine tk (fun wx HS=>XP V1 rfl ⟨rfl,rfl⟩) ?_
    refine ZX qo ?_
    obtain ⟨v3,V2⟩:=H.vw 1 rfl (0) (((bl.length)-1)) qo qo
    refine tk (fun wx HS=>VP V2 rfl rfl (.inl ⟨rfl,rfl⟩) (.inr ⟨_,by first|rfl|(congr 2;omega)⟩) ⟨rfl,rfl⟩) ?_
    refine tk (fun wx HS=>Z9 rfl ⟨rfl,rfl⟩) ?_
    refine XA H 0 rfl rfl rfl (by simp only [Bool.and_true,H.one 1 rfl,H.one 3 rfl,Vw.one V2,ZZ.one L0,ZZ.one PN,ZZ.one Kz,ZZ.one Nr,ZZ.one Yl,ZZ.one Wl,ZZ.one Hl,ZZ.one YX,ZZ.one YG,ZZ.one Hj,ZZ.one Zy]) ?_
    clear H
    intro w7 H
    clear w6
    refine ZX qo ?_
    replace H:=H.L9 1 rfl V2
    refine WN.mk ((g9,i+1,v3,List.take (bl.length-1) bl,outs.set i { vs:=v',js:=Fe })) (Zo rfl k_c (ZT)) ?_ ?_
    ·refine ⟨qa,?_⟩
     refine ⟨qa,?_⟩
     refine ⟨?_,?_⟩
     ·exact acI hcb Tq qa hb
     refine ⟨qa,?_⟩
     refine ⟨qa,?_⟩
     refine H.Z8 [3,2,2] ?_
     clear H
     intro H
     refine H.drop 3 ?_
     clear H
     intro H
     exact H
    (simp only [List.length_append,List.length_set,List.length_cons,List.length_nil];omega)
   ·refine ZJ E5 rfl rfl rfl ?_
    refine Z9 rfl ?_
    refine Z4 (H.XQ F4) 1 rfl rfl rfl ?_
    refine Zw Wl rfl ?_
    refine Z9 rfl ?_
    refine Z4 (H.at 2 rfl) 0 rfl rfl rfl ?_
    refine bk ?_
    refine cI (fun c4=>?_) (fun c4=>?_)
    ·replace c4:=ZR (c4)
     refine cT (ZN qa) ?_
     refine Z7.mk (Fc.imp (Valid.Pc H L0 PN (i) _ _ hx qo qo qo qa) ?_)
     clear H
     rintro UR w6 ⟨Nq,⟨j1,⟨h4,H⟩⟩⟩
     refine ZX qo ?_
     refine WN.mk ((g9,i+1,Nq,bl++[j1],outs.set i { vs:=v',js:=Fe })) (Zo rfl k_c (ZT)) ?_ ?_
     ·refine ⟨qa,?_⟩
      refine ⟨qa,?_⟩
      refine ⟨?_,?_⟩
      ·exact Rr hcb Tq hb JG qo qa
      refine ⟨qa,?_⟩
      refine ⟨qa,?_⟩
      refine H.Z8 [3,2,2] ?_
      clear H
      intro H
      refine H.drop 3 ?_
      clear H
      intro H
      exact H
     (simp only [List.length_append,List.length_set,List.length_cons,List.length_nil];omega)
    replace c4:=ZQ (c4)
    refine cI (fun c5=>?_) (fun c5=>?_)
    ·replace c5:=ZR (c5)
     refine Z7.mk (Fc.imp (Valid.Pc H L0 PN (i) _ _ hx qo qo qo qa) ?_)
     clear H
     rintro UR w6 ⟨Nq,⟨j1,⟨h4,H⟩⟩⟩
     refine ZX qo ?_
     refine WN.mk ((g9,i+1,Nq,bl++[j1],outs.set i { vs:=v',js:=Fe })) (Zo rfl k_c (ZT)) ?_ ?_
     ·refine ⟨qa,?_⟩
      refine ⟨qa,?_⟩
      refine ⟨?_,?_⟩
      ·exact Rr hcb Tq hb JG qo qa
      refine ⟨qa,?_⟩
      refine ⟨qa,?_⟩
      refine H.Z8 [3,2,2] ?_
      clear H
      intro H
      refine H.drop 3 ?_
      clear H
      intro H
      exact H
     (simp only [List.length_append,List.length_set,List.length_cons,List.length_nil];omega)
    replace c5:=ZQ (c5)
    refine cI (fun c6=>?_) (fun c6=>?_)
    ·replace c6:=ZR (c6)
     refine ZX qo ?_
     refine Z7.mk (Fc.imp (Valid.Pc H L0 PN (i) _ _ hx qo qo qo qa) ?_)
     clear H
     rintro UR w6 ⟨Nq,⟨j1,⟨h4,H⟩⟩⟩
     refine ZX qo ?_
     refine WN.mk ((g9,i+1,Nq,bl++[j1],outs.set i { vs:=v',js:=Fe })) (Zo rfl k_c (ZT)) ?_ ?_
     ·refine ⟨qa,?_⟩
      refine ⟨qa,?_⟩
      refine ⟨?_,?_⟩
      ·exact aaP hcb Tq hb JG qa qa
      refine ⟨qa,?_⟩
      refine ⟨qa,?_⟩
      refine H.Z8 [3,2,2] ?_
      clear H
      intro H
      refine H.drop 3 ?_
      clear H
      intro H
      exact H
     (simp only [List.length_append,List.length_set,List.length_cons,List.length_nil];omega)
    replace c6:=ZQ (c6)
    refine cF (Z5 qa) ?_
    refine ZX qo ?_
    refine WN.mk ((g9,i+1,vk,bl,outs.set i { vs:=v',js:=Fe })) (Zo rfl k_c (ZT)) ?_ ?_
    ·refine ⟨qa,?_⟩
     refine ⟨qa,?_⟩
     refine ⟨?_,?_⟩
     ·exact abD hcb Tq (by show ¬(x.op=2∨x.op=3∨x.op=4);omega) qa hb
     refine ⟨qa,?_⟩
     refine ⟨qa,?_⟩
     refine H.Z8 [3,2,2] ?_
     clear H
     intro H
     refine H.drop 3 ?_
     clear H
     intro H
     exact H
    (simp only [List.length_append,List.length_set,List.length_cons,List.length_nil];omega)
  ·rw [hd] at GD
   have DV:=hI.skip GD
   by_cases h11:x.op=11
   ·refine cT (Y4 qo) ?_
    refine bk ?_
    obtain ⟨b3,o3,E3,F3,WX⟩:=ZZ.Y1 L0 hx
    have Qb:=WX.op
    have NR:=WX.a
    have NQ:=WX.b
    have Yl:=WX.to
    refine ZJ E3 rfl rfl rfl ?_
    refine ZA (H.XQ F3) 0 rfl rfl rfl ?_
    refine ZS H rfl ?_
    clear H
    intro p4 w3 H
    clear w_
    refine ZD H 0 rfl rfl rfl k_A ?_
    clear H
    intro w5 H
    clear w3
    obtain ⟨b4,o4,E5,F4,TX⟩:=ZZ.Y1 Nr hsp
    have Wl:=TX.st
    have P6:=TX.len
    refine ZJ E5 rfl rfl rfl ?_
    refine Z9 rfl ?_
    refine Z4 (H.XQ F4) 0 rfl rfl rfl ?_
    refine cF (JA (qa)) ?_
    refine ZJ E5 rfl rfl rfl ?_
    refine Z9 rfl ?_
    refine Z4 (H.XQ F4) 1 rfl rfl rfl ?_
    refine Zw Wl rfl ?_
    refine Z9 rfl ?_
    refine Z4 (H.at 0 rfl) 0 rfl rfl rfl ?_
    refine bk ?_
    refine cF (Z5 qo) ?_
    refine cF (Z5 qo) ?_
    refine cF (Z5 qo) ?_
    refine cT (ZN qa) ?_
    refine ZM H [] [(0,.pure),(1,.pure),(2,.pure),(3,.pure),(4,.held),(5,.pure),(6,.pure),(7,.pure),(8,.held),(9,.pure),(10,.pure),(11,.pure),(12,.pure),(13,.pure),(14,.free)] mixed k_i k_i ?_
    clear H
    intro w3 H
    clear w5
    refine tk (fun wx HS=>Z9 rfl ⟨rfl,rfl⟩) ?_
    refine tk (fun wx HS=>Z4 (HS.at 1 rfl) 4 rfl rfl rfl ⟨rfl,rfl⟩) ?_
    refine tk (fun wx HS=>Z9 rfl ⟨rfl,rfl⟩) ?_
    refine tk (fun wx HS=>Z4 (HS.at 1 rfl) 4 rfl rfl rfl ⟨rfl,rfl⟩) ?_
    obtain ⟨a4,c4,V1⟩:=H.form 2 rfl
    refine tk (fun wx HS=>XP V1 rfl ⟨rfl,rfl⟩) ?_
    refine ZX qo ?_
    obtain ⟨v3,V2⟩:=H.vw 2 rfl (0) (((bl.length)-1)) qo qo
    refine tk (fun wx HS=>VP V2 rfl rfl (.inl ⟨rfl,rfl⟩) (.inr ⟨_,by first|rfl|(congr 2;omega)⟩) ⟨rfl,rfl⟩) ?_
    refine tk (fun wx HS=>Z9 rfl ⟨rfl,rfl⟩) ?_
    refine XA H 1 rfl rfl rfl (by simp only [Bool.and_true,H.one 2 rfl,H.one 3 rfl,Vw.one V2,ZZ.one Wl,ZZ.one Yl,ZZ.one Nr,ZZ.one Kz,ZZ.one PN,ZZ.one L0,ZZ.one YX,ZZ.one YG,ZZ.one Hj,ZZ.one Zy]) ?_
    clear H
    intro w5 H
    clear w3
    refine ZX qo ?_
    replace H:=H.L9 2 rfl V2
    refine WN.mk ((g4,i+1,v3,List.take (bl.length-1) bl,outs)) (Zo rfl k_c (ZT)) ?_ ?_
    ·refine ⟨qa,?_⟩
     refine ⟨qa,?_⟩
     refine ⟨?_,?_⟩
     ·exact acI hcb Tq qa hb
     refine ⟨qa,?_⟩
     refine ⟨qa,?_⟩
     refine H.Z8 [3,3,3] ?_
     clear H
     intro H
     refine H.drop 3 ?_
     clear H
     intro H
     exact H
    (simp only [List.length_append,List.length_set,List.length_cons,List.length_nil];omega)
   ·refine cT (Y4 qo) ?_
    refine bk ?_
    obtain ⟨b3,o3,E3,F3,WX⟩:=ZZ.Y1 L0 hx
    have Qb:=WX.op
    have NR:=WX.a
    have NQ:=WX.b
    have Yl:=WX.to
    refine ZJ E3 rfl rfl rfl ?_
    refine ZA (H.XQ F3) 0 rfl rfl rfl ?_
    refine ZS H rfl ?_
    clear H
    intro p4 w3 H
    clear w_
    refine ZD H 0 rfl rfl rfl k_A ?_
    clear H
    intro w5 H
    clear w3
    obtain ⟨b4,o4,E5,F4,TX⟩:=ZZ.Y1 Nr hsp
    have Wl:=TX.st
    have P6:=TX.len
    refine ZJ E5 rfl rfl rfl ?_
    refine Z9 rfl ?_
    refine Z4 (H.XQ F4) 0 rfl rfl rfl ?_
    refine cF (JA (qa)) ?_
    refine ZJ E5 rfl rfl rfl ?_
    refine Z9 rfl ?_
    refine Z4 (H.XQ F4) 1 rfl rfl rfl ?_
    refine Zw Wl rfl ?_
    refine Z9 rfl ?_
    refine Z4 (H.at 0 rfl) 0 rfl rfl rfl ?_
    refine bk ?_
    refine cI (fun c4=>?_) (fun c4=>?_)
    ·replace c4:=ZR (c4)
     refine cT (ZN qa) ?_
     refine H.Z8 [2,2] ?_
     clear H
     intro H
     refine Z7.mk (Fc.imp (Valid.Pc H L0 PN (i) _ _ hx qo qo qo qa) ?_)
     clear H
     rintro v' w3 ⟨Nq,⟨j1,⟨h2,H⟩⟩⟩
     refine ZX qo ?_
     refine WN.mk ((g4,i+1,Nq,bl++[j1],outs)) (Zo rfl k_c (ZT)) ?_ ?_
     ·refine ⟨qa,?_⟩
      refine ⟨qa,?_⟩
      refine ⟨?_,?_⟩
      ·exact Rr hcb Tq hb JG qo qa
      refine ⟨qa,?_⟩
      refine ⟨qa,?_⟩
      refine H.Z8 [3,2,2] ?_
      clear H
      intro H
      refine H.drop 3 ?_
      clear H
      intro H
      exact H
     (simp only [List.length_append,List.length_set,List.length_cons,List.length_nil];omega)
    replace c4:=ZQ (c4)
    refine cI (fun c5=>?_) (fun c5=>?_)
    ·replace c5:=ZR (c5)
     refine H.Z8 [2,2] ?_
     clear H
     intro H
     refine Z7.mk (Fc.imp (Valid.Pc H L0 PN (i) _ _ hx qo qo qo qa) ?_)
     clear H
     rintro v' w3 ⟨Nq,⟨j1,⟨h2,H⟩⟩⟩
     refine ZX qo ?_
     refine WN.mk ((g4,i+1,Nq,bl++[j1],outs)) (Zo rfl k_c (ZT)) ?_ ?_
     ·refine ⟨qa,?_⟩
      refine ⟨qa,?_⟩
      refine ⟨?_,?_⟩
      ·exact Rr hcb Tq hb JG qo qa
      refine ⟨qa,?_⟩
      refine ⟨qa,?_⟩
      refine H.Z8 [3,2,2] ?_
      clear H
      intro H
      refine H.drop 3 ?_
      clear H
      intro H
      exact H
     (simp only [List.length_append,List.length_set,List.length_cons,List.length_nil];omega)
    replace c5:=ZQ (c5)
    refine cI (fun c6=>?_) (fun c6=>?_)
    ·replace c6:=ZR (c6)
     refine ZX qo ?_
     refine H.Z8 [2,2] ?_
     clear H
     intro H
     refine Z7.mk (Fc.imp (Valid.Pc H L0 PN (i) _ _ hx qo qo qo qa) ?_)
     clear H
     rintro v' w3 ⟨Nq,⟨j1,⟨h2,H⟩⟩⟩
     refine ZX qo ?_
     refine WN.mk ((g4,i+1,Nq,bl++[j1],outs)) (Zo rfl k_c (ZT)) ?_ ?_
     ·refine ⟨qa,?_⟩
      refine ⟨qa,?_⟩
      refine ⟨?_,?_⟩
      ·exact aaP hcb Tq hb JG qa qa
      refine ⟨qa,?_⟩
      refine ⟨qa,?_⟩
      refine H.Z8 [3,2,2] ?_
      clear H
      intro H
      refine H.drop 3 ?_
      clear H
      intro H
      exact H
     (simp only [List.length_append,List.length_set,List.length_cons,List.length_nil];omega)
    replace c6:=ZQ (c6)
    refine cF (Z5 qa) ?_
    refine ZX qo ?_
    refine WN.mk ((g4,i+1,vk,bl,outs)) (Zo rfl k_c (ZT)) ?_ ?_
    ·refine ⟨qa,?_⟩
     refine ⟨qa,?_⟩
     refine ⟨?_,?_⟩
     ·exact abD hcb Tq (by show ¬(x.op=2∨x.op=3∨x.op=4);omega) qa hb
     refine ⟨qa,?_⟩
     refine ⟨qa,?_⟩
     refine H.Z8 [3,3,3] ?_
     clear H
     intro H
     refine H.drop 3 ?_
     clear H
     intro H
     exact H
    (simp only [List.length_append,List.length_set,List.length_cons,List.length_nil];omega)
 ·have DV:EL m f outs:=aiE (m:=m) S (by rw [←hbd,←anA,←hK0];exact hI) qo
  refine cF (Zl qo) ?_
  refine H.SN 2 (Pd g4) rfl ho ?_
  intro g5 HE hf H2
  exact Z6.mk ⟨g5,_,outs,0,rfl,rfl,(E.trans E4).trans HE,ZZ.FU hf (fun y hy h=>h.ext HE),DV,H2.tl.tl⟩
end
end Valid
namespace Rn
open Go YZ Go.RowKit
open YS Zk XV YQ Valid Mem
section
variable {g:Zv} {w:World} {l:List As} {m:Y9}
theorem of_ (H:Sat g w l) (ys:List UInt8) (most:Int) (hy:ys.length≤9223372036854775807):Fc Tryz.prog 99 #[.string (bs ys),.int .i64 most] w (fun r w' =>
  (J9 ys most∧∃p v ps,r=.tuple #[.pointer (some ⟨p,0,none⟩),.int .i64 0]∧flat ps=ys∧ps.length≤8∧Sat g w' (Pt p [v,.int .i64 most] 221::Sl 223 256 Xf v ps::l))∨(¬J9 ys most∧r=.tuple #[.pointer none,.int .i64 1]∧Sat g w' l)):=by
 refine Fc.of Tryz.func99 rfl k_i ?_
 refine br (fun c1=>?_) (fun c1=>?_)
 ·replace c1:=Yx (c1)
  refine cT rfl<|Z6.mk ?_
  exact .inr ⟨fun h=>by obtain ⟨h1,h2,h3,h4⟩:=h;omega,rfl,H⟩
 replace c1:=Yw (c1)
 refine br (fun c2=>?_) (fun c2=>?_)
 ·replace c2:=Yx (c2)
  refine cT rfl<|Z6.mk ?_
  exact .inr ⟨fun h=>by obtain ⟨h1,h2,h3,h4⟩:=h;omega,rfl,H⟩
 replace c2:=Yw (c2)
 refine WB rfl<|Vz.mk (by decide)<|Od qo ?_
 refine br (fun c3=>?_) (fun c3=>?_)
 ·replace c3:=Ye (c3)
  refine cT rfl<|Z6.mk ?_
  exact .inr ⟨fun h=>by obtain ⟨h1,h2,h3,h4⟩:=h;omega,rfl,H⟩
 replace c3:=Yd (c3)
 refine WB rfl<|Vz.mk (by decide)<|O3 qo qo ?_
 refine cI (fun c4=>?_) (fun c4=>?_)
 ·replace c4:=Yx (c4)
  refine Z6.mk ?_
  exact .inr ⟨fun h=>by obtain ⟨h1,h2,h3,h4⟩:=h;omega,rfl,H⟩
 replace c4:=Yw (c4)
 refine WB rfl<|Vz.mk (by decide)<|O3 qo qo<|SS (en:=Xf) (s:=256) H (zp) (((ys.length) / 256)) (((ys.length) / 256)) 256 rfl rfl rfl RC qo qo qo qo qo<|fun v1=>?_
 intro w1 H
 obtain ⟨a1,c5,rfl⟩:=H.form 0 rfl
 refine Zf rfl rfl rfl<|ZH H<|fun p1 w2 H=>?_
 refine Z7.mk (Fc.imp (Mem.put H _ _ ?_ ?_ ?_) ?_)
 ·(simp;omega)
 ·omega
 ·assumption
 clear H
 rintro _ w1 ⟨e1,⟨OW,⟨rfl,⟨(⟨h1,⟨h2,h3⟩⟩|⟨h4,⟨h5,h6⟩⟩),⟨h7,H⟩⟩⟩⟩⟩
 ·refine Z6.mk ?_
  exact absurd ⟨by omega,by rw [lja];omega⟩ h3
 refine Z6.mk ?_
 exact .inl ⟨⟨by omega,by omega,by omega,by omega⟩,_,_,_,rfl,Eq.trans qa (ael (by rw [Yc,lja];omega)),by rw [h7,lja];omega,H⟩
theorem RT.ext {g':Zv} {x:Nh} (h:RT g x) (E:Ext g g'):RT g' x:=⟨ZZ.UU (ok:=Pd) (fun _ _ _ h E=>h.ext E) h.outs E⟩
structure EB (m:Y9) (ws:List Nh) (k:Nat):Prop where
 len:ws.length=k
 at_:∀(i:Nat) (f:YA) (y:Nh),m.funcs[i]?=some f→ws[i]?=some y→EL m f y.outs
theorem EB.snoc {ws:List Nh} {k:Nat} {f:YA} {y:Nh} (h:EB m ws k) (hf:m.funcs[k]?=some f) (hy:EL m f y.outs):EB m (ws++[y]) (k+1):=by
 refine ⟨by rw [lba,h.len];rfl,fun i f' y' h1 h2=>?_⟩
 rw [lVa] at h2
 split at h2
 ·exact h.at_ i f' y' h1 h2
 ·rename_i hi
  have:i-ws.length=0:=by have:=(lca.1 h2).1;simp at this;omega
  rw [this] at h2
  obtain rfl:=Option.some.inj h2
  have e:i=k:=by have:=h.len;omega
  rw [e,hf] at h1
  obtain rfl:=Option.some.inj h1
  exact hy
theorem aji (H:Sat g w l) (hT:XV.NX g) (hm:XF g m) (h0:Wq m.d=0) (hl:m.funcs.length≤100):Fc Tryz.prog 116 #[.agg #[m.vt,m.vm,m.vf,.int .i64 m.table,.int .i64 m.pages,.int .i64 m.most,m.vg,m.vx,.int .i64 m.start,m.ve,m.vd]] w (fun r w'=>∃g' v ws e,r=.tuple #[v,.int .i64 e]∧e=0∧Ext g g'∧ZZ g' MW (RT g') 1 v ws∧EB m ws m.funcs.length∧Sat g' w' l):=by
 have ZW:=hm.funcs
 refine Fc.of Tryz.func116 rfl k_i<|ZH H<|fun p1 w1 H=>ZA (H.at 0 rfl) 0 rfl rfl rfl ?_
 refine Z7.mk (Fc.imp (Valid.LQ H qa qa) ?_)
 clear H
 rintro _ w2 ⟨e1,⟨rfl,⟨h1,H⟩⟩⟩
 refine cF (WG qo)<|Z9 rfl<|Z4 (H.at 0 rfl) 2 rfl rfl rfl<|Zw ZW rfl ?_
 replace H:=H.UK (en:=MW) (s:=1) 212 (fun _=>rfl)
 refine YP.rule (α:=Zv × Nat × Value × List Nh) (g,0,.slice none 0 0,[]) (fun x_=>[(17,.int .i64 x_.2.1),(5,x_.2.2.1)]) (fun x_ w_=>(Ext g x_.1)∧(x_.2.1≤m.funcs.length)∧(EB m x_.2.2.2 x_.2.1)∧(∀y∈x_.2.2.2,RT x_.1 y)∧Sat x_.1 w_ ((Sl 212 1 MW x_.2.2.1 x_.2.2.2::Pt p1 [m.vt,m.vm,m.vf,.int .i64 m.table,.int .i64 m.pages,.int .i64 m.most,m.vg,m.vx,.int .i64 m.start,m.ve,m.vd] 30::l))) (fun x_=>m.funcs.length-x_.2.1) ?_ ?_ ?_
 ·exact k_b
 ·try simp only
  refine ⟨?_,?_⟩
  ·exact Ext.refl _
  refine ⟨qo,?_⟩
  refine ⟨?_,?_⟩
  ·exact ⟨rfl,fun _ _ _ _ h=>by simp at h⟩
  refine ⟨?_,?_⟩
  ·(intro y hy;cases hy)
  exact H
 clear H
 rintro ⟨gg,k,vo,ws⟩ f_ w_ ⟨E,hk,hW,ho,H⟩
 try simp only at E hk hW ho H ⊢
 have Hr:=hW.len
 rcases lEa k m.funcs.length with hlt|hge
 ·obtain ⟨f,hf⟩:∃f,m.funcs[k]?=some f:=⟨_,laa hlt⟩
  refine cT (Y4 qo)<|bk<|ZA (H.at 1 rfl) 0 rfl rfl rfl ?_
  refine Z7.mk (Fc.imp (alE H (aeD hT E) (XF.ext hm E) h0 k f hf) ?_)
  rintro _ w' ⟨g2,v,outs,e,rfl,he,E2,Kg,hR,H⟩
  obtain ⟨av,cv,rfl⟩:=ZZ.form Kg
  refine ZY H rfl rfl rfl rfl<|fun p2 w3 H=>?_
  refine Wk (ys:=[(⟨.slice av outs.length cv,outs⟩:Nh)]) 24 H 1 rfl (H.at 0 rfl) rfl (fun y hy=>by rw [lta.1 hy];simp only [Rn.MW,List.all_cons,List.all_nil,H.one 1 rfl,ZZ.one Kg,ZZ.one ZW];rfl) rfl rfl rfl qo qo<|fun v1=>?_
  intro w4 H
  refine ZX qo ?_
  replace H:=H.del 0
  obtain ⟨Cs,EY⟩:∃Cs:List Nh,Cs=ws++[⟨.slice av outs.length cv,outs⟩]:=⟨_,rfl⟩
  have hW2:=hW.snoc hf (y:=⟨.slice av outs.length cv,outs⟩) hR
  replace H:Sat g2 w4 (Sl 212 1 MW v1 (ws++[⟨.slice av outs.length cv,outs⟩])::Pt p1 [m.vt,m.vm,m.vf,.int .i64 m.table,.int .i64 m.pages,.int .i64 m.most,m.vg,m.vx,.int .i64 m.start,m.ve,m.vd] 30::l):=H
  rw [←EY] at H hW2
  refine WN.mk (g2,k+1,v1,Cs) (Zo rfl k_u (ZL rfl ZT)) ⟨E.trans E2,by simp only;omega,hW2,?_,H⟩ k_u
  subst EY
  intro y hy
  rcases lFa.1 hy with hy|hy
  ·exact RT.ext (ho y hy) E2
  ·rw [lta] at hy
   subst hy
   exact ⟨Kg⟩
 ·refine cF (Zl qo) ?_
  have Rf:k=m.funcs.length:=by omega
  subst Rf
  refine H.SN 0 (RT gg) rfl ho<|fun g9 E9 f9=>?_
  intro H
  exact Z6.mk ⟨g9,_,ws,0,rfl,rfl,E.trans E9,ZZ.FU f9 (fun y hy h=>RT.ext h E9),hW,H.del 0⟩
end
end Rn
namespace Rn
open Go YZ Go.RowKit
open YS Zk XV YQ Valid
section
variable {g:Zv} {m m':Y9} {f:YA} {mem:List UInt8} {ts gs:List Int}
theorem ahM {s:Xy} (hs:m.types[f.ty.toNat]?=some s) (Gg:XK m f=s):Rw m.d f.d=(XK m f).d:=by
 rw [Gg]
 unfold Rw
 show (m.types.map Xy.d).getD f.ty.toNat sz=_
 rw [lea,lva,hs];rfl
theorem tyl:m.d.types.length=m.types.length:=lia0 ..
theorem ajj (hm:XF g m) (h0:Wq m.d=0):SG m.d:=by
 obtain ⟨hc,hI,hS⟩:=UF (Xb h0).1
 have Q:=U4 hc
 refine ⟨fun f hf=>?_,fun x hx=>by rw [tyl];exact hI.im x hx,fun t ht=>?_,Q.most,?_,Q.ZB,Q.table.2⟩
 ·obtain ⟨F,hF,rfl⟩:=lnb.1 hf
  obtain ⟨⟨s,hs,Gg⟩,K,kd,ol,hcb,hr⟩:=EN h0 hF
  have e:=ahM hs Gg
  refine ⟨by rw [tyl];exact hI.fu F hF,?_,fun x hx=>?_,?_⟩
  ·unfold WV
   rw [e]
   exact snd_mk hcb hr K kd ol
  ·obtain ⟨X,hX,rfl⟩:=lnb.1 hx
   have o:=ZZ.all (ZZ.all hm.funcs F hF).body X hX
   exact ⟨o.op.1,o.a⟩
  ·have:=(V6.1 (Zm.1 (Zm.1 (Q.R3 F hF)).2).1).1
   omega
 ·obtain ⟨T,hT,rfl⟩:=lnb.1 ht
  exact ⟨hS.Zc T hT,hS.out T hT⟩
 ·show (m.funcs.map YA.d).length≤16
  rw [lia0];exact Q.funcs
theorem ag9 {M:Yf} (P:SG M):SG (VU M) :=
 ⟨fun f hf=>⟨(P.fn f hf).ty,(P.fn f hf).snd,(P.fn f hf).a64,(P.fn f hf).loc⟩,P.imp,P.sig,P.most,P.nf,P.ni,P.Zr⟩
theorem ajk {outs:List ML} (h0:Wq m.d=0) (hf:f∈m.funcs) (R:EL m f outs):outs.length=f.body.length∧∀(j:Nat) (s:ML),outs[j]?=some s→s.js=KG m.d f.d j:=by
 refine ⟨R.len,fun j s hs=>?_⟩
 obtain ⟨Es,Ls,S,h⟩:=R.ex
 obtain ⟨⟨t,ht,htg⟩,_⟩:=EN h0 hf
 have e:=ahM ht htg
 have hj:j<(f.body.map Za.d).length:=by
  have:=(lca.1 hs).1
  have:=R.len
  rw [lia0];omega
 have hx:(f.body.map Za.d)[j]?=some (f.body.map Za.d)[j]:=laa hj
 have h1:=h j s _ hs hx
 rw [h1]
 unfold KG WV
 rw [e]
 show _=Lb (Gf (f.body.map Za.d)) (EK (f.body.map Za.d)) (f.body.map Za.d) _ _ j ((f.body.map Za.d).getD j Hs)
 rw [lea,hx]
 exact acN S hx
theorem ajl {ws:List Nh} (h0:Wq m.d=0) (W:EB m ws m.funcs.length) (hd:m'.d=VU m.d):Mv m' ws:=by
 have hf:m'.funcs.map YA.d=m.funcs.map YA.d:=congrArg Yf.funcs hd
 have hl:m'.funcs.length=m.funcs.length:=by have:=congrArg List.length hf;rwa [lia0,lia0] at this
 refine ⟨by rw [W.len,hl],fun i f' y h1 h2=>?_⟩
 obtain ⟨F,hF,hm,hfd⟩:=Lm hf h1
 obtain ⟨a,b⟩:=ajk h0 hm (W.at_ i F y hF h2)
 have hb:f'.body.map Za.d=F.body.map Za.d:=congrArg Qh.body hfd
 refine ⟨by have:=congrArg List.length hb;rw [lia0,lia0] at this;omega,fun j s hs=>?_⟩
 rw [b j s hs,hd,hfd];rfl
theorem ajm (hm:XF g m) (h:Wj.GN m mem ts gs 0):VC (VU m.d) ⟨mem,ts,gs⟩:=by
 obtain ⟨h1,h2,h3⟩:=Wj.NM h.eq.symm
 obtain ⟨q1,q2,q3⟩:=h.ok rfl
 obtain ⟨_,a2,a3,a4,a5,a6⟩:=Wj.acJ h 0
 have Q:=U4 (UF (Xb h1).1).1
 refine ⟨by simp only;omega,?_,?_,a6,a3,fun n hn=>?_,?_,fun i x v hx hv=>?_⟩
 ·show m.pages≤_;simp only;omega
 ·show _≤m.most;simp only;omega
 ·have h7:=UH.1 (Wj.abH h1 m.table.toNat) n (by rw [←q2];exact hn)
  unfold Wj.tE at h7
  split at h7
  ·cases h7
  ·rename_i h8
   show -1≤n∧n<(m.ZB.length:Int)+(m.funcs.map YA.d).length
   rw [lia0];omega
 ·show gs.length=m.globals.length
  rw [q3,lia0]
 ·have hx:m.globals[i]?=some x:=hx
  have hv:gs[i]?=some v:=hv
  rw [q3,lva,hx] at hv
  obtain rfl:=Option.some.inj hv
  have hmem:=lha hx
  have o:=ZZ.all hm.globals x hmem
  have hg:=(Zm.1 (Q.NP x hmem)).2
  refine ⟨⟨o.start,fun hk=>?_⟩,fun _=>rfl⟩
  unfold Po at hg
  split at hg
  ·rename_i h9;exact h9.resolve_left (fun h=>h hk)
  ·cases hg
theorem ac2 (h0:Wq m.d=0):m.types.length≤100∧m.ZB.length≤100∧m.funcs.length≤100∧m.globals.length≤100∧m.We.length≤100∧(∀t∈m.types,t.d.Zc.length≤100∧t.d.out.length≤100)∧(∀f∈m.funcs,f.d.loc.length≤100∧f.d.body.length≤200)∧∀f∈m.funcs,∀x∈f.d.body,x.to.length≤1000:=by
 obtain ⟨hc,hI,hS⟩:=UF (Xb h0).1
 have Q:=U4 hc
 have q1:=Q.types
 have q2:=Q.ZB
 have q3:=Q.funcs
 have q4:=Q.globals
 have q5:=Q.We
 refine ⟨by omega,by omega,by omega,by omega,by omega,fun t ht=>?_,fun f hf=>?_,fun f hf x hx=>?_⟩
 ·have h1:=hS.Zc t ht
  have h2:=hS.out t ht
  exact ⟨by show t.Zc.length≤100;omega,by show t.out.length≤100;omega⟩
 ·obtain ⟨_,K,kd,ol,hcb,hr⟩:=EN h0 hf
  have:=(V6.1 (Zm.1 (Zm.1 (Q.R3 f hf)).2).1).1
  exact ⟨by omega,(Zb hcb).1⟩
 ·obtain ⟨_,K,kd,ol,hcb,hr⟩:=EN h0 hf
  obtain ⟨i,hi,rfl⟩:=lFb.1 hx
  have h9:=((Zb hcb).2.1 i _ hi (laa hi)).1
  obtain ⟨X,hX,e⟩:=lnb.1 hx
  rw [←e]
  have:=aeK (x:=X) (by rw [e];exact h9)
  show X.to.length≤1000
  omega
end
end Rn
namespace Rn
open Go YZ Go.RowKit
open YS Zk XV YQ Valid Mem
section
variable {g:Zv} {w:World} {l:List As} {m:Y9} {mem:List UInt8} {ts gs:List Int} {xt xg:Value}
theorem aha (H:Sat g w l) (hm:XF g m) (h0:Wq m.d=0) (ho:J9 mem m.most) (ht:ZZ g ZG Us 1 xt ts) (hg:ZZ g ZG Us 1 xg gs) (h1:ts.length≤1000) (h2:gs.length≤1000):Fc Tryz.prog 46 #[.agg #[m.vt,m.vm,m.vf,.int .i64 m.table,.int .i64 m.pages,.int .i64 m.most,m.vg,m.vx,.int .i64 m.start,m.ve,m.vd],.agg #[.string (bs mem),xt,xg]] w (fun r w'=>∃(g':Zv) (k:Y9) (cp mp:Nat) (vt vg vp:Value) (ps:List WT),r=.pointer (some ⟨cp,0,none⟩)∧Ext g g'∧XF g' k∧k.d=VU m.d∧flat ps=mem∧ps.length≤8∧Sat g' w' (Pt cp [k.vt,k.vm,k.vf,.int .i64 k.table,.int .i64 k.pages,.int .i64 k.most,k.vg,k.vx,.int .i64 k.start,k.ve,k.vd,.pointer (some ⟨mp,0,none⟩),vt,vg] 158::Pt mp [vp,.int .i64 m.most] 221::Sl 223 256 Xf vp ps::Sl 3 1 ZG vt ts::Sl 2 1 ZG vg gs::l)):=by
 refine Fc.of Tryz.func46 rfl k_i ?_
 obtain ⟨z1,z2,z3,z4,z5,z6,z7,z8⟩:=ac2 h0
 have hml:mem.length≤100000:=by obtain ⟨_,o2,o3,o4⟩:=ho;omega
 refine ZH H<|fun p1 w1 H=>ZH H<|fun p2 w2 H=>Z9 rfl<|Z4 (H.at 0 rfl) 0 rfl rfl rfl<|Z9 rfl<|Z4 (H.at 1 rfl) 5 rfl rfl rfl ?_
 refine Z7.mk (Fc.imp (of_ H mem m.most qo) ?_)
 rintro _ w' (⟨_,mp,vp,ps,rfl,hfl,Ts,H⟩|⟨hn,_⟩)
 rotate_left
 ·exact absurd ho hn
 refine ZM H [] [(0,.held),(2,.pure),(3,.pure),(4,.held),(6,.pure),(7,.held),(1,.forced),(5,.forced),(8,.free),(9,.pure),(10,.free),(11,.pure)] mixed k_i k_i<|fun w1 H=>?_
 refine tk (fun wx HS=>ZA (HS.at 3 rfl) 0 rfl rfl rfl ⟨rfl,rfl⟩)<|tk (fun wx HS=>Z9 rfl ⟨rfl,rfl⟩)<|tk (fun wx HS=>Z4 (HS.at 2 rfl) 1 rfl rfl rfl ⟨rfl,rfl⟩)<|tk (fun wx HS=>Z9 rfl ⟨rfl,rfl⟩)<|tk (fun wx HS=>Z4 (HS.at 2 rfl) 2 rfl rfl rfl ⟨rfl,rfl⟩) ?_
 refine Z7.mk (Fc.imp (afs H hm z1 z2 z3 z4 z5 z6 z7 z8) ?_)
 rintro _ w' ⟨g2,k,rfl,E,hk,T3,H⟩
 have ht:=ht.ext E
 have hg:=hg.ext E
 refine Yt.mk (H.forget E) ?_
 refine Z7.mk (Fc.imp (Rn.anw H _ _ ht qa) ?_)
 clear H
 rintro _ w3 ⟨a1,⟨c1,⟨rfl,H⟩⟩⟩
 refine Yt.mk ((H.del 0).forget E) ?_
 refine Z7.mk (Fc.imp (Rn.alD H _ _ hg qa) ?_)
 clear H
 rintro _ w4 ⟨a2,⟨c2,⟨rfl,H⟩⟩⟩
 refine tk (fun wx HS=>Zf rfl rfl rfl ⟨rfl,rfl⟩)<|ZH H<|fun p3 w5 H=>Z6.mk ?_
 refine ⟨g2,k,p3,mp,Value.slice a1 ts.length c1,Value.slice a2 gs.length c2,vp,ps,?_⟩
 refine ⟨rfl,?_⟩
 refine ⟨qa,?_⟩
 refine ⟨qa,?_⟩
 refine ⟨qa,?_⟩
 refine ⟨qa,?_⟩
 refine ⟨qa,?_⟩
 refine H.Z8 [1,2,4,4,4]<|fun H=>H.drop 6<|fun H=>H.drop 5<|fun H=>?_
 exact H
theorem Xo (H:Sat g w l) (hT:XV.NX g) (hm:XF g m) (h0:Wq m.d=0) (ho:J9 mem m.most) (ht:ZZ g ZG Us 1 xt ts) (hg:ZZ g ZG Us 1 xg gs) (h1:ts.length≤1000) (h2:gs.length≤1000):Fc Tryz.prog 78 #[.agg #[m.vt,m.vm,m.vf,.int .i64 m.table,.int .i64 m.pages,.int .i64 m.most,m.vg,m.vx,.int .i64 m.start,m.ve,m.vd],.agg #[.string (bs mem),xt,xg]] w (fun r w'=>∃(g':Zv) (k:Y9) (vw:Value) (ws:List Nh) (pr:Nat),r=.pointer (some ⟨pr,0,none⟩)∧Ext g g'∧XF g' k∧k.d=VU m.d∧ZZ g' MW (RT g') 1 vw ws∧Mv k ws∧Sat g' w' (Jk k vw pr ⟨⟨mem,ts,gs⟩,[],0⟩::l)):=by
 refine Fc.of Tryz.func78 rfl k_i ?_
 obtain ⟨z1,z2,z3,z4,z5,z6,z7,z8⟩:=ac2 h0
 refine ZH H<|fun p1 w1 H=>ZH H<|fun p2 w2 H=>ZA (H.at 1 rfl) 0 rfl rfl rfl ?_
 refine Z7.mk (Fc.imp (aji H hT hm h0 z3) ?_)
 rintro _ w' ⟨g2,vw,ws,e,rfl,he,E,Kg,hR,H⟩
 obtain ⟨aw,cw,rfl⟩:=ZZ.form Kg
 have hm2:=hm.ext E
 have ht:=ht.ext E
 have hg:=hg.ext E
 refine ZA (H.at 1 rfl) 0 rfl rfl rfl<|ZA (H.at 0 rfl) 0 rfl rfl rfl ?_
 refine Z7.mk (Fc.imp (aha H hm2 h0 ho ht hg h1 h2) ?_)
 rintro _ w' ⟨g3,k,cp,mp,vt,vg,vp,ps,rfl,E3,hk,T3,hfl,Ts,H⟩
 have hmo:k.most=m.most:=congrArg Yf.most T3
 rw [←hmo] at H
 refine Zf rfl rfl rfl<|ZH H<|fun p3 w1 H=>?_
 exact Z6.mk ⟨g3,k,_,ws,p3,rfl,E.trans E3,hk,T3,ZZ.UU (ok:=RT) (fun _ _ _ h E=>RT.ext h E) Kg E3,ajl h0 hR T3,Q4 (afp ((H.del 6).del 6)) rfl (by rw [hfl]) Ts rfl⟩
def Rh (m:Y9):MS:=⟨⟨Wj.JL (256 * m.pages.toNat) m.data,Wj.LC m.table.toNat m.elems,m.globals.map (·.2.2)⟩,[],0⟩
theorem anB (H:Sat g w l) (hT:XV.NX g) (hm:XF g m):Fc Tryz.prog 33 #[.agg #[m.vt,m.vm,m.vf,.int .i64 m.table,.int .i64 m.pages,.int .i64 m.most,m.vg,m.vx,.int .i64 m.start,m.ve,m.vd]] w (fun r w'=>(Wj.Js m≠0∧r=.tuple #[.pointer none,.int .i64 (Wj.Js m)]∧Sat g w' l)∨(Wj.Js m=0∧∃(g':Zv) (k:Y9) (vw:Value) (ws:List Nh) (pr:Nat),r=.tuple #[.pointer (some ⟨pr,0,none⟩),.int .i64 0]∧Ext g g'∧XF g' k∧k.d=VU m.d∧ZZ g' MW (RT g') 1 vw ws∧Mv k ws∧SG k.d∧VC k.d (Rh m).ins∧Sat g' w' (Jk k vw pr (Rh m)::l))):=by
 refine Fc.of Tryz.func33 rfl k_i<|ZH H<|fun p1 w1 H=>ZA (H.at 0 rfl) 0 rfl rfl rfl ?_
 refine Z7.mk (Fc.imp (Wj.ale H hT hm) ?_)
 rintro _ w' ⟨g2,mem,ts,gs,vt,vg,e,rfl,E,hts,D2,hR,H⟩
 obtain ⟨at1,ct1,rfl⟩:=ZZ.form hts
 obtain ⟨ag1,cg1,rfl⟩:=ZZ.form D2
 by_cases he:e=0
 ·have DU:=hR
  rw [he] at DU
  obtain ⟨q1,q2,q3⟩:=DU.ok rfl
  have hmk:Wj.Js m=0:=DU.eq.symm
  obtain ⟨h0,_⟩:=Wj.NM hmk
  obtain ⟨_,a2,a3,a4,a5,a6⟩:=Wj.acJ DU 0
  have hM:=ajm hm DU
  have Q:=U4 (UF (Xb h0).1).1
  have hq1:=Q.table
  have hq2:=Q.globals
  have CP:gs.length=m.globals.length:=hM.gl
  have ho:J9 mem m.most:=⟨by omega,a6,by omega,by omega⟩
  refine ZS H rfl<|fun p2 w2 H=>?_
  refine ZD H 0 rfl rfl rfl rfl<|fun w3 H=>cF (WG qa)<|ZA (H.at 1 rfl) 0 rfl rfl rfl<|ZA (H.at 0 rfl) 0 rfl rfl rfl ?_
  refine Z7.mk (Fc.imp (Xo H (aeD hT E) (hm.ext E) h0 ho hts D2 qo qo) ?_)
  rintro _ w' ⟨g3,k,vw,ws,pr,rfl,E3,hk,T3,hf3,hW,H⟩
  have hS:Rh m=⟨⟨mem,ts,gs⟩,[],0⟩:=by unfold Rh;rw [q1,q2,q3]
  exact Z6.mk (.inr ⟨hmk,g3,k,vw,ws,pr,rfl,E.trans E3,hk,T3,hf3,hW,by rw [T3];exact ag9 (ajj hm h0),by rw [hS,T3];exact hM,by rw [hS];exact (H.del 1).del 1⟩)
 ·refine ZS H rfl<|fun p2 w2 H=>?_
  refine ZD H 0 rfl rfl rfl rfl<|fun w3 H=>cT (Vg qa) ?_
  exact Z6.mk (.inl ⟨by rw [←hR.eq];exact he,by rw [←hR.eq],((H.del 0).del 0).forget E⟩)
end
end Rn
namespace Rn
open Go YZ Go.RowKit
open YS Zk XV YQ Valid Mem
structure Dp (g:Zv) (k:Y9) (vw:Value) (ws:List Nh):Prop where
 md:XF g k
 po:SG k.d
 fs:ZZ g MW (RT g) 1 vw ws
 ways:Mv k ws
theorem Dp.ext {g g':Zv} {k:Y9} {vw:Value} {ws:List Nh} (h:Dp g k vw ws) (E:Ext g g'):Dp g' k vw ws :=
 ⟨h.md.ext E,h.po,ZZ.UU (ok:=RT) (fun _ _ _ h E=>RT.ext h E) h.fs E,h.ways⟩
def RQ (m:Y9) (f:Int) (args:List Int):Prop:=Wj.Js m=0∧RR (VU m.d) (Rh m) f args 0 (Z0 (VU m.d) (Rh m) f args)
section
variable {g:Zv} {w:World} {l:List As} {m:Y9} {va:Value} {f:Int} {args:List Int}
theorem acn {M:Yf} {S S1:MS} {e:Int} (h:RR M S f args e S1) (he:e=0):S1=Z0 M S f args:=by
 rcases h with ⟨h,_⟩|⟨_,⟨h,_⟩|⟨_,_,h⟩⟩
 ·omega
 ·omega
 ·exact h
theorem ads {M:Yf} {S S1:MS} {e:Int} (h:RR M S f args e S1) (he:e≠0):S1=S∧(e=8∨e=1):=by
 rcases h with ⟨h,_,h2⟩|⟨_,⟨h,_,h2⟩|⟨h,_⟩⟩
 ·exact ⟨h2,.inl h⟩
 ·exact ⟨h2,.inr h⟩
 ·exact absurd h he
theorem ajn (P:SG (VU m.d)) (hI:VC (VU m.d) (Rh m).ins) (h:RQ m f args) (hv:∀v∈args,WU v):Ty (VU m.d) (Z0 (VU m.d) (Rh m) f args):=by
 rcases h.2 with ⟨h,_⟩|⟨h1,⟨h,_⟩|⟨_,h2,_⟩⟩
 ·omega
 ·omega
 ·exact afo P hI qo qo h2 hv
theorem afu (H:Sat g w l) (hT:XV.NX g) (hm:XF g m) (hf:WU f) (ha:ZZ g ZG Us 1 va args):Fc Tryz.prog 26 #[.agg #[m.vt,m.vm,m.vf,.int .i64 m.table,.int .i64 m.pages,.int .i64 m.most,m.vg,m.vx,.int .i64 m.start,m.ve,m.vd],.int .i64 f,va] w (fun r w'=>(¬RQ m f args∧r=.tuple #[.pointer none,.bool true]∧Sat g w' l)∨(RQ m f args∧∃(g':Zv) (k:Y9) (vw:Value) (ws:List Nh) (pr:Nat),r=.tuple #[.pointer (some ⟨pr,0,none⟩),.bool true]∧Ext g g'∧Dp g' k vw ws∧k.d=VU m.d∧Ty k.d (Z0 k.d (Rh m) f args)∧Sat g' w' (Jk k vw pr (Z0 k.d (Rh m) f args)::l))):=by
 refine Fc.of Tryz.func26 rfl k_i<|ZH H<|fun p1 w1 H=>ZA (H.at 0 rfl) 0 rfl rfl rfl ?_
 refine Z7.mk (Fc.imp (anB H hT hm) ?_)
 rintro _ w' (⟨he,rfl,H⟩|⟨he,g2,k,vw,ws,pr,rfl,E,hk,T3,Kg,hW,hP,hI,H⟩)
 ·obtain ⟨e,hE⟩:∃e,e=Wj.Js m:=⟨_,rfl⟩
  rw [←hE] at he ⊢
  refine cT (Vg qa)<|OM rfl ?_
  exact Z6.mk (.inl ⟨fun h=>he (hE.trans h.1),rfl,H.del 0⟩)
 ·have ha:=ha.ext E
  have hpn:=H
  refine cF (WG qo)<|OM rfl<|cF rfl ?_
  refine Z7.mk (Fc.imp (ajd H hk hP rfl rfl hf ha) ?_)
  rintro _ w' ⟨e,S1,rfl,hS,H⟩
  by_cases h0:e=0
  ·have Dn:=acn hS h0
   have hc:RQ m f args:=⟨he,by rw [h0,Dn,T3] at hS;exact hS⟩
   have MX:Ty k.d (Z0 k.d (Rh m) f args):=by rw [T3] at hP hI ⊢;exact ajn hP hI hc (ZZ.all ha)
   rw [Dn] at H
   refine cF (WG qa) ?_
   exact Z6.mk (.inr ⟨hc,g2,k,vw,ws,pr,rfl,E,⟨hk,hP,Kg,hW⟩,T3,MX,H.del 1⟩)
  ·obtain ⟨Dn,Cr⟩:=ads hS h0
   subst Dn
   have hc:¬RQ m f args:=fun h=>h0 (RR.Sq hS (by rw [T3];exact h.2)).1
   have MX:Ty k.d (Rh m):=⟨hI,by unfold Rh;simp,⟨lcc _,by show (0:Int)≤_;unfold Y3;omega⟩,.inl ⟨rfl,rfl⟩⟩
   rcases Cr with Cr|Cr
   ·refine cT (Vg qa)<|VA (ZN qa) ?_
    refine Z7.mk (Fc.imp (Nt H hP MX) ?_)
    rintro _ w' ⟨sv,DT,rfl,hsc,H⟩
    obtain ⟨a9,c9,rfl⟩:=H.form 1 rfl
    have JV:DT.length=0:=by have:=congrArg List.length hsc;rw [lia0] at this;exact this
    refine TD rfl<|WM rfl ?_
    have hq:Mt (DT.length:Int) 0=true:=by rw [Y6,JV];rfl
    exact Z6.mk (.inl ⟨hc,by rw [hq],((((H.del 0).del 0).del 0).del 0).forget E⟩)
   ·refine cT (Vg qa)<|XB (Z5 qo)<|VA (ZN qa) ?_
    refine Z7.mk (Fc.imp (Nt H hP MX) ?_)
    rintro _ w' ⟨sv,DT,rfl,hsc,H⟩
    obtain ⟨a9,c9,rfl⟩:=H.form 1 rfl
    have JV:DT.length=0:=by have:=congrArg List.length hsc;rw [lia0] at this;exact this
    refine TD rfl<|WM rfl ?_
    have hq:Mt (DT.length:Int) 0=true:=by rw [Y6,JV];rfl
    exact Z6.mk (.inl ⟨hc,by rw [hq],((((H.del 0).del 0).del 0).del 0).forget E⟩)
end
end Rn
namespace Rn
open Go YZ Go.RowKit
open YS Zk XV YQ Valid Mem
theorem afv {m:Y9} {k:Y9} (h:k.d=VU m.d):Y3 k.d=m.ZB.length:=by rw [h];rfl
theorem runGoes (w:World) (m:Y9) (f:Int) (va:Value) (args:List Int) (fuel:Int) (hm:XF (WA w) m) (hf:WU f) (ha:Rd ZG Us 1 w va args) (hfu:WU fuel) (hTB:XV.NX (WA w)∧Fold.I3 (WA w)):Fc Tryz.prog 6 #[.agg #[m.vt,m.vm,m.vf,.int .i64 m.table,.int .i64 m.pages,.int .i64 m.most,m.vg,m.vx,.int .i64 m.start,m.ve,m.vd],.int .i64 f,va,.int .i64 fuel] w (fun v w'=>v=.bool true∧Below w.heap.size w w'):=by
 obtain ⟨hT,hB⟩:=hTB
 have ha:=ha.fz
 refine Fc.of Tryz.func6 rfl k_i ?_
 have H:=Sat.start w
 refine ZH H<|fun p1 w1 H=>ZA (H.at 0 rfl) 0 rfl rfl rfl ?_
 refine Z7.mk (Fc.imp (afu H hT hm hf ha) ?_)
 rintro _ w' (⟨hc,rfl,H⟩|⟨hc,g2,k,vw,ws,pr,rfl,E,hk,T3,MX,H⟩)
 ·refine OM rfl<|cT rfl<|Z6.mk ?_
  exact ⟨rfl,H.finish⟩
 ·have hni:=afv T3
  have Zt:=hm.ZB.ext E
  have hil:=hk.po.ni
  have Dc:=hB.ext E
  refine OM rfl<|cF rfl ?_
  refine Z7.mk (Fc.imp (Ref.rest _ _ qa qo _) ?_)
  rintro _ _ ⟨rfl,rfl⟩
  obtain ⟨n0,hn0⟩:=lHa (Int.emod_nonneg fuel (show (3000:Int)≠0 by decide))
  have DG:=Int.emod_lt_of_pos fuel (show (0:Int)<3000 by decide)
  rw [hn0] at DG ⊢
  have hP:=hk.po
  have hst:(Z0 k.d (Rh m) f args).host=0:=rfl
  have an8:(Z0 k.d (Rh m) f args).calls≠[]:=by unfold Z0;simp
  refine YP.rule (α:=Nat × MS) (n0,Z0 k.d (Rh m) f args) (fun x_=>[(3,.int .i64 x_.1)]) (fun x_ w_=>(Ty k.d x_.2)∧(x_.2.host=0)∧(x_.2.calls≠[])∧(x_.1≤3000)∧Sat g2 w_ ((Jk k vw pr x_.2::Pt p1 [m.vt,m.vm,m.vf,.int .i64 m.table,.int .i64 m.pages,.int .i64 m.most,m.vg,m.vx,.int .i64 m.start,m.ve,m.vd] 30::[]))) (fun x_=>x_.1) ?_ ?_ ?_
  ·exact k_b
  ·try simp only
   refine ⟨qa,?_⟩
   refine ⟨qa,?_⟩
   refine ⟨qa,?_⟩
   refine ⟨qo,?_⟩
   exact H
  clear H
  rintro ⟨n,S⟩ f_ w_ ⟨hT1,hh,QB,hn,H⟩
  try simp only at hT1 hh QB hn H ⊢
  refine cI (fun c1=>?_) (fun c1=>?_)
  rotate_left
  ·replace c1:=Yw (c1)
   refine Z6.mk ?_
   refine ⟨?_,?_⟩
   ·exact k_K
   exact E.fin H
  replace c1:=Yx (c1)
  refine bk ?_
  refine Z7.mk (Fc.imp (go_ (n:=1) H hk.md hP Dc hk.fs hk.ways hT1 hh QB qo) ?_)
  rintro _ w' ⟨S1,o,vv,rfl,hR,A,H⟩
  obtain ⟨av,cv,rfl⟩:=H.form 1 rfl
  have hT2:=A.ty
  have hle:0≤o.left∧o.left≤1:=A.left
  have hvl:=A.vals
  rcases A.e with h9|h9|h9|h9
  ·obtain ⟨a1,a2,a3,a4⟩:=A.done h9
   have hs0:S1.calls.length=0:=by rw [a1];rfl
   refine ZS H rfl<|fun p2 w2 H=>?_
   refine ZD H 0 rfl rfl rfl rfl<|fun w3 H=>XB (WG qa)<|Z9 rfl<|Z4 (H.at 0 rfl) 4 rfl rfl rfl<|XB (Zl qo)<|Z9 rfl<|Z4 (H.at 0 rfl) 4 rfl rfl rfl<|cF (Zl qo)<|ZX qo<|Z9 rfl<|Z4 (H.at 0 rfl) 0 rfl rfl rfl<|bk<|cT (ZN qa)<|H.Z8 [1]<|fun H=>?_
   refine Z7.mk (Fc.imp (Rn.Nt H qa qa) ?_)
   clear H
   rintro _ w2 ⟨v1,⟨Cv,⟨rfl,⟨h1,H⟩⟩⟩⟩
   obtain ⟨a9,c9,rfl⟩:=H.form 1 rfl
   have JV:=congrArg List.length (by assumption:List.map CV.d _=S1.calls)
   rw [lia0] at JV
   refine TD rfl<|WM rfl<|VA (ZN qo)<|Z9 rfl<|Z4 (H.at 3 rfl) 2 rfl rfl rfl<|Z6.mk ?_
   refine ⟨?_,?_⟩
   ·exact congrArg Value.bool (ZN qa)
   exact E.fin H
  ·obtain ⟨a1,a2,a3,a4,a5,a6,a7⟩:=A.WH h9
   have hs0:S1.calls.length=0:=by rw [a1];rfl
   have Tp:o.vals.length=0:=by rw [a5];rfl
   refine ZS H rfl<|fun p2 w2 H=>?_
   refine ZD H 0 rfl rfl rfl rfl<|fun w3 H=>XB (WG qa)<|Z9 rfl<|Z4 (H.at 0 rfl) 4 rfl rfl rfl<|XB (Zl qo)<|Z9 rfl<|Z4 (H.at 0 rfl) 4 rfl rfl rfl<|cF (Zl qo)<|ZX qo<|Z9 rfl<|Z4 (H.at 0 rfl) 0 rfl rfl rfl<|bk<|cF (Z5 qo)<|cT (ZN qa)<|H.Z8 [1]<|fun H=>?_
   refine Z7.mk (Fc.imp (Rn.Nt H qa qa) ?_)
   clear H
   rintro _ w2 ⟨v1,⟨Cv,⟨rfl,⟨h1,H⟩⟩⟩⟩
   obtain ⟨a9,c9,rfl⟩:=H.form 1 rfl
   have JV:=congrArg List.length (by assumption:List.map CV.d _=S1.calls)
   rw [lia0] at JV
   refine TD rfl<|WM rfl<|VA (ZN qo)<|Z9 rfl<|Z4 (H.at 3 rfl) 4 rfl rfl rfl<|VA (ZN qo)<|Z9 rfl<|Z4 (H.at 3 rfl) 2 rfl rfl rfl<|VA (Ys qa)<|Z9 rfl<|Z4 (H.at 3 rfl) 2 rfl rfl rfl<|VA (Ys qa)<|Z9 rfl<|Z4 (H.at 3 rfl) 1 rfl rfl rfl<|WM rfl<|Z6.mk ?_
   refine ⟨?_,?_⟩
   ·exact congrArg Value.bool (ZN qo)
   exact E.fin H
  ·obtain ⟨a1,a2,a3,a4,a5,a6⟩:=A.fuel h9
   have hs0:0<S1.calls.length:=lIb.2 a1
   refine ZS H rfl<|fun p2 w2 H=>?_
   refine ZD H 0 rfl rfl rfl rfl<|fun w3 H=>XB (WG qa)<|Z9 rfl<|Z4 (H.at 0 rfl) 4 rfl rfl rfl<|XB (Zl qo)<|Z9 rfl<|Z4 (H.at 0 rfl) 4 rfl rfl rfl<|cF (Zl qo)<|ZX qo<|Z9 rfl<|Z4 (H.at 0 rfl) 0 rfl rfl rfl<|bk<|cF (Z5 qo)<|cF (Z5 qo)<|cT (ZN qa)<|Z9 rfl<|Z4 (H.at 0 rfl) 4 rfl rfl rfl<|XB (WG qa)<|H.Z8 [1]<|fun H=>?_
   refine Z7.mk (Fc.imp (Rn.Nt H qa qa) ?_)
   clear H
   rintro _ w2 ⟨v1,⟨Cv,⟨rfl,⟨h1,H⟩⟩⟩⟩
   obtain ⟨a9,c9,rfl⟩:=H.form 1 rfl
   have JV:=congrArg List.length (by assumption:List.map CV.d _=S1.calls)
   rw [lia0] at JV
   refine TD rfl<|WM rfl<|cF (Z5 qo) ?_
   refine WN.mk ((n-1,S1)) (Zo rfl k_c (ZT)) ?_ ?_
   ·refine ⟨qa,?_⟩
    refine ⟨qa,?_⟩
    refine ⟨qa,?_⟩
    refine ⟨qo,?_⟩
    refine H.Z8 [5,1]<|fun H=>H.firsts 2<|fun H=>?_
    exact H
   omega
  ·obtain ⟨a1,a2,a3,a4,a5,a6⟩:=A.host h9
   have hkm:=hk.md
   have hh0:0<S1.host:=by omega
   have DV:WU ((n:Int)-1):=by unfold WU;omega
   obtain ⟨B1,B2,B3,_⟩:=aaO hP hT2 hh0 DV
   refine ZS H rfl<|fun p2 w2 H=>?_
   refine ZD H 0 rfl rfl rfl rfl<|fun w3 H=>XB (WG qa)<|Z9 rfl<|Z4 (H.at 0 rfl) 4 rfl rfl rfl<|XB (Zl qo)<|Z9 rfl<|Z4 (H.at 0 rfl) 4 rfl rfl rfl<|cF (Zl qo)<|ZX qo<|Z9 rfl<|Z4 (H.at 0 rfl) 0 rfl rfl rfl<|bk<|cF (Z5 qo)<|cF (Z5 qo)<|cF (Z5 qo)<|cT (ZN qa)<|Z9 rfl<|Z4 (H.at 0 rfl) 4 rfl rfl rfl<|XB (WG qo)<|Z9 rfl<|Z4 (H.at 0 rfl) 3 rfl rfl rfl<|XB (Zl qa)<|Z9 rfl<|Z4 (H.at 0 rfl) 3 rfl rfl rfl<|Z9 rfl<|Z4 (H.at 3 rfl) 1 rfl rfl rfl<|Zw Zt rfl<|XB (YM qo)<|H.Z8 [1]<|fun H=>?_
   refine Z7.mk (Fc.imp (Rn.ag4 H qa qa qa qa _ qa) ?_)
   clear H
   rintro _ w2 ⟨rfl,H⟩
   refine cF (WG qa) ?_
   refine WN.mk ((n-1,{ ins:=S1.ins,calls:=addTop S1.calls (Vi (YD k.d (S1.host-1)).out ((↑n:Int)-1)),host:=0 })) (Zo rfl k_c (ZT)) ?_ ?_
   ·refine ⟨qa,?_⟩
    refine ⟨qa,?_⟩
    refine ⟨qa,?_⟩
    refine ⟨qo,?_⟩
    refine H.Z8 [3,1]<|fun H=>H.firsts 2<|fun H=>?_
    exact H
   omega
end Rn
namespace YQ
open Go Go.RowKit YZ YS
def HL (H:Hv) (x:Xy):Prop:=VS (RE YL U8) 1 H x.vi x.Zc∧VS (RE YL U8) 1 H x.vo x.out
def HK (H:Hv) (x:YA):Prop:=WU x.ty∧VS (RE YL U8) 1 H x.vl x.loc∧VS (fun H cs x=>cs=Kr x∧DO H x) 4 H x.vb x.body
def HJ (H:Hv) (x:SL):Prop:=WU x.pl∧VS (RE ZG Us) 1 H x.vf x.fs
structure ahN (H:Hv) (m:Y9):Prop where
 types:VS (fun H cs x=>cs=Pm x∧HL H x) 2 H m.vt m.types
 ZB:VS (RE Uf R9) 2 H m.vm m.ZB
 funcs:VS (fun H cs x=>cs=Pk x∧HK H x) 3 H m.vf m.funcs
 table:WU m.table
 pages:WU m.pages
 most:WU m.most
 globals:VS (RE OV LY) 3 H m.vg m.globals
 We:VS (RE Uf R9) 2 H m.vx m.We
 start:WU m.start
 elems:VS (fun H cs x=>cs=GZ x∧HJ H x) 2 H m.ve m.elems
 data:VS (RE I5 J1) 2 H m.vd m.data
theorem Wd.of {g:Zv} {H:Hv} {x:Xy} (h:HL H x) (hh:K3 H (Gh g)):Wd g x:=⟨h.1.mono (RE.mono' YL U8) hh,h.2.mono (RE.mono' YL U8) hh⟩
theorem US.of {g:Zv} {H:Hv} {x:YA} (h:HK H x) (hh:K3 H (Gh g)):US g x:=⟨h.1,h.2.1.mono (RE.mono' YL U8) hh,h.2.2.conv hh fun _ _ h=>⟨h.1,okV.of h.2 hh⟩⟩
theorem M7.of {g:Zv} {H:Hv} {x:SL} (h:HJ H x) (hh:K3 H (Gh g)):M7 g x:=⟨h.1,h.2.mono (RE.mono' ZG Us) hh⟩
theorem XF.of {g:Zv} {H:Hv} {m:Y9} (h:ahN H m) (hh:K3 H (Gh g)):XF g m :=
 ⟨h.types.conv hh fun _ _ h=>⟨h.1,Wd.of h.2 hh⟩,h.ZB.mono (RE.mono' Uf R9) hh,h.funcs.conv hh fun _ _ h=>⟨h.1,US.of h.2 hh⟩,h.table,h.pages,h.most,h.globals.mono (RE.mono' OV LY) hh,h.We.mono (RE.mono' Uf R9) hh,h.start,h.elems.conv hh fun _ _ h=>⟨h.1,M7.of h.2 hh⟩,h.data.mono (RE.mono' I5 J1) hh⟩
theorem afw (cs:List Value) (h:TT [.str,.int .i64] cs):∃x,cs=Uf x∧R9 x:=by
 obtain ⟨_,_,rfl,⟨a,rfl,ha⟩,_,_,rfl,⟨b,rfl,hb⟩,rfl⟩:=h
 exact ⟨(a,b),rfl,ha,hb⟩
theorem ajo (cs:List Value) (h:TT [.int .u8,.bool,.int .i64] cs):∃x,cs=OV x∧LY x:=by
 obtain ⟨_,_,rfl,⟨a,rfl,ha⟩,_,_,rfl,⟨b,rfl⟩,_,_,rfl,⟨c,rfl,hc⟩,rfl⟩:=h
 exact ⟨(a,b,c),rfl,ha,hc⟩
theorem ajp (cs:List Value) (h:TT [.int .i64,.str] cs):∃x,cs=I5 x∧J1 x:=by
 obtain ⟨_,_,rfl,⟨a,rfl,ha⟩,_,_,rfl,⟨b,rfl,hb⟩,rfl⟩:=h
 exact ⟨(a,b),rfl,ha,hb⟩
section
variable {H:Type} {enc:TypeId × Value→H} {w:World} {sp:Nat→Bool} {held:Bool}
theorem QD:Lf enc Tryz.prog w sp held 102 (fun H cs xs=>∃v,cs=[v]∧VS (RE YL U8) 1 H v xs) (fun xs=>(xs.map (fun x=>W9 (YL x)+1)).sum+1+0 * xs.length) :=
 N2 1 rfl (by decide) Tryz.underlying102 (VV 6 rfl aea)
theorem open_ints:Lf enc Tryz.prog w sp held 32 (fun H cs xs=>∃v,cs=[v]∧VS (RE ZG Us) 1 H v xs) (fun xs=>(xs.map (fun x=>W9 (ZG x)+1)).sum+1+0 * xs.length) :=
 N2 1 rfl (by decide) Tryz.underlying32 (VV 6 rfl Uk)
theorem afx:Lf enc Tryz.prog w sp held 104 (fun H cs x=>cs=Pm x∧HL H x) (fun _=>0):=by
 refine (Vu 2 Tryz.underlying104 rfl (Zd rfl QD (Zd rfl QD Ul))).map ?_
 rintro H cs ⟨a,b,_⟩ ⟨hl,⟨v,h1,Hz⟩,⟨u,h2,Ew⟩,_⟩
 refine ⟨⟨v,a,u,b⟩,⟨?_,Hz,Ew⟩,lRa _⟩
 match cs,hl with
 | [c0,c1],_ =>
  have e1:[c0]=[v]:=h1
  have e2:[c1]=[u]:=h2
  simp only [List.cons.injEq,and_true] at e1 e2
  show _=[_,_]
  rw [e1,e2]
theorem adt:Lf enc Tryz.prog w sp held 105 (fun H cs xs=>∃v,cs=[v]∧VS (fun H cs x=>cs=Kr x∧DO H x) 4 H v xs) (fun xs=>(xs.map (fun x=>x.to.length)).sum+1+0 * xs.length) :=
 N2 4 rfl (by decide) Tryz.underlying105 aeb
theorem afy:Lf enc Tryz.prog w sp held 107 (fun H cs x=>cs=Pk x∧HK H x) (fun _=>0):=by
 refine (Vu 3 Tryz.underlying107 rfl (Zd rfl (VV (en:=ZG) (ok:=Us) 6 rfl Uk) (Zd rfl QD (Zd rfl adt Ul)))).map ?_
 rintro H cs ⟨t,a,b,_⟩ ⟨hl,⟨h0,h0'⟩,⟨v,h1,Hz⟩,⟨u,h2,Ew⟩,_⟩
 refine ⟨⟨t,v,a,u,b⟩,⟨?_,h0',Hz,Ew⟩,lRa _⟩
 match cs,hl with
 | [c0,c1,c2],_ =>
  have e0:[c0]=ZG t:=h0
  have e1:[c1]=[v]:=h1
  have e2:[c2]=[u]:=h2
  simp only [ZG,List.cons.injEq,and_true] at e0 e1 e2
  show _=[_,_,_]
  rw [e0,e1,e2]
theorem adu:Lf enc Tryz.prog w sp held 92 (fun H cs x=>cs=GZ x∧HJ H x) (fun _=>0):=by
 refine (Vu 2 Tryz.underlying92 rfl (Zd rfl (VV (en:=ZG) (ok:=Us) 6 rfl Uk) (Zd rfl open_ints Ul))).map ?_
 rintro H cs ⟨t,a,_⟩ ⟨hl,⟨h0,h0'⟩,⟨v,h1,Hz⟩,_⟩
 refine ⟨⟨t,v,a⟩,⟨?_,h0',Hz⟩,lRa _⟩
 match cs,hl with
 | [c0,c1],_ =>
  have e0:[c0]=ZG t:=h0
  have e1:[c1]=[v]:=h1
  simp only [ZG,List.cons.injEq,and_true] at e0 e1
  show _=[_,_]
  rw [e0,e1]
theorem afz:Lf enc Tryz.prog w sp held 30 (fun H cs m=>cs=amn m∧ahN H m) (fun _=>0):=by
 refine (Vu 11 Tryz.underlying30 rfl (Zd rfl (N2 2 rfl (by decide) Tryz.underlying22 afx) (Zd rfl (N2 2 rfl (by decide) Tryz.underlying23 (VV (en:=Uf) (ok:=R9) 6 rfl afw)) (Zd rfl (N2 3 rfl (by decide) Tryz.underlying24 afy)
  (Zd rfl (VV (en:=ZG) (ok:=Us) 6 rfl Uk) (Zd rfl (VV (en:=ZG) (ok:=Us) 6 rfl Uk) (Zd rfl (VV (en:=ZG) (ok:=Us) 6 rfl Uk)
  (Zd rfl (N2 3 rfl (by decide) Tryz.underlying25 (VV (en:=OV) (ok:=LY) 6 rfl ajo)) (Zd rfl (N2 2 rfl (by decide) Tryz.underlying26 (VV (en:=Uf) (ok:=R9) 6 rfl afw)) (Zd rfl (VV (en:=ZG) (ok:=Us) 6 rfl Uk)
  (Zd rfl (N2 2 rfl (by decide) Tryz.underlying27 adu) (Zd rfl (N2 2 rfl (by decide) Tryz.underlying28 (VV (en:=I5) (ok:=J1) 6 rfl ajp)) Ul)))))))))))).map ?_
 rintro H cs ⟨a0,a1,a2,a3,a4,a5,a6,a7,a8,a9,a10,_⟩ ⟨hl,⟨v0,h0,k0⟩,⟨v1,h1,k1⟩,⟨v2,h2,k2⟩,⟨h3,k3⟩,⟨h4,k4⟩,⟨h5,k5⟩,⟨v6,h6,k6⟩,⟨v7,h7,k7⟩,⟨h8,k8⟩,⟨v9,h9,k9⟩,⟨v10,h10,k10⟩,_⟩
 refine ⟨⟨v0,a0,v1,a1,v2,a2,a3,a4,a5,v6,a6,v7,a7,a8,v9,a9,v10,a10⟩,⟨?_,k0,k1,k2,k3,k4,k5,k6,k7,k8,k9,k10⟩,lRa _⟩
 match cs,hl with
 | [c0,c1,c2,c3,c4,c5,c6,c7,c8,c9,c10],_ =>
  have e0:[c0]=[v0]:=h0
  have e1:[c1]=[v1]:=h1
  have e2:[c2]=[v2]:=h2
  have e3:[c3]=ZG a3:=h3
  have e4:[c4]=ZG a4:=h4
  have e5:[c5]=ZG a5:=h5
  have e6:[c6]=[v6]:=h6
  have e7:[c7]=[v7]:=h7
  have e8:[c8]=ZG a8:=h8
  have e9:[c9]=[v9]:=h9
  have e10:[c10]=[v10]:=h10
  simp only [ZG,List.cons.injEq,and_true] at e0 e1 e2 e3 e4 e5 e6 e7 e8 e9 e10
  show _=[_,_,_,_,_,_,_,_,_,_,_]
  rw [e0,e1,e2,e3,e4,e5,e6,e7,e8,e9,e10]
end
end YQ
namespace Ky
open Go Go.RowKit YZ
noncomputable abbrev laid:List (String × DataW Unit):=[("math/bits.deBruijn32tab",Rows.laid_math_bits_deBruijn32tab),("math/bits.deBruijn64tab",Rows.laid_math_bits_deBruijn64tab),("unicode/utf8.acceptRanges",Rows.laid_unicode_utf8_acceptRanges),("unicode/utf8.first",Rows.laid_unicode_utf8_first)]
theorem extra:U8Extra Tryz.prog Tryz.W0:=⟨by kernel_rfl,by kernel_rfl,by kernel_rfl,by kernel_rfl,by kernel_rfl,by kernel_rfl,by kernel_rfl⟩
theorem afA:Rows.laid_unicode_utf8_first=Lib.firstData:=by kernel_rfl
theorem adv:(Rows.laid_unicode_utf8_acceptRanges:DataW Unit)=Lib.acceptData:=by kernel_rfl
theorem ajq {W:World} (h:laidMetH Tryz.prog laid W):Lib.Utf8Tabs (Tryz.W0.g 3) (Tryz.W0.g 4) W:=by
 rw [MakeChecks.laidMetH_plain _ _ _ k_i] at h
 refine utf8Tabs_of_readsT (.of196 Tryz.acB) extra (Lib.laidMet.reads h (.tail _ (.tail _ (.tail _ (.head _)))) |> fun x=>?_) (Lib.laidMet.reads h (.tail _ (.tail _ (.head _))) |> fun x=>?_)
 ·rw [afA] at x;exact x
 ·rw [adv] at x;exact x
theorem Lh {w:World} {a:Addr} {v:Value} (h:w.cell? a=some v):a.block<w.heap.size:=by
 unfold World.cell? at h
 split at h
 ·rename_i hh;exact (lza.1 hh).1
 ·cases h
theorem alF {W:World} (h:laidMetH Tryz.prog laid W):XV.NX (WA W):=by
 intro w l H
 have b:=H.finish
 obtain ⟨t3,t4⟩:=ajq h
 refine ⟨fun c hc=>?_,fun i hi=>⟨?_,?_⟩⟩
 ·rw [b.cell (Lh (t3 c hc))];exact t3 c hc
 ·rw [b.cell (Lh (t4 i hi).1)];exact (t4 i hi).1
 ·rw [b.cell (Lh (t4 i hi).2)];exact (t4 i hi).2
theorem aaQ {P:Program} {W:World} {name:String} {zs:List Int} {g:Nat} (h:Lib.TabIs P W name .u8 zs) (hg:P.globalNamed name=some g):At W g 0 (zs.map fun z=>Value.int .u8 z):=by
 unfold Lib.TabIs World.var? at h
 rw [hg,lRb] at h
 split at h
 ·rename_i cs e fz hh
  obtain rfl:=Option.some.inj h
  exact ⟨_,e,fz,hh,fun i v hi=>by simpa using hi⟩
 ·cases h
theorem afB {W:World} {b:Nat} {vs:List Value} (h:At W b 0 vs):No (WA W) b 0 vs:=by
 obtain ⟨cs,e,fz,h1,h2⟩:=h
 exact ⟨cs,e,fz,h1,h2⟩
theorem alG {W:World} (h:laidMetH Tryz.prog laid W):Fold.I3 (WA W):=by
 rw [MakeChecks.laidMetH_plain _ _ _ k_i] at h
 have Kn:Lib.TabIs Tryz.prog W "math/bits.deBruijn32tab" .u8 (Bm.Q8.map fun (n:Nat)=>(n:Int)):=Lib.tabIs_of_head (g:=2) (t:=347) (e:=5) (n:=32) k_i k_i rfl rfl k_i k_i h
 have U2:Lib.TabIs Tryz.prog W "math/bits.deBruijn64tab" .u8 (Bm.Q7.map fun (n:Nat)=>(n:Int)):=Lib.tabIs_of_head (g:=3) (t:=348) (e:=5) (n:=64) k_i k_i rfl rfl k_i k_i h.tail
 exact ⟨afB (aaQ Kn k_i),afB (aaQ U2 k_i)⟩
theorem anC {W:World} (h:laidMetH Tryz.prog laid W):XV.NX (WA W)∧Fold.I3 (WA W):=⟨alF h,alG h⟩
theorem met (os:Os) (args:Array Value):laidMetH Tryz.prog laid ((World.laidAll Tryz.prog os laid).forCall (fun _ _=>0) ⟨#[],args,[]⟩).memory:=by
 rw [MakeChecks.laidMetH_plain _ _ _ k_i];exact laidMet_laidAll _ k_i k_i
section
variable {H:Type} {enc:TypeId × Value→H}
theorem aav {a:Assume} {C:Checked} {os:Os} {f:FuncId} {fn:Func} {s:ChangeSpec} {conds:List PathCond} {apart fresh handsOn again:Bool} {X:World→Array Value→Prop}
  (hX:∀(w w':World) (args:Array Value),w.heap=w'.heap→X w args→X w' args)
  (own:ownKnob C.prog.godebug=none) (started:os.Started) (noInit:C.prog.inits.idxOf? f=none) (hfn:C.prog.funcs[f]?=some fn)
  (witness:∃(w:World) (tape:Tape) (i:Input),w.os=os∧(w.forCall tape i).Shaped C.prog∧i.vars=[]∧Input.okWide C.prog (w.forCall tape i) .any w.heap.size f i ∧
   ((s.pre enc C.prog fn conds apart (w.forCall tape i).memory i.args∧X (w.forCall tape i).memory i.args)∧sizedMet enc C.prog fn (OpenSpec.ofChange s) apart (w.forCall tape i).memory i.args)∧a.holds C.prog (lone (Frame.enter C.prog f i.args .normal) [] (w.forCall tape i)))
  (contract:∀(W:World) (base:Nat) (args:Array Value) (ds gs:List (DataW H)) (before:List MemPlace),
   (∀(j:Nat) t v,fn.params[j]?=some t→args[j]?=some v→Value.okWide C.prog W .any base t v) →
   DataW.Whole enc C.prog fn.params.toList s.vars apart W args.toList ds gs before →
   conds.all (PathCond.test C.prog ⟨fn.params.toList,ds,s.plain.varTypes C.prog,gs⟩)=true →
   (DataW.weightsEach C.prog (fn.params.toList++s.plain.varTypes C.prog) (ds++gs)).all (·≤reachBytes)=true→X W args→W.ShapedOpen C.prog →
   a.holds C.prog (lone (Frame.enter C.prog f args .normal) [] W) →
   Calls C.prog f args W fun e W'=>∃v,e=.returned v∧s.post enc C.prog fn apart fresh handsOn again W args v W') :
  ReturnsInHanded a C os f .any (fun w args=>(s.pre enc C.prog fn conds apart w args∧X w args)∧sizedMet enc C.prog fn (OpenSpec.ofChange s) apart w args) (s.post enc C.prog fn apart fresh handsOn again):=by
 refine returnsInHanded_of_calls own started noInit witness<|fun w tape i _ hsh _ hok hpre hholds=>?_
 obtain ⟨_,_,_,fn',anD,_,_,_,_,hval⟩:=hok
 have e:fn'=fn:=Option.some.inj (anD.symm.trans hfn)
 subst e
 obtain ⟨⟨⟨ds,gs,before,hw,hc⟩,hx⟩,hz⟩:=hpre
 have hw':=DataW.Whole.of_heap (w':=w.forCall tape i) (by rfl) hw
 refine (contract (w.forCall tape i) w.heap.size i.args ds gs before hval hw' hc (hz.weights hw) (hX _ _ _ (by rfl) hx) hsh hholds).mono fun e W' ⟨v,he,hp⟩=>?_
 subst he
 exact ChangeSpec.post_blind hp
end
end Ky
end Go.Proofs.YtakpnepblgfknaaGreatDoor
