/- Texts of this claim, one behind the other. -/
import Derived.Test.YtakpnepblgfknaaGreatDoorM10
import Derived.Test.YtakpnepblgfknaaGreatDoorM9
import Derived.Test.YtakpnepblgfknaaGreatDoorM4
set_option maxRecDepth 100000
set_option maxHeartbeats 4000000
set_option linter.unusedVariables false
set_option linter.unusedSimpArgs false
set_option linter.defProp false
namespace Go.Proofs.YtakpnepblgfknaaGreatDoor
namespace Rn
open Go YZ Go.RowKit
open YS Zk XV YQ Valid Mem
def fr (c:CV):List As:=[Sl 2 1 ZG c.vl c.loc,Sl 2 1 ZG c.vs c.stk]
def Wa (cs:List CV):As:=Re (cs.flatMap fr)
section
variable {g:Zv} {w:World} {l:List As} {m:Y9} {pr cp mp:Nat} {vw vc vt vg vp Tb vj:Value} {host f e:Int} {cs up:List CV} {Zr Zg s2:List Int} {ps:List WT} {c u:CV} {x:ZU} {i b o:Nat} {ws:List XT} {j:XT}
theorem afe (H:Sat g w (Wa (up++[c])::l)):Sat g w (Sl 2 1 ZG c.vl c.loc::Sl 2 1 ZG c.vs c.stk::Wa up::l):=by
 have H:=H.unbox
 rw [lMa,lma] at H
 have H:=(H.box (l1:=up.flatMap fr))
 have H:Sat g w (Wa up::Sl 2 1 ZG c.vl c.loc::Sl 2 1 ZG c.vs c.stk::l):=H
 exact H.Z8 [2,2] fun H=>H
theorem PS (H:Sat g w (Sl 2 1 ZG c.vl c.loc::Sl 2 1 ZG c.vs c.stk::Wa up::l)):Sat g w (Wa (up++[c])::l):=by
 refine H.Z8 [2]<|fun H=>?_
 have H:Sat g w (Re (up.flatMap fr)::([Sl 2 1 ZG c.vl c.loc,Sl 2 1 ZG c.vs c.stk]++l)):=H
 have H:=H.unbox
 rw [←lma] at H
 have H:=H.box
 show Sat g w (Re ((up++[c]).flatMap fr)::l)
 rw [lMa]
 exact H
theorem YK (hcs:cs=up++[c]):cs[up.length]?=some c:=by rw [hcs];simp
theorem Yv (hcs:cs=up++[c]) (z:CV):cs.set up.length z=up++[z]:=by rw [hcs];simp
theorem aln (H:Sat g w (Pt pr [.pointer (some ⟨cp,0,none⟩),vw,vc,.int .i64 0] 148::Pt cp [m.vt,m.vm,m.vf,.int .i64 m.table,.int .i64 m.pages,.int .i64 m.most,m.vg,m.vx,.int .i64 m.start,m.ve,m.vd,.pointer (some ⟨mp,0,none⟩),vt,vg] 158::Pt mp [vp,.int .i64 m.most] 221::Sl 223 256 Xf vp ps::Sl 3 1 ZG vt Zr::Sl 2 1 ZG vg Zg::Sl 79 4 Yk vc cs::Wa up::Sl 2 1 ZG c.vl c.loc::Sl 2 1 ZG c.vs c.stk::l)) (hcs:cs=up++[c]) (E:El vc 4 up.length b o) (UA:0≤c.at_∧c.at_≤1000) (hlen:c.stk.length≤10000) (ho:x.op=0):Fc Tryz.prog 114 #[.pointer (some ⟨pr,0,none⟩),.pointer (some ⟨b,o,none⟩),.agg #[.int .u8 x.op,.int .i64 x.a,.int .i64 x.b,Tb],vj] w (fun r w'=>r=.agg #[.int .i64 2,.slice none 0 0,.int .i64 20,.int .i64 0,.int .i64 0]∧Sat g w' (Pt pr [.pointer (some ⟨cp,0,none⟩),vw,vc,.int .i64 0] 148::Pt cp [m.vt,m.vm,m.vf,.int .i64 m.table,.int .i64 m.pages,.int .i64 m.most,m.vg,m.vx,.int .i64 m.start,m.ve,m.vd,.pointer (some ⟨mp,0,none⟩),vt,vg] 158::Pt mp [vp,.int .i64 m.most] 221::Sl 223 256 Xf vp ps::Sl 3 1 ZG vt Zr::Sl 2 1 ZG vg Zg::l)):=by
 refine Fc.of Tryz.func114 rfl k_i ?_
 have hx:=YK hcs
 refine ZH H<|fun p1 w1 H=>ZS H rfl<|fun p2 w2 H=>Z9 rfl<|Z4 (H.el 8 rfl E hx) 1 rfl rfl rfl<|ZX qo<|Z9 rfl<|YB H 8 rfl E hx 1 (⟨c.fn,c.at_+1,c.vl,c.loc,c.vs,c.stk⟩) rfl rfl rfl rfl<|fun w1 H=>Z9 rfl<|Z4 (H.at 1 rfl) 0 rfl rfl rfl<|bk<|cT (ZN qa)<|Zf rfl rfl rfl<|ZD H 0 rfl rfl rfl rfl<|fun w2 H=>Xd (H.at 0 rfl) 0 rfl rfl rfl<|Z6.mk ?_
 refine ⟨rfl,?_⟩
 refine H.Z8 [7,7,7,7,7,7]<|fun H=>H.drop 11<|fun H=>H.drop 10<|fun H=>H.drop 9<|fun H=>H.drop 8<|fun H=>H.drop 7<|fun H=>H.drop 6<|fun H=>?_
 exact H
theorem alo (H:Sat g w (Pt pr [.pointer (some ⟨cp,0,none⟩),vw,vc,.int .i64 0] 148::Pt cp [m.vt,m.vm,m.vf,.int .i64 m.table,.int .i64 m.pages,.int .i64 m.most,m.vg,m.vx,.int .i64 m.start,m.ve,m.vd,.pointer (some ⟨mp,0,none⟩),vt,vg] 158::Pt mp [vp,.int .i64 m.most] 221::Sl 223 256 Xf vp ps::Sl 3 1 ZG vt Zr::Sl 2 1 ZG vg Zg::Sl 79 4 Yk vc cs::Wa up::Sl 2 1 ZG c.vl c.loc::Sl 2 1 ZG c.vs c.stk::l)) (hcs:cs=up++[c]) (E:El vc 4 up.length b o) (UA:0≤c.at_∧c.at_≤1000) (hlen:c.stk.length≤10000) (ho:x.op=1∨x.op=2∨x.op=3):Fc Tryz.prog 114 #[.pointer (some ⟨pr,0,none⟩),.pointer (some ⟨b,o,none⟩),.agg #[.int .u8 x.op,.int .i64 x.a,.int .i64 x.b,Tb],vj] w (fun r w'=>r=.agg #[.int .i64 0,.slice none 0 0,.int .i64 0,.int .i64 0,.int .i64 0]∧Sat g w' (Pt pr [.pointer (some ⟨cp,0,none⟩),vw,vc,.int .i64 0] 148::Pt cp [m.vt,m.vm,m.vf,.int .i64 m.table,.int .i64 m.pages,.int .i64 m.most,m.vg,m.vx,.int .i64 m.start,m.ve,m.vd,.pointer (some ⟨mp,0,none⟩),vt,vg] 158::Pt mp [vp,.int .i64 m.most] 221::Sl 223 256 Xf vp ps::Sl 3 1 ZG vt Zr::Sl 2 1 ZG vg Zg::Sl 79 4 Yk vc (up++[⟨c.fn,c.at_+1,c.vl,c.loc,c.vs,c.stk⟩])::Wa up::Sl 2 1 ZG c.vl c.loc::Sl 2 1 ZG c.vs c.stk::l)):=by
 refine Fc.of Tryz.func114 rfl k_i ?_
 have hx:=YK hcs
 have WY:=Yv hcs
 rcases ho with ho|ho|ho
 ·refine ZH H<|fun p1 w1 H=>ZS H rfl<|fun p2 w2 H=>Z9 rfl<|Z4 (H.el 8 rfl E hx) 1 rfl rfl rfl<|ZX qo<|Z9 rfl<|YB H 8 rfl E hx 1 (⟨c.fn,c.at_+1,c.vl,c.loc,c.vs,c.stk⟩) rfl rfl rfl rfl<|fun w1 H=>Z9 rfl<|Z4 (H.at 1 rfl) 0 rfl rfl rfl<|bk<|cF (Z5 qo)<|cT (ZN qa)<|cT (ZN qa)<|Zf rfl rfl rfl<|ZD H 0 rfl rfl rfl rfl<|fun w2 H=>Xd (H.at 0 rfl) 0 rfl rfl rfl<|Z6.mk ?_
  refine ⟨rfl,?_⟩
  refine H.Z8 [11,11,11,11,11,11,11,11,11,11]<|fun H=>H.drop 11<|fun H=>H.drop 10<|fun H=>?_
  refine H.cg (YT rfl (YT rfl (YT rfl (YT rfl (YT rfl (YT rfl (YT (Ro ?_) (YT rfl (YT rfl (YT rfl (rfl)))))))))))
  exact WY _
 ·refine ZH H<|fun p1 w1 H=>ZS H rfl<|fun p2 w2 H=>Z9 rfl<|Z4 (H.el 8 rfl E hx) 1 rfl rfl rfl<|ZX qo<|Z9 rfl<|YB H 8 rfl E hx 1 (⟨c.fn,c.at_+1,c.vl,c.loc,c.vs,c.stk⟩) rfl rfl rfl rfl<|fun w1 H=>Z9 rfl<|Z4 (H.at 1 rfl) 0 rfl rfl rfl<|bk<|cF (Z5 qo)<|cF (Z5 qo)<|cT (ZN qa)<|cT (ZN qa)<|Zf rfl rfl rfl<|ZD H 0 rfl rfl rfl rfl<|fun w2 H=>Xd (H.at 0 rfl) 0 rfl rfl rfl<|Z6.mk ?_
  refine ⟨rfl,?_⟩
  refine H.Z8 [11,11,11,11,11,11,11,11,11,11]<|fun H=>H.drop 11<|fun H=>H.drop 10<|fun H=>?_
  refine H.cg (YT rfl (YT rfl (YT rfl (YT rfl (YT rfl (YT rfl (YT (Ro ?_) (YT rfl (YT rfl (YT rfl (rfl)))))))))))
  exact WY _
 ·refine ZH H<|fun p1 w1 H=>ZS H rfl<|fun p2 w2 H=>Z9 rfl<|Z4 (H.el 8 rfl E hx) 1 rfl rfl rfl<|ZX qo<|Z9 rfl<|YB H 8 rfl E hx 1 (⟨c.fn,c.at_+1,c.vl,c.loc,c.vs,c.stk⟩) rfl rfl rfl rfl<|fun w1 H=>Z9 rfl<|Z4 (H.at 1 rfl) 0 rfl rfl rfl<|bk<|cF (Z5 qo)<|cF (Z5 qo)<|cF (Z5 qo)<|cT (ZN qa)<|Zf rfl rfl rfl<|ZD H 0 rfl rfl rfl rfl<|fun w2 H=>Xd (H.at 0 rfl) 0 rfl rfl rfl<|Z6.mk ?_
  refine ⟨rfl,?_⟩
  refine H.Z8 [11,11,11,11,11,11,11,11,11,11]<|fun H=>H.drop 11<|fun H=>H.drop 10<|fun H=>?_
  refine H.cg (YT rfl (YT rfl (YT rfl (YT rfl (YT rfl (YT rfl (YT (Ro ?_) (YT rfl (YT rfl (YT rfl (rfl)))))))))))
  exact WY _
theorem ai4 (H:Sat g w (Pt pr [.pointer (some ⟨cp,0,none⟩),vw,vc,.int .i64 0] 148::Pt cp [m.vt,m.vm,m.vf,.int .i64 m.table,.int .i64 m.pages,.int .i64 m.most,m.vg,m.vx,.int .i64 m.start,m.ve,m.vd,.pointer (some ⟨mp,0,none⟩),vt,vg] 158::Pt mp [vp,.int .i64 m.most] 221::Sl 223 256 Xf vp ps::Sl 3 1 ZG vt Zr::Sl 2 1 ZG vg Zg::Sl 79 4 Yk vc cs::Wa up::Sl 2 1 ZG c.vl c.loc::Sl 2 1 ZG c.vs c.stk::l)) (hcs:cs=up++[c]) (E:El vc 4 up.length b o) (UA:0≤c.at_∧c.at_≤1000) (hlen:c.stk.length≤10000) (hj:ZZ g OF EM 3 vj ws) (hjn:0≤j.height) (Eu:0≤j.keep) (Hr:ws.length≤100) (ho:x.op=12∨x.op=15) (hw:ws[0]?=some j) (hjf:j.height+j.keep≤c.stk.length):Fc Tryz.prog 114 #[.pointer (some ⟨pr,0,none⟩),.pointer (some ⟨b,o,none⟩),.agg #[.int .u8 x.op,.int .i64 x.a,.int .i64 x.b,Tb],vj] w (fun r w'=>∃vs',r=.agg #[.int .i64 0,.slice none 0 0,.int .i64 0,.int .i64 0,.int .i64 0]∧Sat g w' (Pt pr [.pointer (some ⟨cp,0,none⟩),vw,vc,.int .i64 0] 148::Pt cp [m.vt,m.vm,m.vf,.int .i64 m.table,.int .i64 m.pages,.int .i64 m.most,m.vg,m.vx,.int .i64 m.start,m.ve,m.vd,.pointer (some ⟨mp,0,none⟩),vt,vg] 158::Pt mp [vp,.int .i64 m.most] 221::Sl 223 256 Xf vp ps::Sl 3 1 ZG vt Zr::Sl 2 1 ZG vg Zg::Sl 79 4 Yk vc (up++[⟨c.fn,j.at_,c.vl,c.loc,vs',(c.stk.take j.height.toNat++c.stk.drop (c.stk.length-j.keep.toNat))⟩])::Wa up::Sl 2 1 ZG c.vl c.loc::Sl 2 1 ZG vs' (c.stk.take j.height.toNat++c.stk.drop (c.stk.length-j.keep.toNat))::l)):=by
 refine Fc.of Tryz.func114 rfl k_i ?_
 have hx:=YK hcs
 have WY:=Yv hcs
 rcases ho with ho|ho
 ·refine ZH H<|fun p1 w1 H=>ZS H rfl<|fun p2 w2 H=>Z9 rfl<|Z4 (H.el 8 rfl E hx) 1 rfl rfl rfl<|ZX qo<|Z9 rfl<|YB H 8 rfl E hx 1 (⟨c.fn,c.at_+1,c.vl,c.loc,c.vs,c.stk⟩) rfl rfl rfl rfl<|fun w1 H=>Z9 rfl<|Z4 (H.at 1 rfl) 0 rfl rfl rfl<|bk ?_
  simp only [WY] at H
  have hx1:(up++[(⟨c.fn,c.at_+1,c.vl,c.loc,c.vs,c.stk⟩:CV)])[up.length]?=some (⟨c.fn,c.at_+1,c.vl,c.loc,c.vs,c.stk⟩:CV):=YK rfl
  clear hx
  have WC:∀z,(up++[(⟨c.fn,c.at_+1,c.vl,c.loc,c.vs,c.stk⟩:CV)]).set up.length z=up++[z]:=Yv rfl
  refine cF (Z5 qo)<|cF (Z5 qo)<|cF (Z5 qo)<|cF (Z5 qo)<|cF (Z5 qo)<|cT (ZN qa)<|cT (ZN qa) ?_
  obtain ⟨b1,o1,E1,F1,ZE⟩:=ZZ.Y1 hj hw
  refine ZJ E1 rfl rfl rfl<|ZA (H.XQ F1) 0 rfl rfl rfl<|H.Z8 [11,9]<|fun H=>?_
  refine Z7.mk (Fc.imp (Rn.Mw E _ hx1 H _ qa qa qa ?_) ?_)
  ·exact k_a
  clear H
  rintro v' w2 ⟨Zx,H⟩
  refine Zf rfl rfl rfl<|ZD H 2 rfl rfl rfl rfl<|fun w3 H=>Xd (H.at 2 rfl) 0 rfl rfl rfl<|Z6.mk ?_
  refine ⟨Zx,?_⟩
  refine ⟨rfl,?_⟩
  refine H.Z8 [1,11,11,3,11,11,11,11,11,11]<|fun H=>H.drop 11<|fun H=>H.drop 10<|fun H=>?_
  refine H.cg (YT rfl (YT rfl (YT rfl (YT rfl (YT rfl (YT rfl (YT (Ro ?_) (YT rfl (YT rfl (YT rfl (rfl)))))))))))
  exact WC _
 ·refine ZH H<|fun p1 w1 H=>ZS H rfl<|fun p2 w2 H=>Z9 rfl<|Z4 (H.el 8 rfl E hx) 1 rfl rfl rfl<|ZX qo<|Z9 rfl<|YB H 8 rfl E hx 1 (⟨c.fn,c.at_+1,c.vl,c.loc,c.vs,c.stk⟩) rfl rfl rfl rfl<|fun w1 H=>Z9 rfl<|Z4 (H.at 1 rfl) 0 rfl rfl rfl<|bk ?_
  simp only [WY] at H
  have hx1:(up++[(⟨c.fn,c.at_+1,c.vl,c.loc,c.vs,c.stk⟩:CV)])[up.length]?=some (⟨c.fn,c.at_+1,c.vl,c.loc,c.vs,c.stk⟩:CV):=YK rfl
  clear hx
  have WC:∀z,(up++[(⟨c.fn,c.at_+1,c.vl,c.loc,c.vs,c.stk⟩:CV)]).set up.length z=up++[z]:=Yv rfl
  refine cF (Z5 qo)<|cF (Z5 qo)<|cF (Z5 qo)<|cF (Z5 qo)<|cF (Z5 qo)<|cF (Z5 qo)<|cT (ZN qa) ?_
  obtain ⟨b1,o1,E1,F1,ZE⟩:=ZZ.Y1 hj hw
  refine ZJ E1 rfl rfl rfl<|ZA (H.XQ F1) 0 rfl rfl rfl<|H.Z8 [11,9]<|fun H=>?_
  refine Z7.mk (Fc.imp (Rn.Mw E _ hx1 H _ qa qa qa ?_) ?_)
  ·exact k_a
  clear H
  rintro v' w2 ⟨Zx,H⟩
  refine Zf rfl rfl rfl<|ZD H 2 rfl rfl rfl rfl<|fun w3 H=>Xd (H.at 2 rfl) 0 rfl rfl rfl<|Z6.mk ?_
  refine ⟨Zx,?_⟩
  refine ⟨rfl,?_⟩
  refine H.Z8 [1,11,11,3,11,11,11,11,11,11]<|fun H=>H.drop 11<|fun H=>H.drop 10<|fun H=>?_
  refine H.cg (YT rfl (YT rfl (YT rfl (YT rfl (YT rfl (YT rfl (YT (Ro ?_) (YT rfl (YT rfl (YT rfl (rfl)))))))))))
  exact WC _
theorem ahI (H:Sat g w (Pt pr [.pointer (some ⟨cp,0,none⟩),vw,vc,.int .i64 0] 148::Pt cp [m.vt,m.vm,m.vf,.int .i64 m.table,.int .i64 m.pages,.int .i64 m.most,m.vg,m.vx,.int .i64 m.start,m.ve,m.vd,.pointer (some ⟨mp,0,none⟩),vt,vg] 158::Pt mp [vp,.int .i64 m.most] 221::Sl 223 256 Xf vp ps::Sl 3 1 ZG vt Zr::Sl 2 1 ZG vg Zg::Sl 79 4 Yk vc cs::Wa up::Sl 2 1 ZG c.vl c.loc::Sl 2 1 ZG c.vs c.stk::l)) (hcs:cs=up++[c]) (E:El vc 4 up.length b o) (UA:0≤c.at_∧c.at_≤1000) (hlen:c.stk.length≤10000) (hj:ZZ g OF EM 3 vj ws) (hjn:0≤j.height) (Eu:0≤j.keep) (Hr:ws.length≤100) (h1:1≤c.stk.length) (ho:(x.op=4∧top c.stk 0=0)∨(x.op=13∧top c.stk 0≠0)) (hw:ws[0]?=some j) (hjf:j.height+j.keep≤(low c.stk 1).length):Fc Tryz.prog 114 #[.pointer (some ⟨pr,0,none⟩),.pointer (some ⟨b,o,none⟩),.agg #[.int .u8 x.op,.int .i64 x.a,.int .i64 x.b,Tb],vj] w (fun r w'=>∃vs',r=.agg #[.int .i64 0,.slice none 0 0,.int .i64 0,.int .i64 0,.int .i64 0]∧Sat g w' (Pt pr [.pointer (some ⟨cp,0,none⟩),vw,vc,.int .i64 0] 148::Pt cp [m.vt,m.vm,m.vf,.int .i64 m.table,.int .i64 m.pages,.int .i64 m.most,m.vg,m.vx,.int .i64 m.start,m.ve,m.vd,.pointer (some ⟨mp,0,none⟩),vt,vg] 158::Pt mp [vp,.int .i64 m.most] 221::Sl 223 256 Xf vp ps::Sl 3 1 ZG vt Zr::Sl 2 1 ZG vg Zg::Sl 79 4 Yk vc (up++[⟨c.fn,j.at_,c.vl,c.loc,vs',((low c.stk 1).take j.height.toNat++(low c.stk 1).drop ((low c.stk 1).length-j.keep.toNat))⟩])::Wa up::Sl 2 1 ZG c.vl c.loc::Sl 2 1 ZG vs' ((low c.stk 1).take j.height.toNat++(low c.stk 1).drop ((low c.stk 1).length-j.keep.toNat))::l)):=by
 refine Fc.of Tryz.func114 rfl k_i ?_
 have hx:=YK hcs
 have WY:=Yv hcs
 have Rk:(low c.stk 1).length=c.stk.length-1:=OE
 rcases ho with ⟨ho,hz⟩|⟨ho,hz⟩
 ·refine ZH H<|fun p1 w1 H=>ZS H rfl<|fun p2 w2 H=>Z9 rfl<|Z4 (H.el 8 rfl E hx) 1 rfl rfl rfl<|ZX qo<|Z9 rfl<|YB H 8 rfl E hx 1 (⟨c.fn,c.at_+1,c.vl,c.loc,c.vs,c.stk⟩) rfl rfl rfl rfl<|fun w1 H=>Z9 rfl<|Z4 (H.at 1 rfl) 0 rfl rfl rfl<|bk ?_
  simp only [WY] at H
  have hx1:(up++[(⟨c.fn,c.at_+1,c.vl,c.loc,c.vs,c.stk⟩:CV)])[up.length]?=some (⟨c.fn,c.at_+1,c.vl,c.loc,c.vs,c.stk⟩:CV):=YK rfl
  clear hx
  have WC:∀z,(up++[(⟨c.fn,c.at_+1,c.vl,c.loc,c.vs,c.stk⟩:CV)]).set up.length z=up++[z]:=Yv rfl
  refine cF (Z5 qo)<|cF (Z5 qo)<|cF (Z5 qo)<|cF (Z5 qo)<|cT (ZN qa)<|H.Z8 [11,9]<|fun H=>?_
  refine Z7.mk (Fc.imp (Rn.KC E _ hx1 H qa ?_) ?_)
  ·exact k_a
  clear H
  rintro _ w2 ⟨Zx,⟨t1,⟨rfl,⟨h2,H⟩⟩⟩⟩
  simp only [WC] at H
  replace h2:t1=top c.stk 0:=h2
  clear hx1
  have Rm:(up++[(⟨c.fn,c.at_+1,c.vl,c.loc,Zx,low c.stk 1⟩:CV)])[up.length]?=some (⟨c.fn,c.at_+1,c.vl,c.loc,Zx,low c.stk 1⟩:CV):=YK rfl
  have Qp:∀z,(up++[(⟨c.fn,c.at_+1,c.vl,c.loc,Zx,low c.stk 1⟩:CV)]).set up.length z=up++[z]:=Yv rfl
  refine cT (ZN qo) ?_
  obtain ⟨b1,o1,E1,F1,ZE⟩:=ZZ.Y1 hj hw
  refine ZJ E1 rfl rfl rfl<|ZA (H.XQ F1) 0 rfl rfl rfl ?_
  refine Z7.mk (Fc.imp (Rn.Mw E _ Rm H _ qa qa qa ?_) ?_)
  ·exact k_a
  clear H
  rintro v' w3 ⟨V0,H⟩
  refine Zf rfl rfl rfl<|ZD H 2 rfl rfl rfl rfl<|fun w4 H=>Xd (H.at 2 rfl) 0 rfl rfl rfl<|Z6.mk ?_
  refine ⟨V0,?_⟩
  refine ⟨rfl,?_⟩
  refine H.Z8 [1,11,11,3,11,11,11,11,11,11]<|fun H=>H.drop 11<|fun H=>H.drop 10<|fun H=>?_
  refine H.cg (YT rfl (YT rfl (YT rfl (YT rfl (YT rfl (YT rfl (YT (Ro ?_) (YT rfl (YT rfl (YT rfl (rfl)))))))))))
  exact Qp _
 ·refine ZH H<|fun p1 w1 H=>ZS H rfl<|fun p2 w2 H=>Z9 rfl<|Z4 (H.el 8 rfl E hx) 1 rfl rfl rfl<|ZX qo<|Z9 rfl<|YB H 8 rfl E hx 1 (⟨c.fn,c.at_+1,c.vl,c.loc,c.vs,c.stk⟩) rfl rfl rfl rfl<|fun w1 H=>Z9 rfl<|Z4 (H.at 1 rfl) 0 rfl rfl rfl<|bk ?_
  simp only [WY] at H
  have hx1:(up++[(⟨c.fn,c.at_+1,c.vl,c.loc,c.vs,c.stk⟩:CV)])[up.length]?=some (⟨c.fn,c.at_+1,c.vl,c.loc,c.vs,c.stk⟩:CV):=YK rfl
  clear hx
  have WC:∀z,(up++[(⟨c.fn,c.at_+1,c.vl,c.loc,c.vs,c.stk⟩:CV)]).set up.length z=up++[z]:=Yv rfl
  refine cF (Z5 qo)<|cF (Z5 qo)<|cF (Z5 qo)<|cF (Z5 qo)<|cF (Z5 qo)<|cF (Z5 qo)<|cF (Z5 qo)<|cT (ZN qa)<|H.Z8 [11,9]<|fun H=>?_
  refine Z7.mk (Fc.imp (Rn.KC E _ hx1 H qa ?_) ?_)
  ·exact k_a
  clear H
  rintro _ w2 ⟨Zx,⟨t1,⟨rfl,⟨h2,H⟩⟩⟩⟩
  simp only [WC] at H
  replace h2:t1=top c.stk 0:=h2
  clear hx1
  have Rm:(up++[(⟨c.fn,c.at_+1,c.vl,c.loc,Zx,low c.stk 1⟩:CV)])[up.length]?=some (⟨c.fn,c.at_+1,c.vl,c.loc,Zx,low c.stk 1⟩:CV):=YK rfl
  have Qp:∀z,(up++[(⟨c.fn,c.at_+1,c.vl,c.loc,Zx,low c.stk 1⟩:CV)]).set up.length z=up++[z]:=Yv rfl
  refine cT (Vg qo) ?_
  obtain ⟨b1,o1,E1,F1,ZE⟩:=ZZ.Y1 hj hw
  refine ZJ E1 rfl rfl rfl<|ZA (H.XQ F1) 0 rfl rfl rfl ?_
  refine Z7.mk (Fc.imp (Rn.Mw E _ Rm H _ qa qa qa ?_) ?_)
  ·exact k_a
  clear H
  rintro v' w3 ⟨V0,H⟩
  refine Zf rfl rfl rfl<|ZD H 2 rfl rfl rfl rfl<|fun w4 H=>Xd (H.at 2 rfl) 0 rfl rfl rfl<|Z6.mk ?_
  refine ⟨V0,?_⟩
  refine ⟨rfl,?_⟩
  refine H.Z8 [1,11,11,3,11,11,11,11,11,11]<|fun H=>H.drop 11<|fun H=>H.drop 10<|fun H=>?_
  refine H.cg (YT rfl (YT rfl (YT rfl (YT rfl (YT rfl (YT rfl (YT (Ro ?_) (YT rfl (YT rfl (YT rfl (rfl)))))))))))
  exact Qp _
theorem ahJ (H:Sat g w (Pt pr [.pointer (some ⟨cp,0,none⟩),vw,vc,.int .i64 0] 148::Pt cp [m.vt,m.vm,m.vf,.int .i64 m.table,.int .i64 m.pages,.int .i64 m.most,m.vg,m.vx,.int .i64 m.start,m.ve,m.vd,.pointer (some ⟨mp,0,none⟩),vt,vg] 158::Pt mp [vp,.int .i64 m.most] 221::Sl 223 256 Xf vp ps::Sl 3 1 ZG vt Zr::Sl 2 1 ZG vg Zg::Sl 79 4 Yk vc cs::Wa up::Sl 2 1 ZG c.vl c.loc::Sl 2 1 ZG c.vs c.stk::l)) (hcs:cs=up++[c]) (E:El vc 4 up.length b o) (UA:0≤c.at_∧c.at_≤1000) (hlen:c.stk.length≤10000) (h1:1≤c.stk.length) (ho:(x.op=4∧top c.stk 0≠0)∨(x.op=13∧top c.stk 0=0)):Fc Tryz.prog 114 #[.pointer (some ⟨pr,0,none⟩),.pointer (some ⟨b,o,none⟩),.agg #[.int .u8 x.op,.int .i64 x.a,.int .i64 x.b,Tb],vj] w (fun r w'=>∃vs',r=.agg #[.int .i64 0,.slice none 0 0,.int .i64 0,.int .i64 0,.int .i64 0]∧Sat g w' (Pt pr [.pointer (some ⟨cp,0,none⟩),vw,vc,.int .i64 0] 148::Pt cp [m.vt,m.vm,m.vf,.int .i64 m.table,.int .i64 m.pages,.int .i64 m.most,m.vg,m.vx,.int .i64 m.start,m.ve,m.vd,.pointer (some ⟨mp,0,none⟩),vt,vg] 158::Pt mp [vp,.int .i64 m.most] 221::Sl 223 256 Xf vp ps::Sl 3 1 ZG vt Zr::Sl 2 1 ZG vg Zg::Sl 79 4 Yk vc (up++[⟨c.fn,c.at_+1,c.vl,c.loc,vs',(low c.stk 1)⟩])::Wa up::Sl 2 1 ZG c.vl c.loc::Sl 2 1 ZG vs' (low c.stk 1)::l)):=by
 refine Fc.of Tryz.func114 rfl k_i ?_
 have hx:=YK hcs
 have WY:=Yv hcs
 have Rk:(low c.stk 1).length=c.stk.length-1:=OE
 rcases ho with ⟨ho,hz⟩|⟨ho,hz⟩
 ·refine ZH H<|fun p1 w1 H=>ZS H rfl<|fun p2 w2 H=>Z9 rfl<|Z4 (H.el 8 rfl E hx) 1 rfl rfl rfl<|ZX qo<|Z9 rfl<|YB H 8 rfl E hx 1 (⟨c.fn,c.at_+1,c.vl,c.loc,c.vs,c.stk⟩) rfl rfl rfl rfl<|fun w1 H=>Z9 rfl<|Z4 (H.at 1 rfl) 0 rfl rfl rfl<|bk ?_
  simp only [WY] at H
  have hx1:(up++[(⟨c.fn,c.at_+1,c.vl,c.loc,c.vs,c.stk⟩:CV)])[up.length]?=some (⟨c.fn,c.at_+1,c.vl,c.loc,c.vs,c.stk⟩:CV):=YK rfl
  clear hx
  have WC:∀z,(up++[(⟨c.fn,c.at_+1,c.vl,c.loc,c.vs,c.stk⟩:CV)]).set up.length z=up++[z]:=Yv rfl
  refine cF (Z5 qo)<|cF (Z5 qo)<|cF (Z5 qo)<|cF (Z5 qo)<|cT (ZN qa)<|H.Z8 [11,9]<|fun H=>?_
  refine Z7.mk (Fc.imp (Rn.KC E _ hx1 H qa ?_) ?_)
  ·exact k_a
  clear H
  rintro _ w2 ⟨Zx,⟨t1,⟨rfl,⟨h2,H⟩⟩⟩⟩
  simp only [WC] at H
  replace h2:t1=top c.stk 0:=h2
  clear hx1
  have Rm:(up++[(⟨c.fn,c.at_+1,c.vl,c.loc,Zx,low c.stk 1⟩:CV)])[up.length]?=some (⟨c.fn,c.at_+1,c.vl,c.loc,Zx,low c.stk 1⟩:CV):=YK rfl
  have Qp:∀z,(up++[(⟨c.fn,c.at_+1,c.vl,c.loc,Zx,low c.stk 1⟩:CV)]).set up.length z=up++[z]:=Yv rfl
  refine cF (Z5 qo)<|Zf rfl rfl rfl<|ZD H 2 rfl rfl rfl rfl<|fun w3 H=>Xd (H.at 2 rfl) 0 rfl rfl rfl<|Z6.mk ?_
  refine ⟨Zx,?_⟩
  refine ⟨rfl,?_⟩
  refine H.Z8 [1,11,11,3,11,11,11,11,11,11]<|fun H=>H.drop 11<|fun H=>H.drop 10<|fun H=>?_
  exact H
 ·refine ZH H<|fun p1 w1 H=>ZS H rfl<|fun p2 w2 H=>Z9 rfl<|Z4 (H.el 8 rfl E hx) 1 rfl rfl rfl<|ZX qo<|Z9 rfl<|YB H 8 rfl E hx 1 (⟨c.fn,c.at_+1,c.vl,c.loc,c.vs,c.stk⟩) rfl rfl rfl rfl<|fun w1 H=>Z9 rfl<|Z4 (H.at 1 rfl) 0 rfl rfl rfl<|bk ?_
  simp only [WY] at H
  have hx1:(up++[(⟨c.fn,c.at_+1,c.vl,c.loc,c.vs,c.stk⟩:CV)])[up.length]?=some (⟨c.fn,c.at_+1,c.vl,c.loc,c.vs,c.stk⟩:CV):=YK rfl
  clear hx
  have WC:∀z,(up++[(⟨c.fn,c.at_+1,c.vl,c.loc,c.vs,c.stk⟩:CV)]).set up.length z=up++[z]:=Yv rfl
  refine cF (Z5 qo)<|cF (Z5 qo)<|cF (Z5 qo)<|cF (Z5 qo)<|cF (Z5 qo)<|cF (Z5 qo)<|cF (Z5 qo)<|cT (ZN qa)<|H.Z8 [11,9]<|fun H=>?_
  refine Z7.mk (Fc.imp (Rn.KC E _ hx1 H qa ?_) ?_)
  ·exact k_a
  clear H
  rintro _ w2 ⟨Zx,⟨t1,⟨rfl,⟨h2,H⟩⟩⟩⟩
  simp only [WC] at H
  replace h2:t1=top c.stk 0:=h2
  clear hx1
  have Rm:(up++[(⟨c.fn,c.at_+1,c.vl,c.loc,Zx,low c.stk 1⟩:CV)])[up.length]?=some (⟨c.fn,c.at_+1,c.vl,c.loc,Zx,low c.stk 1⟩:CV):=YK rfl
  have Qp:∀z,(up++[(⟨c.fn,c.at_+1,c.vl,c.loc,Zx,low c.stk 1⟩:CV)]).set up.length z=up++[z]:=Yv rfl
  refine cF (WG qo)<|Zf rfl rfl rfl<|ZD H 2 rfl rfl rfl rfl<|fun w3 H=>Xd (H.at 2 rfl) 0 rfl rfl rfl<|Z6.mk ?_
  refine ⟨Zx,?_⟩
  refine ⟨rfl,?_⟩
  refine H.Z8 [1,11,11,3,11,11,11,11,11,11]<|fun H=>H.drop 11<|fun H=>H.drop 10<|fun H=>?_
  exact H
theorem ai5 (H:Sat g w (Pt pr [.pointer (some ⟨cp,0,none⟩),vw,vc,.int .i64 0] 148::Pt cp [m.vt,m.vm,m.vf,.int .i64 m.table,.int .i64 m.pages,.int .i64 m.most,m.vg,m.vx,.int .i64 m.start,m.ve,m.vd,.pointer (some ⟨mp,0,none⟩),vt,vg] 158::Pt mp [vp,.int .i64 m.most] 221::Sl 223 256 Xf vp ps::Sl 3 1 ZG vt Zr::Sl 2 1 ZG vg Zg::Sl 79 4 Yk vc cs::Wa up::Sl 2 1 ZG c.vl c.loc::Sl 2 1 ZG c.vs c.stk::l)) (hcs:cs=up++[c]) (E:El vc 4 up.length b o) (UA:0≤c.at_∧c.at_≤1000) (hlen:c.stk.length≤10000) (hj:ZZ g OF EM 3 vj ws) (hjn:0≤j.height) (Eu:0≤j.keep) (Hr:ws.length≤100) (h1:1≤c.stk.length) (U2:WU (top c.stk 0)) (ho:x.op=14) (hw0:1≤ws.length) (hw:ws[(min (top c.stk 0 % 4294967296) (ws.length-1)).toNat]?=some j) (hjf:j.height+j.keep≤(low c.stk 1).length):Fc Tryz.prog 114 #[.pointer (some ⟨pr,0,none⟩),.pointer (some ⟨b,o,none⟩),.agg #[.int .u8 x.op,.int .i64 x.a,.int .i64 x.b,Tb],vj] w (fun r w'=>∃vs',r=.agg #[.int .i64 0,.slice none 0 0,.int .i64 0,.int .i64 0,.int .i64 0]∧Sat g w' (Pt pr [.pointer (some ⟨cp,0,none⟩),vw,vc,.int .i64 0] 148::Pt cp [m.vt,m.vm,m.vf,.int .i64 m.table,.int .i64 m.pages,.int .i64 m.most,m.vg,m.vx,.int .i64 m.start,m.ve,m.vd,.pointer (some ⟨mp,0,none⟩),vt,vg] 158::Pt mp [vp,.int .i64 m.most] 221::Sl 223 256 Xf vp ps::Sl 3 1 ZG vt Zr::Sl 2 1 ZG vg Zg::Sl 79 4 Yk vc (up++[⟨c.fn,j.at_,c.vl,c.loc,vs',((low c.stk 1).take j.height.toNat++(low c.stk 1).drop ((low c.stk 1).length-j.keep.toNat))⟩])::Wa up::Sl 2 1 ZG c.vl c.loc::Sl 2 1 ZG vs' ((low c.stk 1).take j.height.toNat++(low c.stk 1).drop ((low c.stk 1).length-j.keep.toNat))::l)):=by
 refine Fc.of Tryz.func114 rfl k_i ?_
 have hx:=YK hcs
 have WY:=Yv hcs
 have Rk:(low c.stk 1).length=c.stk.length-1:=OE
 refine ZH H<|fun p1 w1 H=>ZS H rfl<|fun p2 w2 H=>Z9 rfl<|Z4 (H.el 8 rfl E hx) 1 rfl rfl rfl<|ZX qo<|Z9 rfl<|YB H 8 rfl E hx 1 (⟨c.fn,c.at_+1,c.vl,c.loc,c.vs,c.stk⟩) rfl rfl rfl rfl<|fun w1 H=>Z9 rfl<|Z4 (H.at 1 rfl) 0 rfl rfl rfl<|bk ?_
 simp only [WY] at H
 have hx1:(up++[(⟨c.fn,c.at_+1,c.vl,c.loc,c.vs,c.stk⟩:CV)])[up.length]?=some (⟨c.fn,c.at_+1,c.vl,c.loc,c.vs,c.stk⟩:CV):=YK rfl
 clear hx
 have WC:∀z,(up++[(⟨c.fn,c.at_+1,c.vl,c.loc,c.vs,c.stk⟩:CV)]).set up.length z=up++[z]:=Yv rfl
 refine cF (Z5 qo)<|cF (Z5 qo)<|cF (Z5 qo)<|cF (Z5 qo)<|cF (Z5 qo)<|cF (Z5 qo)<|cF (Z5 qo)<|cF (Z5 qo)<|cT (ZN qa)<|H.Z8 [11,9]<|fun H=>?_
 refine Z7.mk (Fc.imp (Rn.KC E _ hx1 H qa ?_) ?_)
 ·exact k_a
 clear H
 rintro _ w2 ⟨Zx,⟨t1,⟨rfl,⟨h2,H⟩⟩⟩⟩
 simp only [WC] at H
 replace h2:t1=top c.stk 0:=h2
 clear hx1
 have Rm:(up++[(⟨c.fn,c.at_+1,c.vl,c.loc,Zx,low c.stk 1⟩:CV)])[up.length]?=some (⟨c.fn,c.at_+1,c.vl,c.loc,Zx,low c.stk 1⟩:CV):=YK rfl
 have Qp:∀z,(up++[(⟨c.fn,c.at_+1,c.vl,c.loc,Zx,low c.stk 1⟩:CV)]).set up.length z=up++[z]:=Yv rfl
 have Hf:ws[(min (t1 % 4294967296) (ws.length-1)).toNat]?=some j:=by rw [h2];exact hw
 have anZ:WU t1:=by rw [h2];exact U2
 refine Yr rfl rfl<|Xc qo rfl rfl<|Zw hj rfl<|ZX qo<|alT ?_
 obtain ⟨b1,o1,E1,F1,ZE⟩:=ZZ.Y1 hj Hf
 refine ZJ E1 qo rfl rfl<|ZA (H.XQ F1) 0 rfl rfl rfl ?_
 refine Z7.mk (Fc.imp (Rn.Mw E _ Rm H _ qa qa qa ?_) ?_)
 ·exact k_a
 clear H
 rintro v' w3 ⟨V0,H⟩
 refine Zf rfl rfl rfl<|ZD H 2 rfl rfl rfl rfl<|fun w4 H=>Xd (H.at 2 rfl) 0 rfl rfl rfl<|Z6.mk ?_
 refine ⟨V0,?_⟩
 refine ⟨rfl,?_⟩
 refine H.Z8 [1,11,11,3,11,11,11,11,11,11]<|fun H=>H.drop 11<|fun H=>H.drop 10<|fun H=>?_
 refine H.cg (YT rfl (YT rfl (YT rfl (YT rfl (YT rfl (YT rfl (YT (Ro ?_) (YT rfl (YT rfl (YT rfl (rfl)))))))))))
 exact Qp _
end
end Rn
namespace Rn
open Go YZ Go.RowKit
open YS Zk XV YQ Valid Mem
section
variable {g:Zv} {w:World} {l:List As} {m:Y9} {pr cp mp:Nat} {vw vc vt vg vp Tb vj:Value} {host f e:Int} {cs up:List CV} {Zr Zg s2:List Int} {ps:List WT} {c u:CV} {x:ZU} {i b o:Nat} {ws:List XT} {j:XT}
theorem ai6 (H:Sat g w (Pt pr [.pointer (some ⟨cp,0,none⟩),vw,vc,.int .i64 0] 148::Pt cp [m.vt,m.vm,m.vf,.int .i64 m.table,.int .i64 m.pages,.int .i64 m.most,m.vg,m.vx,.int .i64 m.start,m.ve,m.vd,.pointer (some ⟨mp,0,none⟩),vt,vg] 158::Pt mp [vp,.int .i64 m.most] 221::Sl 223 256 Xf vp ps::Sl 3 1 ZG vt Zr::Sl 2 1 ZG vg Zg::Sl 79 4 Yk vc cs::Wa up::Sl 2 1 ZG c.vl c.loc::Sl 2 1 ZG c.vs c.stk::l)) (hcs:cs=up++[c]) (E:El vc 4 up.length b o) (UA:0≤c.at_∧c.at_≤1000) (hlen:c.stk.length≤10000) (hm:XF g m) (P:SG m.d) (ho:x.op=16∨x.op=17) (Rj:∀n∈Zr,-1≤n∧n<(m.ZB.length:Int)+m.funcs.length) (h1:x.op=17→1≤c.stk.length∧0≤x.a∧x.a<m.types.length) (U2:∀v∈c.stk,WU v) (MQ:Zr.length≤1000) (Uz:cs.length≤40) (hq:YW m.d Zr x c.stk=(f,s2,e)) (he:e≠0):Fc Tryz.prog 114 #[.pointer (some ⟨pr,0,none⟩),.pointer (some ⟨b,o,none⟩),.agg #[.int .u8 x.op,.int .i64 x.a,.int .i64 x.b,Tb],vj] w (fun r w'=>r=.agg #[.int .i64 2,.slice none 0 0,.int .i64 e,.int .i64 0,.int .i64 0]∧Sat g w' (Pt pr [.pointer (some ⟨cp,0,none⟩),vw,vc,.int .i64 0] 148::Pt cp [m.vt,m.vm,m.vf,.int .i64 m.table,.int .i64 m.pages,.int .i64 m.most,m.vg,m.vx,.int .i64 m.start,m.ve,m.vd,.pointer (some ⟨mp,0,none⟩),vt,vg] 158::Pt mp [vp,.int .i64 m.most] 221::Sl 223 256 Xf vp ps::Sl 3 1 ZG vt Zr::Sl 2 1 ZG vg Zg::l)):=by
 refine Fc.of Tryz.func114 rfl k_i ?_
 have hx:=YK hcs
 have WY:=Yv hcs
 have hvl:=H.one 8 rfl
 have Fk:up.length+1=cs.length:=by rw [hcs];simp
 refine ZH H<|fun p1 w1 H=>ZS H rfl<|fun p2 w2 H=>Z9 rfl<|Z4 (H.el 8 rfl E hx) 1 rfl rfl rfl<|ZX qo<|Z9 rfl<|YB H 8 rfl E hx 1 (⟨c.fn,c.at_+1,c.vl,c.loc,c.vs,c.stk⟩) rfl rfl rfl rfl<|fun w1 H=>Z9 rfl<|Z4 (H.at 1 rfl) 0 rfl rfl rfl<|bk ?_
 simp only [WY] at H
 have hx1:(up++[(⟨c.fn,c.at_+1,c.vl,c.loc,c.vs,c.stk⟩:CV)])[up.length]?=some (⟨c.fn,c.at_+1,c.vl,c.loc,c.vs,c.stk⟩:CV):=YK rfl
 clear hx
 have WC:∀z,(up++[(⟨c.fn,c.at_+1,c.vl,c.loc,c.vs,c.stk⟩:CV)]).set up.length z=up++[z]:=Yv rfl
 have GH:(up++[(⟨c.fn,c.at_+1,c.vl,c.loc,c.vs,c.stk⟩:CV)]).length=cs.length:=by rw [hcs];simp
 rcases ho with ho|ho
 ·refine cF (Z5 qo)<|cF (Z5 qo)<|cF (Z5 qo)<|cF (Z5 qo)<|cF (Z5 qo)<|cF (Z5 qo)<|cF (Z5 qo)<|cF (Z5 qo)<|cF (Z5 qo)<|cT (ZN qa)<|cT (ZN qa)<|ZA (H.at 1 rfl) 0 rfl rfl rfl<|H.Z8 [11,9,8,6,6]<|fun H=>?_
  refine Z7.mk (Fc.imp (Rn.afa E _ hx1 H qa qa qo qa qa qa qa qa qo qa hq qa) ?_)
  clear H
  rintro _ w2 ⟨rfl,H⟩
  refine ZD H 3 rfl rfl rfl rfl<|fun w3 H=>Xd (H.at 3 rfl) 0 rfl rfl rfl<|Z6.mk ?_
  refine ⟨rfl,?_⟩
  refine H.Z8 [7,3,7,7,5,5]<|fun H=>H.drop 9<|fun H=>H.drop 8<|fun H=>H.drop 7<|fun H=>H.drop 6<|fun H=>?_
  exact H
 ·refine cF (Z5 qo)<|cF (Z5 qo)<|cF (Z5 qo)<|cF (Z5 qo)<|cF (Z5 qo)<|cF (Z5 qo)<|cF (Z5 qo)<|cF (Z5 qo)<|cF (Z5 qo)<|cF (Z5 qo)<|cT (ZN qa)<|ZA (H.at 1 rfl) 0 rfl rfl rfl<|H.Z8 [11,9,8,6,6]<|fun H=>?_
  refine Z7.mk (Fc.imp (Rn.afa E _ hx1 H qa qa qo qa qa qa qa qa qo qa hq qa) ?_)
  clear H
  rintro _ w2 ⟨rfl,H⟩
  refine ZD H 3 rfl rfl rfl rfl<|fun w3 H=>Xd (H.at 3 rfl) 0 rfl rfl rfl<|Z6.mk ?_
  refine ⟨rfl,?_⟩
  refine H.Z8 [7,3,7,7,5,5]<|fun H=>H.drop 9<|fun H=>H.drop 8<|fun H=>H.drop 7<|fun H=>H.drop 6<|fun H=>?_
  exact H
theorem ai7 (H:Sat g w (Pt pr [.pointer (some ⟨cp,0,none⟩),vw,vc,.int .i64 0] 148::Pt cp [m.vt,m.vm,m.vf,.int .i64 m.table,.int .i64 m.pages,.int .i64 m.most,m.vg,m.vx,.int .i64 m.start,m.ve,m.vd,.pointer (some ⟨mp,0,none⟩),vt,vg] 158::Pt mp [vp,.int .i64 m.most] 221::Sl 223 256 Xf vp ps::Sl 3 1 ZG vt Zr::Sl 2 1 ZG vg Zg::Sl 79 4 Yk vc cs::Wa up::Sl 2 1 ZG c.vl c.loc::Sl 2 1 ZG c.vs c.stk::l)) (hcs:cs=up++[c]) (E:El vc 4 up.length b o) (UA:0≤c.at_∧c.at_≤1000) (hlen:c.stk.length≤10000) (hm:XF g m) (P:SG m.d) (ho:x.op=16∨x.op=17) (Rj:∀n∈Zr,-1≤n∧n<(m.ZB.length:Int)+m.funcs.length) (h1:x.op=17→1≤c.stk.length∧0≤x.a∧x.a<m.types.length) (U2:∀v∈c.stk,WU v) (MQ:Zr.length≤1000) (Uz:cs.length≤40) (hq:YW m.d Zr x c.stk=(f,s2,0)) (hf:0≤f∧f<(m.ZB.length:Int)+m.funcs.length) (EE:(YD m.d f).Zc.length≤s2.length) (Jd:s2.length≤10000) (CG:(m.ZB.length:Int)≤f) (CF:cs.length=40):Fc Tryz.prog 114 #[.pointer (some ⟨pr,0,none⟩),.pointer (some ⟨b,o,none⟩),.agg #[.int .u8 x.op,.int .i64 x.a,.int .i64 x.b,Tb],vj] w (fun r w'=>r=.agg #[.int .i64 2,.slice none 0 0,.int .i64 26,.int .i64 0,.int .i64 0]∧Sat g w' (Pt pr [.pointer (some ⟨cp,0,none⟩),vw,vc,.int .i64 0] 148::Pt cp [m.vt,m.vm,m.vf,.int .i64 m.table,.int .i64 m.pages,.int .i64 m.most,m.vg,m.vx,.int .i64 m.start,m.ve,m.vd,.pointer (some ⟨mp,0,none⟩),vt,vg] 158::Pt mp [vp,.int .i64 m.most] 221::Sl 223 256 Xf vp ps::Sl 3 1 ZG vt Zr::Sl 2 1 ZG vg Zg::l)):=by
 refine Fc.of Tryz.func114 rfl k_i ?_
 have hx:=YK hcs
 have WY:=Yv hcs
 have hvl:=H.one 8 rfl
 have Fk:up.length+1=cs.length:=by rw [hcs];simp
 refine ZH H<|fun p1 w1 H=>ZS H rfl<|fun p2 w2 H=>Z9 rfl<|Z4 (H.el 8 rfl E hx) 1 rfl rfl rfl<|ZX qo<|Z9 rfl<|YB H 8 rfl E hx 1 (⟨c.fn,c.at_+1,c.vl,c.loc,c.vs,c.stk⟩) rfl rfl rfl rfl<|fun w1 H=>Z9 rfl<|Z4 (H.at 1 rfl) 0 rfl rfl rfl<|bk ?_
 simp only [WY] at H
 have hx1:(up++[(⟨c.fn,c.at_+1,c.vl,c.loc,c.vs,c.stk⟩:CV)])[up.length]?=some (⟨c.fn,c.at_+1,c.vl,c.loc,c.vs,c.stk⟩:CV):=YK rfl
 clear hx
 have WC:∀z,(up++[(⟨c.fn,c.at_+1,c.vl,c.loc,c.vs,c.stk⟩:CV)]).set up.length z=up++[z]:=Yv rfl
 have GH:(up++[(⟨c.fn,c.at_+1,c.vl,c.loc,c.vs,c.stk⟩:CV)]).length=cs.length:=by rw [hcs];simp
 rcases ho with ho|ho
 ·refine cF (Z5 qo)<|cF (Z5 qo)<|cF (Z5 qo)<|cF (Z5 qo)<|cF (Z5 qo)<|cF (Z5 qo)<|cF (Z5 qo)<|cF (Z5 qo)<|cF (Z5 qo)<|cT (ZN qa)<|cT (ZN qa)<|ZA (H.at 1 rfl) 0 rfl rfl rfl<|H.Z8 [11,9,8,6,6]<|fun H=>?_
  refine Z7.mk (Fc.imp (Rn.afb E _ hx1 H qa qa qo qa qa qa qa qa qo qa hq qa qa qa qa qo) ?_)
  clear H
  rintro _ w2 ⟨rfl,H⟩
  refine ZD H 3 rfl rfl rfl rfl<|fun w3 H=>Xd (H.at 3 rfl) 0 rfl rfl rfl<|Z6.mk ?_
  refine ⟨rfl,?_⟩
  refine H.Z8 [7,3,7,7,5,5]<|fun H=>H.drop 9<|fun H=>H.drop 8<|fun H=>H.drop 7<|fun H=>H.drop 6<|fun H=>?_
  exact H
 ·refine cF (Z5 qo)<|cF (Z5 qo)<|cF (Z5 qo)<|cF (Z5 qo)<|cF (Z5 qo)<|cF (Z5 qo)<|cF (Z5 qo)<|cF (Z5 qo)<|cF (Z5 qo)<|cF (Z5 qo)<|cT (ZN qa)<|ZA (H.at 1 rfl) 0 rfl rfl rfl<|H.Z8 [11,9,8,6,6]<|fun H=>?_
  refine Z7.mk (Fc.imp (Rn.afb E _ hx1 H qa qa qo qa qa qa qa qa qo qa hq qa qa qa qa qo) ?_)
  clear H
  rintro _ w2 ⟨rfl,H⟩
  refine ZD H 3 rfl rfl rfl rfl<|fun w3 H=>Xd (H.at 3 rfl) 0 rfl rfl rfl<|Z6.mk ?_
  refine ⟨rfl,?_⟩
  refine H.Z8 [7,3,7,7,5,5]<|fun H=>H.drop 9<|fun H=>H.drop 8<|fun H=>H.drop 7<|fun H=>H.drop 6<|fun H=>?_
  exact H
theorem ai8 (H:Sat g w (Pt pr [.pointer (some ⟨cp,0,none⟩),vw,vc,.int .i64 0] 148::Pt cp [m.vt,m.vm,m.vf,.int .i64 m.table,.int .i64 m.pages,.int .i64 m.most,m.vg,m.vx,.int .i64 m.start,m.ve,m.vd,.pointer (some ⟨mp,0,none⟩),vt,vg] 158::Pt mp [vp,.int .i64 m.most] 221::Sl 223 256 Xf vp ps::Sl 3 1 ZG vt Zr::Sl 2 1 ZG vg Zg::Sl 79 4 Yk vc cs::Wa up::Sl 2 1 ZG c.vl c.loc::Sl 2 1 ZG c.vs c.stk::l)) (hcs:cs=up++[c]) (E:El vc 4 up.length b o) (UA:0≤c.at_∧c.at_≤1000) (hlen:c.stk.length≤10000) (hm:XF g m) (P:SG m.d) (ho:x.op=16∨x.op=17) (Rj:∀n∈Zr,-1≤n∧n<(m.ZB.length:Int)+m.funcs.length) (h1:x.op=17→1≤c.stk.length∧0≤x.a∧x.a<m.types.length) (U2:∀v∈c.stk,WU v) (MQ:Zr.length≤1000) (Uz:cs.length≤40) (hq:YW m.d Zr x c.stk=(f,s2,0)) (hf:0≤f∧f<(m.ZB.length:Int)+m.funcs.length) (EE:(YD m.d f).Zc.length≤s2.length) (Jd:s2.length≤10000) (CG:f<m.ZB.length):Fc Tryz.prog 114 #[.pointer (some ⟨pr,0,none⟩),.pointer (some ⟨b,o,none⟩),.agg #[.int .u8 x.op,.int .i64 x.a,.int .i64 x.b,Tb],vj] w (fun r w'=>∃vs' vv,r=.agg #[.int .i64 4,vv,.int .i64 0,.int .i64 f,.int .i64 0]∧Sat g w' (Pt pr [.pointer (some ⟨cp,0,none⟩),vw,vc,.int .i64 (f+1)] 148::Pt cp [m.vt,m.vm,m.vf,.int .i64 m.table,.int .i64 m.pages,.int .i64 m.most,m.vg,m.vx,.int .i64 m.start,m.ve,m.vd,.pointer (some ⟨mp,0,none⟩),vt,vg] 158::Pt mp [vp,.int .i64 m.most] 221::Sl 223 256 Xf vp ps::Sl 3 1 ZG vt Zr::Sl 2 1 ZG vg Zg::Sl 79 4 Yk vc (up++[⟨c.fn,c.at_+1,c.vl,c.loc,vs',s2.take (s2.length-(YD m.d f).Zc.length)⟩])::Wa up::Sl 2 1 ZG c.vl c.loc::Sl 2 1 ZG vs' (s2.take (s2.length-(YD m.d f).Zc.length))::Sl 2 1 ZG vv (s2.drop (s2.length-(YD m.d f).Zc.length))::l)):=by
 refine Fc.of Tryz.func114 rfl k_i ?_
 have hx:=YK hcs
 have WY:=Yv hcs
 have hvl:=H.one 8 rfl
 have Fk:up.length+1=cs.length:=by rw [hcs];simp
 refine ZH H<|fun p1 w1 H=>ZS H rfl<|fun p2 w2 H=>Z9 rfl<|Z4 (H.el 8 rfl E hx) 1 rfl rfl rfl<|ZX qo<|Z9 rfl<|YB H 8 rfl E hx 1 (⟨c.fn,c.at_+1,c.vl,c.loc,c.vs,c.stk⟩) rfl rfl rfl rfl<|fun w1 H=>Z9 rfl<|Z4 (H.at 1 rfl) 0 rfl rfl rfl<|bk ?_
 simp only [WY] at H
 have hx1:(up++[(⟨c.fn,c.at_+1,c.vl,c.loc,c.vs,c.stk⟩:CV)])[up.length]?=some (⟨c.fn,c.at_+1,c.vl,c.loc,c.vs,c.stk⟩:CV):=YK rfl
 clear hx
 have WC:∀z,(up++[(⟨c.fn,c.at_+1,c.vl,c.loc,c.vs,c.stk⟩:CV)]).set up.length z=up++[z]:=Yv rfl
 have GH:(up++[(⟨c.fn,c.at_+1,c.vl,c.loc,c.vs,c.stk⟩:CV)]).length=cs.length:=by rw [hcs];simp
 rcases ho with ho|ho
 ·refine cF (Z5 qo)<|cF (Z5 qo)<|cF (Z5 qo)<|cF (Z5 qo)<|cF (Z5 qo)<|cF (Z5 qo)<|cF (Z5 qo)<|cF (Z5 qo)<|cF (Z5 qo)<|cT (ZN qa)<|cT (ZN qa)<|ZA (H.at 1 rfl) 0 rfl rfl rfl<|H.Z8 [11,9,8,6,6]<|fun H=>?_
  refine Z7.mk (Fc.imp (Rn.afc E _ hx1 H qa qa qo qa qa qa qa qa qo qa hq qa qa qa qa) ?_)
  clear H
  rintro _ w2 ⟨Zx,⟨CE,⟨rfl,H⟩⟩⟩
  refine ZD H 6 rfl rfl rfl (by simp only [List.all_cons,List.all_nil,H.one 2 rfl,H.one 3 rfl,H.one 4 rfl,H.one 5 rfl,H.one 9 rfl,H.one 10 rfl,H.one 12 rfl,hvl];rfl)<|fun w3 H=>Xd (H.at 6 rfl) 0 rfl rfl rfl<|Z6.mk ?_
  refine ⟨Zx,CE,?_⟩
  refine ⟨rfl,?_⟩
  refine H.Z8 [5,5,12,12,7,12,8,12,12,10,10]<|fun H=>H.drop 12<|fun H=>H.drop 11<|fun H=>?_
  refine H.cg (YT rfl (YT rfl (YT rfl (YT rfl (YT rfl (YT rfl (YT (Ro ?_) (YT rfl (YT rfl (YT rfl (YT rfl (rfl))))))))))))
  exact WC _
 ·refine cF (Z5 qo)<|cF (Z5 qo)<|cF (Z5 qo)<|cF (Z5 qo)<|cF (Z5 qo)<|cF (Z5 qo)<|cF (Z5 qo)<|cF (Z5 qo)<|cF (Z5 qo)<|cF (Z5 qo)<|cT (ZN qa)<|ZA (H.at 1 rfl) 0 rfl rfl rfl<|H.Z8 [11,9,8,6,6]<|fun H=>?_
  refine Z7.mk (Fc.imp (Rn.afc E _ hx1 H qa qa qo qa qa qa qa qa qo qa hq qa qa qa qa) ?_)
  clear H
  rintro _ w2 ⟨Zx,⟨CE,⟨rfl,H⟩⟩⟩
  refine ZD H 6 rfl rfl rfl (by simp only [List.all_cons,List.all_nil,H.one 2 rfl,H.one 3 rfl,H.one 4 rfl,H.one 5 rfl,H.one 9 rfl,H.one 10 rfl,H.one 12 rfl,hvl];rfl)<|fun w3 H=>Xd (H.at 6 rfl) 0 rfl rfl rfl<|Z6.mk ?_
  refine ⟨Zx,CE,?_⟩
  refine ⟨rfl,?_⟩
  refine H.Z8 [5,5,12,12,7,12,8,12,12,10,10]<|fun H=>H.drop 12<|fun H=>H.drop 11<|fun H=>?_
  refine H.cg (YT rfl (YT rfl (YT rfl (YT rfl (YT rfl (YT rfl (YT (Ro ?_) (YT rfl (YT rfl (YT rfl (YT rfl (rfl))))))))))))
  exact WC _
theorem ai9 (H:Sat g w (Pt pr [.pointer (some ⟨cp,0,none⟩),vw,vc,.int .i64 0] 148::Pt cp [m.vt,m.vm,m.vf,.int .i64 m.table,.int .i64 m.pages,.int .i64 m.most,m.vg,m.vx,.int .i64 m.start,m.ve,m.vd,.pointer (some ⟨mp,0,none⟩),vt,vg] 158::Pt mp [vp,.int .i64 m.most] 221::Sl 223 256 Xf vp ps::Sl 3 1 ZG vt Zr::Sl 2 1 ZG vg Zg::Sl 79 4 Yk vc cs::Wa up::Sl 2 1 ZG c.vl c.loc::Sl 2 1 ZG c.vs c.stk::l)) (hcs:cs=up++[c]) (E:El vc 4 up.length b o) (UA:0≤c.at_∧c.at_≤1000) (hlen:c.stk.length≤10000) (hm:XF g m) (P:SG m.d) (ho:x.op=16∨x.op=17) (Rj:∀n∈Zr,-1≤n∧n<(m.ZB.length:Int)+m.funcs.length) (h1:x.op=17→1≤c.stk.length∧0≤x.a∧x.a<m.types.length) (U2:∀v∈c.stk,WU v) (MQ:Zr.length≤1000) (Uz:cs.length≤40) (hq:YW m.d Zr x c.stk=(f,s2,0)) (hf:0≤f∧f<(m.ZB.length:Int)+m.funcs.length) (EE:(YD m.d f).Zc.length≤s2.length) (Jd:s2.length≤10000) (k:Nat) (F:YA) (It:f=m.ZB.length+k) (hF:m.funcs[k]?=some F) (ED:F.loc.length≤16) (h4:(YD m.d f).Zc.length≤4) (CF:cs.length<40):Fc Tryz.prog 114 #[.pointer (some ⟨pr,0,none⟩),.pointer (some ⟨b,o,none⟩),.agg #[.int .u8 x.op,.int .i64 x.a,.int .i64 x.b,Tb],vj] w (fun r w'=>∃Qe vs' I0,r=.agg #[.int .i64 0,.slice none 0 0,.int .i64 0,.int .i64 0,.int .i64 0]∧Sat g w' (Pt pr [.pointer (some ⟨cp,0,none⟩),vw,Qe,.int .i64 0] 148::Pt cp [m.vt,m.vm,m.vf,.int .i64 m.table,.int .i64 m.pages,.int .i64 m.most,m.vg,m.vx,.int .i64 m.start,m.ve,m.vd,.pointer (some ⟨mp,0,none⟩),vt,vg] 158::Pt mp [vp,.int .i64 m.most] 221::Sl 223 256 Xf vp ps::Sl 3 1 ZG vt Zr::Sl 2 1 ZG vg Zg::Sl 79 4 Yk Qe (up++[⟨c.fn,c.at_+1,c.vl,c.loc,vs',s2.take (s2.length-(YD m.d f).Zc.length)⟩]++[⟨k,0,I0,s2.drop (s2.length-(YD m.d f).Zc.length)++List.replicate F.loc.length 0,.slice none 0 0,[]⟩])::Wa up::Sl 2 1 ZG c.vl c.loc::Sl 2 1 ZG vs' (s2.take (s2.length-(YD m.d f).Zc.length))::Sl 2 1 ZG I0 (s2.drop (s2.length-(YD m.d f).Zc.length)++List.replicate F.loc.length 0)::Sl 2 1 ZG (.slice none 0 0) []::l)):=by
 refine Fc.of Tryz.func114 rfl k_i ?_
 have hx:=YK hcs
 have WY:=Yv hcs
 have hvl:=H.one 8 rfl
 have Fk:up.length+1=cs.length:=by rw [hcs];simp
 refine ZH H<|fun p1 w1 H=>ZS H rfl<|fun p2 w2 H=>Z9 rfl<|Z4 (H.el 8 rfl E hx) 1 rfl rfl rfl<|ZX qo<|Z9 rfl<|YB H 8 rfl E hx 1 (⟨c.fn,c.at_+1,c.vl,c.loc,c.vs,c.stk⟩) rfl rfl rfl rfl<|fun w1 H=>Z9 rfl<|Z4 (H.at 1 rfl) 0 rfl rfl rfl<|bk ?_
 simp only [WY] at H
 have hx1:(up++[(⟨c.fn,c.at_+1,c.vl,c.loc,c.vs,c.stk⟩:CV)])[up.length]?=some (⟨c.fn,c.at_+1,c.vl,c.loc,c.vs,c.stk⟩:CV):=YK rfl
 clear hx
 have WC:∀z,(up++[(⟨c.fn,c.at_+1,c.vl,c.loc,c.vs,c.stk⟩:CV)]).set up.length z=up++[z]:=Yv rfl
 have GH:(up++[(⟨c.fn,c.at_+1,c.vl,c.loc,c.vs,c.stk⟩:CV)]).length=cs.length:=by rw [hcs];simp
 rcases ho with ho|ho
 ·refine cF (Z5 qo)<|cF (Z5 qo)<|cF (Z5 qo)<|cF (Z5 qo)<|cF (Z5 qo)<|cF (Z5 qo)<|cF (Z5 qo)<|cF (Z5 qo)<|cF (Z5 qo)<|cT (ZN qa)<|cT (ZN qa)<|ZA (H.at 1 rfl) 0 rfl rfl rfl<|H.Z8 [11,9,8,6,6]<|fun H=>?_
  refine Z7.mk (Fc.imp (Rn.afd E _ hx1 H qa qa qo qa qa qa qa qa qo qa hq qa qa qa (k) _ It hF qa qa qo) ?_)
  clear H
  rintro _ w2 ⟨HQ,⟨Zx,⟨Uh,⟨rfl,H⟩⟩⟩⟩
  refine ZD H 7 rfl rfl rfl rfl<|fun w3 H=>Xd (H.at 7 rfl) 0 rfl rfl rfl ?_
  simp only [WC] at H
  refine Z6.mk ⟨HQ,Zx,Uh,rfl,?_⟩
  refine H.Z8 [6,6,6,13,13,8,13,9,13,13,11,11]<|fun H=>H.drop 13<|fun H=>H.drop 12<|fun H=>?_
  exact H
 ·refine cF (Z5 qo)<|cF (Z5 qo)<|cF (Z5 qo)<|cF (Z5 qo)<|cF (Z5 qo)<|cF (Z5 qo)<|cF (Z5 qo)<|cF (Z5 qo)<|cF (Z5 qo)<|cF (Z5 qo)<|cT (ZN qa)<|ZA (H.at 1 rfl) 0 rfl rfl rfl<|H.Z8 [11,9,8,6,6]<|fun H=>?_
  refine Z7.mk (Fc.imp (Rn.afd E _ hx1 H qa qa qo qa qa qa qa qa qo qa hq qa qa qa (k) _ It hF qa qa qo) ?_)
  clear H
  rintro _ w2 ⟨HQ,⟨Zx,⟨Uh,⟨rfl,H⟩⟩⟩⟩
  refine ZD H 7 rfl rfl rfl rfl<|fun w3 H=>Xd (H.at 7 rfl) 0 rfl rfl rfl ?_
  simp only [WC] at H
  refine Z6.mk ⟨HQ,Zx,Uh,rfl,?_⟩
  refine H.Z8 [6,6,6,13,13,8,13,9,13,13,11,11]<|fun H=>H.drop 13<|fun H=>H.drop 12<|fun H=>?_
  exact H
theorem aja (H:Sat g w (Pt pr [.pointer (some ⟨cp,0,none⟩),vw,vc,.int .i64 0] 148::Pt cp [m.vt,m.vm,m.vf,.int .i64 m.table,.int .i64 m.pages,.int .i64 m.most,m.vg,m.vx,.int .i64 m.start,m.ve,m.vd,.pointer (some ⟨mp,0,none⟩),vt,vg] 158::Pt mp [vp,.int .i64 m.most] 221::Sl 223 256 Xf vp ps::Sl 3 1 ZG vt Zr::Sl 2 1 ZG vg Zg::Sl 79 4 Yk vc cs::Wa up::Sl 2 1 ZG c.vl c.loc::Sl 2 1 ZG c.vs c.stk::l)) (hcs:cs=up++[c]) (E:El vc 4 up.length b o) (UA:0≤c.at_∧c.at_≤1000) (hlen:c.stk.length≤10000) (hD:H7 x ⟨flat ps,Zr,Zg⟩ c.loc c.stk) (hT:Fold.I3 g) (D5:18≤x.op) (hop:x.op≤255) (hmo:ps.length≤m.most∧m.most≤8):Fc Tryz.prog 114 #[.pointer (some ⟨pr,0,none⟩),.pointer (some ⟨b,o,none⟩),.agg #[.int .u8 x.op,.int .i64 x.a,.int .i64 x.b,Tb],vj] w (fun r w'=>∃e vs' T5 ps' Xg loc' Xi,r=(if e≠0 then .agg #[.int .i64 2,.slice none 0 0,.int .i64 e,.int .i64 0,.int .i64 0] else .agg #[.int .i64 0,.slice none 0 0,.int .i64 0,.int .i64 0,.int .i64 0])∧NC (VY m.most x ⟨flat ps,Zr,Zg⟩ c.loc c.stk) e (flat ps') Xg loc' Xi∧ps'.length≤8∧Sat g w' (Pt pr [.pointer (some ⟨cp,0,none⟩),vw,vc,.int .i64 0] 148::Pt cp [m.vt,m.vm,m.vf,.int .i64 m.table,.int .i64 m.pages,.int .i64 m.most,m.vg,m.vx,.int .i64 m.start,m.ve,m.vd,.pointer (some ⟨mp,0,none⟩),vt,vg] 158::Pt mp [T5,.int .i64 m.most] 221::Sl 223 256 Xf T5 ps'::Sl 3 1 ZG vt Zr::Sl 2 1 ZG vg Xg::Sl 79 4 Yk vc (up++[⟨c.fn,c.at_+1,c.vl,loc',vs',Xi⟩])::Wa up::Sl 2 1 ZG c.vl loc'::Sl 2 1 ZG vs' Xi::l)):=by
 refine Fc.of Tryz.func114 rfl k_i ?_
 have hx:=YK hcs
 have WY:=Yv hcs
 have hvl:=H.one 8 rfl
 refine ZH H<|fun p1 w1 H=>ZS H rfl<|fun p2 w2 H=>Z9 rfl<|Z4 (H.el 8 rfl E hx) 1 rfl rfl rfl<|ZX qo<|Z9 rfl<|YB H 8 rfl E hx 1 (⟨c.fn,c.at_+1,c.vl,c.loc,c.vs,c.stk⟩) rfl rfl rfl rfl<|fun w1 H=>Z9 rfl<|Z4 (H.at 1 rfl) 0 rfl rfl rfl<|bk ?_
 simp only [WY] at H
 have hx1:(up++[(⟨c.fn,c.at_+1,c.vl,c.loc,c.vs,c.stk⟩:CV)])[up.length]?=some (⟨c.fn,c.at_+1,c.vl,c.loc,c.vs,c.stk⟩:CV):=YK rfl
 clear hx
 have WC:∀z,(up++[(⟨c.fn,c.at_+1,c.vl,c.loc,c.vs,c.stk⟩:CV)]).set up.length z=up++[z]:=Yv rfl
 have GH:(up++[(⟨c.fn,c.at_+1,c.vl,c.loc,c.vs,c.stk⟩:CV)]).length=cs.length:=by rw [hcs];simp
 refine cF (Z5 qo)<|cF (Z5 qo)<|cF (Z5 qo)<|cF (Z5 qo)<|cF (Z5 qo)<|cF (Z5 qo)<|cF (Z5 qo)<|cF (Z5 qo)<|cF (Z5 qo)<|cF (Z5 qo)<|cF (Z5 qo)<|ZM H [] [(0,.pure),(1,.pure),(2,.pure),(3,.held),(4,.held),(5,.pure),(6,.pure),(7,.pure),(8,.held),(9,.pure),(10,.pure),(11,.pure),(12,.held),(13,.free),(14,.pure),(15,.pure),(16,.pure),(17,.pure),(18,.pure)] mixed k_i k_i<|fun w2 H=>tk (fun wx HS=>Z9 rfl ⟨rfl,rfl⟩)<|tk (fun wx HS=>Z4 (HS.at 2 rfl) 0 rfl rfl rfl ⟨rfl,rfl⟩)<|tk (fun wx HS=>ZA (HS.at 1 rfl) 0 rfl rfl rfl ⟨rfl,rfl⟩)<|tk (fun wx HS=>Z9 rfl ⟨rfl,rfl⟩)<|tk (fun wx HS=>Z4 (HS.el 8 rfl E hx1) 2 rfl rfl rfl ⟨rfl,rfl⟩)<|tk (fun wx HS=>Z9 rfl ⟨rfl,rfl⟩)<|tk (fun wx HS=>Z4 (HS.el 8 rfl E hx1) 3 rfl rfl rfl ⟨rfl,rfl⟩)<|H.Z8 [11,11,9,9,9,9,9]<|fun H=>?_
 refine Z7.mk (Fc.imp (Rn.do_ H qa qa qa qa qo) ?_)
 clear H
 rintro _ w1 ⟨e1,⟨Zx,⟨alp,⟨OW,⟨ahK,⟨HP,⟨RU,⟨rfl,⟨h1,⟨h2,H⟩⟩⟩⟩⟩⟩⟩⟩⟩⟩
 refine Z9 rfl<|YB H 10 rfl E hx1 3 (⟨c.fn,c.at_+1,c.vl,HP,(Zx),RU⟩) rfl (by simp only [Bool.and_true,H.one 2 rfl,H.one 3 rfl,H.one 4 rfl,H.one 5 rfl,H.one 6 rfl,H.one 10 rfl,hvl]) rfl rfl<|fun w3 H=>?_
 refine cI (fun c1=>?_) (fun c1=>?_)
 focus
  replace c1:=Ye (c1)
  refine Zf rfl rfl rfl<|ZD H 7 rfl rfl rfl rfl<|fun w1 H=>Xd (H.at 7 rfl) 0 rfl rfl rfl ?_
 rotate_left 1
 focus
  replace c1:=Yd (c1)
  refine Zf rfl rfl rfl<|ZD H 7 rfl rfl rfl rfl<|fun w1 H=>Xd (H.at 7 rfl) 0 rfl rfl rfl ?_
 rotate_left 1
 ·simp only [WC] at H
  refine Z6.mk ⟨e1,Zx,alp,OW,ahK,HP,RU,(if_pos qa).symm,by assumption,by assumption,?_⟩
  refine H.Z8 [6,6,11,11,8,8,8,8,8,11]<|fun H=>H.drop 11<|fun H=>H.drop 10<|fun H=>?_
  exact H
 ·simp only [WC] at H
  refine Z6.mk ⟨e1,Zx,alp,OW,ahK,HP,RU,(if_neg qo).symm,by assumption,by assumption,?_⟩
  refine H.Z8 [6,6,11,11,8,8,8,8,8,11]<|fun H=>H.drop 11<|fun H=>H.drop 10<|fun H=>?_
  exact H
end
end Rn
namespace Rn
open Go YZ Go.RowKit
open YS Zk XV YQ Valid Mem
def MY (b:Bool) (vc:Value) (cs:List CV):As:=Re (if b=true then [Sl 79 4 Yk vc cs,Wa cs] else [])
section
variable {g:Zv} {w:World} {l:List As} {m:Y9} {pr cp mp:Nat} {vw vc vt vg vp Tb vj:Value} {host f e:Int} {cs up:List CV} {Zr Zg s2:List Int} {ps:List WT} {c u:CV} {x:ZU} {i b o:Nat} {ws:List XT} {j:XT}
variable {A0 A1 A2 A3 A4 A5:As} {c2:CV} {vv va:Value} {xs:List Int}
theorem GG (H:Sat g w (Wa cs::Sl 2 1 ZG va xs::A0::A1::A2::A3::A4::A5::Sl 79 4 Yk vc cs::l)):Sat g w (A0::A1::A2::A3::A4::A5::MY true vc cs::Sl 2 1 ZG va xs::l):=by
 have H:Sat g w (([Sl 79 4 Yk vc cs,Wa cs]:List As)++(Sl 2 1 ZG va xs::A0::A1::A2::A3::A4::A5::l)):=H.Z8 [8] fun H=>H
 have H:Sat g w (MY true vc cs::Sl 2 1 ZG va xs::A0::A1::A2::A3::A4::A5::l):=H.box
 exact H.Z8 [7,7,7,7,7,7] fun H=>H
theorem agU (H:Sat g w (A0::A1::A2::A3::A4::A5::Sl 79 4 Yk vc (up++[c])::Wa up::Sl 2 1 ZG c.vl c.loc::Sl 2 1 ZG c.vs c.stk::Sl 2 1 ZG va xs::l)):Sat g w (A0::A1::A2::A3::A4::A5::MY true vc (up++[c])::Sl 2 1 ZG va xs::l):=by
 have H:=H.Z8 [10,8,10,10] fun H=>H
 exact GG (PS H)
theorem Q5 (H:Sat g w (A0::A1::A2::A3::A4::A5::Sl 79 4 Yk vc (up++[c])::Wa up::Sl 2 1 ZG c.vl c.loc::Sl 2 1 ZG c.vs c.stk::l)):Sat g w (A0::A1::A2::A3::A4::A5::MY true vc (up++[c])::Sl 2 1 ZG (.slice none 0 0) []::l):=by
 have H:=H.UK (en:=ZG) (s:=1) 2 (fun _=>rfl)
 have H:=H.Z8 [8,10,10] fun H=>H
 exact GG (PS H)
theorem anj (H:Sat g w (A0::A1::A2::A3::A4::A5::Sl 79 4 Yk vc (up++[c]++[c2])::Wa up::Sl 2 1 ZG c.vl c.loc::Sl 2 1 ZG c.vs c.stk::Sl 2 1 ZG c2.vl c2.loc::Sl 2 1 ZG c2.vs c2.stk::l)):Sat g w (A0::A1::A2::A3::A4::A5::MY true vc (up++[c]++[c2])::Sl 2 1 ZG (.slice none 0 0) []::l):=by
 have H:=H.UK (en:=ZG) (s:=1) 2 (fun _=>rfl)
 have H:=H.Z8 [8,10,10] fun H=>H
 have H:=(PS H).Z8 [10,10] fun H=>H
 exact GG (PS H)
theorem acZ (H:Sat g w (A0::A1::A2::A3::A4::A5::MY true vc (up++[c])::l)):Sat g w (A0::A1::A2::A3::A4::A5::Sl 79 4 Yk vc (up++[c])::Wa up::Sl 2 1 ZG c.vl c.loc::Sl 2 1 ZG c.vs c.stk::l):=by
 have H:=H.Z8 [6] fun H=>H
 have H:Sat g w (Sl 79 4 Yk vc (up++[c])::Wa (up++[c])::A0::A1::A2::A3::A4::A5::l):=H.unbox
 have H:=H.Z8 [1] fun H=>H
 have H:=afe H
 exact H.Z8 [2,3,9,9,9,9,9,9] fun H=>H
theorem agV {B0 B1 B2 B3:As} (H:Sat g w (A0::A1::A2::A3::A4::A5::B0::B1::B2::B3::l)):Sat g w (A0::A1::A2::A3::A4::A5::l):=(((H.del 6).del 6).del 6).del 6
theorem OA (H:Sat g w (A0::A1::A2::A3::A4::A5::l)):Sat g w (A0::A1::A2::A3::A4::A5::MY false vc cs::Sl 2 1 ZG (.slice none 0 0) []::l):=by
 have H:=H.UK (en:=ZG) (s:=1) 2 (fun _=>rfl)
 have H:Sat g w (MY false vc cs::Sl 2 1 ZG (.slice none 0 0) []::A0::A1::A2::A3::A4::A5::l):=H.box (l1:=[])
 exact H.Z8 [7,7,7,7,7,7] fun H=>H
def ank (q:MS × Ev) (o:SI) (I:Sr) (cs':List CV) (host':Int):Prop:=q.1.ins=I∧match q.2 with
 | .on=>o=⟨0,[],0,0,0⟩∧cs'.map CV.d=q.1.calls∧host'=q.1.host
 | .WH e=>o=⟨2,[],e,0,0⟩∧host'=0
 | .host f v=>o=⟨4,v,0,f,0⟩∧cs'.map CV.d=q.1.calls∧host'=q.1.host
 | _=>False
theorem WJ {c':CV} {d:YE} (h:c'.d=d):(up++[c']).map CV.d=up.map CV.d++[d]:=by rw [lXa,←h];rfl
theorem agW {l:List XT} {n:Nat} (h:n<l.length):l[n]?=some (RZ l n):=by
 unfold RZ
 rw [lea,laa h];rfl
theorem VX (c:Ck) (k:Int):(Zj c k).1.stack.length≤c.stack.length:=by
 unfold Zj YO
 repeat' split
 all_goals first|exact lra _|(simp only [List.length_take];omega)|(simp only;split <;> (simp only [List.length_take] at *;omega))|skip
 all_goals (simp only;repeat' split) <;> first|exact lra _|(simp only [List.length_take];omega)
theorem V9 (c:Ck) (e:Int):(YO c e).stack=c.stack:=by unfold YO;split <;> rfl
theorem Tc (c:Ck) (k:Int):(XN c k).stack.length≤c.stack.length+1:=by
 unfold XN;split
 ·simp
 ·omega
theorem Rt (c:Ck):∀l:List Int,(Xw c l).stack.length≤c.stack.length
 | []=>lra _
 | k::r=>lGa (VX _ k) (Rt c r)
theorem O5 (c:Ck) {l:List Int} (h:l.length≤1):(W4 c l).stack.length≤c.stack.length+1:=by
 match l,h with
 | [],_=>exact lAb _
 | [k],_=>exact Tc c k
theorem agX (c:Ck):(U6 c).stack.length≤c.stack.length:=by unfold U6;simp only [List.length_take];omega
theorem TJ (c:Ck) (n:Int):(YV c n).1.stack=c.stack:=by unfold YV;split <;> first|exact V9 _ _|rfl
theorem aaN (c:Ck):(Y0 c).stack.length≤c.stack.length:=by
 unfold Y0;split
 ·rw [V9];exact VX _ _
 ·exact VX _ _
theorem PR (k:Int):∀(l:List Int) (s:Ck × Bool),(XD k l s).1.stack=s.1.stack
 | [],_=>rfl
 | n::r,s=>by rw [XD,PR k r];exact TJ _ _
theorem aff (c:Ck):(Vo c).stack.length≤c.stack.length:=by
 have h:=aaN c
 unfold Vo;simp only;split <;> exact h
theorem agY (c:Ck):(TA c).stack.length≤c.stack.length+1:=by
 have h:=aaN c
 have h2:(if (WS c).op=4∧(WS c).kind≠64 then YO (Y0 c) 10 else Y0 c).stack.length≤c.stack.length:=by
  split
  ·rw [V9];exact h
  ·exact h
 have key:∀(c2:Ck) (k:Int),c2.stack.length≤c.stack.length→(if c2.bad=0 then XN { c2 with Zp:=c2.Zp.take (c2.Zp.length-1) } k else c2).stack.length≤c.stack.length+1:=fun c2 k h2=>by
  split
  ·exact lGa (Tc _ k) (lSb h2)
  ·omega
 exact key _ _ h2
theorem afg {E:Yj} {L:List Int} (hs:∀t∈E.types,t.out.length≤1) (c:Ck) (x:ZU):(Valid.Y2 E L c x).stack.length≤c.stack.length+1:=by
 have pp:∀(c:Ck) (k1 k2:Int),(Zj (Zj c k1).1 k2).1.stack.length≤c.stack.length:=fun c k1 k2=>lGa (VX _ _) (VX _ _)
 have dd:∀{c':Ck},c'.stack.length≤c.stack.length→(U6 c').stack.length≤c.stack.length+1:=fun h=>lGa (agX _) (lGa h (lAb _))
 unfold Valid.Y2
 split
 ·omega
 split
 ·unfold ZC
  repeat' split
  ·exact dd (lra _)
  ·exact lAb _
  ·exact lGa (VX _ _) (lAb _)
  ·exact lGa (aff _) (lAb _)
  ·exact agY _
  ·refine dd ?_
   unfold UG
   split
   ·exact lGa (VX _ _) (by rw [TJ];exact lra _)
   ·rw [TJ];exact lra _
  ·unfold Wb
   simp only
   split
   ·exact lGa (Tc _ _) (lSb (lGa (pp _ _ _) (by rw [TJ];exact lra _)))
   ·rw [TJ];exact lAb _
  ·exact dd (VX _ _)
  ·refine dd ?_
   unfold XW
   simp only
   split
   ·rw [PR];simp only;rw [TJ];exact lra _
   ·refine lGa (pp _ _ _) ?_
    split
    ·rw [PR];simp only;rw [TJ];exact lra _
    ·rw [V9,PR];simp only;rw [TJ];exact lra _
  ·exact lAb _
 split
 ·unfold Wx
  split
  ·split
   ·rw [V9];exact lAb _
   ·rename_i t ht
    refine lGa (O5 _ (hs t ?_)) (lSb (Rt _ _))
    unfold Xx at ht
    obtain ⟨k,_,hk⟩:=lfb.1 ht
    exact lha hk
  ·split
   ·rw [V9];exact lAb _
   ·simp only
    refine lGa (O5 _ ?_) (lSb (lGa (Rt _ _) (VX _ _)))
    exact VD (P:=fun t:Xm=>t.out.length≤1) hs (lRa _)
 split
 ·exact lGa (VX _ _) (lAb _)
 split
 ·unfold Xl
  simp only
  exact lGa (Tc _ _) (lSb (lGa (VX _ _) (pp _ _ _)))
 split
 ·unfold YH
  split
  ·split
   ·rw [V9];exact lAb _
   ·simp only
    have h2:(if x.op≠32 then (Zj c (L.getD x.a.toNat 0)).1 else c).stack.length≤c.stack.length:=by
     split
     ·exact VX _ _
     ·exact lra _
    split
    ·exact lGa (Tc _ _) (lSb h2)
    ·exact lGa h2 (lAb _)
  ·split
   ·rw [V9];exact lAb _
   ·simp only
    split
    ·exact Tc _ _
    ·refine lGa (VX _ _) ?_
     split
     ·exact lAb _
     ·rw [V9];exact lAb _
 ·unfold W3
  split
  ·rw [V9];exact lAb _
  split
  ·rw [V9];exact lAb _
  ·refine lGa (O5 _ ?_) (lSb (Rt _ _))
   unfold XE
   repeat' split
   all_goals simp
theorem afh {E:Yj} {L Es Ls:List Int} {bd:List ZU} {t:Xm} (S:Ve E L bd t Es Ls) (hs:∀t∈E.types,t.out.length≤1):∀k,k≤bd.length→(Zz E L bd (Z0 t) k).stack.length≤k
 | 0,_=>lra _
 | k+1,hk=>by
  have hx:bd[k]?=some bd[k]:=laa qo
  rw [Ry hx (S.at_ (k:=k) qo).bad]
  exact lGa (afg hs _ _) (lSb (afh S hs k qo))
theorem Oz {E:Yj} {L Es Ls vals:List Int} {bd:List ZU} {k:Nat} {t:Xm} (S:Ve E L bd t Es Ls) (hs:∀t∈E.types,t.out.length≤1) (h:Rv E L bd t k vals):vals.length≤201:=by
 have h1:=afh S hs k (ldb h.lt)
 have h2:=(Zb S.hc).1
 have h3:=h.lt
 obtain ⟨o,p,s,u,P,_,hv⟩:=h.ex
 rw [P.stk] at h1
 rcases hv with ⟨_,hv⟩|⟨_,_,_,hv⟩
 ·rw [hv.len];omega
 ·rw [hv.len]
  have:=ahy p.kind
  simp only [List.length_append] at *;omega
theorem ajb {most:Int} {x:ZU} {I:Sr} {loc stk:List Int}:(VY most x I loc stk).ins.Zr=I.Zr:=by
 unfold VY
 by_cases h1:x.op=26
 ·rw [if_pos h1]
 rw [if_neg h1]
 by_cases h1:x.op=27
 ·rw [if_pos h1]
 rw [if_neg h1]
 by_cases h1:x.op=32
 ·rw [if_pos h1]
 rw [if_neg h1]
 by_cases h1:x.op=33
 ·rw [if_pos h1]
 rw [if_neg h1]
 by_cases h1:x.op=34
 ·rw [if_pos h1]
 rw [if_neg h1]
 by_cases h1:x.op=35
 ·rw [if_pos h1]
 rw [if_neg h1]
 by_cases h1:x.op=36
 ·rw [if_pos h1]
 rw [if_neg h1]
 by_cases h1:x.op=65∨x.op=66
 ·rw [if_pos h1]
 rw [if_neg h1]
 by_cases h1:x.op=63
 ·rw [if_pos h1]
 rw [if_neg h1]
 by_cases h1:x.op=64
 ·rw [if_pos h1];split <;> rfl
 rw [if_neg h1]
 by_cases h1:0<wid x.op
 ·rw [if_pos h1];split <;> split <;> rfl
 rw [if_neg h1]
 split <;> rfl
theorem ack {I:Sr} {up:List YE} {c:YE} {x:ZU} {md:Yf} {f e:Int} {s2:List Int} (hq:YW md I.Zr x c.stk=(f,s2,e)):Sy md I up c x =
  (if e≠0 then (⟨I,[],0⟩,.WH e) else if Y3 md≤f∧up.length+1=40 then (⟨I,[],0⟩,.WH 26)
  else if f<Y3 md then (⟨I,up++[{ c with stk:=s2.take (s2.length-(YD md f).Zc.length) }],f+1⟩,.host f (s2.drop (s2.length-(YD md f).Zc.length)))
  else (⟨I,up++[{ c with stk:=s2.take (s2.length-(YD md f).Zc.length) }]++[⟨f-Y3 md,0,s2.drop (s2.length-(YD md f).Zc.length)++List.replicate (W2 md (f-Y3 md)).loc.length 0,[]⟩],0⟩,.on)):=by
 unfold Sy
 simp only [hq]
theorem anl (H:Sat g w (Pt pr [.pointer (some ⟨cp,0,none⟩),vw,vc,.int .i64 0] 148::Pt cp [m.vt,m.vm,m.vf,.int .i64 m.table,.int .i64 m.pages,.int .i64 m.most,m.vg,m.vx,.int .i64 m.start,m.ve,m.vd,.pointer (some ⟨mp,0,none⟩),vt,vg] 158::Pt mp [vp,.int .i64 m.most] 221::Sl 223 256 Xf vp ps::Sl 3 1 ZG vt Zr::Sl 2 1 ZG vg Zg::Sl 79 4 Yk vc cs::Wa up::Sl 2 1 ZG c.vl c.loc::Sl 2 1 ZG c.vs c.stk::l)) (hcs:cs=up++[c]) (E:El vc 4 (cs.length-1) b o) (hm:XF g m) (P:SG m.d) (hT:Fold.I3 g) (hI:VC m.d ⟨flat ps,Zr,Zg⟩) (hW:XC m.d (up.map CV.d) (Y3 m.d+c.fn)) (MX:Sw m.d c.d) (hle:cs.length≤40) (hx:x=YU m.d c.d) (h11:x.op≠11) (h5:x.op≠5) (hop:x.op≤255)
  (hj:ZZ g OF EM 3 vj (UN m.d c.d)):Fc Tryz.prog 114 #[.pointer (some ⟨pr,0,none⟩),.pointer (some ⟨b,o,none⟩),.agg #[.int .u8 x.op,.int .i64 x.a,.int .i64 x.b,Tb],vj] w (fun r w'=>∃Qe host' T5 ps' Xg cs' o vv,r=.agg #[.int .i64 o.e,vv,.int .i64 o.WH,.int .i64 o.host,.int .i64 0]∧ank (LB m.d ⟨flat ps,Zr,Zg⟩ (up.map CV.d) c.d) o ⟨flat ps',Zr,Xg⟩ cs' host'∧ps'.length≤8∧Sat g w' (Pt pr [.pointer (some ⟨cp,0,none⟩),vw,Qe,.int .i64 host'] 148::Pt cp [m.vt,m.vm,m.vf,.int .i64 m.table,.int .i64 m.pages,.int .i64 m.most,m.vg,m.vx,.int .i64 m.start,m.ve,m.vd,.pointer (some ⟨mp,0,none⟩),vt,vg] 158::Pt mp [T5,.int .i64 m.most] 221::Sl 223 256 Xf T5 ps'::Sl 3 1 ZG vt Zr::Sl 2 1 ZG vg Xg::MY (decide (o.e≠2)) Qe cs'::Sl 2 1 ZG vv o.vals::l)):=by
 have Jt:cs.length-1=up.length:=by rw [hcs];simp
 rw [Jt] at E
 obtain ⟨k,hk,hlt,MO⟩:=MX.at_
 obtain ⟨Es,Ls,Q⟩:=(MX.fr.f P).snd
 have hty:=MX.ty
 rw [hk,lka] at hty
 have hto:=HW hk Q MO
 have hF:=MX.fr
 have MU:=(Zb Q.hc).1
 have anm:∀t∈(ZF m.d).types,t.out.length≤1:=fun t ht=>(P.sig t ht).2
 have hlen:c.stk.length≤10000:=by have:c.stk.length≤201:=Oz Q anm hty;omega
 have an0:c.at_=k:=hk
 have UA:0≤c.at_∧c.at_≤1000:=by omega
 rw [←hx] at MO hto
 have D6:up.length≤39:=by have:=hcs ▸ hle;simp only [List.length_append,List.length_singleton] at this;omega
 have U2:∀v∈c.stk,WU v:=by
  obtain ⟨_,hv,_⟩:=hty.live MO h11
  exact hv.i64
 have anJ:=((hF.f P).a64 x (lha MO)).1
 have OU:=((Zb Q.hc).2.1 k x hlt MO).1
 have fin:∀{q:MS × Ev},LB m.d ⟨flat ps,Zr,Zg⟩ (up.map CV.d) c.d=q→True:=fun _=>trivial
 have Ts:ps.length≤8:=by have:=hI.hi;have:=hI.most;simp only at *;rw [T6] at *;omega
 have q0:LB m.d ⟨flat ps,Zr,Zg⟩ (up.map CV.d) c.d=(if x.op=0 then (⟨⟨flat ps,Zr,Zg⟩,[],0⟩,.WH 20)
  else if x.op=1∨x.op=2∨x.op=3 then (⟨⟨flat ps,Zr,Zg⟩,up.map CV.d++[XH c.d],0⟩,.on)
  else if x.op=4 then (⟨⟨flat ps,Zr,Zg⟩,up.map CV.d++[if top c.stk 0=0 then Td (Ss (XH c.d)) (RZ (UN m.d c.d) 0) else Ss (XH c.d)],0⟩,.on)
  else if x.op=12∨x.op=15 then (⟨⟨flat ps,Zr,Zg⟩,up.map CV.d++[Td (XH c.d) (RZ (UN m.d c.d) 0)],0⟩,.on)
  else if x.op=13 then (⟨⟨flat ps,Zr,Zg⟩,up.map CV.d++[if top c.stk 0=0 then Ss (XH c.d) else Td (Ss (XH c.d)) (RZ (UN m.d c.d) 0)],0⟩,.on)
  else if x.op=14 then (⟨⟨flat ps,Zr,Zg⟩,up.map CV.d++[Td (Ss (XH c.d)) (RZ (UN m.d c.d) (min (top c.stk 0 % 4294967296) ((UN m.d c.d).length-1)).toNat)],0⟩,.on)
  else if x.op=16∨x.op=17 then Sy m.d ⟨flat ps,Zr,Zg⟩ (up.map CV.d) (XH c.d) x
  else if (VY m.most x ⟨flat ps,Zr,Zg⟩ c.loc c.stk).e≠0 then (⟨(VY m.most x ⟨flat ps,Zr,Zg⟩ c.loc c.stk).ins,[],0⟩,.WH (VY m.most x ⟨flat ps,Zr,Zg⟩ c.loc c.stk).e) else (⟨(VY m.most x ⟨flat ps,Zr,Zg⟩ c.loc c.stk).ins,up.map CV.d++[{ XH c.d with loc:=(VY m.most x ⟨flat ps,Zr,Zg⟩ c.loc c.stk).loc,stk:=(VY m.most x ⟨flat ps,Zr,Zg⟩ c.loc c.stk).stk }],0⟩,.on)):=by
  unfold LB
  rw [←hx];rfl
 rw [q0]
 clear q0 fin
 by_cases a0:x.op=0
 ·rw [if_pos a0]
  refine Fc.imp (aln H hcs E UA hlen a0) ?_
  rintro r w' ⟨rfl,H⟩
  exact ⟨vc,0,vp,ps,Zg,[],⟨2,[],20,0,0⟩,_,rfl,⟨rfl,rfl,rfl⟩,Ts,OA H⟩
 rw [if_neg a0]
 by_cases a1:x.op=1∨x.op=2∨x.op=3
 ·rw [if_pos a1]
  refine Fc.imp (alo H hcs E UA hlen a1) ?_
  rintro r w' ⟨rfl,H⟩
  exact ⟨vc,0,vp,ps,Zg,_,⟨0,[],0,0,0⟩,_,rfl,⟨rfl,rfl,WJ rfl,rfl⟩,Ts,Q5 H⟩
 rw [if_neg a1]
 by_cases a4:x.op=4
 ·rw [if_pos a4]
  obtain ⟨j,v0,v,g1,g2,g3,g4⟩:=ahB Q MO a4 hty
  rw [hto] at g1
  have g2:c.stk=v0++[v]:=g2
  have Nn:1≤c.stk.length:=by rw [g2];simp
  have Rk:low c.stk 1=v0:=by rw [g2,QG]
  have hj0:(UN m.d c.d)[0]?=some j:=by rw [g1];rfl
  have hw0:RZ (UN m.d c.d) 0=j:=by rw [g1];rfl
  by_cases hz:top c.stk 0=0
  ·rw [if_pos hz,hw0]
   refine Fc.imp (ahI H hcs E UA hlen hj g3.h0 g3.k0 (by rw [g1];simp) Nn (.inl ⟨a4,hz⟩) hj0 (by rw [Rk];exact g3.fit)) ?_
   rintro r w' ⟨vs',rfl,H⟩
   exact ⟨vc,0,vp,ps,Zg,_,⟨0,[],0,0,0⟩,_,rfl,⟨rfl,rfl,WJ rfl,rfl⟩,Ts,Q5 H⟩
  ·rw [if_neg hz]
   refine Fc.imp (ahJ H hcs E UA hlen Nn (.inl ⟨a4,hz⟩)) ?_
   rintro r w' ⟨vs',rfl,H⟩
   exact ⟨vc,0,vp,ps,Zg,_,⟨0,[],0,0,0⟩,_,rfl,⟨rfl,rfl,WJ rfl,rfl⟩,Ts,Q5 H⟩
 rw [if_neg a4]
 by_cases a12:x.op=12∨x.op=15
 ·rw [if_pos a12]
  have:∃j,IV (ZF m.d) (WV m.d (W2 m.d c.d.fn)) Es Ls (W2 m.d c.d.fn).body (Rw m.d (W2 m.d c.d.fn)) k x=[j]∧H8 (ZF m.d) (WV m.d (W2 m.d c.d.fn)) (W2 m.d c.d.fn).body (Rw m.d (W2 m.d c.d.fn)) j c.stk:=by
   rcases a12 with h|h
   ·exact ahA Q MO h hty
   ·exact aeZ Q MO h hty
  obtain ⟨j,g1,g3⟩:=this
  rw [hto] at g1
  have hj0:(UN m.d c.d)[0]?=some j:=by rw [g1];rfl
  have hw0:RZ (UN m.d c.d) 0=j:=by rw [g1];rfl
  rw [hw0]
  refine Fc.imp (ai4 H hcs E UA hlen hj g3.h0 g3.k0 (by rw [g1];simp) a12 hj0 g3.fit) ?_
  rintro r w' ⟨vs',rfl,H⟩
  exact ⟨vc,0,vp,ps,Zg,_,⟨0,[],0,0,0⟩,_,rfl,⟨rfl,rfl,WJ rfl,rfl⟩,Ts,Q5 H⟩
 rw [if_neg a12]
 by_cases Ld:x.op=13
 ·rw [if_pos Ld]
  obtain ⟨j,v0,v,g1,g2,g3,g4⟩:=acQ Q MO Ld hty
  rw [hto] at g1
  have g2:c.stk=v0++[v]:=g2
  have Nn:1≤c.stk.length:=by rw [g2];simp
  have Rk:low c.stk 1=v0:=by rw [g2,QG]
  have hj0:(UN m.d c.d)[0]?=some j:=by rw [g1];rfl
  have hw0:RZ (UN m.d c.d) 0=j:=by rw [g1];rfl
  by_cases hz:top c.stk 0=0
  ·rw [if_pos hz]
   refine Fc.imp (ahJ H hcs E UA hlen Nn (.inr ⟨Ld,hz⟩)) ?_
   rintro r w' ⟨vs',rfl,H⟩
   exact ⟨vc,0,vp,ps,Zg,_,⟨0,[],0,0,0⟩,_,rfl,⟨rfl,rfl,WJ rfl,rfl⟩,Ts,Q5 H⟩
  ·rw [if_neg hz,hw0]
   refine Fc.imp (ahI H hcs E UA hlen hj g3.h0 g3.k0 (by rw [g1];simp) Nn (.inr ⟨Ld,hz⟩) hj0 (by rw [Rk];exact g3.fit)) ?_
   rintro r w' ⟨vs',rfl,H⟩
   exact ⟨vc,0,vp,ps,Zg,_,⟨0,[],0,0,0⟩,_,rfl,⟨rfl,rfl,WJ rfl,rfl⟩,Ts,Q5 H⟩
 rw [if_neg Ld]
 by_cases Lc:x.op=14
 ·rw [if_pos Lc]
  obtain ⟨v0,v,g2,g1,g3⟩:=ae0 Q MO Lc hty
  rw [hto] at g1 g3
  have g2:c.stk=v0++[v]:=g2
  have Nn:1≤c.stk.length:=by rw [g2];simp
  have Rk:low c.stk 1=v0:=by rw [g2,QG]
  have anK:x.to.length≤16:=by
   refine Decidable.by_contra fun hn=>?_
   unfold WK at OU
   have hb:YR x.op≠0:=by rw [Lc];decide
   rw [if_neg hb,if_pos qo] at OU;cases OU
  have hi:(min (top c.stk 0 % 4294967296) ((UN m.d c.d).length-1)).toNat<(UN m.d c.d).length:=by omega
  have hwm:=agW hi
  have g3:=g3 _ (lha hwm)
  refine Fc.imp (ai5 H hcs E UA hlen hj g3.h0 g3.k0 qo Nn (by rw [g2,UO];exact U2 v (by rw [g2];simp)) Lc qo hwm (by rw [Rk];exact g3.fit)) ?_
  rintro r w' ⟨vs',rfl,H⟩
  exact ⟨vc,0,vp,ps,Zg,_,⟨0,[],0,0,0⟩,_,rfl,⟨rfl,rfl,WJ rfl,rfl⟩,Ts,Q5 H⟩
 rw [if_neg Lc]
 by_cases HU:x.op=16∨x.op=17
 ·rw [if_pos HU]
  have an1:(up.map CV.d).length=up.length:=lia0 _
  obtain ⟨_,t1,t2⟩:=acX P hI (up:=up.map CV.d) qo hW MX (by rw [←hx];exact HU)
  rw [←hx] at t1 t2
  have an2:m.d.types.length=m.types.length:=lia0 ..
  have Rj:∀n∈Zr,-1≤n∧n<(m.ZB.length:Int)+m.funcs.length:=fun n hn=>by
   have:=hI.Zr n hn
   rw [show m.d.funcs.length=m.funcs.length from lia0 ..] at this;exact this
  have MQ:Zr.length≤1000:=by have:=hI.tl;have:=P.Zr;simp only at *;omega
  have Km:x.op=17→1≤c.stk.length∧0≤x.a∧x.a<m.types.length:=fun h=>by
   obtain ⟨⟨v0,v,hv⟩,b1,b2⟩:=t1 h
   have hv:c.stk=v0++[v]:=hv
   refine ⟨by rw [hv];simp,b1,by omega⟩
  obtain ⟨f,s2,e,hq⟩:∃f s2 e,YW m.d Zr x c.stk=(f,s2,e):=⟨_,_,_,rfl⟩
  have Jd:s2.length≤10000:=by
   have:s2=(YW m.d Zr x c.stk).2.1:=by rw [hq]
   rw [this]
   unfold YW
   repeat' split
   all_goals simp only [OE];omega
  have t2:(YW m.d Zr x c.stk).2.2=0→0≤(YW m.d Zr x c.stk).1∧(YW m.d Zr x c.stk).1<Y3 m.d+m.d.funcs.length∧(YD m.d (YW m.d Zr x c.stk).1).Zc.length≤(YW m.d Zr x c.stk).2.1.length:=t2
  rw [ack (c:=XH c.d) (I:=⟨flat ps,Zr,Zg⟩) hq]
  rw [hq] at t2
  simp only at t2
  by_cases he:e≠0
  ·rw [if_pos he]
   refine Fc.imp (ai6 H hcs E UA hlen hm P HU Rj Km U2 MQ hle hq he) ?_
   rintro r w' ⟨rfl,H⟩
   exact ⟨vc,0,vp,ps,Zg,[],⟨2,[],e,0,0⟩,_,rfl,⟨rfl,rfl,rfl⟩,Ts,OA H⟩
  ·rw [if_neg he]
   obtain rfl:e=0:=Decidable.of_not_not he
   obtain ⟨b1,b2,b3⟩:=t2 rfl
   have hfl:m.d.funcs.length=m.funcs.length:=lia0 ..
   have hf:0≤f∧f<(m.ZB.length:Int)+m.funcs.length:=⟨b1,by unfold Y3 at b2;have:m.d.ZB.length=m.ZB.length:=rfl;omega⟩
   have hni:Y3 m.d=m.ZB.length:=rfl
   have Uz:cs.length=up.length+1:=by rw [hcs];simp
   by_cases c1:Y3 m.d≤f∧(up.map CV.d).length+1=40
   ·rw [if_pos c1]
    refine Fc.imp (ai7 H hcs E UA hlen hm P HU Rj Km U2 MQ hle hq hf b3 Jd qo qo) ?_
    rintro r w' ⟨rfl,H⟩
    exact ⟨vc,0,vp,ps,Zg,[],⟨2,[],26,0,0⟩,_,rfl,⟨rfl,rfl,rfl⟩,Ts,OA H⟩
   rw [if_neg c1]
   by_cases c2:f<Y3 m.d
   ·rw [if_pos c2]
    refine Fc.imp (ai8 H hcs E UA hlen hm P HU Rj Km U2 MQ hle hq hf b3 Jd qo) ?_
    rintro r w' ⟨vs',vv,rfl,H⟩
    exact ⟨vc,f+1,vp,ps,Zg,_,⟨4,s2.drop (s2.length-(YD m.d f).Zc.length),0,f,0⟩,vv,rfl,⟨rfl,rfl,WJ rfl,rfl⟩,Ts,agU H⟩
   rw [if_neg c2]
   obtain ⟨kk,F,k1,k2,k3⟩:=agT (m:=m) (n:=f) qo hf.2
   have hFo:=P.fn F.d (lnb.2 ⟨F,lha k2,rfl⟩)
   obtain ⟨t,_,ht1,I9⟩:=acV P b1 b2
   have h4:(YD m.d f).Zc.length≤4:=by rw [ht1];exact (P.sig t I9).1
   have hlf:F.loc.length=(W2 m.d (f-Y3 m.d)).loc.length:=by rw [k3];rfl
   refine Fc.imp (ai9 H hcs E UA hlen hm P HU Rj Km U2 MQ hle hq hf b3 Jd kk F k1 k2 hFo.loc h4 qo) ?_
   rintro r w' ⟨Qe,vs',I0,rfl,H⟩
   refine ⟨Qe,0,vp,ps,Zg,_,⟨0,[],0,0,0⟩,_,rfl,⟨rfl,rfl,?_,rfl⟩,Ts,anj H⟩
   rw [lXa,lXa]
   have e1:(kk:Int)=f-Y3 m.d:=by omega
   show up.map CV.d++[_]++[_]=_
   congr 2
   show (⟨(kk:Int),0,_,[]⟩:YE)=_
   rw [e1,hlf]
 rw [if_neg HU]
 have D5:18≤x.op:=by
  have h0:YR x.op≠0:=fun hz=>by
   unfold WK at OU
   rw [if_pos hz] at OU;cases OU
  refine Decidable.by_contra fun hn=>h0 ?_
  have hw:¬0<wid x.op:=fun h=>by have:=RW h;omega
  have hnm:¬(X7 x.op).2.2=true:=fun h=>by have:=Lu h;omega
  unfold YR
  rw [if_neg qo,if_neg qo,if_neg qo,if_neg qo,if_neg hw,if_neg qo,if_neg qo,if_neg qo,if_neg qo,if_neg hnm]
 obtain ⟨d1,d2⟩:=ahE Q rfl MO D5 hty hF.loc hI (((hF.f P).a64 x (lha MO)).2)
 have hmo:ps.length≤m.most∧m.most≤8:=by
  have h1:=hI.hi;have h2:=hI.most
  simp only at h1
  rw [T6] at h1
  exact ⟨h1,h2⟩
 refine Fc.imp (aja H hcs E UA hlen d1 hT D5 hop hmo) ?_
 rintro r w' ⟨e,vs',T5,ps',Xg,loc',Xi,rfl,hO,hps,H⟩
 have NB:(VY m.most x ⟨flat ps,Zr,Zg⟩ c.loc c.stk).ins=⟨flat ps',Zr,Xg⟩:=by
  have h1:=hO.e2;have h2:=hO.e3
  have h3:(VY m.most x ⟨flat ps,Zr,Zg⟩ c.loc c.stk).ins.Zr=Zr:=ajb
  cases hd:(VY m.most x ⟨flat ps,Zr,Zg⟩ c.loc c.stk).ins with
  | mk a b cc =>
   rw [hd] at h1 h2 h3
   simp only at h1 h2 h3
   rw [h1,h2,h3]
 by_cases he:e≠0
 ·have CD:(VY m.most x ⟨flat ps,Zr,Zg⟩ c.loc c.stk).e≠0:=by rw [←hO.e1];exact he
  rw [if_pos CD,if_pos he]
  refine ⟨vc,0,T5,ps',Xg,[],⟨2,[],e,0,0⟩,_,rfl,⟨NB,?_,rfl⟩,hps,OA (agV H)⟩
  show (⟨2,[],e,0,0⟩:SI)=_
  rw [hO.e1]
 ·have CC:e=0:=Decidable.of_not_not he
  have CD:¬(VY m.most x ⟨flat ps,Zr,Zg⟩ c.loc c.stk).e≠0:=by rw [←hO.e1];exact he
  rw [if_neg CD,if_neg he]
  refine ⟨vc,0,T5,ps',Xg,_,⟨0,[],0,0,0⟩,_,rfl,⟨NB,rfl,?_,rfl⟩,hps,Q5 H⟩
  rw [←hO.e4,←hO.e5 CC]
  exact WJ rfl
end
end Rn
namespace Rn
open Go YZ Go.RowKit
open YS Zk XV YQ Valid Mem
structure Nh where
 v:Value
 outs:List ML
def MW (x:Nh):List Value:=[x.v]
structure RT (g:Zv) (x:Nh):Prop where
 outs:ZZ g GP (Pd g) 1 x.v x.outs
structure Mv (m:Y9) (ws:List Nh):Prop where
 len:ws.length=m.funcs.length
 at_:∀(i:Nat) (f:YA) (y:Nh),m.funcs[i]?=some f→ws[i]?=some y→y.outs.length=f.body.length∧∀(j:Nat) (s:ML),y.outs[j]?=some s→s.js=KG m.d f.d j
def KB (S:MS):Nat:=(S.calls.map fun c=>300-c.at_.toNat).sum
section
variable {m:Yf} {S S' S0:MS} {n n0:Nat} {up:List YE} {d d' u u':YE} {I:Sr} {q:MS × Ev}
theorem NA (hS:S.calls=up++[d]) (h:T8 m S.ins up d=q):Jq m S q.1 q.2:=⟨up,d,hS,h.symm⟩
theorem adq (h:(YU m d).op=11) (h2:d.at_+1=(W2 m d.fn).body.length):T8 m I [] d=(⟨I,[],0⟩,.over d.stk):=by
 unfold T8;simp only [h,h2,if_true]
theorem acm (h:(YU m d).op=11) (h2:d.at_+1=(W2 m d.fn).body.length):T8 m I (up++[u]) d=(⟨I,up++[{ u with stk:=u.stk++d.stk }],0⟩,.free):=by
 have:addTop (up++[u]) d.stk=up++[{ u with stk:=u.stk++d.stk }]:=by unfold addTop;simp
 unfold T8;simp only [h,h2,if_true,this];rw [if_neg qs]
theorem step_end (h:(YU m d).op=11) (h2:¬d.at_+1=(W2 m d.fn).body.length):T8 m I up d=(⟨I,up++[XH d],0⟩,.free):=by
 unfold T8;simp only [h,if_true];rw [if_neg h2]
theorem Vb (h:(YU m d).op=5):T8 m I up d=(⟨I,up++[Td d (RZ (UN m d) 0)],0⟩,.free):=by
 unfold T8;simp only [h,if_true];rw [if_neg qo]
theorem afi (h:(YU m d).op≠11) (h2:(YU m d).op≠5):T8 m I up d=LB m I up d:=by
 unfold T8;simp only;rw [if_neg h,if_neg h2]
theorem Nz (P:SG m) (T:Ty m S) (h0:S.host=0) (hR:∀T o,Sp m S n T o→Sp m S0 n0 T o) (hs:Jq m S S' .free):Ty m S'∧S'.host=0∧S'.calls≠[]∧∀T o,Sp m S' n T o→Sp m S0 n0 T o :=
 have A:=TK P T h0 hs
 ⟨A.1,A.2.1,A.2.2,fun T o h=>hR T o (.free hs h)⟩
theorem ajc (P:SG m) (T:Ty m S) (h0:S.host=0) (hR:∀T o,Sp m S (n+1) T o→Sp m S0 n0 T o) (hs:Jq m S S' .on):Ty m S'∧S'.host=0∧S'.calls≠[]∧∀T o,Sp m S' n T o→Sp m S0 n0 T o :=
 have A:=TK P T h0 hs
 ⟨A.1,A.2.1,A.2.2,fun T o h=>hR T o (.goes hs h)⟩
theorem Ny (P:SG m) {n:Int} (W:MA m d n):d.stk.length≤201:=by
 obtain ⟨Es,Ls,Q⟩:=(W.fr.f P).snd
 have T:=Rv.Lz (Q.at_ (k:=d.at_.toNat) (ldb W.lt)) Q.hc W.lt W.live (KV.ahw _)
 have h:=Oz Q (fun t ht=>(P.sig t ht).2) T
 rw [lja] at h
 obtain ⟨r,e,hv⟩:=W.stk
 have h2:=hv.len
 have h3:=congrArg List.length e
 rw [lba] at h3
 have h4:(Fo m d d.at_.toNat).2.length≤201:=h
 omega
theorem abL (h:S.calls=up++[d]) (h':S'.calls=up++[d']) (hl:d.at_.toNat<d'.at_.toNat) (h2:d.at_.toNat<300):KB S'<KB S:=by
 unfold KB;rw [h,h'];simp;omega
theorem afj (h:S.calls=up++[u]++[d]) (h':S'.calls=up++[u']) (e:u'.at_=u.at_) (h2:d.at_.toNat<300):KB S'<KB S:=by
 unfold KB;rw [h,h'];simp [e];omega
theorem Kb {l:List YE} {k:Nat} (h:l.length≤k):(l.map fun c=>300-c.at_.toNat).sum≤300 * k:=by
 induction l generalizing k with
 | nil=>simp
 | cons a l ih =>
  simp only [List.length_cons] at h
  have:=ih (k:=k-1) qo
  simp only [List.map_cons,List.sum_cons];omega
def KA (e:Ev):Prop:=e≠.free∧∀v,e≠.over v
theorem Oy {e:Int}:KA (.WH e):=⟨by simp,by simp⟩
theorem Nx:KA .on:=⟨by simp,by simp⟩
theorem agZ {f:Int} {v:List Int}:KA (.host f v):=⟨by simp,by simp⟩
theorem T4 {c:Prop} [Decidable c] {x y:MS × Ev} (h1:KA x.2) (h2:KA y.2):KA (if c then x else y).2:=by
 split
 ·exact h1
 ·exact h2
theorem afk (m:Yf) (I:Sr) (up:List YE) (d:YE) (x:ZU):KA (Sy m I up d x).2 :=
 T4 Oy (T4 Oy (T4 agZ Nx))
theorem ag0 (m:Yf) (I:Sr) (up:List YE) (d:YE):KA (LB m I up d).2 :=
 T4 Oy (T4 Nx (T4 Nx (T4 Nx (T4 Nx (T4 Nx (T4 (afk ..) (T4 Oy Nx)))))))
theorem ag2 (h:S.calls.length≤40):KB S≤12000:=Kb h
end
section
variable {g:Zv} {w:World} {l:List As} {m:Y9} {pr cp mp:Nat} {vw vc vt vg vp Tb vj:Value} {host f e:Int} {cs up:List CV} {Zr Zg s2:List Int} {ps:List WT} {c u:CV} {x:ZU} {i b o:Nat} {ws:List XT} {j:XT}
variable {S S0:MS} {n n0:Nat} {p1:Nat} {Ho:List Nh}
def ann (g:Zv) (m:Y9) (pr cp mp:Nat) (vw vt vg:Value) (Zr:List Int) (p1:Nat) (l:List As) (S0:MS) (n0:Nat) (y:MS × Nat) (w:World):Prop :=
 ∃vc vp ps Zg cs,(∀T o,Sp m.d y.1 y.2 T o→Sp m.d S0 n0 T o)∧Ty m.d y.1∧y.1.host=0∧y.1.calls≠[]∧cs.map CV.d=y.1.calls∧y.1.ins=⟨flat ps,Zr,Zg⟩∧y.2≤n0∧Sat g w (Pt pr [.pointer (some ⟨cp,0,none⟩),vw,vc,.int .i64 0] 148::Pt cp [m.vt,m.vm,m.vf,.int .i64 m.table,.int .i64 m.pages,.int .i64 m.most,m.vg,m.vx,.int .i64 m.start,m.ve,m.vd,.pointer (some ⟨mp,0,none⟩),vt,vg] 158::Pt mp [vp,.int .i64 m.most] 221::Sl 223 256 Xf vp ps::Sl 3 1 ZG vt Zr::Sl 2 1 ZG vg Zg::MY true vc cs::Pt p1 [.int .i64 0,.slice none 0 0,.int .i64 0,.int .i64 0,.int .i64 0] 41::l)
theorem HO {A0 A1 A2 A3 A4 A5:As} (H:Sat g w (A0::A1::A2::A3::A4::A5::Sl 79 4 Yk vc (up++[c])::Wa up::Sl 2 1 ZG c.vl c.loc::Sl 2 1 ZG c.vs c.stk::l)):Sat g w (A0::A1::A2::A3::A4::A5::MY true vc (up++[c])::l):=(Q5 H).del 7
theorem ac0 {d:YE} {dr:List YE} (h:cs.map CV.d=dr++[d]):∃up c,cs=up++[c]∧up.map CV.d=dr∧c.d=d:=by
 rcases lgb cs with rfl|⟨up,c,rfl⟩
 ·simp at h
 ·rw [lab0,lXa] at h
  obtain ⟨h1,h2⟩:=List.append_inj' h rfl
  exact ⟨up,c,lab0 ..,h1,lWb.1 h2⟩
theorem afl {E:Yj} {L Es Ls:List Int} {bd:List ZU} {t:Xm} {k:Nat} {x:ZU} (S:Ve E L bd t Es Ls) (hx:bd[k]?=some x) (ho:x.op=5) (hl:(Yu E L bd t k).1=false):∃w,IV E L Es Ls bd t k x=[w]∧(k:Int)<w.at_∧w.at_<200:=by
 have hlt:=(lca.1 hx).1
 have hlen:=(S.at_ (k:=k) qo).len
 obtain ⟨is,hn⟩:=TL S.hc hx
 have hp:=(X6 bd k).pos (Xk S.hc hlt)
 have h4:(Zq bd k).last.getD ((Zq bd k).op.length-1) 0=4:=by
  rcases Yg hn with ⟨h,_⟩|⟨_,h4,_⟩|⟨h,_⟩|⟨h,_⟩
  ·omega
  ·exact h4
  ·omega
  ·exact absurd ho h.2.2.2.1
 have O9:(Zq bd k).op[(Zq bd k).op.length-1]?=some (tp (Zq bd k)):=by
  unfold tp
  rw [lea,laa qo];rfl
 obtain ⟨o,p,s,u,P⟩:=(S.at_ (k:=k) qo).sx ((S.at_ (k:=k) qo).ne S.hc hlt)
 have OX:(Zq bd k).op.length=o.length+1:=by rw [←hlen,P.Zp];simp
 refine ⟨Ww (Ur Es bd (Yu E L bd t) t.out.length k) 0,?_,?_⟩
 ·show Lb _ _ _ _ _ _ _=_
  rw [T7 hl];unfold W7;rw [if_neg qo,if_neg qo,if_neg qo,if_pos ho]
 ·have hw0:Ww (Ur Es bd (Yu E L bd t) t.out.length k) 0=jmp Es bd (Yu E L bd t) t.out.length (tp (Zq bd k)):=by
   unfold Ww
   rw [P7,show (Zq bd k).op.length-1-(0:Int).toNat=(Zq bd k).op.length-1 by simp]
   exact Lw O9
  rw [hw0]
  rcases Ly S.hc (ldb hlt) (NJ S.hc hlt) with h|⟨i,h,hik,DC⟩
  ·
   exfalso
   rw [h] at O9
   have hj0:=Sd (NK S.hc (ldb hlt)) O9 (QH S.hc hlt).1
   rw [hj0,lea,(QH S.hc hlt).2] at h4
   cases h4
  ·have DZ:bd[i]?=some bd[i]:=laa qo
   unfold Zp at DC
   rw [Ug DZ] at DC
   obtain ⟨e,y,c1,c2,c3,c4,c5,c6⟩:=S.closed DZ DC
   have hel:=(lca.1 c3).1
   have MU:=(Zb S.hc).1
   obtain ⟨m',z',r1,r2,r3⟩:=(S.lk (k:=k) qo).all _ p (SH P)
   have an3:p.op=4:=by
    rw [OX,lKa,lea,r2] at h4
    rw [←r3.op];exact h4
   rw [OX,lKa] at O9
   rw [r1] at O9
   obtain rfl:=Option.some.inj O9
   obtain ⟨_,x',k1,k2,_,k5,_⟩:=r3.at_ i h
   have I7:bd[i].op=4:=by
    rw [DZ] at k1
    obtain rfl:=Option.some.inj k1
    rcases k5 with r|r <;> omega
   rw [h]
   unfold jmp
   rw [if_neg qo,lka,VZ DZ,if_neg qo]
   simp only [c1]
   rcases c6 with ⟨n1,n2⟩|⟨hh,y2,n1,n2,n3,n4,n5,n6⟩
   ·exfalso
    obtain ⟨op,last,M⟩:=S.C2
    have hg:gd Ls k=i:=by rw [M.h k hlt (by rw [Ug hx];exact ho)];exact h
    have e1:=(Jp S DZ (.inr (.inr I7))).2
    rw [n1,(Lx (show i<bd.length by omega)).2] at e1
    unfold KH at e1
    cases hf:(List.range bd.length).find? (fun e=>decide (i<e) && decide ((bd.getD e Hs).op=5) && decide (tp (Zq bd e)=i)) with
    | none =>
     have:=List.find?_eq_none.1 hf k (List.mem_range.2 hlt)
     rw [VZ hx] at this
     exact this (by simp [hik,ho,h])
    | some q=>rw [hf] at e1;simp only at e1;omega
   ·have:hh=k:=abJ S.hc n4 hx n5 ho n6 h n2 hik
    omega
theorem afm (h0:0≤f) (h1:f<m.d.funcs.length):∃F:YA,m.funcs[f.toNat]?=some F∧W2 m.d f=F.d:=by
 have hl:m.d.funcs.length=m.funcs.length:=lia0 ..
 have hi:f.toNat<m.funcs.length:=by omega
 refine ⟨m.funcs[f.toNat],laa hi,?_⟩
 unfold W2
 show (m.funcs.map YA.d).getD _ _=_
 rw [lea,lva,laa hi];rfl
theorem ano (H:Sat g w (Pt pr [.pointer (some ⟨cp,0,none⟩),vw,vc,.int .i64 0] 148::Pt cp [m.vt,m.vm,m.vf,.int .i64 m.table,.int .i64 m.pages,.int .i64 m.most,m.vg,m.vx,.int .i64 m.start,m.ve,m.vd,.pointer (some ⟨mp,0,none⟩),vt,vg] 158::Pt mp [vp,.int .i64 m.most] 221::Sl 223 256 Xf vp ps::Sl 3 1 ZG vt Zr::Sl 2 1 ZG vg Zg::MY true vc cs::l)) (hm:XF g m) (P:SG m.d) (hT:Fold.I3 g) (hw:ZZ g MW (RT g) 1 vw Ho) (hW:Mv m Ho) (T:Ty m.d S0) (h0:S0.host=0) (hc:S0.calls≠[]) (alq:cs.map CV.d=S0.calls) (hI:S0.ins=⟨flat ps,Zr,Zg⟩) (hn:n0≤100000) :
  Fc Tryz.prog 73 #[.pointer (some ⟨pr,0,none⟩),.int .i64 n0] w (fun r w'=>∃Qe host' T5 ps' Xg cs' o vv S',r=.agg #[.int .i64 o.e,vv,.int .i64 o.WH,.int .i64 o.host,.int .i64 o.left]∧Sp m.d S0 n0 S' o∧S'.ins=⟨flat ps',Zr,Xg⟩∧ps'.length≤8∧(o.e≠2→cs'.map CV.d=S'.calls)∧host'=S'.host∧Sat g w' (Pt pr [.pointer (some ⟨cp,0,none⟩),vw,Qe,.int .i64 host'] 148::Pt cp [m.vt,m.vm,m.vf,.int .i64 m.table,.int .i64 m.pages,.int .i64 m.most,m.vg,m.vx,.int .i64 m.start,m.ve,m.vd,.pointer (some ⟨mp,0,none⟩),vt,vg] 158::Pt mp [T5,.int .i64 m.most] 221::Sl 223 256 Xf T5 ps'::Sl 3 1 ZG vt Zr::Sl 2 1 ZG vg Xg::MY (decide (o.e≠2)) Qe cs'::Sl 2 1 ZG vv o.vals::l)):=by
 refine Fc.of Tryz.func73 rfl k_i ?_
 have ZW:=hm.funcs
 refine ZS H rfl<|fun p1 w1 H=>?_
 refine YP.rule (α:=MS × Nat) (S0,n0) (fun y=>[(1,.int .i64 y.2)]) (ann g m pr cp mp vw vt vg Zr p1 l S0 n0) (fun y=>y.2 * 20000+KB y.1) ?_ ?_ ?_
 ·exact ZL rfl ZT
 ·refine ⟨vc,vp,ps,Zg,cs,fun T o h=>h,T,h0,hc,alq,hI,lra _,?_⟩
  refine H.Z8 [0,7,7,7,7,7,7,7]<|fun H=>?_
  exact H
 clear H alq hI
 rintro ⟨S,n⟩ f_ w_ ⟨vc,vp,ps,Zg,cs,hR,MX,hh,hne,SB,NB,hle,H⟩
 simp only at hR MX hh hne SB NB hle ⊢
 obtain ⟨dr,d,hS⟩:∃dr d,S.calls=dr++[d]:=by
  rcases lgb S.calls with h|⟨dr,d,h⟩
  ·exact absurd h hne
  ·exact ⟨dr,d,by rw [h,lab0]⟩
 obtain ⟨up,c,hcs,rfl,rfl⟩:=ac0 (SB.trans hS)
 rw [hcs] at H
 replace H:=acZ H
 rw [←hcs] at H
 have Dt:=MX.ins
 rw [NB] at Dt
 have JH:XC m.d (up.map CV.d) (Y3 m.d+c.fn)∧Sw m.d c.d:=by
  rcases MX.cs with ⟨_,h2⟩|⟨_,up',c',h2,h3⟩|⟨h2,_⟩
  ·exact absurd h2 hne
  ·obtain ⟨rfl,h4⟩:=List.append_inj' (hS.symm.trans h2) rfl
   obtain rfl:=lWb.1 h4
   exact h3
  ·omega
 obtain ⟨CB,JH⟩:=JH
 have hF:=JH.fr
 obtain ⟨Fv,HN,EC⟩:=afm (m:=m) (f:=c.fn) hF.f0 hF.f1
 obtain ⟨k,hk,hlt,MO⟩:=JH.at_
 obtain ⟨Es,Ls,Q⟩:=(hF.f P).snd
 have hk:c.at_=k:=hk
 have MU:(W2 m.d c.d.fn).body.length=Fv.body.length:=by
  have:c.d.fn=c.fn:=rfl
  rw [this,EC];exact lia0 _
 have hbd:(W2 m.d c.d.fn).body=Fv.body.map Za.d:=by
  have:c.d.fn=c.fn:=rfl
  rw [this,EC];rfl
 have hxv:(Fv.body.map Za.d)[k]?=some (YU m.d c.d):=by rw [←hbd];exact MO
 rw [lva] at hxv
 obtain ⟨X,hX,hXd⟩:=Option.map_eq_some_iff.1 hxv
 have hX:Fv.body[c.at_.toNat]?=some X:=by rw [hk,lka];exact hX
 have hfl:m.d.funcs.length=m.funcs.length:=lia0 ..
 have CO:=hF.f0
 have EH:=hF.f1
 have hcf:c.d.fn=c.fn:=rfl
 rw [hcf] at CO EH
 have hnf:=P.nf
 have anL:=(Zb Q.hc).1
 have P0:c.stk.length≤201:=Oz Q (fun t ht=>(P.sig t ht).2) (by have:=JH.ty;rw [show c.d.at_.toNat=k by show c.at_.toNat=k;omega] at this;exact this)
 have Uz:cs.length≤40:=by have:=MX.le;rw [←SB,lia0] at this;exact this
 have Jt:cs.length=up.length+1:=by rw [hcs];simp
 have hx:cs[cs.length-1]?=some c:=by rw [Jt,lKa];exact YK hcs
 have WY:∀z,cs.set (cs.length-1) z=up++[z]:=by rw [Jt,lKa];exact Yv hcs
 have hop:X.op=(YU m.d c.d).op:=by rw [←hXd];rfl
 have Fj:X.op=11→(YU m.d c.d).op=11:=fun h=>by rw [←hop];exact h
 have hend:c.at_+1=Fv.body.length→c.d.at_+1=(W2 m.d c.d.fn).body.length:=fun h=>by rw [MU];exact h
 have Ts:ps.length≤8:=by have:=Dt.hi;have:=Dt.most;simp only at *;rw [T6] at *;omega
 have hvl:=H.one 8 rfl
 have hvs:=H.one 9 rfl
 have hto:=HW hk Q MO
 have hty:=JH.ty
 rw [show c.d.at_.toNat=k by show c.at_.toNat=k;omega] at hty
 have G8:0≤c.at_∧c.at_<200:=by omega
 by_cases DY:X.op=11
 ·by_cases el:c.at_+1=Fv.body.length
  ·have D6:up=[]∨∃up' u,up=up'++[u]:=by
    rcases lgb up with h|⟨up',u,h⟩
    ·exact .inl h
    ·exact .inr ⟨up',u,by rw [h,lab0]⟩
   rcases D6 with rfl|⟨up',u,rfl⟩
   ·have Ri:=NA hS (adq (Fj DY) (hend el))
    refine bk<|ZM H [] [(0,.pure),(1,.pure),(2,.pure),(3,.held),(4,.pure),(5,.pure),(6,.pure),(7,.held),(8,.pure),(9,.pure),(10,.pure),(11,.pure)] mixed k_i k_i<|fun w2 H=>tk (fun wx HS=>Z9 rfl ⟨rfl,rfl⟩)<|tk (fun wx HS=>Z4 (HS.at 0 rfl) 2 rfl rfl rfl ⟨rfl,rfl⟩)<|tk (fun wx HS=>Z9 rfl ⟨rfl,rfl⟩)<|tk (fun wx HS=>Z4 (HS.at 0 rfl) 2 rfl rfl rfl ⟨rfl,rfl⟩) ?_
    obtain ⟨a1,c1,V1⟩:=H.form 6 rfl
    refine tk (fun wx HS=>XP V1 rfl ⟨rfl,rfl⟩)<|ZX qo ?_
    obtain ⟨b1,o1,E1⟩:=H.Y1 6 rfl ((cs.length)-1) qo
    refine tk (fun wx HS=>ZJ E1 qo rfl rfl ⟨rfl,rfl⟩)<|ZM H [] [(0,.pure),(1,.pure),(2,.pure),(3,.held),(4,.pure),(5,.pure),(6,.pure),(7,.held),(8,.pure),(9,.pure),(10,.pure),(11,.held),(12,.pure),(13,.pure),(14,.held),(15,.pure)] mixed k_i k_i<|fun w3 H=>tk (fun wx HS=>Z9 rfl ⟨rfl,rfl⟩)<|tk (fun wx HS=>Z4 (HS.at 0 rfl) 0 rfl rfl rfl ⟨rfl,rfl⟩)<|tk (fun wx HS=>Z9 rfl ⟨rfl,rfl⟩)<|tk (fun wx HS=>Z9 rfl ⟨rfl,rfl⟩)<|tk (fun wx HS=>Z4 (HS.at 1 rfl) 2 rfl rfl rfl ⟨rfl,rfl⟩)<|tk (fun wx HS=>Z9 rfl ⟨rfl,rfl⟩)<|tk (fun wx HS=>Z4 (HS.el 6 rfl E1 hx) 0 rfl rfl rfl ⟨rfl,rfl⟩) ?_
    obtain ⟨b2,o2,E2,F1,ZE⟩:=ZZ.Y1 ZW HN
    have XR:=ZE.ty
    have Zy:=ZE.loc
    have ZI:=ZE.body
    refine tk (fun wx HS=>ZJ E2 qo rfl rfl ⟨rfl,rfl⟩)<|tk (fun wx HS=>Z9 rfl ⟨rfl,rfl⟩)<|tk (fun wx HS=>Z4 (HS.XQ F1) 2 rfl rfl rfl ⟨rfl,rfl⟩)<|Z9 rfl<|Z4 (H.el 6 rfl E1 hx) 1 rfl rfl rfl ?_
    obtain ⟨b3,o3,E3,F2,X3⟩:=ZZ.Y1 ZI hX
    have Rs:=X3.op
    have Nw:=X3.a
    have Nv:=X3.b
    have WO:=X3.to
    refine ZJ E3 qo rfl rfl<|ZA (H.XQ F2) 0 rfl rfl rfl<|ZS H rfl<|fun p2 w2 H=>ZD H 0 rfl rfl rfl k_m<|fun w3 H=>Z9 rfl<|Z4 (H.at 0 rfl) 0 rfl rfl rfl<|cT (ZN qa)<|Z9 rfl<|Z4 (H.el 7 rfl E1 hx) 1 rfl rfl rfl<|ZX qo<|Z9 rfl<|YB H 7 rfl E1 hx 1 (⟨c.fn,c.at_+1,c.vl,c.loc,c.vs,c.stk⟩) rfl rfl rfl rfl<|fun w2 H=>Z9 rfl ?_
    have hx1:(cs.set (cs.length-1) { fn:=c.fn,at_:=c.at_+1,vl:=c.vl,loc:=c.loc,vs:=c.vs,stk:=c.stk })[cs.length-1]?=some _:=WQ hx
    refine Z4 (H.el 7 rfl E1 hx1) 1 rfl rfl rfl<|Zw ZI rfl<|cT (ZN qa) ?_
    simp only [WY] at H
    refine H.Z8 [10,8,3]<|fun H=>?_
    refine Z7.mk (Fc.imp (ae8 (c:=⟨c.fn,c.at_+1,c.vl,c.loc,c.vs,c.stk⟩) H rfl hvl hvs (by show c.stk.length≤_;omega)) ?_)
    rintro _ w' ⟨DX,lv,rfl,H⟩
    refine cT rfl ?_
    obtain ⟨a2,c2,rfl⟩:=H.form 2 rfl
    refine Zf rfl rfl rfl<|ZD H 11 rfl rfl rfl rfl<|fun w3 H=>?_
    refine Xd (H.at 11 rfl) 0 rfl rfl rfl ?_
    refine Z6.mk ⟨DX,0,vp,ps,Zg,[],⟨1,c.stk,0,0,n⟩,_,_,rfl,hR _ _ (.over Ri),NB,Ts,fun _=>rfl,rfl,?_⟩
    exact GG ((((H.del 11).del 10).del 3).Z8 [1,7,7,7,7,7,6,7,8] fun H=>H)
   ·have Ri:Jq m.d S ⟨S.ins,up'.map CV.d++[⟨u.fn,u.at_,u.loc,u.stk++c.stk⟩],0⟩ .free:=NA (q:=(_,_)) hS (by rw [lXa];exact acm (u:=u.d) (Fj DY) (hend el))
    obtain ⟨n1,n2,n3,n4⟩:=Nz P MX hh hR Ri
    have an4:up'.length+1+1=cs.length:=by rw [hcs];simp
    have hWu:u.stk.length≤10000:=by
     rw [lXa] at CB
     have:u.d.stk.length≤201:=Ny P (XC.snoc.1 CB).2
     have e:u.d.stk=u.stk:=rfl
     rw [e] at this
     omega
    refine H.Z8 [7]<|fun H=>?_
    replace H:=afe H
    refine bk<|ZM H [] [(0,.pure),(1,.pure),(2,.pure),(3,.held),(4,.pure),(5,.pure),(6,.pure),(7,.held),(8,.pure),(9,.pure),(10,.pure),(11,.pure)] mixed k_i k_i<|fun w2 H=>tk (fun wx HS=>Z9 rfl ⟨rfl,rfl⟩)<|tk (fun wx HS=>Z4 (HS.at 3 rfl) 2 rfl rfl rfl ⟨rfl,rfl⟩)<|tk (fun wx HS=>Z9 rfl ⟨rfl,rfl⟩)<|tk (fun wx HS=>Z4 (HS.at 3 rfl) 2 rfl rfl rfl ⟨rfl,rfl⟩) ?_
    obtain ⟨a1,c1,V1⟩:=H.form 9 rfl
    refine tk (fun wx HS=>XP V1 rfl ⟨rfl,rfl⟩)<|ZX qo ?_
    obtain ⟨b1,o1,E1⟩:=H.Y1 9 rfl ((cs.length)-1) qo
    refine tk (fun wx HS=>ZJ E1 qo rfl rfl ⟨rfl,rfl⟩)<|ZM H [] [(0,.pure),(1,.pure),(2,.pure),(3,.held),(4,.pure),(5,.pure),(6,.pure),(7,.held),(8,.pure),(9,.pure),(10,.pure),(11,.held),(12,.pure),(13,.pure),(14,.held),(15,.pure)] mixed k_i k_i<|fun w3 H=>tk (fun wx HS=>Z9 rfl ⟨rfl,rfl⟩)<|tk (fun wx HS=>Z4 (HS.at 3 rfl) 0 rfl rfl rfl ⟨rfl,rfl⟩)<|tk (fun wx HS=>Z9 rfl ⟨rfl,rfl⟩)<|tk (fun wx HS=>Z9 rfl ⟨rfl,rfl⟩)<|tk (fun wx HS=>Z4 (HS.at 4 rfl) 2 rfl rfl rfl ⟨rfl,rfl⟩)<|tk (fun wx HS=>Z9 rfl ⟨rfl,rfl⟩)<|tk (fun wx HS=>Z4 (HS.el 9 rfl E1 hx) 0 rfl rfl rfl ⟨rfl,rfl⟩) ?_
    obtain ⟨b2,o2,E2,F1,ZE⟩:=ZZ.Y1 ZW HN
    have XR:=ZE.ty
    have Zy:=ZE.loc
    have ZI:=ZE.body
    refine tk (fun wx HS=>ZJ E2 qo rfl rfl ⟨rfl,rfl⟩)<|tk (fun wx HS=>Z9 rfl ⟨rfl,rfl⟩)<|tk (fun wx HS=>Z4 (HS.XQ F1) 2 rfl rfl rfl ⟨rfl,rfl⟩)<|Z9 rfl<|Z4 (H.el 9 rfl E1 hx) 1 rfl rfl rfl ?_
    obtain ⟨b3,o3,E3,F2,X3⟩:=ZZ.Y1 ZI hX
    have Rs:=X3.op
    have Nw:=X3.a
    have Nv:=X3.b
    have WO:=X3.to
    refine ZJ E3 qo rfl rfl<|ZA (H.XQ F2) 0 rfl rfl rfl<|ZS H rfl<|fun p2 w2 H=>ZD H 0 rfl rfl rfl (by simp only [List.all_cons,List.all_nil,H.one 1 rfl,H.one 2 rfl,H.one 7 rfl,H.one 8 rfl,H.one 9 rfl,H.one 10 rfl,H.one 11 rfl,H.one 12 rfl,ZZ.one WO,ZZ.one ZI,ZZ.one Zy,hvs,hvl,ZZ.one ZW,ZZ.one hw];rfl)<|fun w3 H=>Z9 rfl<|Z4 (H.at 0 rfl) 0 rfl rfl rfl<|cT (ZN qa)<|Z9 rfl<|Z4 (H.el 10 rfl E1 hx) 1 rfl rfl rfl<|ZX qo<|Z9 rfl<|YB H 10 rfl E1 hx 1 (⟨c.fn,c.at_+1,c.vl,c.loc,c.vs,c.stk⟩) rfl rfl rfl rfl<|fun w2 H=>Z9 rfl ?_
    have hx1:(cs.set (cs.length-1) { fn:=c.fn,at_:=c.at_+1,vl:=c.vl,loc:=c.loc,vs:=c.vs,stk:=c.stk })[cs.length-1]?=some _:=WQ hx
    refine Z4 (H.el 10 rfl E1 hx1) 1 rfl rfl rfl<|Zw ZI rfl<|cT (ZN qa) ?_
    simp only [WY] at H
    refine H.Z8 [2,12,11,6]<|fun H=>?_
    refine Z7.mk (Fc.imp (ae9 (c:=⟨c.fn,c.at_+1,c.vl,c.loc,c.vs,c.stk⟩) H rfl hvl hvs (by show c.stk.length≤_;omega) hWu (by simp;omega)) ?_)
    rintro _ w' ⟨DX,Gd,rfl,H⟩
    refine cF rfl ?_
    refine WN.mk (⟨S.ins,up'.map CV.d++[⟨u.fn,u.at_,u.loc,u.stk++c.stk⟩],0⟩,n) (ZL rfl ZT) ⟨DX,vp,ps,Zg,up'++[⟨u.fn,u.at_,u.vl,u.loc,Gd,u.stk++c.stk⟩],n4,n1,n2,n3,WJ rfl,NB,hle,?_⟩ ?_
    ·exact HO (((H.del 11).del 3).Z8 [2,3,4,4,9,9,9,9,9,9] fun H=>H)
    ·have:=afj (S:=S) (S':=⟨S.ins,up'.map CV.d++[⟨u.fn,u.at_,u.loc,u.stk++c.stk⟩],0⟩) (u:=u.d) (d:=c.d) (u':=⟨u.fn,u.at_,u.loc,u.stk++c.stk⟩) (by rw [hS,lXa];rfl) rfl rfl (by show c.at_.toNat<_;omega)
     simp only
     omega
  ·have Ri:=NA hS (step_end (I:=S.ins) (Fj DY) (fun h=>el (by rw [MU] at h;exact h)))
   obtain ⟨n1,n2,n3,n4⟩:=Nz P MX hh hR Ri
   refine bk<|ZM H [] [(0,.pure),(1,.pure),(2,.pure),(3,.held),(4,.pure),(5,.pure),(6,.pure),(7,.held),(8,.pure),(9,.pure),(10,.pure),(11,.pure)] mixed k_i k_i<|fun w2 H=>tk (fun wx HS=>Z9 rfl ⟨rfl,rfl⟩)<|tk (fun wx HS=>Z4 (HS.at 0 rfl) 2 rfl rfl rfl ⟨rfl,rfl⟩)<|tk (fun wx HS=>Z9 rfl ⟨rfl,rfl⟩)<|tk (fun wx HS=>Z4 (HS.at 0 rfl) 2 rfl rfl rfl ⟨rfl,rfl⟩) ?_
   obtain ⟨a1,c1,V1⟩:=H.form 6 rfl
   refine tk (fun wx HS=>XP V1 rfl ⟨rfl,rfl⟩)<|ZX qo ?_
   obtain ⟨b1,o1,E1⟩:=H.Y1 6 rfl ((cs.length)-1) qo
   refine tk (fun wx HS=>ZJ E1 qo rfl rfl ⟨rfl,rfl⟩)<|ZM H [] [(0,.pure),(1,.pure),(2,.pure),(3,.held),(4,.pure),(5,.pure),(6,.pure),(7,.held),(8,.pure),(9,.pure),(10,.pure),(11,.held),(12,.pure),(13,.pure),(14,.held),(15,.pure)] mixed k_i k_i<|fun w3 H=>tk (fun wx HS=>Z9 rfl ⟨rfl,rfl⟩)<|tk (fun wx HS=>Z4 (HS.at 0 rfl) 0 rfl rfl rfl ⟨rfl,rfl⟩)<|tk (fun wx HS=>Z9 rfl ⟨rfl,rfl⟩)<|tk (fun wx HS=>Z9 rfl ⟨rfl,rfl⟩)<|tk (fun wx HS=>Z4 (HS.at 1 rfl) 2 rfl rfl rfl ⟨rfl,rfl⟩)<|tk (fun wx HS=>Z9 rfl ⟨rfl,rfl⟩)<|tk (fun wx HS=>Z4 (HS.el 6 rfl E1 hx) 0 rfl rfl rfl ⟨rfl,rfl⟩) ?_
   obtain ⟨b2,o2,E2,F1,ZE⟩:=ZZ.Y1 ZW HN
   have XR:=ZE.ty
   have Zy:=ZE.loc
   have ZI:=ZE.body
   refine tk (fun wx HS=>ZJ E2 qo rfl rfl ⟨rfl,rfl⟩)<|tk (fun wx HS=>Z9 rfl ⟨rfl,rfl⟩)<|tk (fun wx HS=>Z4 (HS.XQ F1) 2 rfl rfl rfl ⟨rfl,rfl⟩)<|Z9 rfl<|Z4 (H.el 6 rfl E1 hx) 1 rfl rfl rfl ?_
   obtain ⟨b3,o3,E3,F2,X3⟩:=ZZ.Y1 ZI hX
   have Rs:=X3.op
   have Nw:=X3.a
   have Nv:=X3.b
   have WO:=X3.to
   refine ZJ E3 qo rfl rfl<|ZA (H.XQ F2) 0 rfl rfl rfl<|ZS H rfl<|fun p2 w2 H=>ZD H 0 rfl rfl rfl k_m<|fun w3 H=>Z9 rfl<|Z4 (H.at 0 rfl) 0 rfl rfl rfl<|cT (ZN qa)<|Z9 rfl<|Z4 (H.el 7 rfl E1 hx) 1 rfl rfl rfl<|ZX qo<|Z9 rfl<|YB H 7 rfl E1 hx 1 (⟨c.fn,c.at_+1,c.vl,c.loc,c.vs,c.stk⟩) rfl rfl rfl rfl<|fun w2 H=>Z9 rfl ?_
   have hx1:(cs.set (cs.length-1) { fn:=c.fn,at_:=c.at_+1,vl:=c.vl,loc:=c.loc,vs:=c.vs,stk:=c.stk })[cs.length-1]?=some _:=WQ hx
   refine Z4 (H.el 7 rfl E1 hx1) 1 rfl rfl rfl<|Zw ZI rfl<|cF (Z5 qa) ?_
   simp only [WY] at H
   refine WN.mk (⟨S.ins,up.map CV.d++[XH c.d],0⟩,n) (ZL rfl ZT) ⟨vc,vp,ps,Zg,up++[⟨c.fn,c.at_+1,c.vl,c.loc,c.vs,c.stk⟩],n4,n1,n2,n3,WJ rfl,NB,hle,?_⟩ ?_
   ·exact HO (H.del 0)
   ·have:=abL (S:=S) (S':=⟨S.ins,up.map CV.d++[XH c.d],0⟩) hS rfl (by show c.at_.toNat<(c.at_+1).toNat;omega) (by show c.at_.toNat<_;omega)
    simp only
    omega
 ·have anp:∃y s,Ho[c.fn.toNat]?=some y∧y.outs[c.at_.toNat]?=some s∧s.js=UN m.d c.d:=by
   have Hr:c.fn.toNat<Ho.length:=by rw [hW.len];omega
   obtain ⟨h1,h2⟩:=hW.at_ _ _ _ HN (laa Hr)
   have OX:c.at_.toNat<Ho[c.fn.toNat].outs.length:=by rw [h1];omega
   refine ⟨_,_,laa Hr,laa OX,?_⟩
   rw [h2 _ _ (laa OX),←EC];rfl
  obtain ⟨yw,sw,Ds,CA,Io⟩:=anp
  have Hr:=hW.len
  have OX:=(hW.at_ _ _ _ HN Ds).1
  by_cases e5:X.op=5
  ·have G1:(YU m.d c.d).op=5:=by rw [←hop];exact e5
   obtain ⟨j,g1,g3⟩:=acR Q MO G1 hty
   obtain ⟨j',g1',g4,g5⟩:=afl Q MO G1 (hty.live MO qo).1
   rw [g1] at g1'
   obtain rfl:=lWb.1 g1'
   rw [hto] at g1
   have hw0:RZ (UN m.d c.d) 0=j:=by rw [g1];rfl
   have Ri:=NA hS (Vb (I:=S.ins) G1)
   rw [hw0] at Ri
   rw [←Io] at g1
   have hj0:sw.js[0]?=some j:=by rw [g1];rfl
   have hjl:sw.js.length=1:=by rw [g1];rfl
   obtain ⟨n1,n2,n3,n4⟩:=Nz P MX hh hR Ri
   have g5:(k:Int)<j.at_:=g4
   refine bk<|ZM H [] [(0,.pure),(1,.pure),(2,.pure),(3,.held),(4,.pure),(5,.pure),(6,.pure),(7,.held),(8,.pure),(9,.pure),(10,.pure),(11,.pure)] mixed k_i k_i<|fun w2 H=>tk (fun wx HS=>Z9 rfl ⟨rfl,rfl⟩)<|tk (fun wx HS=>Z4 (HS.at 0 rfl) 2 rfl rfl rfl ⟨rfl,rfl⟩)<|tk (fun wx HS=>Z9 rfl ⟨rfl,rfl⟩)<|tk (fun wx HS=>Z4 (HS.at 0 rfl) 2 rfl rfl rfl ⟨rfl,rfl⟩) ?_
   obtain ⟨a1,c1,V1⟩:=H.form 6 rfl
   refine tk (fun wx HS=>XP V1 rfl ⟨rfl,rfl⟩)<|ZX qo ?_
   obtain ⟨b1,o1,E1⟩:=H.Y1 6 rfl ((cs.length)-1) qo
   refine tk (fun wx HS=>ZJ E1 qo rfl rfl ⟨rfl,rfl⟩)<|ZM H [] [(0,.pure),(1,.pure),(2,.pure),(3,.held),(4,.pure),(5,.pure),(6,.pure),(7,.held),(8,.pure),(9,.pure),(10,.pure),(11,.held),(12,.pure),(13,.pure),(14,.held),(15,.pure)] mixed k_i k_i<|fun w3 H=>tk (fun wx HS=>Z9 rfl ⟨rfl,rfl⟩)<|tk (fun wx HS=>Z4 (HS.at 0 rfl) 0 rfl rfl rfl ⟨rfl,rfl⟩)<|tk (fun wx HS=>Z9 rfl ⟨rfl,rfl⟩)<|tk (fun wx HS=>Z9 rfl ⟨rfl,rfl⟩)<|tk (fun wx HS=>Z4 (HS.at 1 rfl) 2 rfl rfl rfl ⟨rfl,rfl⟩)<|tk (fun wx HS=>Z9 rfl ⟨rfl,rfl⟩)<|tk (fun wx HS=>Z4 (HS.el 6 rfl E1 hx) 0 rfl rfl rfl ⟨rfl,rfl⟩) ?_
   obtain ⟨b2,o2,E2,F1,ZE⟩:=ZZ.Y1 ZW HN
   have XR:=ZE.ty
   have Zy:=ZE.loc
   have ZI:=ZE.body
   refine tk (fun wx HS=>ZJ E2 qo rfl rfl ⟨rfl,rfl⟩)<|tk (fun wx HS=>Z9 rfl ⟨rfl,rfl⟩)<|tk (fun wx HS=>Z4 (HS.XQ F1) 2 rfl rfl rfl ⟨rfl,rfl⟩)<|Z9 rfl<|Z4 (H.el 6 rfl E1 hx) 1 rfl rfl rfl ?_
   obtain ⟨b3,o3,E3,F2,X3⟩:=ZZ.Y1 ZI hX
   have Rs:=X3.op
   have Nw:=X3.a
   have Nv:=X3.b
   have WO:=X3.to
   refine ZJ E3 qo rfl rfl<|ZA (H.XQ F2) 0 rfl rfl rfl<|ZS H rfl<|fun p2 w2 H=>ZD H 0 rfl rfl rfl k_m<|fun w3 H=>Z9 rfl<|Z4 (H.at 0 rfl) 0 rfl rfl rfl<|cF (Z5 qa)<|ZM H [] [(0,.pure),(1,.pure),(2,.pure),(3,.held),(4,.pure),(5,.pure),(6,.pure),(7,.held),(8,.pure),(9,.held),(10,.pure),(11,.pure),(12,.pure),(13,.held),(14,.pure),(15,.pure),(16,.held),(17,.pure)] mixed k_i k_i<|fun w2 H=>tk (fun wx HS=>Z9 rfl ⟨rfl,rfl⟩)<|tk (fun wx HS=>Z4 (HS.at 1 rfl) 1 rfl rfl rfl ⟨rfl,rfl⟩)<|tk (fun wx HS=>Z9 rfl ⟨rfl,rfl⟩)<|tk (fun wx HS=>Z4 (HS.el 7 rfl E1 hx) 0 rfl rfl rfl ⟨rfl,rfl⟩) ?_
   obtain ⟨b4,o4,E4,F3,WX⟩:=ZZ.Y1 hw Ds
   have Wt:=WX.outs
   refine tk (fun wx HS=>ZJ E4 qo rfl rfl ⟨rfl,rfl⟩)<|tk (fun wx HS=>Z4 (HS.XQ F3) 0 rfl rfl rfl ⟨rfl,rfl⟩)<|tk (fun wx HS=>Z9 rfl ⟨rfl,rfl⟩)<|tk (fun wx HS=>Z4 (HS.el 7 rfl E1 hx) 1 rfl rfl rfl ⟨rfl,rfl⟩) ?_
   obtain ⟨b5,o5,E5,F4,TX⟩:=ZZ.Y1 Wt CA
   have Uw:=TX.js
   refine tk (fun wx HS=>ZJ E5 qo rfl rfl ⟨rfl,rfl⟩)<|tk (fun wx HS=>Z9 rfl ⟨rfl,rfl⟩)<|tk (fun wx HS=>Z4 (HS.XQ F4) 0 rfl rfl rfl ⟨rfl,rfl⟩)<|Z9 rfl<|Z4 (H.at 0 rfl) 0 rfl rfl rfl<|cT (ZN qa) ?_
   obtain ⟨b6,o6,E6,F5,an5⟩:=ZZ.Y1 Uw hj0
   refine ZJ E6 rfl rfl rfl<|ZA (H.XQ F5) 0 rfl rfl rfl<|H.Z8 [10,8]<|fun H=>?_
   refine Z7.mk (Fc.imp (Mw E1 c hx H j g3.h0 g3.k0 g3.fit qo) ?_)
   rintro r w' ⟨Gd,H⟩
   simp only [WY] at H
   refine WN.mk (⟨S.ins,up.map CV.d++[Td c.d j],0⟩,n) (ZL rfl ZT) ⟨vc,vp,ps,Zg,up++[⟨c.fn,j.at_,c.vl,c.loc,Gd,c.stk.take j.height.toNat++c.stk.drop (c.stk.length-j.keep.toNat)⟩],n4,n1,n2,n3,WJ rfl,NB,hle,?_⟩ ?_
   ·exact HO ((H.del 2).Z8 [1,9,9,3,9,9,9,9,9,9] fun H=>H)
   ·have:=abL (S:=S) (S':=⟨S.ins,up.map CV.d++[Td c.d j],0⟩) hS rfl (by show c.at_.toNat<j.at_.toNat;omega) (by show c.at_.toNat<_;omega)
    simp only
    omega
  ·have anq:(YU m.d c.d).op≠11:=by rw [←hop];exact DY
   have h5':(YU m.d c.d).op≠5:=by rw [←hop];exact e5
   have Ri:=NA hS (afi (I:=S.ins) anq h5')
   obtain ⟨q,hq⟩:∃q,LB m.d S.ins (up.map CV.d) c.d=q:=⟨_,rfl⟩
   have Cz:=ag0 m.d S.ins (up.map CV.d) c.d
   rw [hq] at Ri Cz
   by_cases en:(n:Int)=0
   ·refine bk<|ZM H [] [(0,.pure),(1,.pure),(2,.pure),(3,.held),(4,.pure),(5,.pure),(6,.pure),(7,.held),(8,.pure),(9,.pure),(10,.pure),(11,.pure)] mixed k_i k_i<|fun w2 H=>tk (fun wx HS=>Z9 rfl ⟨rfl,rfl⟩)<|tk (fun wx HS=>Z4 (HS.at 0 rfl) 2 rfl rfl rfl ⟨rfl,rfl⟩)<|tk (fun wx HS=>Z9 rfl ⟨rfl,rfl⟩)<|tk (fun wx HS=>Z4 (HS.at 0 rfl) 2 rfl rfl rfl ⟨rfl,rfl⟩) ?_
    obtain ⟨a1,c1,V1⟩:=H.form 6 rfl
    refine tk (fun wx HS=>XP V1 rfl ⟨rfl,rfl⟩)<|ZX qo ?_
    obtain ⟨b1,o1,E1⟩:=H.Y1 6 rfl ((cs.length)-1) qo
    refine tk (fun wx HS=>ZJ E1 qo rfl rfl ⟨rfl,rfl⟩)<|ZM H [] [(0,.pure),(1,.pure),(2,.pure),(3,.held),(4,.pure),(5,.pure),(6,.pure),(7,.held),(8,.pure),(9,.pure),(10,.pure),(11,.held),(12,.pure),(13,.pure),(14,.held),(15,.pure)] mixed k_i k_i<|fun w3 H=>tk (fun wx HS=>Z9 rfl ⟨rfl,rfl⟩)<|tk (fun wx HS=>Z4 (HS.at 0 rfl) 0 rfl rfl rfl ⟨rfl,rfl⟩)<|tk (fun wx HS=>Z9 rfl ⟨rfl,rfl⟩)<|tk (fun wx HS=>Z9 rfl ⟨rfl,rfl⟩)<|tk (fun wx HS=>Z4 (HS.at 1 rfl) 2 rfl rfl rfl ⟨rfl,rfl⟩)<|tk (fun wx HS=>Z9 rfl ⟨rfl,rfl⟩)<|tk (fun wx HS=>Z4 (HS.el 6 rfl E1 hx) 0 rfl rfl rfl ⟨rfl,rfl⟩) ?_
    obtain ⟨b2,o2,E2,F1,ZE⟩:=ZZ.Y1 ZW HN
    have XR:=ZE.ty
    have Zy:=ZE.loc
    have ZI:=ZE.body
    refine tk (fun wx HS=>ZJ E2 qo rfl rfl ⟨rfl,rfl⟩)<|tk (fun wx HS=>Z9 rfl ⟨rfl,rfl⟩)<|tk (fun wx HS=>Z4 (HS.XQ F1) 2 rfl rfl rfl ⟨rfl,rfl⟩)<|Z9 rfl<|Z4 (H.el 6 rfl E1 hx) 1 rfl rfl rfl ?_
    obtain ⟨b3,o3,E3,F2,X3⟩:=ZZ.Y1 ZI hX
    have Rs:=X3.op
    have Nw:=X3.a
    have Nv:=X3.b
    have WO:=X3.to
    refine ZJ E3 qo rfl rfl<|ZA (H.XQ F2) 0 rfl rfl rfl<|ZS H rfl<|fun p2 w2 H=>ZD H 0 rfl rfl rfl k_m<|fun w3 H=>Z9 rfl<|Z4 (H.at 0 rfl) 0 rfl rfl rfl<|cF (Z5 qa)<|ZM H [] [(0,.pure),(1,.pure),(2,.pure),(3,.held),(4,.pure),(5,.pure),(6,.pure),(7,.held),(8,.pure),(9,.held),(10,.pure),(11,.pure),(12,.pure),(13,.held),(14,.pure),(15,.pure),(16,.held),(17,.pure)] mixed k_i k_i<|fun w2 H=>tk (fun wx HS=>Z9 rfl ⟨rfl,rfl⟩)<|tk (fun wx HS=>Z4 (HS.at 1 rfl) 1 rfl rfl rfl ⟨rfl,rfl⟩)<|tk (fun wx HS=>Z9 rfl ⟨rfl,rfl⟩)<|tk (fun wx HS=>Z4 (HS.el 7 rfl E1 hx) 0 rfl rfl rfl ⟨rfl,rfl⟩) ?_
    obtain ⟨b4,o4,E4,F3,WX⟩:=ZZ.Y1 hw Ds
    have Wt:=WX.outs
    refine tk (fun wx HS=>ZJ E4 qo rfl rfl ⟨rfl,rfl⟩)<|tk (fun wx HS=>Z4 (HS.XQ F3) 0 rfl rfl rfl ⟨rfl,rfl⟩)<|tk (fun wx HS=>Z9 rfl ⟨rfl,rfl⟩)<|tk (fun wx HS=>Z4 (HS.el 7 rfl E1 hx) 1 rfl rfl rfl ⟨rfl,rfl⟩) ?_
    obtain ⟨b5,o5,E5,F4,TX⟩:=ZZ.Y1 Wt CA
    have Uw:=TX.js
    refine tk (fun wx HS=>ZJ E5 qo rfl rfl ⟨rfl,rfl⟩)<|tk (fun wx HS=>Z9 rfl ⟨rfl,rfl⟩)<|tk (fun wx HS=>Z4 (HS.XQ F4) 0 rfl rfl rfl ⟨rfl,rfl⟩)<|Z9 rfl<|Z4 (H.at 0 rfl) 0 rfl rfl rfl<|cF (Z5 qa)<|cT (ZN qa)<|Zf rfl rfl rfl<|ZD H 11 rfl rfl rfl rfl<|fun w3 H=>Xd (H.at 11 rfl) 0 rfl rfl rfl ?_
    obtain rfl:n=0:=by omega
    subst hcs
    refine Z6.mk ⟨vc,0,vp,ps,Zg,_,⟨3,[],0,0,0⟩,_,S,rfl,hR _ _ (.stop Ri Cz),NB,Ts,fun _=>SB,hh.symm,?_⟩
    exact Q5 ((H.del 11).del 0)
   ·obtain ⟨n',hn'⟩:∃n',n=n'+1:=⟨n-1,by omega⟩
    refine bk<|ZM H [] [(0,.pure),(1,.pure),(2,.pure),(3,.held),(4,.pure),(5,.pure),(6,.pure),(7,.held),(8,.pure),(9,.pure),(10,.pure),(11,.pure)] mixed k_i k_i<|fun w2 H=>tk (fun wx HS=>Z9 rfl ⟨rfl,rfl⟩)<|tk (fun wx HS=>Z4 (HS.at 0 rfl) 2 rfl rfl rfl ⟨rfl,rfl⟩)<|tk (fun wx HS=>Z9 rfl ⟨rfl,rfl⟩)<|tk (fun wx HS=>Z4 (HS.at 0 rfl) 2 rfl rfl rfl ⟨rfl,rfl⟩) ?_
    obtain ⟨a1,c1,V1⟩:=H.form 6 rfl
    refine tk (fun wx HS=>XP V1 rfl ⟨rfl,rfl⟩)<|ZX qo ?_
    obtain ⟨b1,o1,E1⟩:=H.Y1 6 rfl ((cs.length)-1) qo
    refine tk (fun wx HS=>ZJ E1 qo rfl rfl ⟨rfl,rfl⟩)<|ZM H [] [(0,.pure),(1,.pure),(2,.pure),(3,.held),(4,.pure),(5,.pure),(6,.pure),(7,.held),(8,.pure),(9,.pure),(10,.pure),(11,.held),(12,.pure),(13,.pure),(14,.held),(15,.pure)] mixed k_i k_i<|fun w3 H=>tk (fun wx HS=>Z9 rfl ⟨rfl,rfl⟩)<|tk (fun wx HS=>Z4 (HS.at 0 rfl) 0 rfl rfl rfl ⟨rfl,rfl⟩)<|tk (fun wx HS=>Z9 rfl ⟨rfl,rfl⟩)<|tk (fun wx HS=>Z9 rfl ⟨rfl,rfl⟩)<|tk (fun wx HS=>Z4 (HS.at 1 rfl) 2 rfl rfl rfl ⟨rfl,rfl⟩)<|tk (fun wx HS=>Z9 rfl ⟨rfl,rfl⟩)<|tk (fun wx HS=>Z4 (HS.el 6 rfl E1 hx) 0 rfl rfl rfl ⟨rfl,rfl⟩) ?_
    obtain ⟨b2,o2,E2,F1,ZE⟩:=ZZ.Y1 ZW HN
    have XR:=ZE.ty
    have Zy:=ZE.loc
    have ZI:=ZE.body
    refine tk (fun wx HS=>ZJ E2 qo rfl rfl ⟨rfl,rfl⟩)<|tk (fun wx HS=>Z9 rfl ⟨rfl,rfl⟩)<|tk (fun wx HS=>Z4 (HS.XQ F1) 2 rfl rfl rfl ⟨rfl,rfl⟩)<|Z9 rfl<|Z4 (H.el 6 rfl E1 hx) 1 rfl rfl rfl ?_
    obtain ⟨b3,o3,E3,F2,X3⟩:=ZZ.Y1 ZI hX
    have Rs:=X3.op
    have Nw:=X3.a
    have Nv:=X3.b
    have WO:=X3.to
    refine ZJ E3 qo rfl rfl<|ZA (H.XQ F2) 0 rfl rfl rfl<|ZS H rfl<|fun p2 w2 H=>ZD H 0 rfl rfl rfl k_m<|fun w3 H=>Z9 rfl<|Z4 (H.at 0 rfl) 0 rfl rfl rfl<|cF (Z5 qa)<|ZM H [] [(0,.pure),(1,.pure),(2,.pure),(3,.held),(4,.pure),(5,.pure),(6,.pure),(7,.held),(8,.pure),(9,.held),(10,.pure),(11,.pure),(12,.pure),(13,.held),(14,.pure),(15,.pure),(16,.held),(17,.pure)] mixed k_i k_i<|fun w2 H=>tk (fun wx HS=>Z9 rfl ⟨rfl,rfl⟩)<|tk (fun wx HS=>Z4 (HS.at 1 rfl) 1 rfl rfl rfl ⟨rfl,rfl⟩)<|tk (fun wx HS=>Z9 rfl ⟨rfl,rfl⟩)<|tk (fun wx HS=>Z4 (HS.el 7 rfl E1 hx) 0 rfl rfl rfl ⟨rfl,rfl⟩) ?_
    obtain ⟨b4,o4,E4,F3,WX⟩:=ZZ.Y1 hw Ds
    have Wt:=WX.outs
    refine tk (fun wx HS=>ZJ E4 qo rfl rfl ⟨rfl,rfl⟩)<|tk (fun wx HS=>Z4 (HS.XQ F3) 0 rfl rfl rfl ⟨rfl,rfl⟩)<|tk (fun wx HS=>Z9 rfl ⟨rfl,rfl⟩)<|tk (fun wx HS=>Z4 (HS.el 7 rfl E1 hx) 1 rfl rfl rfl ⟨rfl,rfl⟩) ?_
    obtain ⟨b5,o5,E5,F4,TX⟩:=ZZ.Y1 Wt CA
    have Uw:=TX.js
    refine tk (fun wx HS=>ZJ E5 qo rfl rfl ⟨rfl,rfl⟩)<|tk (fun wx HS=>Z9 rfl ⟨rfl,rfl⟩)<|tk (fun wx HS=>Z4 (HS.XQ F4) 0 rfl rfl rfl ⟨rfl,rfl⟩)<|Z9 rfl<|Z4 (H.at 0 rfl) 0 rfl rfl rfl<|cF (Z5 qa)<|cF (Z5 qa)<|ZX qo<|ZA (H.at 0 rfl) 0 rfl rfl rfl ?_
    replace H:=H.del 0
    refine Z7.mk (Fc.imp (anl (x:=X.d) H hcs E1 hm P hT Dt CB JH Uz hXd DY e5 Rs.2 (Io ▸ Uw)) ?_)
    rintro _ w' ⟨Cy,Jl,Cx,ps2,Fi,Cw,o,vv,rfl,hO,alr,H⟩
    rw [←NB,hq] at hO
    obtain ⟨hi,hO⟩:=hO
    obtain ⟨S',ev⟩:=q
    simp only at Ri Cz hi hO
    cases ev with
    | free=>exact hO.elim
    | over v=>exact hO.elim
    | on =>
     obtain ⟨ho,Fh,DW⟩:=hO
     have hoe:o.e=0:=by rw [ho]
     subst hn'
     obtain ⟨n1,n2,n3,n4⟩:=ajc P MX hh hR Ri
     refine ZS H rfl<|fun p3 w3 H=>?_
     refine ZD H 0 rfl rfl rfl k_o<|fun w4 H=>Z9 rfl<|Z4 (H.at 0 rfl) 0 rfl rfl rfl<|cF (WG qa) ?_
     obtain rfl:Jl=0:=DW.trans n2
     refine WN.mk (S',n') (Zo rfl k_u ZT) ⟨Cy,Cx,ps2,Fi,Cw,n4,n1,n2,n3,Fh,hi,by omega,?_⟩ ?_
     ·subst ho
      exact (H.del 8).del 0
     ·have:=ag2 n1.le
      simp only
      omega
    | WH e =>
     obtain ⟨hO,DW⟩:=hO
     have hoe:o.e=2:=by rw [hO]
     have hsh:Jl=S'.host:=DW.trans (TK P MX hh Ri).2.1.symm
     subst hn'
     refine ZS H rfl<|fun p3 w3 H=>?_
     refine ZD H 0 rfl rfl rfl k_o<|fun w4 H=>Z9 rfl<|Z4 (H.at 0 rfl) 0 rfl rfl rfl<|cT (Vg qo)<|Z9 rfl<|XA H 0 rfl rfl rfl rfl<|fun w3 H=>ZA (H.at 0 rfl) 0 rfl rfl rfl<|ZD H 9 rfl rfl rfl k_o<|fun w4 H=>Xd (H.at 9 rfl) 0 rfl rfl rfl ?_
     subst hO
     refine Z6.mk ⟨Cy,Jl,Cx,ps2,Fi,Cw,⟨2,[],e,0,n'⟩,vv,S',?_,hR _ _ (.WH Ri),hi,alr,fun h=>absurd rfl h,hsh,(H.del 9).del 0⟩
     simp only [show ((n'+1:Nat):Int)-1=n' by omega]
    | host f v =>
     obtain ⟨ho,Fh,DW⟩:=hO
     have hoe:o.e=4:=by rw [ho]
     subst hn'
     refine ZS H rfl<|fun p3 w3 H=>?_
     refine ZD H 0 rfl rfl rfl k_o<|fun w4 H=>Z9 rfl<|Z4 (H.at 0 rfl) 0 rfl rfl rfl<|cT (Vg qo)<|Z9 rfl<|XA H 0 rfl rfl rfl rfl<|fun w3 H=>ZA (H.at 0 rfl) 0 rfl rfl rfl<|ZD H 9 rfl rfl rfl k_o<|fun w4 H=>Xd (H.at 9 rfl) 0 rfl rfl rfl ?_
     subst ho
     refine Z6.mk ⟨Cy,Jl,Cx,ps2,Fi,Cw,⟨4,v,0,f,n'⟩,vv,S',?_,hR _ _ (.host Ri),hi,alr,fun h=>Fh,DW,(H.del 9).del 0⟩
     simp only [show ((n'+1:Nat):Int)-1=n' by omega]
end
end Rn
namespace Rn
open Go YZ Go.RowKit
open YS Zk XV YQ Valid
section
variable {m:Yf} {S S' T:MS} {n:Nat} {o:SI} {up:List YE} {c u:YE} {I:Sr}
structure Left (m:Yf) (n:Nat) (S':MS) (o:SI):Prop where
 ty:Ty m S'
 left:0≤o.left∧o.left≤n
 e:o.e=1∨o.e=2∨o.e=3∨o.e=4
 done:o.e=1→S'.calls=[]∧S'.host=0∧o.WH=0∧o.host=0
 WH:o.e=2→S'.calls=[]∧S'.host=0∧20≤o.WH∧o.WH≤26∧o.vals=[]∧o.host=0∧o.left+1≤n
 fuel:o.e=3→S'.calls≠[]∧S'.host=0∧o.WH=0∧o.vals=[]∧o.host=0∧o.left=0
 host:o.e=4→S'.calls≠[]∧S'.host=o.host+1∧0≤o.host∧o.host<Y3 m∧o.WH=0∧o.left+1≤n
 vals:o.vals.length≤4
theorem Left.more {n':Nat} (h:Left m n S' o) (hn:n≤n'):Left m n' S' o :=
 ⟨h.ty,⟨h.left.1,by have:=h.left.2;omega⟩,h.e,h.done,fun e=>let ⟨a,b,c,d,e,f,g⟩:=h.WH e;⟨a,b,c,d,e,f,by omega⟩,h.fuel,fun e=>let ⟨a,b,c,d,e,f⟩:=h.host e;⟨a,b,c,d,e,by omega⟩,h.vals⟩
theorem Sp.after (P:SG m) (r:Sp m S n S' o):Ty m S→S.host=0→S.calls≠[]→Left m n S' o:=by
 induction r with
 | free s _ ih=>intro T h0 _;have A:=TK P T h0 s;exact ih A.1 A.2.1 A.2.2
 | over s =>
  intro T h0 _
  obtain ⟨a,b,c,d,e⟩:=TK P T h0 s
  exact ⟨a,⟨by simp only;omega,by simp only;omega⟩,.inl rfl,fun _=>⟨c,b,rfl,rfl⟩,fun h=>by simp at h,fun h=>by simp at h,fun h=>by simp at h,by simp only;omega⟩
 | stop s hn =>
  intro T h0 hc
  exact ⟨T,⟨by simp only;omega,by simp only;omega⟩,.inr (.inr (.inl rfl)),fun h=>by simp at h,fun h=>by simp at h,fun _=>⟨hc,h0,rfl,rfl,rfl,rfl⟩,fun h=>by simp at h,by simp⟩
 | goes s _ ih=>intro T h0 _;have A:=TK P T h0 s;exact (ih A.1 A.2.1 A.2.2).more qo
 | WH s =>
  intro T h0 _
  obtain ⟨a,b,c,d,e⟩:=TK P T h0 s
  exact ⟨a,⟨by simp only;omega,by simp only;omega⟩,.inr (.inl rfl),fun h=>by simp at h,fun _=>⟨c,b,d,e,rfl,rfl,by simp only;omega⟩,fun h=>by simp at h,fun h=>by simp at h,by simp⟩
 | host s =>
  intro T h0 _
  obtain ⟨a,b,c,d,e,f,g⟩:=TK P T h0 s
  exact ⟨a,⟨by simp only;omega,by simp only;omega⟩,.inr (.inr (.inr rfl)),fun h=>by simp at h,fun h=>by simp at h,fun h=>by simp at h,fun _=>⟨b,c,d,e,rfl,by simp only;omega⟩,g⟩
theorem afn {k n:Int} (hn:WU n):Vk k (Wj.P5 k n):=by
 by_cases hk:k=127
 ·have h:=XM .i32 n
  have e1:(IntKind.i32).min=-2147483648:=by decide
  have e2:(IntKind.i32).max=2147483647:=by decide
  rw [e1,e2] at h
  unfold Wj.P5
  rw [if_pos hk,Sv qo,hk]
  exact .low h
 ·unfold Wj.P5
  rw [if_neg hk]
  exact ⟨hn,fun h=>absurd h hk⟩
theorem ag3 (ks:List Int) {n:Int} (hn:WU n):KV ks (Vi ks n):=by
 refine ⟨lia0 _,fun i k v h1 h2=>?_⟩
 unfold Vi at h2
 rw [lva,h1] at h2
 obtain rfl:=Option.some.inj h2
 exact afn hn
theorem aaO (P:SG m) (T:Ty m S) (h:0<S.host) {n:Int} (hn:WU n):Ty m (TM m S n)∧(TM m S n).host=0∧(TM m S n).calls≠[]∧∃up c,S.calls=up++[c]∧MA m c (S.host-1)∧(TM m S n).calls=up++[{ c with stk:=c.stk++Vi (YD m (S.host-1)).out n }]:=by
 rcases T.cs with ⟨h1,_⟩|⟨h1,_⟩|⟨_,h2,h3⟩
 ·omega
 ·omega
 ·obtain ⟨up,c,hc⟩:∃up c,S.calls=up++[c]:=by
   rcases lgb S.calls with h|⟨up,c,h⟩
   ·exact absurd h h2
   ·exact ⟨up,c,by rw [h,lab0]⟩
  have hle:=T.le
  rw [hc] at h3 hle
  obtain ⟨w1,w2⟩:=XC.snoc.1 h3
  have e:(TM m S n).calls=up++[{ c with stk:=c.stk++Vi (YD m (S.host-1)).out n }]:=by
   unfold TM addTop;rw [hc];simp
  have hb:=acY P w2 (ag3 (YD m (S.host-1)).out hn)
  rw [lba,lBa] at hle
  refine ⟨⟨T.ins,?_,⟨lcc _,?_⟩,.inr (.inl ⟨rfl,up,_,e,w1,hb⟩)⟩,rfl,?_,up,c,hc,w2,e⟩
  ·rw [e];simp;omega
  ·show (0:Int)≤_;unfold Y3;omega
  ·rw [e];simp
noncomputable def fitAll (ks vs:List Int):List Int:=(ks.zip vs).map fun x=>Wj.P5 x.1 x.2
theorem adr {ks vs:List Int} (hl:vs.length=ks.length) (hv:∀v∈vs,WU v):KV ks (fitAll ks vs):=by
 refine ⟨by unfold fitAll;rw [lia0,List.length_zip];omega,fun i k v h1 h2=>?_⟩
 unfold fitAll at h2
 rw [lva] at h2
 obtain ⟨x,h3,h4⟩:=Option.map_eq_some_iff.1 h2
 obtain ⟨h5,h6⟩:=List.getElem?_zip_eq_some.1 h3
 rw [h1] at h5
 obtain rfl:=h4
 obtain h7:=Option.some.inj h5
 rw [h7]
 exact afn (hv _ (lha h6))
noncomputable def Z0 (m:Yf) (S:MS) (f:Int) (args:List Int):MS:=⟨S.ins,[⟨f-Y3 m,0,fitAll (Rw m (W2 m (f-Y3 m))).Zc args++List.replicate (W2 m (f-Y3 m)).loc.length 0,[]⟩],0⟩
theorem afo (P:SG m) (hI:VC m S.ins) {f:Int} (h0:Y3 m≤f) (h1:f-Y3 m<m.funcs.length) {args:List Int} (hl:args.length=(Rw m (W2 m (f-Y3 m))).Zc.length) (hv:∀v∈args,WU v):Ty m (Z0 m S f args) :=
 ⟨hI,by unfold Z0;simp,⟨lcc _,by show (0:Int)≤_;unfold Y3;omega⟩,.inr (.inl ⟨rfl,[],_,rfl,XC.nil,ae3 P qo h1 (adr hl hv)⟩)⟩
end
end Rn
namespace Rn
open Go YZ Go.RowKit
open YS Zk XV YQ Valid Mem
structure als where
 cp:Nat
 mp:Nat
 vc:Value
 vt:Value
 vg:Value
 vp:Value
 cs:List CV
 ps:List WT
 Zr:List Int
 Zg:List Int
def Jk (m:Y9) (vw:Value) (pr:Nat) (S:MS):As:=fun h=>∃x:als,(x.cs.map CV.d=S.calls∧S.ins=⟨flat x.ps,x.Zr,x.Zg⟩∧x.ps.length≤8)∧Re (Pt pr [.pointer (some ⟨x.cp,0,none⟩),vw,x.vc,.int .i64 S.host] 148::Pt x.cp [m.vt,m.vm,m.vf,.int .i64 m.table,.int .i64 m.pages,.int .i64 m.most,m.vg,m.vx,.int .i64 m.start,m.ve,m.vd,.pointer (some ⟨x.mp,0,none⟩),x.vt,x.vg] 158::Pt x.mp [x.vp,.int .i64 m.most] 221::Sl 223 256 Xf x.vp x.ps::Sl 3 1 ZG x.vt x.Zr::Sl 2 1 ZG x.vg x.Zg::[MY true x.vc x.cs]) h
section
variable {g:Zv} {w:World} {l:List As} {m:Y9} {pr cp mp:Nat} {vw vc vt vg vp Tb vj:Value} {host f e:Int} {cs up:List CV} {Zr Zg s2:List Int} {ps:List WT} {c u:CV} {x:ZU} {i b o:Nat} {ws:List XT} {j:XT}
variable {S S':MS} {n:Nat} {Ho:List Nh}
theorem Lo (H:Sat g w (Jk m vw pr S::l)):∃cp mp vc vt vg vp cs ps Zr Zg,cs.map CV.d=S.calls∧S.ins=⟨flat ps,Zr,Zg⟩∧ps.length≤8∧Sat g w (Pt pr [.pointer (some ⟨cp,0,none⟩),vw,vc,.int .i64 S.host] 148::Pt cp [m.vt,m.vm,m.vf,.int .i64 m.table,.int .i64 m.pages,.int .i64 m.most,m.vg,m.vx,.int .i64 m.start,m.ve,m.vd,.pointer (some ⟨mp,0,none⟩),vt,vg] 158::Pt mp [vp,.int .i64 m.most] 221::Sl 223 256 Xf vp ps::Sl 3 1 ZG vt Zr::Sl 2 1 ZG vg Zg::MY true vc cs::l):=by
 obtain ⟨x,⟨h1,h2,h3⟩,H⟩:=H.aid
 exact ⟨x.cp,x.mp,x.vc,x.vt,x.vg,x.vp,x.cs,x.ps,x.Zr,x.Zg,h1,h2,h3,H⟩
theorem Q4 (H:Sat g w (Pt pr [.pointer (some ⟨cp,0,none⟩),vw,vc,.int .i64 host] 148::Pt cp [m.vt,m.vm,m.vf,.int .i64 m.table,.int .i64 m.pages,.int .i64 m.most,m.vg,m.vx,.int .i64 m.start,m.ve,m.vd,.pointer (some ⟨mp,0,none⟩),vt,vg] 158::Pt mp [vp,.int .i64 m.most] 221::Sl 223 256 Xf vp ps::Sl 3 1 ZG vt Zr::Sl 2 1 ZG vg Zg::MY true vc cs::l)) (h1:cs.map CV.d=S.calls) (h2:S.ins=⟨flat ps,Zr,Zg⟩) (h3:ps.length≤8) (h4:host=S.host):Sat g w (Jk m vw pr S::l):=by
 subst h4
 exact Sat.amk (f:=fun x:als=>Pt pr [.pointer (some ⟨x.cp,0,none⟩),vw,x.vc,.int .i64 S.host] 148::Pt x.cp [m.vt,m.vm,m.vf,.int .i64 m.table,.int .i64 m.pages,.int .i64 m.most,m.vg,m.vx,.int .i64 m.start,m.ve,m.vd,.pointer (some ⟨x.mp,0,none⟩),x.vt,x.vg] 158::Pt x.mp [x.vp,.int .i64 m.most] 221::Sl 223 256 Xf x.vp x.ps::Sl 3 1 ZG x.vt x.Zr::Sl 2 1 ZG x.vg x.Zg::[MY true x.vc x.cs]) ⟨cp,mp,vc,vt,vg,vp,cs,ps,Zr,Zg⟩ ⟨h1,h2,h3⟩ H
theorem HM {A0 A1 A2 A3 A4 A5:As} (H:Sat g w (A0::A1::A2::A3::A4::A5::MY true vc cs::l)):Sat g w (A0::A1::A2::A3::A4::A5::Sl 79 4 Yk vc cs::Wa cs::l):=by
 have H:=H.Z8 [6] fun H=>H
 have H:Sat g w (Sl 79 4 Yk vc cs::Wa cs::A0::A1::A2::A3::A4::A5::l):=H.unbox
 exact H.Z8 [1,1,7,7,7,7,7,7] fun H=>H
theorem Nu {A0 A1 A2 A3 A4 A5:As} (H:Sat g w (A0::A1::A2::A3::A4::A5::Sl 79 4 Yk vc cs::Wa cs::l)):Sat g w (A0::A1::A2::A3::A4::A5::MY true vc cs::l):=by
 have H:Sat g w (([Sl 79 4 Yk vc cs,Wa cs]:List As)++(A0::A1::A2::A3::A4::A5::l)):=H.Z8 [7,7] fun H=>H
 have H:Sat g w (MY true vc cs::A0::A1::A2::A3::A4::A5::l):=H.box
 exact H.Z8 [6,6,6,6,6,6] fun H=>H
theorem afp {A0 A1 A2 A3 A4 A5:As} (H:Sat g w (A0::A1::A2::A3::A4::A5::l)):Sat g w (A0::A1::A2::A3::A4::A5::MY true (.slice none 0 0) []::l):=by
 have H:=H.UK (en:=Yk) (s:=4) 79 (fun _=>rfl)
 have H:Sat g w (Wa []::Sl 79 4 Yk (.slice none 0 0) []::A0::A1::A2::A3::A4::A5::l):=Sat.box (l1:=[]) H
 exact Nu (H.Z8 [0,1,7,7,7,7,7,7] fun H=>H)
theorem go_ (H:Sat g w (Jk m vw pr S::l)) (hm:XF g m) (P:SG m.d) (hT:Fold.I3 g) (hw:ZZ g MW (RT g) 1 vw Ho) (hW:Mv m Ho) (T:Ty m.d S) (h0:S.host=0) (hc:S.calls≠[]) (hn:n≤100000) :
  Fc Tryz.prog 27 #[.pointer (some ⟨pr,0,none⟩),.int .i64 n] w (fun r w'=>∃S' o vv,r=.tuple #[.agg #[.int .i64 o.e,vv,.int .i64 o.WH,.int .i64 o.host,.int .i64 o.left],.int .i64 0]∧Sp m.d S n S' o∧Left m.d n S' o∧Sat g w' (Jk m vw pr S'::Sl 2 1 ZG vv o.vals::l)):=by
 refine Fc.of Tryz.func27 rfl k_i ?_
 obtain ⟨cp,mp,vc,vt,vg,vp,cs,ps,Zr,Zg,hcs,hI,Ts,H⟩:=Lo H
 replace H:=HM H
 have Uz:cs.length≤40:=by have:=T.le;rw [←hcs,lia0] at this;exact this
 have hcn:0<cs.length:=by
  have:cs.length=S.calls.length:=by rw [←hcs,lia0]
  rw [this];exact lIb.2 hc
 refine ZS H rfl<|fun p1 w1 H=>bk<|XB (Zl qo)<|cF (Zl qo)<|Z9 rfl<|Z4 (H.at 1 rfl) 2 rfl rfl rfl<|YJ H 7 rfl rfl<|cF (Z5 qo)<|Z9 rfl<|Z4 (H.at 1 rfl) 3 rfl rfl rfl<|cF (Zl qo) ?_
 rw [h0] at H
 replace H:=Nu (H.Z8 [8,8,8,8,8,8,8,8] fun H=>H)
 refine Z7.mk (Fc.imp (ano (S0:=S) H hm P hT hw hW T h0 hc hcs hI hn) ?_)
 rintro _ w' ⟨DX,anM,vp1,ps1,aj7,Cv,o,vv,S1,rfl,hR,hI1,alu,anr,DB,H⟩
 have A:=hR.after P T h0 hc
 by_cases ho:o.e=2
 ·refine ZS H rfl<|fun p2 w2 H=>?_
  refine ZD H 0 rfl rfl rfl k_C<|fun w3 H=>Z9 rfl<|Z4 (H.at 0 rfl) 0 rfl rfl rfl<|cT (ZN qa)<|Z9 rfl<|XA H 1 rfl rfl rfl rfl<|fun w2 H=>ZA (H.at 0 rfl) 0 rfl rfl rfl<|ZD H 9 rfl rfl rfl k_C<|fun w3 H=>Xd (H.at 9 rfl) 0 rfl rfl rfl ?_
  exact Z6.mk ⟨S1,o,vv,rfl,hR,A,Q4 (afp (((H.del 9).del 7).del 0)) (A.WH ho).1.symm hI1 alu DB⟩
 ·refine ZS H rfl<|fun p2 w2 H=>?_
  refine ZD H 0 rfl rfl rfl k_C<|fun w3 H=>Z9 rfl<|Z4 (H.at 0 rfl) 0 rfl rfl rfl<|cF (Z5 qa)<|ZA (H.at 0 rfl) 0 rfl rfl rfl<|ZD H 9 rfl rfl rfl k_C<|fun w2 H=>Xd (H.at 9 rfl) 0 rfl rfl rfl ?_
  rw [decide_eq_true (show o.e≠2 from ho)] at H
  exact Z6.mk ⟨S1,o,vv,rfl,hR,A,Q4 ((H.del 9).del 0) (anr ho) hI1 alu DB⟩
theorem ag4 (H:Sat g w (Jk m vw pr S::l)) (hm:XF g m) (P:SG m.d) (T:Ty m.d S) (h0:0<S.host) (n:Int) (hn:WU n) :
  Fc Tryz.prog 29 #[.pointer (some ⟨pr,0,none⟩),.int .i64 n] w (fun r w'=>r=.int .i64 0∧Sat g w' (Jk m vw pr (TM m.d S n)::l)):=by
 refine Fc.of Tryz.func29 rfl k_i ?_
 obtain ⟨A1,A2,A3,dr,d,A4,A5,A6⟩:=aaO P T h0 hn
 have hh:=T.h0
 have hnf:=P.nf
 have hni:=P.ni
 have hw9:=Ny P A5
 obtain ⟨cp,mp,vc,vt,vg,vp,cs,ps,Zr,Zg,hcs,hI,Ts,H⟩:=Lo H
 obtain ⟨up,c,rfl,rfl,rfl⟩:=ac0 (hcs.trans A4)
 have Uz:(up++[c]).length≤40:=by have:=T.le;rw [←hcs,lia0] at this;exact this
 replace H:=acZ H
 have Jt:(up++[c]).length=up.length+1:=by simp
 have hx:(up++[c])[(up++[c]).length-1]?=some c:=by rw [Jt,lKa];exact YK rfl
 have P0:c.stk.length≤201:=hw9
 have alv:Y3 m.d=m.ZB.length:=rfl
 have ant:m.d.ZB.length=m.ZB.length:=rfl
 have hlt:S.host-1<(m.ZB.length:Int)+m.funcs.length:=by omega
 have hge:0≤S.host-1:=by omega
 refine Z9 rfl<|Z4 (H.at 0 rfl) 3 rfl rfl rfl<|cF (Z5 qo)<|ZM H [] [(0,.pure),(1,.pure),(2,.pure),(3,.held),(4,.pure),(5,.pure),(6,.pure),(7,.held),(8,.pure),(9,.pure),(10,.pure),(11,.pure)] mixed k_i k_i<|fun w1 H=>tk (fun wx HS=>Z9 rfl ⟨rfl,rfl⟩)<|tk (fun wx HS=>Z4 (HS.at 0 rfl) 2 rfl rfl rfl ⟨rfl,rfl⟩)<|tk (fun wx HS=>Z9 rfl ⟨rfl,rfl⟩)<|tk (fun wx HS=>Z4 (HS.at 0 rfl) 2 rfl rfl rfl ⟨rfl,rfl⟩) ?_
 obtain ⟨a1,c1,V1⟩:=H.form 6 rfl
 refine tk (fun wx HS=>XP V1 rfl ⟨rfl,rfl⟩)<|ZX qo ?_
 obtain ⟨b1,o1,E1⟩:=H.Y1 6 rfl (((up++[c]).length)-1) qo
 refine tk (fun wx HS=>ZJ E1 qo rfl rfl ⟨rfl,rfl⟩)<|ZM H [] [(0,.pure),(1,.pure),(2,.pure),(3,.held),(4,.pure),(5,.pure),(6,.pure),(7,.held),(8,.pure),(12,.pure),(9,.free),(10,.pure),(11,.pure)] mixed k_i k_i<|fun w2 H=>tk (fun wx HS=>Z9 rfl ⟨rfl,rfl⟩)<|tk (fun wx HS=>Z4 (HS.at 0 rfl) 0 rfl rfl rfl ⟨rfl,rfl⟩)<|tk (fun wx HS=>Z9 rfl ⟨rfl,rfl⟩)<|tk (fun wx HS=>Z4 (HS.at 0 rfl) 3 rfl rfl rfl ⟨rfl,rfl⟩)<|ZX qo<|H.Z8 [1]<|fun H=>?_
 refine Z7.mk (Fc.imp (Rn.Mx H qa qa _ qa qa) ?_)
 clear H
 rintro _ w1 ⟨t1,⟨rfl,⟨h1,⟨h2,⟨h3,⟨h4,⟨h5,H⟩⟩⟩⟩⟩⟩⟩
 have QE:=Wd.out (by assumption:Wd g _)
 refine tk (fun wx HS=>TD rfl ⟨rfl,rfl⟩)<|tk (fun wx HS=>Zw QE rfl ⟨rfl,rfl⟩) ?_
 have hfl:∀k,(Vi (t1.out.take k) n).length≤1:=fun k=>by unfold Vi;rw [lia0,lla];omega
 refine YP.rule (α:=Nat × Value) (0,c.vs) (fun x_=>[(36,.int .i64 x_.1)]) (fun x_ w_=>(x_.1≤t1.out.length)∧Sat g w_ ((Pt cp [m.vt,m.vm,m.vf,.int .i64 m.table,.int .i64 m.pages,.int .i64 m.most,m.vg,m.vx,.int .i64 m.start,m.ve,m.vd,.pointer (some ⟨mp,0,none⟩),vt,vg] 158::Pt pr [.pointer (some ⟨cp,0,none⟩),vw,vc,.int .i64 S.host] 148::Pt mp [vp,.int .i64 m.most] 221::Sl 223 256 Xf vp ps::Sl 3 1 ZG vt Zr::Sl 2 1 ZG vg Zg::Sl 79 4 Yk vc (up++[⟨c.fn,c.at_,c.vl,c.loc,x_.2,c.stk++Vi (t1.out.take x_.1) n⟩])::Wa up::Sl 2 1 ZG c.vl c.loc::Sl 2 1 ZG x_.2 (c.stk++Vi (t1.out.take x_.1) n)::l))) (fun x_=>t1.out.length-x_.1) ?_ ?_ ?_
 ·exact k_b
 ·try simp only
  refine ⟨qo,?_⟩
  refine H.cg (YT rfl (YT rfl (YT rfl (YT rfl (YT rfl (YT rfl (YT (Ro ?_) (YT rfl (YT rfl (YT (Ro ?_) (rfl)))))))))))
  ·(unfold Vi;rw [lfc,List.map_nil,lua])
  (unfold Vi;rw [lfc,List.map_nil,lua])
 clear H
 rintro ⟨k,Gd⟩ f_ w_ ⟨hk,H⟩
 try simp only at hk H ⊢
 have hx1:(up++[(⟨c.fn,c.at_,c.vl,c.loc,Gd,c.stk++Vi (t1.out.take k) n⟩:CV)])[(up++[c]).length-1]?=some (⟨c.fn,c.at_,c.vl,c.loc,Gd,c.stk++Vi (t1.out.take k) n⟩:CV):=by rw [Jt,lKa];exact YK rfl
 have It:=hfl k
 clear hx
 refine cI (fun c2=>?_) (fun c2=>?_)
 focus
  replace c2:=Yx (c2)
  refine bk ?_
  obtain ⟨x1,Rm⟩:∃x,(t1.out)[(k)]?=some x:=⟨_,laa qo⟩
  obtain ⟨b2,o2,E2,F1,ZE⟩:=ZZ.Y1 QE Rm
  refine ZJ E2 rfl rfl rfl<|Z4 (H.XQ F1) 0 rfl rfl rfl<|ZM H [] [(0,.pure),(1,.pure),(2,.pure),(3,.pure),(4,.held),(5,.pure),(6,.pure),(7,.forced),(8,.forced),(9,.free),(10,.pure),(11,.pure),(12,.free)] mixed k_i k_i<|fun w3 H=>tk (fun wx HS=>Z9 rfl ⟨rfl,rfl⟩)<|tk (fun wx HS=>Z4 (HS.el 6 rfl E1 hx1) 3 rfl rfl rfl ⟨rfl,rfl⟩) ?_
  refine Z7.mk (Fc.imp (Wj.ali H _ _) ?_)
  clear H
  rintro _ w4 ⟨r1,⟨rfl,⟨h6,H⟩⟩⟩
  refine Yt.mk (H)<|ZY H rfl rfl rfl rfl<|fun p1 w5 H=>Yt.mk (H.drop 0 (fun H=>H))<|Wk (ys:=[_]) 8 H 10 rfl (H.at 0 rfl) rfl (fun y _=>rfl) rfl rfl rfl k_a k_a<|fun v1=>?_
  intro w4 H
  refine tk (fun wx HS=>Z9 rfl ⟨rfl,rfl⟩)<|YB H 7 rfl E1 hx1 3 (⟨c.fn,c.at_,c.vl,c.loc,(v1),c.stk++Vi (t1.out.take k) n++[r1]⟩) rfl (by simp only [Bool.and_true,H.one 4 rfl,H.one 5 rfl,H.one 6 rfl,H.one 7 rfl,H.one 9 rfl,H.one 10 rfl,ZZ.one QE]) rfl rfl<|fun w5 H=>ZX qo ?_
 rotate_left 1
 focus
  replace c2:=Yw (c2)
  refine Z9 rfl<|XA H 1 rfl rfl rfl rfl<|fun w3 H=>?_
 rotate_left 1
 ·have e1:Vi (t1.out.take (k+1)) n=Vi (t1.out.take k) n++[r1]:=by
   unfold Vi
   rw [lBb,Rm,lXa,h6];rfl
  have WC:∀z z2:CV,(up++[z]).set ((up++[c]).length-1) z2=up++[z2]:=fun z z2=>by rw [Jt,lKa];exact Yv rfl _
  rw [WC,lma,←e1] at H
  exact WN.mk (k+1,v1) (Zo rfl k_u ZT) ⟨by simp only;omega,H.del 0⟩ k_u
 ·have Rf:k=t1.out.length:=by omega
  subst Rf
  rw [lHb] at H
  refine Z6.mk ⟨rfl,Q4 (HO (c:=⟨c.fn,c.at_,c.vl,c.loc,Gd,c.stk++Vi t1.out n⟩) (H.Z8 [1] fun H=>H)) ?_ hI Ts A2.symm⟩
  rw [A6,←h3]
  exact WJ rfl
end
end Rn
namespace Rn
open Go YZ Go.RowKit
open YS Zk XV YQ Valid Mem
section
variable {g:Zv} {w:World} {l:List As} {m:Y9} {pr cp mp:Nat} {vw vc vt vg vp Tb vj:Value} {host f e:Int} {cs up:List CV} {Zr Zg s2:List Int} {ps:List WT} {c u:CV} {x:ZU} {i b o:Nat} {ws:List XT} {j:XT}
variable {S S':MS} {n:Nat} {Ho:List Nh} {va:Value} {args:List Int}
def RR (m:Yf) (S:MS) (f:Int) (args:List Int) (e:Int) (S':MS):Prop :=
 (e=8∧(f<Y3 m∨Y3 m+m.funcs.length≤f)∧S'=S)∨(¬(f<Y3 m∨Y3 m+m.funcs.length≤f)∧((e=1∧args.length≠(Rw m (W2 m (f-Y3 m))).Zc.length∧S'=S)∨(e=0∧args.length=(Rw m (W2 m (f-Y3 m))).Zc.length∧S'=Z0 m S f args)))
theorem RR.Sq {m:Yf} {S S1 S2:MS} {f:Int} {args:List Int} {e1 e2:Int} (h1:RR m S f args e1 S1) (h2:RR m S f args e2 S2):e1=e2∧S1=S2:=by
 rcases h1 with ⟨a1,a2,a3⟩|⟨a0,⟨a1,a2,a3⟩|⟨a1,a2,a3⟩⟩ <;> rcases h2 with ⟨b1,b2,b3⟩|⟨b0,⟨b1,b2,b3⟩|⟨b1,b2,b3⟩⟩
 ·exact ⟨a1.trans b1.symm,a3.trans b3.symm⟩
 ·exact absurd a2 b0
 ·exact absurd a2 b0
 ·exact absurd b2 a0
 ·exact ⟨a1.trans b1.symm,a3.trans b3.symm⟩
 ·exact absurd b2 a2
 ·exact absurd b2 a0
 ·exact absurd a2 b2
 ·exact ⟨a1.trans b1.symm,a3.trans b3.symm⟩
theorem ajd (H:Sat g w (Jk m vw pr S::l)) (hm:XF g m) (P:SG m.d) (hc:S.calls=[]) (hh:S.host=0) (hf:WU f) (ha:ZZ g ZG Us 1 va args) :
  Fc Tryz.prog 34 #[.pointer (some ⟨pr,0,none⟩),.int .i64 f,va] w (fun r w'=>∃e S',r=.int .i64 e∧RR m.d S f args e S'∧Sat g w' (Jk m vw pr S'::l)):=by
 refine Fc.of Tryz.func34 rfl k_i ?_
 have hnf:=P.nf
 have hni:=P.ni
 have ZW:=hm.funcs
 have Zt:=hm.ZB
 have alv:Y3 m.d=m.ZB.length:=rfl
 have ant:m.d.ZB.length=m.ZB.length:=rfl
 have anu:m.d.funcs.length=m.funcs.length:=lia0 ..
 have EH:=hf.1
 have Kg:=hf.2
 obtain ⟨cp,mp,vc,vt,vg,vp,cs,ps,Zr,Zg,hcs,hI,Ts,H⟩:=Lo H
 obtain rfl:cs=[]:=by rw [hc] at hcs;simpa using hcs
 replace H:=HM H
 have Uz:([]:List CV).length=0:=rfl
 by_cases hr:f<Y3 m.d∨Y3 m.d+m.d.funcs.length≤f
 ·rw [alv,anu] at hr
  rcases hr with hr|hr
  ·by_cases hz:f<0
   ·refine Z9 rfl<|Z4 (H.at 0 rfl) 2 rfl rfl rfl<|YJ H 6 rfl rfl<|cF (Zl qo)<|Z9 rfl<|Z4 (H.at 0 rfl) 0 rfl rfl rfl<|Z9 rfl<|Z9 rfl<|Z4 (H.at 1 rfl) 1 rfl rfl rfl<|Zw Zt rfl<|W6.keep<|VA (Y4 qa)<|cT rfl ?_
    exact Z6.mk ⟨8,S,rfl,.inl ⟨rfl,.inl qo,rfl⟩,Q4 (Nu H) hcs hI Ts rfl⟩
   ·refine Z9 rfl<|Z4 (H.at 0 rfl) 2 rfl rfl rfl<|YJ H 6 rfl rfl<|cF (Zl qo)<|Z9 rfl<|Z4 (H.at 0 rfl) 0 rfl rfl rfl<|Z9 rfl<|Z9 rfl<|Z4 (H.at 1 rfl) 1 rfl rfl rfl<|Zw Zt rfl<|ZX qo<|XB (Zl qo)<|VA (Y4 qo)<|cT rfl ?_
    exact Z6.mk ⟨8,S,rfl,.inl ⟨rfl,.inl qo,rfl⟩,Q4 (Nu H) hcs hI Ts rfl⟩
  ·refine Z9 rfl<|Z4 (H.at 0 rfl) 2 rfl rfl rfl<|YJ H 6 rfl rfl<|cF (Zl qo)<|Z9 rfl<|Z4 (H.at 0 rfl) 0 rfl rfl rfl<|Z9 rfl<|Z9 rfl<|Z4 (H.at 1 rfl) 1 rfl rfl rfl<|Zw Zt rfl<|ZX qo<|XB (Zl qo)<|XB (Zl qo)<|Z9 rfl<|Z4 (H.at 0 rfl) 0 rfl rfl rfl<|Z9 rfl<|Z9 rfl<|Z4 (H.at 1 rfl) 2 rfl rfl rfl<|Zw ZW rfl<|cT (Ys qo) ?_
   exact Z6.mk ⟨8,S,rfl,.inl ⟨rfl,.inr qo,rfl⟩,Q4 (Nu H) hcs hI Ts rfl⟩
 ·have hlt:f<(m.ZB.length:Int)+m.funcs.length:=by omega
  have hge:0≤f:=by omega
  have hty:YD m.d f=Rw m.d (W2 m.d (f-Y3 m.d)):=by
   have:=(PX P (n:=f-Y3 m.d) qo qo).2
   rwa [show Y3 m.d+(f-Y3 m.d)=f by omega] at this
  have LS:(m.ZB.length:Int)≤f:=by omega
  refine Z9 rfl<|Z4 (H.at 0 rfl) 2 rfl rfl rfl<|YJ H 6 rfl rfl<|cF (Zl qo)<|Z9 rfl<|Z4 (H.at 0 rfl) 0 rfl rfl rfl<|Z9 rfl<|Z9 rfl<|Z4 (H.at 1 rfl) 1 rfl rfl rfl<|Zw Zt rfl<|ZX qo<|XB (Zl qa)<|XB (Zl qo)<|Z9 rfl<|Z4 (H.at 0 rfl) 0 rfl rfl rfl<|Z9 rfl<|Z9 rfl<|Z4 (H.at 1 rfl) 2 rfl rfl rfl<|Zw ZW rfl<|cF (YM qo)<|Z9 rfl<|Z4 (H.at 0 rfl) 0 rfl rfl rfl<|H.Z8 [1]<|fun H=>?_
  refine Z7.mk (Fc.imp (Rn.Mx H qa qa _ qa qa) ?_)
  clear H
  rintro _ w1 ⟨t1,⟨rfl,⟨h1,⟨h2,⟨h3,⟨h4,⟨h5,H⟩⟩⟩⟩⟩⟩⟩
  have QE:=Wd.Zc (by assumption:Wd g _)
  refine TD rfl<|Zw ha rfl<|Zw QE rfl ?_
  refine cI (fun c1=>?_) (fun c1=>?_)
  focus
   replace c1:=Ye (c1)
  rotate_left 1
  focus
   replace c1:=Yd (c1)
   refine Zw QE rfl ?_
  rotate_left 1
  ·exact Z6.mk ⟨1,S,rfl,.inr ⟨hr,.inl ⟨rfl,fun h=>c1 (by rw [←hty,←h3] at h;have h:args.length=t1.Zc.length:=h;omega),rfl⟩⟩,Q4 (Nu (H.Z8 [1] fun H=>H)) hcs hI Ts rfl⟩
  ·have hal:args.length=t1.Zc.length:=by omega
   have hfa:(fitAll t1.Zc args).length=t1.Zc.length:=by unfold fitAll;rw [lia0,List.length_zip];omega
   replace H:=H.UK (en:=ZG) (s:=1) 2 (fun _=>rfl)
   refine YP.rule (α:=Nat × Value) (0,.slice none 0 0) (fun x_=>[(62,.int .i64 x_.1),(9,x_.2)]) (fun x_ w_=>(x_.1≤t1.Zc.length)∧Sat g w_ ((Sl 2 1 ZG x_.2 ((fitAll t1.Zc args).take x_.1)::Pt cp [m.vt,m.vm,m.vf,.int .i64 m.table,.int .i64 m.pages,.int .i64 m.most,m.vg,m.vx,.int .i64 m.start,m.ve,m.vd,.pointer (some ⟨mp,0,none⟩),vt,vg] 158::Pt pr [.pointer (some ⟨cp,0,none⟩),vw,vc,.int .i64 S.host] 148::Pt mp [vp,.int .i64 m.most] 221::Sl 223 256 Xf vp ps::Sl 3 1 ZG vt Zr::Sl 2 1 ZG vg Zg::Sl 79 4 Yk vc []::Wa []::l))) (fun x_=>t1.Zc.length-x_.1) ?_ ?_ ?_
   ·exact k_b
   ·try simp only
    refine ⟨qo,?_⟩
    exact H
   clear H
   rintro ⟨k,v9⟩ f_ w_ ⟨hk,H⟩
   try simp only at hk H ⊢
   have It:((fitAll t1.Zc args).take k).length=k:=by rw [lla];omega
   refine cI (fun c2=>?_) (fun c2=>?_)
   focus
    replace c2:=Yx (c2)
    refine bk ?_
    obtain ⟨x1,hx1⟩:∃x,(t1.Zc)[(k)]?=some x:=⟨_,laa qo⟩
    obtain ⟨b1,o1,E1,F1,ZE⟩:=ZZ.Y1 QE hx1
    refine ZJ E1 rfl rfl rfl<|Z4 (H.XQ F1) 0 rfl rfl rfl ?_
    obtain ⟨x2,Rm⟩:∃x,(args)[(k)]?=some x:=⟨_,laa qo⟩
    obtain ⟨b2,o2,E2,F2,X3⟩:=ZZ.Y1 ha Rm
    refine ZJ E2 rfl rfl rfl<|Z4 (H.XQ F2) 0 rfl rfl rfl ?_
   rotate_left 1
   focus
    replace c2:=Yw (c2)
   rotate_left 1
   ·have e0:(fitAll t1.Zc args)[k]?=some (Wj.P5 x1 x2):=by
     unfold fitAll
     rw [lva,show (t1.Zc.zip args)[k]?=some (x1,x2) from List.getElem?_zip_eq_some.2 ⟨hx1,Rm⟩];rfl
    have e1:(fitAll t1.Zc args).take (k+1)=(fitAll t1.Zc args).take k++[Wj.P5 x1 x2]:=by rw [lBb,e0];rfl
    refine Z7.mk (Fc.imp (Wj.ali H _ _) ?_)
    clear H
    rintro _ w2 ⟨r1,⟨rfl,⟨h6,H⟩⟩⟩
    refine ZY H rfl rfl rfl rfl<|fun p1 w3 H=>Wk (ys:=[_]) 8 H 1 rfl (H.at 0 rfl) rfl (fun y _=>rfl) rfl rfl rfl qo qo<|fun v1=>?_
    intro w2 H
    refine ZX qo ?_
    subst h6
    rw [←e1] at H
    exact WN.mk (k+1,v1) (Zo rfl k_u (ZL rfl ZT)) ⟨by simp only;omega,H.del 0⟩ k_u
   ·have Rf:k=t1.Zc.length:=by omega
    rw [lxa qo] at H
    obtain ⟨n,hn⟩:=lHa (show 0≤f-m.ZB.length by omega)
    obtain ⟨Fv,HN,EC⟩:=afm (m:=m) (f:=f-Y3 m.d) qo qo
    have hFm:=QF (m:=m.d) (n:=f-Y3 m.d) qo qo
    rw [show (f-Y3 m.d).toNat=n by omega] at HN
    have ED:=(P.fn _ hFm).loc
    rw [EC] at ED
    have ED:Fv.loc.length≤16:=ED
    rw [hn]
    refine H.Z8 [0,7,2,3]<|fun H=>?_
    refine Z7.mk (Fc.imp (ae7 H hm n Fv HN ED qo qs qo) ?_)
    rintro r w' ⟨DX,FP,H⟩
    refine Z6.mk ⟨0,Z0 m.d S f args,rfl,.inr ⟨hr,.inr ⟨rfl,by rw [←hty,←h3];exact hal,rfl⟩⟩,Q4 (HO (up:=[]) (c:=⟨n,0,FP,fitAll t1.Zc args++List.replicate Fv.loc.length 0,.slice none 0 0,[]⟩) (H.Z8 [4,4,9,5,9,9,9,9,9,9] fun H=>H)) ?_ hI Ts hh⟩
    unfold Z0
    rw [←hty,←h3,EC,show f-Y3 m.d=n from hn]
    rfl
end
end Rn
namespace Rn
open Go YZ Go.RowKit
open YS Zk XV YQ Valid Mem
section
variable {g:Zv} {w:World} {l:List As} {m:Y9} {pr cp mp:Nat} {vw vc vt vg vp Tb vj:Value} {host f e:Int} {cs up:List CV} {Zr Zg s2:List Int} {ps:List WT} {c u:CV} {x:ZU} {i b o:Nat} {ws:List XT} {j:XT}
variable {S S':MS} {n k:Nat} {Ho:List Nh} {va:Value} {args:List Int} {a:List CV}
theorem ag5 {A:As} {h:Hp} (hA:A h):Re [A] h:=⟨h,fun _=>none,fun k=>.inl ⟨rfl,rfl⟩,hA,trivial⟩
theorem aje {l1:List As} {h:Hp} (hA:Re [Re l1] h):Re l1 h:=by
 obtain ⟨c,d,s,hc,_⟩:=hA
 have:=Qq (l2:=[]) s hc trivial
 rwa [lua] at this
theorem abM (H:Sat g w (Wa (a++cs)::l)):Sat g w (Wa a::Wa cs::l):=by
 have H:Sat g w (Re [Wa a,Wa cs]::l):=H.weak fun h hh=>by
  unfold Wa at hh
  rw [lMa] at hh
  obtain ⟨x,y,s,hx,hy⟩:=L1 hh
  exact ⟨x,y,s,hx,ag5 hy⟩
 exact H.unbox
theorem ac1 (H:Sat g w (Wa a::Wa cs::l)):Sat g w (Wa (a++cs)::l):=by
 have H:Sat g w (Re [Wa a,Wa cs]::l):=H.box
 refine H.weak fun h hh=>?_
 obtain ⟨x,y,s,hx,hy⟩:=hh
 unfold Wa
 rw [lMa]
 exact Qq s hx (aje hy)
theorem afq {α:Type} {xs:List α} {k:Nat} {x:α} (h:xs[k]?=some x):xs=xs.take k++([x]++xs.drop (k+1)):=by
 obtain ⟨hl,e⟩:=lca.1 h
 rw [lXb,←e,List.getElem_cons_drop,lZa]
theorem alw (H:Sat g w (Wa cs::l)) (hc:cs[k]?=some c):Sat g w (Sl 2 1 ZG c.vl c.loc::Sl 2 1 ZG c.vs c.stk::Wa (cs.take k)::Wa (cs.drop (k+1))::l):=by
 rw [afq hc] at H
 have H:=(abM H).Z8 [1] fun H=>H
 have H:Sat g w (Sl 2 1 ZG c.vl c.loc::Sl 2 1 ZG c.vs c.stk::Wa (cs.drop (k+1))::Wa (cs.take k)::l):=Sat.unbox (abM H)
 exact H.Z8 [0,1,3] fun H=>H.Z8 [1,2] fun H=>H
theorem ajf (H:Sat g w (Sl 2 1 ZG c.vl c.loc::Sl 2 1 ZG c.vs c.stk::Wa (cs.take k)::Wa (cs.drop (k+1))::l)) (hc:cs[k]?=some c):Sat g w (Wa cs::l):=by
 have H:Sat g w (Wa [c]::Wa (cs.take k)::Wa (cs.drop (k+1))::l):=Sat.box (l1:=fr c) H
 have H:=ac1 (a:=[c]) (cs:=cs.drop (k+1)) (H.Z8 [2,1] fun H=>H)
 have H:=ac1 (a:=cs.take k) (cs:=[c]++cs.drop (k+1)) (H.Z8 [1] fun H=>H)
 rwa [←afq hc] at H
theorem ag6 (H:Sat g w (Wa cs::l)):∀c∈cs,c.vl.oneCell'=true∧c.vs.oneCell'=true:=by
 intro c hc
 obtain ⟨i,hi,rfl⟩:=lFb.1 hc
 have H:=alw H (laa hi)
 exact ⟨H.one 0 rfl,H.one 1 rfl⟩
theorem ag7 (H:Sat g w (Sl 79 4 Yk vc cs::l)) (hl:cs.length≤1000) (h1:∀c∈cs,c.vl.oneCell'=true∧c.vs.oneCell'=true):Fc Tryz.prog 115 #[vc] w (fun u w'=>Sat g w' (Sl 79 4 Yk u cs::Sl 79 4 Yk vc cs::l)):=by
 refine Fc.of Tryz.func115 rfl k_i ?_
 rcases H.Sz 0 rfl with ⟨M0,MZ⟩|⟨b1,o1,c1,V1⟩
 ·subst M0
  subst MZ
  refine Xp rfl<|cT rfl<|Z6.mk ?_
  replace H:=H.UK (en:=Yk) (s:=4) 79 (fun _=>rfl)
  exact H
 subst V1
 refine Xp rfl<|cF rfl<|ZY H rfl rfl rfl rfl<|fun p1 w1 H=>H.WI (n:=0) (en:=Yk) (s:=4) 0 rfl [] rfl rfl (fun _=>rfl) rfl<|fun H=>Uo 64 H 0 rfl (H.E7 (ok:=fun _=>True) 1 rfl (fun _ _=>trivial)) (fun y h=>by simp only [Yk,List.all_cons,List.all_nil,(h1 y h).1,(h1 y h).2];rfl) rfl rfl rfl k_a k_a<|fun v1=>?_
 intro w2 H
 refine Z6.mk ?_
 exact H
theorem afr (H:Sat g w (Sl 79 4 Yk vc cs::Wa cs::l)) (hl:cs.length≤1000) (hz:∀c∈cs,c.loc.length≤1000∧c.stk.length≤1000):Fc Tryz.prog 74 #[vc] w (fun u w'=>∃cs',cs'.map CV.d=cs.map CV.d∧Sat g w' (Sl 79 4 Yk u cs'::Wa cs'::Sl 79 4 Yk vc cs::Wa cs::l)):=by
 refine Fc.of Tryz.func74 rfl k_i ?_
 have h1:=ag6 (H.Z8 [1] fun H=>H)
 refine Z7.mk (Fc.imp (Rn.ag7 H qa qa) ?_)
 clear H
 rintro v' w1 H
 refine YJ H 0 rfl rfl ?_
 refine YP.rule (α:=Nat × List CV) (0,[]) (fun x_=>[(9,.int .i64 x_.1)]) (fun x_ w_=>(x_.1≤cs.length)∧(x_.2.map CV.d=(cs.take x_.1).map CV.d)∧Sat g w_ ((Sl 79 4 Yk v' (x_.2++cs.drop x_.1)::Wa x_.2::Sl 79 4 Yk vc cs::Wa cs::l))) (fun x_=>cs.length-x_.1) ?_ ?_ ?_
 ·exact k_b
 ·try simp only
  refine ⟨qo,?_⟩
  refine ⟨rfl,?_⟩
  exact (Sat.box (l1:=[]) H).Z8 [1] fun H=>H
 clear H
 rintro ⟨k,ds⟩ f_ w_ ⟨hk,hd,H⟩
 try simp only at hk hd H ⊢
 have hdl:ds.length=k:=by have:=congrArg List.length hd;rw [lia0,lia0,lla] at this;omega
 have hal:(ds++cs.drop k).length=cs.length:=by rw [lba,lIa];omega
 rcases lEa k cs.length with hlt|hge
 ·obtain ⟨c,hc⟩:∃c,cs[k]?=some c:=⟨_,laa hlt⟩
  have hx:(ds++cs.drop k)[k]?=some c:=by rw [lsa qo,hdl,lqb,lNa];exact hc
  obtain ⟨Eo,hz2⟩:=hz c (lha hc)
  replace H:=alw (H.Z8 [3] fun H=>H) hc
  have hvl:=H.one 0 rfl
  have hvs:=H.one 1 rfl
  refine cT (Y4 qo)<|bk ?_
  obtain ⟨b1,o1,E1⟩:=H.Y1 4 rfl (k) qo
  refine ZJ E1 rfl rfl rfl<|ZA (H.el 4 rfl E1 hx) 0 rfl rfl rfl<|ZS H rfl<|fun p1 w2 H=>ZD H 0 rfl rfl rfl (by simp only [List.all_cons,List.all_nil,H.one 1 rfl,H.one 2 rfl,H.one 5 rfl,H.one 7 rfl,hvs,hvl];rfl)<|fun w3 H=>ZM H [] [(0,.pure),(1,.pure),(2,.pure),(3,.pure),(4,.pure),(5,.held),(7,.pure),(8,.held),(6,.forced),(9,.free),(10,.pure),(11,.pure),(12,.free),(13,.pure),(14,.pure),(15,.free)] mixed k_i k_i<|fun w2 H=>tk (fun wx HS=>Z9 rfl ⟨rfl,rfl⟩)<|tk (fun wx HS=>Z4 (HS.at 0 rfl) 2 rfl rfl rfl ⟨rfl,rfl⟩)<|tk (fun wx HS=>Z9 rfl ⟨rfl,rfl⟩)<|tk (fun wx HS=>Z4 (HS.at 0 rfl) 3 rfl rfl rfl ⟨rfl,rfl⟩)<|H.Z8 [1]<|fun H=>?_
  refine Z7.mk (Fc.imp (Rn.OB H qo) ?_)
  clear H
  rintro UR w3 H
  refine H.Z8 [8,8,8,8,8,8,7,8]<|fun H=>Yt.mk (H.drop 8 (fun H=>H))<|H.Z8 [2]<|fun H=>?_
  refine Z7.mk (Fc.imp (Rn.OB H qo) ?_)
  clear H
  rintro M6 w4 H
  refine tk (fun wx HS=>ZJ E1 rfl rfl rfl ⟨rfl,rfl⟩)<|tk (fun wx HS=>Z9 rfl ⟨rfl,rfl⟩)<|YB H 6 rfl E1 hx 2 (⟨c.fn,c.at_,(UR),c.loc,c.vs,c.stk⟩) rfl (by simp only [Bool.and_true,H.one 0 rfl,H.one 1 rfl,H.one 3 rfl,H.one 6 rfl,H.one 8 rfl,H.one 9 rfl,hvs,hvl]) rfl rfl<|fun w5 H=>tk (fun wx HS=>ZJ E1 rfl rfl rfl ⟨rfl,rfl⟩)<|tk (fun wx HS=>Z9 rfl ⟨rfl,rfl⟩) ?_
  have hx1:((ds++List.drop k cs).set k { fn:=c.fn,at_:=c.at_,vl:=UR,loc:=c.loc,vs:=c.vs,stk:=c.stk })[k]?=some _:=WQ hx
  refine YB H 6 rfl E1 hx1 3 (⟨c.fn,c.at_,UR,c.loc,(M6),c.stk⟩) rfl (by simp only [Bool.and_true,H.one 0 rfl,H.one 1 rfl,H.one 3 rfl,H.one 6 rfl,H.one 8 rfl,H.one 9 rfl,hvs,hvl]) rfl rfl<|fun w4 H=>ZX qo ?_
  have e1:((ds++cs.drop k).set k ⟨c.fn,c.at_,UR,c.loc,c.vs,c.stk⟩).set k ⟨c.fn,c.at_,UR,c.loc,M6,c.stk⟩=(ds++[⟨c.fn,c.at_,UR,c.loc,M6,c.stk⟩])++cs.drop (k+1):=by
   rw [List.set_set,List.set_append_right _ _ qo,hdl,lqb,lwa hlt,lsb0,lma];rfl
  rw [e1] at H
  have H2:=ajf ((H.del 2).Z8 [4,4,3,4] fun H=>H) hc
  have H3:=(PS (c:=⟨c.fn,c.at_,UR,c.loc,M6,c.stk⟩) (H2.Z8 [3,2,5] fun H=>H)).Z8 [1,3,2,3] fun H=>H
  refine WN.mk (k+1,ds++[⟨c.fn,c.at_,UR,c.loc,M6,c.stk⟩]) (Zo rfl k_u ZT) ⟨by simp only;omega,?_,H3⟩ k_u
  simp only
  rw [lXa,hd,lBb,hc,lXa];rfl
 ·refine cF (Zl qo) ?_
  have Rf:k=cs.length:=by omega
  subst Rf
  rw [List.drop_length,lua] at H
  rw [lHb] at hd
  exact Z6.mk ⟨ds,hd,H⟩
theorem ag8 (P:SG m.d) (T:Ty m.d S):∀c∈S.calls,c.loc.length≤1000∧c.stk.length≤1000:=by
 have OS:∀{c:YE},JK m.d c→c.loc.length≤1000:=fun {c} F=>by
  have h1:=F.loc.len
  have hm:=QF F.f0 F.f1
  have h2:=(P.fn _ hm).loc
  have h3:=(P.sig _ (Lt P hm).1).1
  unfold WV at h1
  rw [lba] at h1
  omega
 have hW:∀{up:List YE} {n:Int},XC m.d up n→∀c∈up,c.loc.length≤1000∧c.stk.length≤1000:=fun {up n} W c hc=>by
  obtain ⟨i,hi,rfl⟩:=lFb.1 hc
  have W1:=W i _ (laa hi)
  exact ⟨OS W1.fr,by have:=Ny P W1;omega⟩
 rcases T.cs with ⟨_,h⟩|⟨_,up,c,h,h1,h2⟩|⟨_,_,h⟩
 ·rw [h];intro c hc;cases hc
 ·rw [h]
  intro d hd
  rcases lFa.1 hd with hd|hd
  ·exact hW h1 d hd
  ·rw [lta] at hd
   subst hd
   obtain ⟨Es,Ls,Q⟩:=(h2.fr.f P).snd
   have:=Oz Q (fun t ht=>(P.sig t ht).2) h2.ty
   exact ⟨OS h2.fr,by omega⟩
 ·exact hW h
theorem Nt (H:Sat g w (Jk m vw pr S::l)) (P:SG m.d) (T:Ty m.d S) :
  Fc Tryz.prog 28 #[.pointer (some ⟨pr,0,none⟩)] w (fun r w'=>∃v cs,r=.agg #[v,.int .i64 S.host]∧cs.map CV.d=S.calls∧Sat g w' (Jk m vw pr S::Sl 79 4 Yk v cs::Wa cs::l)):=by
 refine Fc.of Tryz.func28 rfl k_i ?_
 obtain ⟨cp,mp,vc,vt,vg,vp,cs,ps,Zr,Zg,hcs,hI,Ts,H⟩:=Lo H
 replace H:=HM H
 have Uz:cs.length≤1000:=by have:=T.le;rw [←hcs,lia0] at this;omega
 have hz:∀c∈cs,c.loc.length≤1000∧c.stk.length≤1000:=fun c hc=>ag8 P T c.d (by rw [←hcs];exact List.mem_map_of_mem hc)
 refine ZS H rfl<|fun p1 w1 H=>ZM H [] [(0,.pure),(1,.pure),(2,.pure),(3,.held),(5,.pure),(6,.pure),(7,.pure),(8,.held),(4,.forced),(9,.pure),(10,.free)] mixed k_i k_i<|fun w2 H=>tk (fun wx HS=>Z9 rfl ⟨rfl,rfl⟩)<|tk (fun wx HS=>Z4 (HS.at 1 rfl) 2 rfl rfl rfl ⟨rfl,rfl⟩)<|tk (fun wx HS=>Z9 rfl ⟨rfl,rfl⟩)<|tk (fun wx HS=>Z4 (HS.at 1 rfl) 3 rfl rfl rfl ⟨rfl,rfl⟩)<|H.Z8 [8,8]<|fun H=>?_
 refine Z7.mk (Fc.imp (Rn.afr H qa qa) ?_)
 clear H
 rintro v' w1 ⟨anv,⟨h1,H⟩⟩
 obtain ⟨a9,c9,rfl⟩:=H.form 0 rfl
 refine H.Z8 [3,3,10,10,10,10,10,10,10]<|fun H=>Yt.mk (H.drop 10 (fun H=>H.drop 9 (fun H=>H)))<|tk (fun wx HS=>Zf rfl rfl rfl ⟨rfl,rfl⟩)<|ZD H 0 rfl rfl rfl rfl<|fun w3 H=>Xd (H.at 0 rfl) 0 rfl rfl rfl ?_
 exact Z6.mk ⟨_,anv,rfl,h1.trans hcs,Q4 (Nu (H.del 0)) hcs hI Ts rfl⟩
end
end Rn
end Go.Proofs.YtakpnepblgfknaaGreatDoor
