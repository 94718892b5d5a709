/- Texts of this claim, one behind the other. -/
import Derived.Test.YtakpnepblgfknaaGreatDoorM2
import Derived.MapKept
import Derived.Maps.RangeRun
import Derived.Test.YtakpnepblgfknaaGreatDoorM1
set_option maxRecDepth 100000
set_option maxHeartbeats 4000000
set_option linter.unusedVariables false
set_option linter.unusedSimpArgs false
set_option linter.defProp false
namespace Go.Proofs.YtakpnepblgfknaaGreatDoor
namespace YS
open Go YZ Go.RowKit
def YL (n:Int):List Value:=[.int .u8 n]
theorem width (o:Int) (w:World):Fc Tryz.prog 200 #[.int .u8 o] w (fun v w'=>(∃r,v=.int .i64 r∧r=wid o)∧w=w'):=by
 refine Fc.of Tryz.func200 rfl k_i ?_
 have H:=Sat.start w
 refine bk ?_
 refine cI (fun c1=>?_) (fun c1=>?_)
 ·replace c1:=ZR (c1)
  refine cT (ZN qa)<|Z6.mk ?_
  (unfold wid;simp only [*];simp;done)
 replace c1:=ZQ (c1)
 refine cI (fun c2=>?_) (fun c2=>?_)
 ·replace c2:=ZR (c2)
  refine cT (ZN qa)<|Z6.mk ?_
  (unfold wid;simp only [*];simp;done)
 replace c2:=ZQ (c2)
 refine cI (fun c3=>?_) (fun c3=>?_)
 ·replace c3:=ZR (c3)
  refine cT (ZN qa)<|Z6.mk ?_
  (unfold wid;simp only [*];simp;done)
 replace c3:=ZQ (c3)
 refine cI (fun c4=>?_) (fun c4=>?_)
 ·replace c4:=ZR (c4)
  refine cT (ZN qa)<|Z6.mk ?_
  (unfold wid;simp only [*];simp;done)
 replace c4:=ZQ (c4)
 refine cI (fun c5=>?_) (fun c5=>?_)
 ·replace c5:=ZR (c5)
  refine cT (ZN qa)<|Z6.mk ?_
  (unfold wid;simp only [*];simp;done)
 replace c5:=ZQ (c5)
 refine cI (fun c6=>?_) (fun c6=>?_)
 ·replace c6:=ZR (c6)
  refine Z6.mk ?_
  (unfold wid;simp only [*];simp;done)
 replace c6:=ZQ (c6)
 refine cI (fun c7=>?_) (fun c7=>?_)
 ·replace c7:=ZR (c7)
  refine cT (ZN qa)<|Z6.mk ?_
  (unfold wid;simp only [*];simp;done)
 replace c7:=ZQ (c7)
 refine cI (fun c8=>?_) (fun c8=>?_)
 ·replace c8:=ZR (c8)
  refine cT (ZN qa)<|Z6.mk ?_
  (unfold wid;simp only [*];simp;done)
 replace c8:=ZQ (c8)
 refine cI (fun c9=>?_) (fun c9=>?_)
 ·replace c9:=ZR (c9)
  refine cT (ZN qa)<|Z6.mk ?_
  (unfold wid;simp only [*];simp;done)
 replace c9:=ZQ (c9)
 refine cI (fun c10=>?_) (fun c10=>?_)
 ·replace c10:=ZR (c10)
  refine cT (ZN qa)<|Z6.mk ?_
  (unfold wid;simp only [*];simp;done)
 replace c10:=ZQ (c10)
 refine cI (fun c11=>?_) (fun c11=>?_)
 ·replace c11:=ZR (c11)
  refine cT (ZN qa)<|Z6.mk ?_
  (unfold wid;simp only [*];simp;done)
 replace c11:=ZQ (c11)
 refine cI (fun c12=>?_) (fun c12=>?_)
 ·replace c12:=ZR (c12)
  refine Z6.mk ?_
  (unfold wid;simp only [*];simp;done)
 replace c12:=ZQ (c12)
 refine cI (fun c13=>?_) (fun c13=>?_)
 ·replace c13:=ZR (c13)
  refine cT (ZN qa)<|Z6.mk ?_
  (unfold wid;simp only [*];simp;done)
 replace c13:=ZQ (c13)
 refine cI (fun c14=>?_) (fun c14=>?_)
 ·replace c14:=ZR (c14)
  refine cT (ZN qa)<|Z6.mk ?_
  (unfold wid;simp only [*];simp;done)
 replace c14:=ZQ (c14)
 refine cI (fun c15=>?_) (fun c15=>?_)
 ·replace c15:=ZR (c15)
  refine cT (ZN qa)<|Z6.mk ?_
  (unfold wid;simp only [*];simp;done)
 replace c15:=ZQ (c15)
 refine cI (fun c16=>?_) (fun c16=>?_)
 ·replace c16:=ZR (c16)
  refine cT (ZN qa)<|Z6.mk ?_
  (unfold wid;simp only [*];simp;done)
 replace c16:=ZQ (c16)
 refine cI (fun c17=>?_) (fun c17=>?_)
 ·replace c17:=ZR (c17)
  refine Z6.mk ?_
  (unfold wid;simp only [*];simp;done)
 replace c17:=ZQ (c17)
 refine cI (fun c18=>?_) (fun c18=>?_)
 ·replace c18:=ZR (c18)
  refine cT (ZN qa)<|Z6.mk ?_
  (unfold wid;simp only [*];simp;done)
 replace c18:=ZQ (c18)
 refine cI (fun c19=>?_) (fun c19=>?_)
 ·replace c19:=ZR (c19)
  refine Z6.mk ?_
  (unfold wid;simp only [*];simp;done)
 replace c19:=ZQ (c19)
 refine Z6.mk ?_
 (unfold wid;simp only [*];simp;done)
theorem KW {g:Zv} {w:World} {l:List As} {p:Nat} {o:Int} (H:Sat g w (Pt p [.int .u8 o] 5::l)) (b:Int) :
  Fc Tryz.prog 256 #[.int .u8 b,.pointer (some ⟨p,0,none⟩)] w (fun v w'=>(∃r,v=.int .u8 r∧r=kd o b)∧w=w'):=by
 refine Fc.of Tryz.func256 rfl k_i<|Z4 (H.at 0 rfl) 0 rfl rfl rfl ?_
 refine cI (fun c1=>?_) (fun c1=>?_)
 ·replace c1:=Yx (c1)
  refine Z6.mk ?_
  refine ⟨?_,?_⟩
  ·refine ⟨127,?_⟩
   refine ⟨?_,?_⟩
   ·refine int_eq ?_
    omega
   (unfold kd;rw [if_pos qa])
  rfl
 replace c1:=Yw (c1)
 refine Z6.mk ?_
 refine ⟨?_,?_⟩
 ·refine ⟨126,?_⟩
  refine ⟨?_,?_⟩
  ·refine int_eq ?_
   omega
  (unfold kd;rw [if_neg qo])
 rfl
theorem Mc (o:Int) (w:World):Fc Tryz.prog 235 #[.int .u8 o] w (fun v w'=>∃u k b xs,v=.tuple #[u,.int .u8 k,.bool b]∧X7 o=(xs,k,b)∧Sat (WA w) w' [Sl 97 1 YL u xs]):=by
 refine Fc.of Tryz.func235 rfl k_i ?_
 have H:=Sat.start w
 refine ZH H<|fun p1 w1 H=>bk<|Z4 (H.at 0 rfl) 0 rfl rfl rfl ?_
 refine cI (fun c1=>?_) (fun c1=>?_)
 ·replace c1:=ZR (c1)
  refine cT (ZN qa) ?_
  refine Z7.mk (Fc.imp (YS.KW H _) ?_)
  rintro _ _ ⟨⟨r1,⟨rfl,h1⟩⟩,rfl⟩
  refine ZY H rfl rfl rfl rfl<|fun p2 w2 H=>Z6.mk ?_
  (refine H.WI (n:=1) (en:=YL) (s:=1) 0 rfl [_] rfl rfl (fun _=>rfl) rfl ?_;intro H;exact ⟨_,_,_,_,rfl,by unfold X7;repeat first|rw [if_pos qo]|rw [if_neg qo]|(subst_vars;rfl),H.del 1⟩)
 replace c1:=ZQ (c1)
 refine Z4 (H.at 0 rfl) 0 rfl rfl rfl ?_
 refine cI (fun c2=>?_) (fun c2=>?_)
 ·replace c2:=ZR (c2)
  refine Z7.mk (Fc.imp (YS.KW H _) ?_)
  rintro _ _ ⟨⟨r1,⟨rfl,h1⟩⟩,rfl⟩
  refine ZY H rfl rfl rfl rfl<|fun p2 w2 H=>Z6.mk ?_
  (refine H.WI (n:=1) (en:=YL) (s:=1) 0 rfl [_] rfl rfl (fun _=>rfl) rfl ?_;intro H;exact ⟨_,_,_,_,rfl,by unfold X7;repeat first|rw [if_pos qo]|rw [if_neg qo]|(subst_vars;rfl),H.del 1⟩)
 replace c2:=ZQ (c2)
 refine Z4 (H.at 0 rfl) 0 rfl rfl rfl ?_
 refine br (fun c3=>?_) (fun c3=>?_)
 ·replace c3:=Yx (c3)
  refine Z4 (H.at 0 rfl) 0 rfl rfl rfl ?_
  refine cI (fun c4=>?_) (fun c4=>?_)
  ·replace c4:=Xv (c4)
   refine Z7.mk (Fc.imp (YS.KW H _) ?_)
   rintro _ _ ⟨⟨r1,⟨rfl,h1⟩⟩,rfl⟩
   refine ZY H rfl rfl rfl rfl<|fun p2 w2 H=>Z6.mk ?_
   (refine H.WI (n:=2) (en:=YL) (s:=1) 0 rfl [_,_] rfl rfl (fun _=>rfl) rfl ?_;intro H;exact ⟨_,_,_,_,rfl,by unfold X7;repeat first|rw [if_pos qo]|rw [if_neg qo]|(subst_vars;rfl),H.del 1⟩)
  replace c4:=Xu (c4)
  refine Z4 (H.at 0 rfl) 0 rfl rfl rfl ?_
  refine br (fun c5=>?_) (fun c5=>?_)
  ·replace c5:=Xv (c5)
   refine Z4 (H.at 0 rfl) 0 rfl rfl rfl ?_
   refine cI (fun c6=>?_) (fun c6=>?_)
   ·replace c6:=Xv (c6)
    refine cT (Ys qa) ?_
    refine Z7.mk (Fc.imp (YS.KW H _) ?_)
    rintro _ _ ⟨⟨r1,⟨rfl,h1⟩⟩,rfl⟩
    refine ZY H rfl rfl rfl rfl<|fun p2 w2 H=>Z6.mk ?_
    (refine H.WI (n:=1) (en:=YL) (s:=1) 0 rfl [_] rfl rfl (fun _=>rfl) rfl ?_;intro H;exact ⟨_,_,_,_,rfl,by unfold X7;repeat first|rw [if_pos qo]|rw [if_neg qo]|(subst_vars;rfl),H.del 1⟩)
   replace c6:=Xu (c6)
   refine Z4 (H.at 0 rfl) 0 rfl rfl rfl ?_
   refine br (fun c7=>?_) (fun c7=>?_)
   ·replace c7:=Xv (c7)
    refine Z4 (H.at 0 rfl) 0 rfl rfl rfl ?_
    refine cI (fun c8=>?_) (fun c8=>?_)
    ·replace c8:=Xv (c8)
     refine Z7.mk (Fc.imp (YS.KW H _) ?_)
     rintro _ _ ⟨⟨r1,⟨rfl,h1⟩⟩,rfl⟩
     refine ZY H rfl rfl rfl rfl<|fun p2 w2 H=>Z6.mk ?_
     (refine H.WI (n:=1) (en:=YL) (s:=1) 0 rfl [_] rfl rfl (fun _=>rfl) rfl ?_;intro H;exact ⟨_,_,_,_,rfl,by unfold X7;repeat first|rw [if_pos qo]|rw [if_neg qo]|(subst_vars;rfl),H.del 1⟩)
    replace c8:=Xu (c8)
    refine Z4 (H.at 0 rfl) 0 rfl rfl rfl<|VA (Ys qa)<|Z4 (H.at 0 rfl) 0 rfl rfl rfl ?_
    refine cI (fun c9=>?_) (fun c9=>?_)
    ·replace c9:=Xv (c9)
     refine Z7.mk (Fc.imp (YS.KW H _) ?_)
     rintro _ _ ⟨⟨r1,⟨rfl,h1⟩⟩,rfl⟩
     refine ZY H rfl rfl rfl rfl<|fun p2 w2 H=>Z6.mk ?_
     (refine H.WI (n:=2) (en:=YL) (s:=1) 0 rfl [_,_] rfl rfl (fun _=>rfl) rfl ?_;intro H;exact ⟨_,_,_,_,rfl,by unfold X7;repeat first|rw [if_pos qo]|rw [if_neg qo]|(subst_vars;rfl),H.del 1⟩)
    replace c9:=Xu (c9)
    refine Z4 (H.at 0 rfl) 0 rfl rfl rfl ?_
    refine cI (fun c10=>?_) (fun c10=>?_)
    ·replace c10:=ZR (c10)
     refine ZY H rfl rfl rfl rfl<|fun p2 w2 H=>Z6.mk ?_
     (refine H.WI (n:=1) (en:=YL) (s:=1) 0 rfl [_] rfl rfl (fun _=>rfl) rfl ?_;intro H;exact ⟨_,_,_,_,rfl,by unfold X7;repeat first|rw [if_pos qo]|rw [if_neg qo]|(subst_vars;rfl),H.del 1⟩)
    replace c10:=ZQ (c10)
    refine Z4 (H.at 0 rfl) 0 rfl rfl rfl ?_
    refine cI (fun c11=>?_) (fun c11=>?_)
    ·replace c11:=ZR (c11)
     refine cT (ZN qa)<|ZY H rfl rfl rfl rfl<|fun p2 w2 H=>Z6.mk ?_
     (refine H.WI (n:=1) (en:=YL) (s:=1) 0 rfl [_] rfl rfl (fun _=>rfl) rfl ?_;intro H;exact ⟨_,_,_,_,rfl,by unfold X7;repeat first|rw [if_pos qo]|rw [if_neg qo]|(subst_vars;rfl),H.del 1⟩)
    replace c11:=ZQ (c11)
    refine Z4 (H.at 0 rfl) 0 rfl rfl rfl ?_
    refine cI (fun c12=>?_) (fun c12=>?_)
    ·replace c12:=ZR (c12)
     refine ZY H rfl rfl rfl rfl<|fun p2 w2 H=>Z6.mk ?_
     (refine H.WI (n:=1) (en:=YL) (s:=1) 0 rfl [_] rfl rfl (fun _=>rfl) rfl ?_;intro H;exact ⟨_,_,_,_,rfl,by unfold X7;repeat first|rw [if_pos qo]|rw [if_neg qo]|(subst_vars;rfl),H.del 1⟩)
    replace c12:=ZQ (c12)
    refine Z4 (H.at 0 rfl) 0 rfl rfl rfl ?_
    refine br (fun c13=>?_) (fun c13=>?_)
    ·replace c13:=Xv (c13)
     refine Z4 (H.at 0 rfl) 0 rfl rfl rfl ?_
     refine cI (fun c14=>?_) (fun c14=>?_)
     ·replace c14:=Xv (c14)
      refine Z7.mk (Fc.imp (YS.KW H _) ?_)
      rintro _ _ ⟨⟨r1,⟨rfl,h1⟩⟩,rfl⟩
      refine ZY H rfl rfl rfl rfl<|fun p2 w2 H=>Z6.mk ?_
      (refine H.WI (n:=1) (en:=YL) (s:=1) 0 rfl [_] rfl rfl (fun _=>rfl) rfl ?_;intro H;exact ⟨_,_,_,_,rfl,by unfold X7;repeat first|rw [if_pos qo]|rw [if_neg qo]|(subst_vars;rfl),H.del 1⟩)
     replace c14:=Xu (c14)
     refine Z6.mk ?_
     exact ⟨_,_,_,[],rfl,by unfold X7;repeat first|rw [if_pos qo]|rw [if_neg qo],(H.del 0).UK (en:=YL) (s:=1) 97 (fun _=>rfl)⟩
    replace c13:=Xu (c13)
    refine cF rfl<|Z6.mk ?_
    exact ⟨_,_,_,[],rfl,by unfold X7;repeat first|rw [if_pos qo]|rw [if_neg qo],(H.del 0).UK (en:=YL) (s:=1) 97 (fun _=>rfl)⟩
   replace c7:=Xu (c7)
   refine cF rfl<|Z4 (H.at 0 rfl) 0 rfl rfl rfl<|VA (Ys qa)<|Z4 (H.at 0 rfl) 0 rfl rfl rfl<|cT (Ys qo) ?_
   refine Z7.mk (Fc.imp (YS.KW H _) ?_)
   rintro _ _ ⟨⟨r1,⟨rfl,h1⟩⟩,rfl⟩
   refine ZY H rfl rfl rfl rfl<|fun p2 w2 H=>Z6.mk ?_
   (refine H.WI (n:=2) (en:=YL) (s:=1) 0 rfl [_,_] rfl rfl (fun _=>rfl) rfl ?_;intro H;exact ⟨_,_,_,_,rfl,by unfold X7;repeat first|rw [if_pos qo]|rw [if_neg qo]|(subst_vars;rfl),H.del 1⟩)
  replace c5:=Xu (c5)
  refine cF rfl<|Z4 (H.at 0 rfl) 0 rfl rfl rfl<|XB (YM qo)<|cF rfl<|Z4 (H.at 0 rfl) 0 rfl rfl rfl<|XB (YM qo)<|cF rfl<|Z4 (H.at 0 rfl) 0 rfl rfl rfl<|cF (Z5 qo)<|Z4 (H.at 0 rfl) 0 rfl rfl rfl<|cF (Z5 qo)<|Z4 (H.at 0 rfl) 0 rfl rfl rfl<|cF (Z5 qo)<|Z4 (H.at 0 rfl) 0 rfl rfl rfl<|XB (YM qo)<|cF rfl<|Z6.mk ?_
  exact ⟨_,_,_,[],rfl,by unfold X7;repeat first|rw [if_pos qo]|rw [if_neg qo],(H.del 0).UK (en:=YL) (s:=1) 97 (fun _=>rfl)⟩
 replace c3:=Yw (c3)
 refine cF rfl<|Z4 (H.at 0 rfl) 0 rfl rfl rfl<|XB (YM qo)<|cF rfl<|Z4 (H.at 0 rfl) 0 rfl rfl rfl<|XB (YM qo)<|cF rfl<|Z4 (H.at 0 rfl) 0 rfl rfl rfl<|XB (YM qo)<|cF rfl<|Z4 (H.at 0 rfl) 0 rfl rfl rfl<|cF (Z5 qo)<|Z4 (H.at 0 rfl) 0 rfl rfl rfl<|cF (Z5 qo)<|Z4 (H.at 0 rfl) 0 rfl rfl rfl<|cF (Z5 qo)<|Z4 (H.at 0 rfl) 0 rfl rfl rfl<|XB (YM qo)<|cF rfl<|Z6.mk ?_
 exact ⟨_,_,_,[],rfl,by unfold X7;repeat first|rw [if_pos qo]|rw [if_neg qo],(H.del 0).UK (en:=YL) (s:=1) 97 (fun _=>rfl)⟩
theorem af1 (o:Int) (w:World):Fc Tryz.prog 254 #[.int .u8 o] w (fun v w'=>(∃r,v=.int .i64 r∧r=YR o)∧Sat (WA w) w' []):=by
 refine Fc.of Tryz.func254 rfl k_i ?_
 have H:=Sat.start w
 refine bk ?_
 refine br (fun c1=>?_) (fun c1=>?_)
 ·replace c1:=ZR (c1)
  refine cT rfl<|Z6.mk ?_
  refine ⟨?_,?_⟩
  ·refine ⟨2,?_⟩
   refine ⟨?_,?_⟩
   ·refine int_eq ?_
    omega
   (unfold YR;repeat first|rw [if_pos qo]|rw [if_neg qo]|rw [if_pos k_F]|rw [if_neg k_v])
  exact H
 replace c1:=ZQ (c1)
 refine br (fun c2=>?_) (fun c2=>?_)
 ·replace c2:=ZR (c2)
  refine cT rfl<|Z6.mk ?_
  refine ⟨?_,?_⟩
  ·refine ⟨2,?_⟩
   refine ⟨?_,?_⟩
   ·refine int_eq ?_
    omega
   (unfold YR;repeat first|rw [if_pos qo]|rw [if_neg qo]|rw [if_pos k_F]|rw [if_neg k_v])
  exact H
 replace c2:=ZQ (c2)
 refine cI (fun c3=>?_) (fun c3=>?_)
 ·replace c3:=ZR (c3)
  refine Z6.mk ?_
  refine ⟨?_,?_⟩
  ·refine ⟨2,?_⟩
   refine ⟨?_,?_⟩
   ·refine int_eq ?_
    omega
   (unfold YR;repeat first|rw [if_pos qo]|rw [if_neg qo]|rw [if_pos k_F]|rw [if_neg k_v])
  exact H
 replace c3:=ZQ (c3)
 refine cI (fun c4=>?_) (fun c4=>?_)
 ·replace c4:=ZR (c4)
  refine cT (ZN qa)<|Z6.mk ?_
  refine ⟨?_,?_⟩
  ·refine ⟨3,?_⟩
   refine ⟨?_,?_⟩
   ·refine int_eq ?_
    omega
   (unfold YR;repeat first|rw [if_pos qo]|rw [if_neg qo]|rw [if_pos k_F]|rw [if_neg k_v])
  exact H
 replace c4:=ZQ (c4)
 refine cI (fun c5=>?_) (fun c5=>?_)
 ·replace c5:=ZR (c5)
  refine cT (ZN qa)<|Z6.mk ?_
  refine ⟨?_,?_⟩
  ·refine ⟨3,?_⟩
   refine ⟨?_,?_⟩
   ·refine int_eq ?_
    omega
   (unfold YR;repeat first|rw [if_pos qo]|rw [if_neg qo]|rw [if_pos k_F]|rw [if_neg k_v])
  exact H
 replace c5:=ZQ (c5)
 refine cI (fun c6=>?_) (fun c6=>?_)
 ·replace c6:=ZR (c6)
  refine cT (ZN qa)<|Z6.mk ?_
  refine ⟨?_,?_⟩
  ·refine ⟨3,?_⟩
   refine ⟨?_,?_⟩
   ·refine int_eq ?_
    omega
   (unfold YR;repeat first|rw [if_pos qo]|rw [if_neg qo]|rw [if_pos k_F]|rw [if_neg k_v])
  exact H
 replace c6:=ZQ (c6)
 refine br (fun c7=>?_) (fun c7=>?_)
 ·replace c7:=Xv (c7)
  refine cI (fun c8=>?_) (fun c8=>?_)
  ·replace c8:=Xv (c8)
   refine Z6.mk ?_
   refine ⟨?_,?_⟩
   ·refine ⟨3,?_⟩
    refine ⟨?_,?_⟩
    ·refine int_eq ?_
     omega
    (unfold YR;repeat first|rw [if_pos qo]|rw [if_neg qo]|rw [if_pos k_F]|rw [if_neg k_v])
   exact H
  replace c8:=Xu (c8)
  refine cF (Z5 qo)<|cF (Z5 qo) ?_
  refine Z7.mk (Fc.imp (YS.width _ _) ?_)
  rintro _ _ ⟨⟨r1,⟨rfl,h1⟩⟩,rfl⟩
  refine cI (fun c9=>?_) (fun c9=>?_)
  ·replace c9:=Yx (c9)
   refine Z6.mk ?_
   refine ⟨?_,?_⟩
   ·refine ⟨6,?_⟩
    refine ⟨?_,?_⟩
    ·refine int_eq ?_
     omega
    (unfold YR;repeat first|rw [if_pos qo]|rw [if_neg qo]|rw [if_pos k_F]|rw [if_neg k_v])
   exact H
  replace c9:=Yw (c9)
  refine cI (fun c10=>?_) (fun c10=>?_)
  ·replace c10:=ZR (c10)
   refine cT (ZN qa)<|Z6.mk ?_
   refine ⟨?_,?_⟩
   ·refine ⟨7,?_⟩
    refine ⟨?_,?_⟩
    ·refine int_eq ?_
     omega
    (unfold YR;repeat first|rw [if_pos qo]|rw [if_neg qo]|rw [if_pos k_F]|rw [if_neg k_v])
   exact H
  replace c10:=ZQ (c10)
  refine cI (fun c11=>?_) (fun c11=>?_)
  ·replace c11:=ZR (c11)
   refine Z6.mk ?_
   refine ⟨?_,?_⟩
   ·refine ⟨7,?_⟩
    refine ⟨?_,?_⟩
    ·refine int_eq ?_
     omega
    (unfold YR;repeat first|rw [if_pos qo]|rw [if_neg qo]|rw [if_pos k_F]|rw [if_neg k_v])
   exact H
  replace c11:=ZQ (c11)
  refine cI (fun c12=>?_) (fun c12=>?_)
  ·replace c12:=ZR (c12)
   refine Z6.mk ?_
   refine ⟨?_,?_⟩
   ·refine ⟨8,?_⟩
    refine ⟨?_,?_⟩
    ·refine int_eq ?_
     omega
    (unfold YR;repeat first|rw [if_pos qo]|rw [if_neg qo]|rw [if_pos k_F]|rw [if_neg k_v])
   exact H
  replace c12:=ZQ (c12)
  refine cI (fun c13=>?_) (fun c13=>?_)
  ·replace c13:=ZR (c13)
   refine Z6.mk ?_
   refine ⟨?_,?_⟩
   ·refine ⟨9,?_⟩
    refine ⟨?_,?_⟩
    ·refine int_eq ?_
     omega
    (unfold YR;repeat first|rw [if_pos qo]|rw [if_neg qo]|rw [if_pos k_F]|rw [if_neg k_v])
   exact H
  replace c13:=ZQ (c13)
  refine cF (YM qo)<|cF (Z5 qo)<|cF (Z5 qo)<|cF (Z5 qo)<|cF (Z5 qo)<|cF (Z5 qo) ?_
  refine Z7.mk (Fc.imp (YS.Mc _ _) ?_)
  rintro _ w1 ⟨u1,⟨k1,⟨b1,⟨KU,⟨rfl,⟨h2,H'⟩⟩⟩⟩⟩⟩
  refine H.XZ H' ?_
  clear H H'
  intro H
  have hn:=congrArg (fun q=>q.2.2) h2
  simp only at hn
  refine cI (fun c14=>?_) (fun c14=>?_)
  ·refine Z6.mk ?_
   refine ⟨?_,?_⟩
   ·refine ⟨1,?_⟩
    refine ⟨?_,?_⟩
    ·refine int_eq ?_
     omega
    (unfold YR;repeat first|rw [if_pos qo]|rw [if_neg qo]|rw [if_pos k_F]|rw [if_neg k_v])
   refine H.firsts 0<|fun H=>?_
   exact H
  refine Z6.mk ?_
  refine ⟨?_,?_⟩
  ·refine ⟨0,?_⟩
   refine ⟨?_,?_⟩
   ·refine int_eq ?_
    omega
   (unfold YR;repeat first|rw [if_pos qo]|rw [if_neg qo]|rw [if_pos k_F]|rw [if_neg k_v])
  refine H.firsts 0<|fun H=>?_
  exact H
 replace c7:=Xu (c7)
 refine cF rfl ?_
 refine cI (fun c8=>?_) (fun c8=>?_)
 ·replace c8:=ZR (c8)
  refine Z6.mk ?_
  refine ⟨?_,?_⟩
  ·refine ⟨4,?_⟩
   refine ⟨?_,?_⟩
   ·refine int_eq ?_
    omega
   (unfold YR;repeat first|rw [if_pos qo]|rw [if_neg qo]|rw [if_pos k_F]|rw [if_neg k_v])
  exact H
 replace c8:=ZQ (c8)
 refine cI (fun c9=>?_) (fun c9=>?_)
 ·replace c9:=ZR (c9)
  refine Z6.mk ?_
  refine ⟨?_,?_⟩
  ·refine ⟨5,?_⟩
   refine ⟨?_,?_⟩
   ·refine int_eq ?_
    omega
   (unfold YR;repeat first|rw [if_pos qo]|rw [if_neg qo]|rw [if_pos k_F]|rw [if_neg k_v])
  exact H
 replace c9:=ZQ (c9)
 refine Z7.mk (Fc.imp (YS.width _ _) ?_)
 rintro _ _ ⟨⟨r1,⟨rfl,h1⟩⟩,rfl⟩
 refine cI (fun c10=>?_) (fun c10=>?_)
 ·replace c10:=Yx (c10)
  refine Z6.mk ?_
  refine ⟨?_,?_⟩
  ·refine ⟨6,?_⟩
   refine ⟨?_,?_⟩
   ·refine int_eq ?_
    omega
   (unfold YR;repeat first|rw [if_pos qo]|rw [if_neg qo]|rw [if_pos k_F]|rw [if_neg k_v])
  exact H
 replace c10:=Yw (c10)
 refine cF (Z5 qo)<|cF (Z5 qo)<|cF (Z5 qo)<|cF (Z5 qo) ?_
 refine cI (fun c11=>?_) (fun c11=>?_)
 ·replace c11:=Xv (c11)
  refine cT (Ys qa)<|Z6.mk ?_
  refine ⟨?_,?_⟩
  ·refine ⟨1,?_⟩
   refine ⟨?_,?_⟩
   ·refine int_eq ?_
    omega
   (unfold YR;repeat first|rw [if_pos qo]|rw [if_neg qo]|rw [if_pos k_F]|rw [if_neg k_v])
  exact H
 replace c11:=Xu (c11)
 refine cI (fun c12=>?_) (fun c12=>?_)
 ·replace c12:=ZR (c12)
  refine cT (ZN qa)<|Z6.mk ?_
  refine ⟨?_,?_⟩
  ·refine ⟨1,?_⟩
   refine ⟨?_,?_⟩
   ·refine int_eq ?_
    omega
   (unfold YR;repeat first|rw [if_pos qo]|rw [if_neg qo]|rw [if_pos k_F]|rw [if_neg k_v])
  exact H
 replace c12:=ZQ (c12)
 refine cI (fun c13=>?_) (fun c13=>?_)
 ·replace c13:=ZR (c13)
  refine cT (ZN qa)<|Z6.mk ?_
  refine ⟨?_,?_⟩
  ·refine ⟨1,?_⟩
   refine ⟨?_,?_⟩
   ·refine int_eq ?_
    omega
   (unfold YR;repeat first|rw [if_pos qo]|rw [if_neg qo]|rw [if_pos k_F]|rw [if_neg k_v])
  exact H
 replace c13:=ZQ (c13)
 refine cI (fun c14=>?_) (fun c14=>?_)
 ·replace c14:=ZR (c14)
  refine cT (ZN qa)<|Z6.mk ?_
  refine ⟨?_,?_⟩
  ·refine ⟨1,?_⟩
   refine ⟨?_,?_⟩
   ·refine int_eq ?_
    omega
   (unfold YR;repeat first|rw [if_pos qo]|rw [if_neg qo]|rw [if_pos k_F]|rw [if_neg k_v])
  exact H
 replace c14:=ZQ (c14)
 refine cI (fun c15=>?_) (fun c15=>?_)
 ·replace c15:=ZR (c15)
  refine cT (ZN qa)<|Z6.mk ?_
  refine ⟨?_,?_⟩
  ·refine ⟨1,?_⟩
   refine ⟨?_,?_⟩
   ·refine int_eq ?_
    omega
   (unfold YR;repeat first|rw [if_pos qo]|rw [if_neg qo]|rw [if_pos k_F]|rw [if_neg k_v])
  exact H
 replace c15:=ZQ (c15)
 refine cI (fun c16=>?_) (fun c16=>?_)
 ·replace c16:=ZR (c16)
  refine Z6.mk ?_
  refine ⟨?_,?_⟩
  ·refine ⟨1,?_⟩
   refine ⟨?_,?_⟩
   ·refine int_eq ?_
    omega
   (unfold YR;repeat first|rw [if_pos qo]|rw [if_neg qo]|rw [if_pos k_F]|rw [if_neg k_v])
  exact H
 replace c16:=ZQ (c16)
 refine Z7.mk (Fc.imp (YS.Mc _ _) ?_)
 rintro _ w1 ⟨u1,⟨k1,⟨b1,⟨KU,⟨rfl,⟨h2,H'⟩⟩⟩⟩⟩⟩
 refine H.XZ H' ?_
 clear H H'
 intro H
 have hn:=congrArg (fun q=>q.2.2) h2
 simp only at hn
 refine cI (fun c17=>?_) (fun c17=>?_)
 ·refine Z6.mk ?_
  refine ⟨?_,?_⟩
  ·refine ⟨1,?_⟩
   refine ⟨?_,?_⟩
   ·refine int_eq ?_
    omega
   (unfold YR;repeat first|rw [if_pos qo]|rw [if_neg qo]|rw [if_pos k_F]|rw [if_neg k_v])
  refine H.firsts 0<|fun H=>?_
  exact H
 refine Z6.mk ?_
 refine ⟨?_,?_⟩
 ·refine ⟨0,?_⟩
  refine ⟨?_,?_⟩
  ·refine int_eq ?_
   omega
  (unfold YR;repeat first|rw [if_pos qo]|rw [if_neg qo]|rw [if_pos k_F]|rw [if_neg k_v])
 refine H.firsts 0<|fun H=>?_
 exact H
theorem TS (n:Int) (w:World):Fc Tryz.prog 255 #[.int .i64 n] w (fun v w'=>(∃b,v=.bool b∧(b=true↔XL n))∧w=w'):=by
 refine Fc.of Tryz.func255 rfl k_i ?_
 have H:=Sat.start w
 refine br (fun c1=>?_) (fun c1=>?_)
 ·replace c1:=Xv (c1)
  refine Z6.mk ?_
  exact ⟨⟨_,rfl,by unfold XL;simp [YY];omega⟩,rfl⟩
 replace c1:=Xu (c1)
 refine Z6.mk ?_
 exact ⟨⟨_,rfl,by unfold XL;simp [YY];omega⟩,rfl⟩
end YS
namespace YS
open Go YZ Go.RowKit
def ZG (n:Int):List Value:=[.int .i64 n]
def Us (n:Int):Prop:=WU n
theorem KT {x:ZU} (h:YR x.op=0):WK x=6:=by unfold WK;rw [if_pos h]
theorem ajW {x:ZU} (h:YR x.op≠0) (h2:16<x.to.length):WK x=2:=by unfold WK;rw [if_neg h,if_pos h2]
theorem IB {x:ZU} (h:YR x.op≠0) (h2:x.to.length≤16) (h3:(YR x.op≠4∧0<x.to.length)∨(YR x.op≠6∧x.b≠0)):WK x=1:=by unfold WK;rw [if_neg h,if_neg qo,if_pos h3]
theorem ahh {x:ZU} {q:Bool} (h:YR x.op≠0) (h2:x.to.length≤16) (h3:YR x.op=4∨x.to.length=0) (h4:YR x.op=6∨x.b=0) (hq:q=true↔Ze (YR x.op) x.a x.b∧∀n∈x.to,XL n):WK x=if q then 0 else 1:=by
 unfold WK
 rw [if_neg h,if_neg qo,if_neg qo]
 by_cases hg:Ze (YR x.op) x.a x.b∧∀n∈x.to,XL n
 ·rw [if_pos hg,if_pos (hq.2 hg)]
 ·rw [if_neg hg,if_neg (fun h=>hg (hq.1 h))]
theorem abm {p:Int→Prop} {l:List Int} {k:Nat} {x:Int} (hx:l[k]?=some x):(∀n∈l.take (k+1),p n)↔(∀n∈l.take k,p n)∧p x:=by
 rw [lBb,hx]
 simp only [Option.toList_some,List.mem_append,List.mem_singleton]
 exact ⟨fun h=>⟨fun n hn=>h n (.inl hn),h x (.inr rfl)⟩,fun h n hn=>hn.elim (h.1 n) (fun e=>e ▸ h.2)⟩
theorem Mh {P:Prop} {p:Int→Prop} {l:List Int} {k:Nat} {x:Int} {b:Bool} (hx:l[k]?=some x) (h:P∧∀n∈l.take k,p n) (hb:b=true↔p x):b=true↔P∧∀n∈l.take (k+1),p n:=by
 rw [abm hx,hb]
 exact ⟨fun q=>⟨h.1,h.2,q⟩,fun q=>q.2.2⟩
theorem al7 {P:Prop} {p:Int→Prop} {l:List Int} {k:Nat} {x:Int} (hx:l[k]?=some x) (h:¬(P∧∀n∈l.take k,p n)):false=true↔P∧∀n∈l.take (k+1),p n:=by
 rw [abm hx]
 exact ⟨nofun,fun q=>absurd ⟨q.1,q.2.1⟩ h⟩
theorem ajX {x:ZU} {k:Nat} (h:YR x.op≠0) (h2:x.to.length≤16) (h3:YR x.op=4∨x.to.length=0) (h4:YR x.op=6∨x.b=0) (hq:Ze (YR x.op) x.a x.b∧∀n∈x.to.take k,XL n) (hk:x.to.length≤k):WK x=0:=by
 rw [lxa hk] at hq
 rw [ahh h h2 h3 h4 (q:=true) ⟨fun _=>hq,fun _=>rfl⟩];rfl
theorem ajY {x:ZU} {k:Nat} (h:YR x.op≠0) (h2:x.to.length≤16) (h3:YR x.op=4∨x.to.length=0) (h4:YR x.op=6∨x.b=0) (hq:¬(Ze (YR x.op) x.a x.b∧∀n∈x.to.take k,XL n)) (hk:x.to.length≤k):WK x=1:=by
 rw [lxa hk] at hq
 rw [ahh h h2 h3 h4 (q:=false) ⟨nofun,fun h=>absurd h hq⟩];rfl
theorem abn {k a b:Int} (h:k=1∨k=7):Ze k a b↔a=0:=by unfold Ze;rw [if_pos h]
theorem OK {k a b:Int} (h:k=2):Ze k a b↔a=64∨a=127∨a=126:=by subst h;unfold Ze;simp
theorem af2 {k a b:Int} (h:k=8):Ze k a b↔-2147483648≤a∧a≤2147483647:=by subst h;unfold Ze;simp
theorem Mb {k a b:Int} (h:k=6):Ze k a b↔XL a∧XL b:=by subst h;unfold Ze;simp
theorem RD {k a b:Int} (h:k=3∨k=4∨k=5):Ze k a b↔XL a:=by unfold Ze;rw [if_neg qo,if_neg qo,if_neg qo,if_neg qo,if_pos h]
theorem af3 {k a b:Int} (h:k≠1) (h7:k≠7) (h2:k≠2) (h8:k≠8) (h6:k≠6) (h3:k≠3) (h4:k≠4) (h5:k≠5):Ze k a b↔True:=by unfold Ze;rw [if_neg qo,if_neg qo,if_neg qo,if_neg qo,if_neg qo]
theorem Ma {a:Int} (ha:WU a):Mt a (ZO .i64 (ZO .i32 a))=true↔-2147483648≤a∧a≤2147483647:=by
 have h:-2147483648≤ZO .i32 a∧ZO .i32 a≤2147483647∧(a=ZO .i32 a↔-2147483648≤a∧a≤2147483647):=by
  unfold ZO IntKind.wrap
  simp [IntKind.bits,IntKind.signed]
  split <;> omega
 rw [Sv qo,Y6]
 simp only [decide_eq_true_eq]
 exact h.2.2
theorem check (o a b:Int) (tv:Value) (to:List Int) (w:World) (ha:WU a) (hx:Rd ZG Us 1 w tv to):Fc Tryz.prog 234 #[.agg #[.int .u8 o,.int .i64 a,.int .i64 b,tv]] w (fun v w'=>(∃r,v=.int .i64 r∧r=WK ⟨o,a,b,to⟩)∧Sat (WA w) w' []):=by
 refine Fc.of Tryz.func234 rfl k_i ?_
 have H:=Sat.start w
 have hx:=hx.fz
 refine ZH H<|fun p1 w1 H=>Z9 rfl<|Z4 (H.at 0 rfl) 0 rfl rfl rfl ?_
 refine Z7.mk (Fc.imp (YS.af1 _ _) ?_)
 rintro _ w2 ⟨⟨r1,⟨rfl,h1⟩⟩,H'⟩
 refine H.XZ H' ?_
 clear H H'
 intro H
 refine aao (α:=Unit) (fun x_=>[]) (fun x_ w_=>(YR o≠0)∧(to.length≤16)∧(YR o=4∨to.length=0)∧(YR o=6∨b=0)∧Sat (WA w) w_ ([Pt p1 [.int .u8 o,.int .i64 a,.int .i64 b,tv] 196])) ?_ ?_
 ·refine cI (fun c1=>?_) (fun c1=>?_)
  ·replace c1:=ZR (c1)
   refine Z6.mk ?_
   refine ⟨?_,?_⟩
   ·refine ⟨6,?_⟩
    refine ⟨?_,?_⟩
    ·refine int_eq ?_
     omega
    exact (KT k_u).symm
   refine H.firsts 0<|fun H=>?_
   exact H
  replace c1:=ZQ (c1)
  refine Z9 rfl<|Z4 (H.at 0 rfl) 3 rfl rfl rfl<|Zw hx rfl ?_
  refine cI (fun c2=>?_) (fun c2=>?_)
  ·replace c2:=Yx (c2)
   refine Z6.mk ?_
   refine ⟨?_,?_⟩
   ·refine ⟨2,?_⟩
    refine ⟨?_,?_⟩
    ·refine int_eq ?_
     omega
    exact (ajW k_u k_u).symm
   refine H.firsts 0<|fun H=>?_
   exact H
  replace c2:=Yw (c2)
  refine br (fun c3=>?_) (fun c3=>?_)
  ·replace c3:=Ye (c3)
   refine Z9 rfl<|Z4 (H.at 0 rfl) 3 rfl rfl rfl<|Zw hx rfl ?_
   refine cI (fun c4=>?_) (fun c4=>?_)
   ·replace c4:=Yx (c4)
    refine cT (Y4 qa)<|Z6.mk ?_
    refine ⟨?_,?_⟩
    ·refine ⟨1,?_⟩
     refine ⟨?_,?_⟩
     ·refine int_eq ?_
      omega
     exact (IB k_u k_u k_u).symm
    refine H.firsts 0<|fun H=>?_
    exact H
   replace c4:=Yw (c4)
   refine br (fun c5=>?_) (fun c5=>?_)
   ·replace c5:=Ye (c5)
    refine Z9 rfl<|Z4 (H.at 0 rfl) 2 rfl rfl rfl ?_
    refine cI (fun c6=>?_) (fun c6=>?_)
    ·replace c6:=Ye (c6)
     refine Z6.mk ?_
     refine ⟨?_,?_⟩
     ·refine ⟨1,?_⟩
      refine ⟨?_,?_⟩
      ·refine int_eq ?_
       omega
      exact (IB k_u k_u k_u).symm
     refine H.firsts 0<|fun H=>?_
     exact H
    replace c6:=Yd (c6)
    refine Jn.mk (()) (ZT) ?_
    refine ⟨?_,?_⟩
    ·intro x1
     omega
    refine ⟨qo,?_⟩
    refine ⟨?_,?_⟩
    ·refine (Or.inr ?_)
     omega
    refine ⟨?_,?_⟩
    ·refine (Or.inr ?_)
     assumption
    exact H
   replace c5:=Yd (c5)
   refine cF rfl<|Jn.mk (()) (ZT) ?_
   refine ⟨?_,?_⟩
   ·intro x1
    omega
   refine ⟨qo,?_⟩
   refine ⟨?_,?_⟩
   ·refine (Or.inr ?_)
    omega
   refine ⟨?_,?_⟩
   ·refine (Or.inl ?_)
    omega
   exact H
  replace c3:=Yd (c3)
  refine cF rfl<|VA (Vg qo)<|Z9 rfl<|Z4 (H.at 0 rfl) 2 rfl rfl rfl ?_
  refine cI (fun c4=>?_) (fun c4=>?_)
  ·replace c4:=Ye (c4)
   refine Z6.mk ?_
   refine ⟨?_,?_⟩
   ·refine ⟨1,?_⟩
    refine ⟨?_,?_⟩
    ·refine int_eq ?_
     omega
    exact (IB k_u k_u k_u).symm
   refine H.firsts 0<|fun H=>?_
   exact H
  replace c4:=Yd (c4)
  refine Jn.mk (()) (ZT) ?_
  refine ⟨?_,?_⟩
  ·intro x1
   omega
  refine ⟨qo,?_⟩
  refine ⟨?_,?_⟩
  ·refine (Or.inl ?_)
   omega
  refine ⟨?_,?_⟩
  ·refine (Or.inr ?_)
   assumption
  exact H
 clear H
 rintro _ f_ w_ ⟨h0,h2,h3,h4,H⟩
 try simp only at h0 h2 h3 h4 H ⊢
 refine aao (α:=Bool) (fun x_=>[(4,.bool x_)]) (fun x_ w_=>(x_=true↔Ze (YR o) a b)∧Sat (WA w) w_ ([Pt p1 [.int .u8 o,.int .i64 a,.int .i64 b,tv] 196])) ?_ ?_
 ·refine cI (fun c1=>?_) (fun c1=>?_)
  ·replace c1:=ZR (c1)
   refine cT (ZN qa)<|Z9 rfl<|Z4 (H.at 0 rfl) 1 rfl rfl rfl<|Jn.mk (Mt a 0) (ZL rfl (ZT)) ?_
   refine ⟨?_,?_⟩
   ·exact Iff.trans (by simp [Y6]) (abn qo).symm
   exact H
  replace c1:=ZQ (c1)
  refine cI (fun c2=>?_) (fun c2=>?_)
  ·replace c2:=ZR (c2)
   refine Z9 rfl<|Z4 (H.at 0 rfl) 1 rfl rfl rfl<|Jn.mk (Mt a 0) (ZL rfl (ZT)) ?_
   refine ⟨?_,?_⟩
   ·exact Iff.trans (by simp [Y6]) (abn qo).symm
   exact H
  replace c2:=ZQ (c2)
  refine cI (fun c3=>?_) (fun c3=>?_)
  ·replace c3:=ZR (c3)
   refine Z9 rfl<|Z4 (H.at 0 rfl) 1 rfl rfl rfl ?_
   refine br (fun c4=>?_) (fun c4=>?_)
   ·replace c4:=ZR (c4)
    refine Jn.mk (true) (ZL rfl (ZT)) ?_
    refine ⟨?_,?_⟩
    ·exact Iff.trans (by simp;omega) (OK qo).symm
    exact H
   replace c4:=ZQ (c4)
   refine Z9 rfl<|Z4 (H.at 0 rfl) 1 rfl rfl rfl ?_
   refine br (fun c5=>?_) (fun c5=>?_)
   ·replace c5:=ZR (c5)
    refine Jn.mk (true) (ZL rfl (ZT)) ?_
    refine ⟨?_,?_⟩
    ·exact Iff.trans (by simp;omega) (OK qo).symm
    exact H
   replace c5:=ZQ (c5)
   refine Z9 rfl<|Z4 (H.at 0 rfl) 1 rfl rfl rfl<|Jn.mk (Mt a 126) (ZL rfl (ZT)) ?_
   refine ⟨?_,?_⟩
   ·exact Iff.trans (by simp [Y6];omega) (OK qo).symm
   exact H
  replace c3:=ZQ (c3)
  refine cI (fun c4=>?_) (fun c4=>?_)
  ·replace c4:=ZR (c4)
   refine Z9 rfl<|Z4 (H.at 0 rfl) 1 rfl rfl rfl<|Z9 rfl<|Z4 (H.at 0 rfl) 1 rfl rfl rfl<|Zu rfl rfl<|Zu rfl rfl<|Jn.mk (Mt a (ZO IntKind.i64 (ZO IntKind.i32 a))) (ZL rfl (ZT)) ?_
   refine ⟨?_,?_⟩
   ·exact Iff.trans (Ma ha) (af2 qo).symm
   exact H
  replace c4:=ZQ (c4)
  refine cI (fun c5=>?_) (fun c5=>?_)
  ·replace c5:=ZR (c5)
   refine Z9 rfl<|Z4 (H.at 0 rfl) 1 rfl rfl rfl ?_
   refine Z7.mk (Fc.imp (YS.TS _ _) ?_)
   rintro _ _ ⟨⟨b1,⟨rfl,h5⟩⟩,rfl⟩
   refine br (fun c6=>?_) (fun c6=>?_)
   ·replace c6:=h5.1 (c6)
    refine Z9 rfl<|Z4 (H.at 0 rfl) 2 rfl rfl rfl ?_
    refine Z7.mk (Fc.imp (YS.TS _ _) ?_)
    rintro _ _ ⟨⟨b2,⟨rfl,h6⟩⟩,rfl⟩
    refine Jn.mk (b2) (ZL rfl (ZT)) ?_
    refine ⟨?_,?_⟩
    ·exact Iff.trans (by simp [*]) (Mb qo).symm
    exact H
   replace c6:=Rc h5 (c6)
   refine Jn.mk (false) (ZL rfl (ZT)) ?_
   refine ⟨?_,?_⟩
   ·exact Iff.trans (by simp [*]) (Mb qo).symm
   exact H
  replace c5:=ZQ (c5)
  refine cI (fun c6=>?_) (fun c6=>?_)
  ·replace c6:=ZR (c6)
   refine cT (ZN qa)<|Z9 rfl<|Z4 (H.at 0 rfl) 1 rfl rfl rfl ?_
   refine Z7.mk (Fc.imp (YS.TS _ _) ?_)
   rintro _ _ ⟨⟨b1,⟨rfl,h5⟩⟩,rfl⟩
   refine Jn.mk (b1) (ZL rfl (ZT)) ?_
   refine ⟨?_,?_⟩
   ·exact Iff.trans qa (RD qo).symm
   exact H
  replace c6:=ZQ (c6)
  refine cI (fun c7=>?_) (fun c7=>?_)
  ·replace c7:=ZR (c7)
   refine cT (ZN qa)<|Z9 rfl<|Z4 (H.at 0 rfl) 1 rfl rfl rfl ?_
   refine Z7.mk (Fc.imp (YS.TS _ _) ?_)
   rintro _ _ ⟨⟨b1,⟨rfl,h5⟩⟩,rfl⟩
   refine Jn.mk (b1) (ZL rfl (ZT)) ?_
   refine ⟨?_,?_⟩
   ·exact Iff.trans qa (RD qo).symm
   exact H
  replace c7:=ZQ (c7)
  refine cI (fun c8=>?_) (fun c8=>?_)
  ·replace c8:=ZR (c8)
   refine Z9 rfl<|Z4 (H.at 0 rfl) 1 rfl rfl rfl ?_
   refine Z7.mk (Fc.imp (YS.TS _ _) ?_)
   rintro _ _ ⟨⟨b1,⟨rfl,h5⟩⟩,rfl⟩
   refine Jn.mk (b1) (ZL rfl (ZT)) ?_
   refine ⟨?_,?_⟩
   ·exact Iff.trans qa (RD qo).symm
   exact H
  replace c8:=ZQ (c8)
  refine Jn.mk (true) (ZL rfl (ZT)) ?_
  refine ⟨?_,?_⟩
  ·exact Iff.trans qs (af3 qo qo qo qo qo qo qo qo).symm
  exact H
 clear H
 rintro q f_ w_ ⟨hq,H⟩
 try simp only at hq H ⊢
 refine Z9 rfl<|Z4 (H.at 0 rfl) 3 rfl rfl rfl<|Zw hx rfl ?_
 refine YP.rule (α:=Nat × Bool) (0,q) (fun x_=>[(85,.int .i64 x_.1),(4,.bool x_.2)]) (fun x_ w_=>(x_.1≤to.length)∧(x_.2=true↔Ze (YR o) a b∧∀n∈to.take x_.1,XL n)∧Sat (WA w) w_ ([Pt p1 [.int .u8 o,.int .i64 a,.int .i64 b,tv] 196])) (fun x_=>to.length-x_.1) ?_ ?_ ?_
 ·exact k_b
 ·try simp only
  refine ⟨qo,?_⟩
  refine ⟨?_,?_⟩
  ·(rw [hq];simp)
  exact H
 clear H
 rintro ⟨k,u⟩ f_ w_ ⟨hk,hu,H⟩
 try simp only at hk hu H ⊢
 refine cI (fun c1=>?_) (fun c1=>?_)
 ·replace c1:=Yx (c1)
  refine bk ?_
  obtain ⟨x1,hx1⟩:∃x,(to)[(k)]?=some x:=⟨_,laa qo⟩
  obtain ⟨b1,o1,E1,F1,ZE⟩:=ZZ.Y1 hx hx1
  refine ZJ E1 rfl rfl rfl<|Z4 (H.XQ F1) 0 rfl rfl rfl ?_
  refine br (fun c2=>?_) (fun c2=>?_)
  ·replace c2:=hu.1 (c2)
   refine Z7.mk (Fc.imp (YS.TS _ _) ?_)
   rintro _ _ ⟨⟨b2,⟨rfl,h5⟩⟩,rfl⟩
   refine ZX qo ?_
   refine WN.mk ((k+1,b2)) (Zo rfl k_c (ZL rfl (ZT))) ?_ ?_
   ·refine ⟨qo,?_⟩
    refine ⟨?_,?_⟩
    ·exact Mh hx1 qa qa
    exact H
   omega
  replace c2:=Rc hu (c2)
  refine ZX qo ?_
  refine WN.mk ((k+1,false)) (Zo rfl k_c (ZL rfl (ZT))) ?_ ?_
  ·refine ⟨qo,?_⟩
   refine ⟨?_,?_⟩
   ·exact al7 hx1 qa
   exact H
  omega
 replace c1:=Yw (c1)
 refine cI (fun c2=>?_) (fun c2=>?_)
 ·replace c2:=Rc hu (Si (c2))
  refine Z6.mk ?_
  refine ⟨?_,?_⟩
  ·refine ⟨1,?_⟩
   refine ⟨?_,?_⟩
   ·refine int_eq ?_
    omega
   exact (ajY (k:=k) k_u k_u k_u k_u qa k_u).symm
  refine H.firsts 0<|fun H=>?_
  exact H
 replace c2:=hu.1 (Sh (c2))
 refine Z6.mk ?_
 refine ⟨?_,?_⟩
 ·refine ⟨0,?_⟩
  refine ⟨?_,?_⟩
  ·refine int_eq ?_
   omega
  exact (ajX (k:=k) k_u k_u k_u k_u qa k_u).symm
 refine H.firsts 0<|fun H=>?_
 exact H
end YS
namespace YS
open Go Go.RowKit YZ
structure Za where
 op:Int
 a:Int
 b:Int
 tv:Value
 to:List Int
def Za.d (x:Za):ZU:=⟨x.op,x.a,x.b,x.to⟩
def Kr (x:Za):List Value:=[.int .u8 x.op,.int .i64 x.a,.int .i64 x.b,x.tv]
def DO (H:Hv) (x:Za):Prop:=U8 x.op∧WU x.a∧WU x.b∧VS (RE ZG Us) 1 H x.tv x.to
structure okV (g:Zv) (x:Za):Prop where
 op:U8 x.op
 a:WU x.a
 b:WU x.b
 to:ZZ g ZG Us 1 x.tv x.to
theorem okV.ext {g g':Zv} {x:Za} (h:okV g x) (E:Ext g g'):okV g' x:=⟨h.op,h.a,h.b,h.to.ext E⟩
theorem okV.of {g:Zv} {H:Hv} {x:Za} (h:DO H x) (hh:K3 H (Gh g)):okV g x:=⟨h.1,h.2.1,h.2.2.1,h.2.2.2.mono (RE.mono' ZG Us) hh⟩
section
variable {H:Type} {enc:TypeId × Value→H} {w:World} {sp:Nat→Bool} {held:Bool}
theorem Uk (cs:List Value) (h:TT [.int .i64] cs):∃x,cs=ZG x∧Us x:=by
 obtain ⟨_,_,rfl,⟨a,rfl,ha⟩,rfl⟩:=h
 exact ⟨a,rfl,ha⟩
theorem aea (cs:List Value) (h:TT [.int .u8] cs):∃x,cs=YL x∧U8 x:=by
 obtain ⟨_,_,rfl,⟨a,rfl,ha⟩,rfl⟩:=h
 exact ⟨a,rfl,ha⟩
theorem adg:Lf enc Tryz.prog w sp held 31 (fun H cs xs=>∃v,cs=[v]∧VS (RE ZG Us) 1 H v xs) (fun xs=>(xs.map (fun x=>W9 (ZG x)+1)).sum+1+0 * xs.length) :=
 N2 1 rfl (by decide) Tryz.underlying31 (VV 6 rfl Uk)
theorem af4 {α:Type} (f:α→Nat) (xs:List α):xs.length≤(xs.map (fun x=>f x+1)).sum:=by
 induction xs with
 | nil=>exact lRa _
 | cons a r ih=>simp only [List.length_cons,List.map_cons,List.sum_cons];omega
theorem aeb:Lf enc Tryz.prog w sp held 196 (fun H cs x=>cs=Kr x∧DO H x) (fun x=>x.to.length):=by
 refine (Vu 4 Tryz.underlying196 rfl (Zd rfl (VV (en:=YL) (ok:=U8) 6 rfl aea) (Zd rfl (VV (en:=ZG) (ok:=Us) 6 rfl Uk) (Zd rfl (VV (en:=ZG) (ok:=Us) 6 rfl Uk) (Zd rfl adg Ul))))).map ?_
 rintro H cs ⟨o,a,b,to,_⟩ ⟨hl,⟨h1,Hz⟩,⟨h2,Ew⟩,⟨h3,h3'⟩,⟨v,h4,h5⟩,_⟩
 refine ⟨⟨o,a,b,v,to⟩,⟨?_,Hz,Ew,h3',h5⟩,by have:=af4 (fun x=>W9 (ZG x)) to;show to.length≤_;dsimp only;omega⟩
 match cs,hl with
 | [c0,c1,c2,c3],_ =>
  have e1:[c0]=YL o:=h1
  have e2:[c1]=ZG a:=h2
  have e3:[c2]=ZG b:=h3
  have e4:[c3]=[v]:=h4
  simp only [YL,ZG,List.cons.injEq,and_true] at e1 e2 e3 e4
  show _=[_,_,_,_]
  rw [e1,e2,e3,e4]
end
end YS
namespace YS
open Go YZ Go.RowKit
theorem acv {α:Type} {xs ys:List α} {i:Nat} (h:∀q,q<i→xs[q]?=ys[q]?) (h1:xs[i]?=ys[i]?):∀q,q<i+1→xs[q]?=ys[q]?:=fun q hq=>by
 rcases lEa q i with h2|h2
 ·exact h q h2
 ·rw [show q=i by omega];exact h1
theorem aec {α:Type} {xs ys:List α} {i:Nat} (h1:xs.length≤i) (h2:ys.length≤i) (h:∀q,q<i→xs[q]?=ys[q]?):xs=ys:=by
 apply lJa
 intro q
 rcases lEa q i with h3|h3
 ·exact h q h3
 ·rw [lSa qo,lSa qo]
end YS
namespace Zk
open Go YZ Go.RowKit
open YS
section
variable {g:Zv} {w:World} {l:List As} {e:TypeId} {s j h:Nat} {α:Type} {en:α→List Value} {v v':Value} {xs:List α}
theorem _root_.Go.Proofs.YtakpnepblgfknaaGreatDoor.YZ.Sat.L9 (H:Sat g w l) (j:Nat) (hj:l[j]?=some (Sl e s en v xs)) (V:Vw v s xs.length 0 h v'):Sat g w (l.set j (Sl e s en v' (xs.take h))):=by
 obtain ⟨ad,cap,hv,hh,hnc,SB,ha,rfl⟩:=V
 have ho:=H.off j hj
 refine H.O4 (lo:=0) hj ?_ (Gr.same w ?_)
 ·rcases ho.1 with ⟨h1,h2⟩|⟨gb,o,cap',cur,h1,h2,h3,h4,h5,h6,h7⟩
  ·subst h2
   rw [h1] at hv
   injection hv with e1 e2 e3
   subst e1;subst e3
   have:h=0:=by simpa using hh
   subst this
   exact ⟨.inl ⟨rfl,by simp⟩,ho.2⟩
  ·rw [h1] at hv
   injection hv with e1 e2 e3
   subst e1;subst e3
   refine ⟨.inr ⟨gb,o,cap',cur,?_,h2,h3,h4,by rw [lla];omega,h6,?_⟩,ho.2⟩
   ·rw [lla,lob hh]
    simp [Addr.add_zero']
   ·rw [lla,lob hh,←Ut ho.2 xs h hh,←h7,List.take_take]
    congr 1
    have:=lLa s hh
    omega
 ·rcases ho.1 with ⟨h1,h2⟩|⟨gb,o,cap',cur,h1,h2,h3,h4,h5,h6,h7⟩
  ·rw [h1] at hv
   injection hv with e1 e2 e3
   subst e1;subst e3
   left;rw [h1];simp [Value.ownBlock]
  ·rw [h1] at hv
   injection hv with e1 e2 e3
   subst e1;subst e3
   left;rw [h1];simp [Value.ownBlock,Addr.add_zero']
end
theorem Xo (w:World):Fc Tryz.prog 229 #[] w (fun v w'=>∃p vo vl,v=.pointer (some ⟨p,0,none⟩)∧Sat (WA w) w' [Pt p [vo,vl,.bool false] 324,Sl 3 1 ZG vo OY.op,Sl 5 1 YL vl OY.last]):=by
 refine Fc.of Tryz.func229 rfl k_i ?_
 have H:=Sat.start w
 refine ZY H rfl rfl rfl rfl<|fun p1 w1 H=>ZY H rfl rfl rfl rfl<|fun p2 w2 H=>Zf rfl rfl rfl<|ZH H<|fun p3 w1 H=>H.WI (n:=1) (en:=YL) (s:=1) 1 rfl [_] rfl rfl (fun _=>rfl) rfl<|fun H=>H.WI (n:=1) (en:=ZG) (s:=1) 2 rfl [_] rfl rfl (fun _=>rfl) rfl<|fun H=>Z6.mk ?_
 refine ⟨p3,Value.slice (some { block:=p1,off:=0 }) 1 1,Value.slice (some { block:=p2,off:=0 }) 1 1,?_⟩
 refine ⟨rfl,?_⟩
 refine H.Z8 [1,2,2]<|fun H=>?_
 exact H
section
variable {g:Zv} {w:World} {l:List As}
theorem L8 {op last:List Int} {o k:Int} (ho:o=2∨o=3∨o=4) (h:12≤op.length-1):Zs ⟨op,last,false⟩ o k=(⟨op,last,false⟩,-2,7):=by
 unfold Zs;rw [if_neg qs,if_pos ho,if_pos h]
theorem L7 {op last:List Int} {o k:Int} (ho:o=2∨o=3∨o=4) (h:op.length-1<12):Zs ⟨op,last,false⟩ o k=(⟨op++[k],last++[o],false⟩,-2,0):=by
 unfold Zs;rw [if_neg qs,if_pos ho,if_neg k_u]
theorem acf {op last:List Int} {o k x:Int} (ho:o=5) (hx:last[op.length-1]?=some x) (h:x≠4):Zs ⟨op,last,false⟩ o k=(⟨op,last,false⟩,-2,4):=by
 unfold Zs;rw [if_neg qs,if_neg qo,if_pos ho,if_pos (by simp only [List.getD_eq_getElem?_getD,hx];exact h)]
theorem af5 {op last:List Int} {o k x y:Int} (ho:o=5) (hx:last[op.length-1]?=some x) (h:x=4) (hy:op[op.length-1]?=some y):Zs ⟨op,last,false⟩ o k=(⟨op,last.set (op.length-1) 5,false⟩,y,0):=by
 unfold Zs;rw [if_neg qs,if_neg qo,if_pos ho,if_neg (by simp only [List.getD_eq_getElem?_getD,hx];simpa using h)]
 simp only [List.getD_eq_getElem?_getD,hy];rfl
theorem ah5 {op last:List Int} {o k y:Int} (ho:o=11) (hy:op[op.length-1]?=some y):Zs ⟨op,last,false⟩ o k=(⟨op.take (op.length-1),last.take (op.length-1),decide (op.length-1=0)⟩,y,0):=by
 unfold Zs;rw [if_neg qs,if_neg qo,if_neg qo,if_pos ho]
 simp only [List.getD_eq_getElem?_getD,hy];rfl
theorem af6 {op last:List Int} {o k y:Int} (ho:o=11) (hy:op[op.length-1]?=some y) (hp:0<op.length):Zs ⟨op,last,false⟩ o k=(⟨op.take (op.length-1),last.take (op.length-1),Mt ((op.length:Int)-1) 0⟩,y,0):=by
 rw [ah5 ho hy,Y6,show decide ((op.length:Int)-1=0)=decide (op.length-1=0) from decide_eq_decide.2 qo]
theorem aed {op last:List Int} {o k:Int} (h2:o≠2) (h3:o≠3) (h4:o≠4) (h5:o≠5) (h11:o≠11):Zs ⟨op,last,false⟩ o k=(⟨op,last,false⟩,-2,0):=by
 unfold Zs;rw [if_neg qs,if_neg qo,if_neg h5,if_neg h11]
theorem next {p:Nat} {vo vl:Value} (st:NS) (hst:Gu st) (H:Sat g w (Pt p [vo,vl,.bool st.over] 324::Sl 3 1 ZG vo st.op::Sl 5 1 YL vl st.last::l)) (o a b k:Int) (tv:Value) :
  Fc Tryz.prog 230 #[.pointer (some ⟨p,0,none⟩),.agg #[.int .u8 o,.int .i64 a,.int .i64 b,tv],.int .i64 k] w
  (fun v w'=>∃(op' last':List Int) (ov':Bool) (Tt I0:Value) (is e:Int),v=.tuple #[.int .i64 is,.int .i64 e]∧Zs st o k=(⟨op',last',ov'⟩,is,e)∧Sat g w' (Pt p [Tt,I0,.bool ov'] 324::Sl 3 1 ZG Tt op'::Sl 5 1 YL I0 last'::l)):=by
 refine Fc.of Tryz.func230 rfl k_i ?_
 obtain ⟨hs1,Jd,hs3⟩:=hst
 obtain ⟨op,last,ov⟩:=st
 simp only at hs1 Jd hs3 H
 cases ov
 ·have hs4:=Jd rfl
  clear Jd
  refine ZH H<|fun p1 w1 H=>Z9 rfl<|Z4 (H.at 1 rfl) 0 rfl rfl rfl<|YJ H 2 rfl rfl<|ZX qo<|bk<|Z9 rfl<|Z4 (H.at 1 rfl) 2 rfl rfl rfl<|cF rfl<|Z9 rfl<|Z4 (H.at 0 rfl) 0 rfl rfl rfl ?_
  refine cI (fun c1=>?_) (fun c1=>?_)
  ·replace c1:=ZR (c1)
   refine cT (ZN qa) ?_
   refine cI (fun c2=>?_) (fun c2=>?_)
   ·replace c2:=Xv (c2)
    refine Z6.mk ?_
    refine ⟨op,last,false,vo,vl,-2,7,?_⟩
    refine ⟨rfl,?_⟩
    refine ⟨?_,?_⟩
    ·exact L8 qo qo
    refine H.Z8 [3,3,3]<|fun H=>H.drop 3<|fun H=>?_
    exact H
   replace c2:=Xu (c2)
   refine Z9 rfl<|Z4 (H.at 1 rfl) 0 rfl rfl rfl<|ZY H rfl rfl rfl rfl<|fun p2 w2 H=>Wk (ys:=[_]) 8 H 3 rfl (H.at 0 rfl) rfl (fun y _=>rfl) rfl rfl rfl qo qo<|fun v1=>?_
   intro w1 H
   refine Z9 rfl<|XA H 2 rfl rfl rfl (H.one 3 rfl)<|fun w2 H=>ZM H [] [(0,.pure),(1,.pure),(2,.pure),(3,.pure),(4,.held),(5,.pure),(6,.held),(7,.forced),(8,.free),(9,.pure),(10,.pure),(11,.free)] mixed k_i k_i<|fun w1 H=>tk (fun wx HS=>Z9 rfl ⟨rfl,rfl⟩)<|tk (fun wx HS=>Z4 (HS.at 2 rfl) 1 rfl rfl rfl ⟨rfl,rfl⟩)<|tk (fun wx HS=>Z9 rfl ⟨rfl,rfl⟩)<|tk (fun wx HS=>Z4 (HS.at 1 rfl) 0 rfl rfl rfl ⟨rfl,rfl⟩)<|ZY H rfl rfl rfl rfl<|fun p3 w2 H=>Yt.mk (H.drop 0 (fun H=>H))<|Wk (ys:=[_]) 1 H 5 rfl (H.at 0 rfl) rfl (fun y _=>rfl) rfl rfl rfl qo qo<|fun v2=>?_
   intro w1 H
   refine tk (fun wx HS=>Z9 rfl ⟨rfl,rfl⟩)<|XA H 3 rfl rfl rfl (H.one 5 rfl)<|fun w2 H=>Z6.mk ?_
   refine ⟨op++[k],last++[o],false,v1,v2,-2,0,?_⟩
   refine ⟨rfl,?_⟩
   refine ⟨?_,?_⟩
   ·exact L7 qo qo
   refine H.Z8 [5,5,5]<|fun H=>H.drop 5<|fun H=>H.drop 4<|fun H=>H.drop 3<|fun H=>?_
   exact H
  replace c1:=ZQ (c1)
  refine Z9 rfl<|Z4 (H.at 0 rfl) 0 rfl rfl rfl ?_
  refine cI (fun c2=>?_) (fun c2=>?_)
  ·replace c2:=ZR (c2)
   refine cT (ZN qa) ?_
   refine cI (fun c3=>?_) (fun c3=>?_)
   ·replace c3:=Xv (c3)
    refine Z6.mk ?_
    refine ⟨op,last,false,vo,vl,-2,7,?_⟩
    refine ⟨rfl,?_⟩
    refine ⟨?_,?_⟩
    ·exact L8 qo qo
    refine H.Z8 [3,3,3]<|fun H=>H.drop 3<|fun H=>?_
    exact H
   replace c3:=Xu (c3)
   refine Z9 rfl<|Z4 (H.at 1 rfl) 0 rfl rfl rfl<|ZY H rfl rfl rfl rfl<|fun p2 w2 H=>Wk (ys:=[_]) 8 H 3 rfl (H.at 0 rfl) rfl (fun y _=>rfl) rfl rfl rfl qo qo<|fun v1=>?_
   intro w1 H
   refine Z9 rfl<|XA H 2 rfl rfl rfl (H.one 3 rfl)<|fun w2 H=>ZM H [] [(0,.pure),(1,.pure),(2,.pure),(3,.pure),(4,.held),(5,.pure),(6,.held),(7,.forced),(8,.free),(9,.pure),(10,.pure),(11,.free)] mixed k_i k_i<|fun w1 H=>tk (fun wx HS=>Z9 rfl ⟨rfl,rfl⟩)<|tk (fun wx HS=>Z4 (HS.at 2 rfl) 1 rfl rfl rfl ⟨rfl,rfl⟩)<|tk (fun wx HS=>Z9 rfl ⟨rfl,rfl⟩)<|tk (fun wx HS=>Z4 (HS.at 1 rfl) 0 rfl rfl rfl ⟨rfl,rfl⟩)<|ZY H rfl rfl rfl rfl<|fun p3 w2 H=>Yt.mk (H.drop 0 (fun H=>H))<|Wk (ys:=[_]) 1 H 5 rfl (H.at 0 rfl) rfl (fun y _=>rfl) rfl rfl rfl qo qo<|fun v2=>?_
   intro w1 H
   refine tk (fun wx HS=>Z9 rfl ⟨rfl,rfl⟩)<|XA H 3 rfl rfl rfl (H.one 5 rfl)<|fun w2 H=>Z6.mk ?_
   refine ⟨op++[k],last++[o],false,v1,v2,-2,0,?_⟩
   refine ⟨rfl,?_⟩
   refine ⟨?_,?_⟩
   ·exact L7 qo qo
   refine H.Z8 [5,5,5]<|fun H=>H.drop 5<|fun H=>H.drop 4<|fun H=>H.drop 3<|fun H=>?_
   exact H
  replace c2:=ZQ (c2)
  refine Z9 rfl<|Z4 (H.at 0 rfl) 0 rfl rfl rfl ?_
  refine cI (fun c3=>?_) (fun c3=>?_)
  ·replace c3:=ZR (c3)
   refine cI (fun c4=>?_) (fun c4=>?_)
   ·replace c4:=Xv (c4)
    refine Z6.mk ?_
    refine ⟨op,last,false,vo,vl,-2,7,?_⟩
    refine ⟨rfl,?_⟩
    refine ⟨?_,?_⟩
    ·exact L8 qo qo
    refine H.Z8 [3,3,3]<|fun H=>H.drop 3<|fun H=>?_
    exact H
   replace c4:=Xu (c4)
   refine Z9 rfl<|Z4 (H.at 1 rfl) 0 rfl rfl rfl<|ZY H rfl rfl rfl rfl<|fun p2 w2 H=>Wk (ys:=[_]) 8 H 3 rfl (H.at 0 rfl) rfl (fun y _=>rfl) rfl rfl rfl qo qo<|fun v1=>?_
   intro w1 H
   refine Z9 rfl<|XA H 2 rfl rfl rfl (H.one 3 rfl)<|fun w2 H=>ZM H [] [(0,.pure),(1,.pure),(2,.pure),(3,.pure),(4,.held),(5,.pure),(6,.held),(7,.forced),(8,.free),(9,.pure),(10,.pure),(11,.free)] mixed k_i k_i<|fun w1 H=>tk (fun wx HS=>Z9 rfl ⟨rfl,rfl⟩)<|tk (fun wx HS=>Z4 (HS.at 2 rfl) 1 rfl rfl rfl ⟨rfl,rfl⟩)<|tk (fun wx HS=>Z9 rfl ⟨rfl,rfl⟩)<|tk (fun wx HS=>Z4 (HS.at 1 rfl) 0 rfl rfl rfl ⟨rfl,rfl⟩)<|ZY H rfl rfl rfl rfl<|fun p3 w2 H=>Yt.mk (H.drop 0 (fun H=>H))<|Wk (ys:=[_]) 1 H 5 rfl (H.at 0 rfl) rfl (fun y _=>rfl) rfl rfl rfl qo qo<|fun v2=>?_
   intro w1 H
   refine tk (fun wx HS=>Z9 rfl ⟨rfl,rfl⟩)<|XA H 3 rfl rfl rfl (H.one 5 rfl)<|fun w2 H=>Z6.mk ?_
   refine ⟨op++[k],last++[o],false,v1,v2,-2,0,?_⟩
   refine ⟨rfl,?_⟩
   refine ⟨?_,?_⟩
   ·exact L7 qo qo
   refine H.Z8 [5,5,5]<|fun H=>H.drop 5<|fun H=>H.drop 4<|fun H=>H.drop 3<|fun H=>?_
   exact H
  replace c3:=ZQ (c3)
  refine Z9 rfl<|Z4 (H.at 0 rfl) 0 rfl rfl rfl ?_
  refine cI (fun c4=>?_) (fun c4=>?_)
  ·replace c4:=ZR (c4)
   refine Z9 rfl<|Z4 (H.at 1 rfl) 1 rfl rfl rfl ?_
   obtain ⟨x1,hx1⟩:∃x,(last)[((op.length)-1)]?=some x:=⟨_,laa qo⟩
   obtain ⟨b1,o1,E1⟩:=H.Y1 3 rfl ((op.length)-1) qo
   refine ZJ E1 qo rfl rfl<|Z4 (H.el 3 rfl E1 hx1) 0 rfl rfl rfl ?_
   refine cI (fun c5=>?_) (fun c5=>?_)
   ·replace c5:=Ye (c5)
    refine Z6.mk ?_
    refine ⟨op,last,false,vo,vl,-2,4,?_⟩
    refine ⟨rfl,?_⟩
    refine ⟨?_,?_⟩
    ·exact acf qo hx1 qa
    refine H.Z8 [3,3,3]<|fun H=>H.drop 3<|fun H=>?_
    exact H
   replace c5:=Yd (c5)
   refine Z9 rfl<|Z4 (H.at 1 rfl) 1 rfl rfl rfl<|ZJ E1 qo rfl rfl<|YB H 3 rfl E1 hx1 0 (5) rfl rfl rfl rfl<|fun w2 H=>Z9 rfl<|Z4 (H.at 1 rfl) 0 rfl rfl rfl ?_
   obtain ⟨x2,Rm⟩:∃x,(op)[((op.length)-1)]?=some x:=⟨_,laa qo⟩
   obtain ⟨b2,o2,E2⟩:=H.Y1 2 rfl ((op.length)-1) qo
   refine ZJ E2 qo rfl rfl<|Z4 (H.el 2 rfl E2 Rm) 0 rfl rfl rfl<|Z6.mk ?_
   refine ⟨op,last.set (op.length-1) 5,false,vo,vl,x2,0,?_⟩
   refine ⟨rfl,?_⟩
   refine ⟨?_,?_⟩
   ·exact af5 qo hx1 qa qa
   refine H.Z8 [3,3,3]<|fun H=>H.drop 3<|fun H=>?_
   exact H
  replace c4:=ZQ (c4)
  refine Z9 rfl<|Z4 (H.at 0 rfl) 0 rfl rfl rfl ?_
  refine cI (fun c5=>?_) (fun c5=>?_)
  ·replace c5:=ZR (c5)
   refine Z9 rfl<|Z4 (H.at 1 rfl) 0 rfl rfl rfl ?_
   obtain ⟨x1,hx1⟩:∃x,(op)[((op.length)-1)]?=some x:=⟨_,laa qo⟩
   obtain ⟨b1,o1,E1⟩:=H.Y1 2 rfl ((op.length)-1) qo
   refine ZJ E1 qo rfl rfl<|Z4 (H.el 2 rfl E1 hx1) 0 rfl rfl rfl<|ZM H [] [(0,.pure),(1,.pure),(2,.pure),(3,.pure),(4,.pure),(5,.held),(6,.pure),(7,.pure),(8,.pure),(9,.pure),(10,.pure),(11,.held),(12,.pure),(13,.pure),(14,.pure),(15,.pure),(16,.free),(17,.pure),(18,.pure),(19,.free)] mixed k_i k_i<|fun w2 H=>tk (fun wx HS=>Z9 rfl ⟨rfl,rfl⟩)<|tk (fun wx HS=>Z4 (HS.at 1 rfl) 0 rfl rfl rfl ⟨rfl,rfl⟩) ?_
   obtain ⟨v1,V1⟩:=H.vw 2 rfl (0) (((op.length)-1)) qo qo
   refine tk (fun wx HS=>VP V1 rfl rfl (.inl ⟨rfl,rfl⟩) (.inr ⟨_,by first|rfl|(congr 2;omega)⟩) ⟨rfl,rfl⟩)<|tk (fun wx HS=>Z9 rfl ⟨rfl,rfl⟩)<|tk (fun wx HS=>Z4 (HS.at 1 rfl) 1 rfl rfl rfl ⟨rfl,rfl⟩) ?_
   obtain ⟨v2,V2⟩:=H.vw 3 rfl (0) (((op.length)-1)) qo qo
   refine tk (fun wx HS=>VP V2 rfl rfl (.inl ⟨rfl,rfl⟩) (.inr ⟨_,by first|rfl|(congr 2;omega)⟩) ⟨rfl,rfl⟩)<|tk (fun wx HS=>Z9 rfl ⟨rfl,rfl⟩)<|XA H 1 rfl rfl rfl (by simp only [Bool.and_true,H.one 2 rfl,H.one 3 rfl,Vw.one V2,Vw.one V1])<|fun w1 H=>tk (fun wx HS=>Z9 rfl ⟨rfl,rfl⟩)<|XA H 1 rfl rfl rfl (by simp only [Bool.and_true,H.one 2 rfl,H.one 3 rfl,Vw.one V2,Vw.one V1])<|fun w2 H=>Z9 rfl<|XA H 1 rfl rfl rfl rfl<|fun w1 H=>Z6.mk ?_
   exact ⟨_,_,_,v1,v2,_,_,rfl,af6 qo hx1 hs4,((H.L9 2 rfl V1).L9 3 rfl V2).del 0⟩
  replace c5:=ZQ (c5)
  refine Z6.mk ?_
  refine ⟨op,last,false,vo,vl,-2,0,?_⟩
  refine ⟨rfl,?_⟩
  refine ⟨?_,?_⟩
  ·exact aed qo qo qo qo qo
  refine H.Z8 [3,3,3]<|fun H=>H.drop 3<|fun H=>?_
  exact H
 ·refine ZH H<|fun p1 w1 H=>Z9 rfl<|Z4 (H.at 1 rfl) 0 rfl rfl rfl<|YJ H 2 rfl rfl<|ZX qo<|bk<|Z9 rfl<|Z4 (H.at 1 rfl) 2 rfl rfl rfl<|cT rfl<|Z6.mk ?_
  refine ⟨op,last,true,vo,vl,-2,4,?_⟩
  refine ⟨rfl,?_⟩
  refine ⟨rfl,?_⟩
  refine H.Z8 [3,3,3]<|fun H=>H.drop 3<|fun H=>?_
  exact H
end
end Zk
namespace Zk
open XV G6 YS
def G5 (l:List ZU):List UInt8:=l.flatMap Ex
def FQ:Nat→List UInt8→Nat→List ZU→NS→List ZU × Nat × Int
 | 0,_,_,_,_=>([],0,2)
 | f+1,s,k,acc,st =>
  if st.over=true then (acc,k,0)
  else if (I1 (s.drop k)).2.2≠0 then ([],0,(I1 (s.drop k)).2.2)
  else if acc.length=200 then ([],0,2)
  else if (Zs st (I1 (s.drop k)).1.op acc.length).2.2≠0 then ([],0,(Zs st (I1 (s.drop k)).1.op acc.length).2.2)
  else FQ f s (k+(I1 (s.drop k)).2.1) (acc++[(I1 (s.drop k)).1]) (Zs st (I1 (s.drop k)).1.op acc.length).1
def DN (s:List UInt8):List ZU × Nat × Int:=FQ 201 s 0 [] OY
structure Jc (s:List UInt8) (acc:List ZU) (k:Nat) (st:NS):Prop where
 eq:DN s=FQ (201-acc.length) s k acc st
 le:acc.length≤200
 ks:k≤s.length
 st:st=Zq acc acc.length
 far:WE acc acc.length
 tx:(G5 acc).length≤k
 ops:∀x∈acc,(0≤x.op∧x.op≤255)∧(-9223372036854775808≤x.a∧x.a≤9223372036854775807)∧-9223372036854775808≤x.b∧x.b≤9223372036854775807
theorem Jc.zero (s:List UInt8):Jc s [] 0 OY:=⟨rfl,lRa _,lRa _,rfl,WE.zero _,lRa _,nofun⟩
theorem L6 (l r:List ZU):∀k,k≤l.length→Zq (l++r) k=Zq l k
 | 0,_=>rfl
 | k+1,h=>by
  have hx:l[k]?=some l[k]:=laa h
  rw [Yo hx,Yo (by rw [loa h];exact hx),L6 l r k qo]
theorem WE.app {l:List ZU} {k:Nat} (h:WE l k) (hk:k≤l.length) (r:List ZU):WE (l++r) k:=fun i x hi hx=>by
 rw [loa qo] at hx
 rw [L6 _ _ _ qo]
 exact h i x hi hx
theorem Jc.step {s:List UInt8} {acc:List ZU} {k n:Nat} {st st':NS} {x:ZU} {is:Int} (h:Jc s acc k st) (ho:st.over=false) (hr:I1 (s.drop k)=(x,n,0)) (hl:acc.length≠200) (hn:Zs st x.op acc.length=(st',is,0)):Jc s (acc++[x]) (k+n) st':=by
 obtain ⟨h1,h2,h3,h4,h5,h6,h7⟩:=h
 obtain ⟨t1,t2,t3,t4,t5,t6,t7⟩:=ad5 hr
 rw [lIa] at t1
 have hlen:(acc++[x]).length=acc.length+1:=by simp
 have hst:Zs (Zq (acc++[x]) acc.length) x.op acc.length=(st',is,0):=by rw [L6 _ _ _ (lra _),←h4];exact hn
 have hx:(acc++[x])[acc.length]?=some x:=by rw [lsa (lra _)];simp
 refine ⟨?_,by omega,by omega,?_,?_,?_,fun y hy=>?_⟩
 ·rw [h1,show 201-acc.length=(201-(acc++[x]).length)+1 by omega,FQ,if_neg (by rw [ho];simp),hr]
  simp only [hn]
  rw [if_neg qs,if_neg hl,if_neg qs]
 ·rw [hlen,Yo hx,hst]
 ·rw [hlen]
  exact (h5.app (lra _) [x]).succ hx t4 (by rw [hst])
 ·unfold G5 at *
  rw [lMa,lba,lQa,List.flatMap_nil,lua];omega
 ·rcases lFa.1 hy with hy|hy
  ·exact h7 y hy
  ·rw [lta.1 hy];exact ⟨⟨t2,t3⟩,t6,t7⟩
theorem Jc.bad {s:List UInt8} {acc:List ZU} {k n:Nat} {st:NS} {x:ZU} {e:Int} (h:Jc s acc k st) (ho:st.over=false) (hr:I1 (s.drop k)=(x,n,e)) (he:e≠0):DN s=([],0,e):=by
 rw [h.eq,show 201-acc.length=(200-acc.length)+1 by have:=h.le;omega,FQ,if_neg (by rw [ho];simp),hr]
 simp only
 rw [if_pos he]
theorem Jc.no {s:List UInt8} {acc:List ZU} {k n:Nat} {st st':NS} {x:ZU} {is e:Int} (h:Jc s acc k st) (ho:st.over=false) (hr:I1 (s.drop k)=(x,n,0)) (hl:acc.length≠200) (hn:Zs st x.op acc.length=(st',is,e)) (he:e≠0):DN s=([],0,e):=by
 rw [h.eq,show 201-acc.length=(200-acc.length)+1 by have:=h.le;omega,FQ,if_neg (by rw [ho];simp),hr]
 simp only [hn]
 rw [if_neg qs,if_neg hl,if_pos he]
theorem Jc.over {s:List UInt8} {acc:List ZU} {k:Nat} {st:NS} (h:Jc s acc k st) (ho:st.over=true):DN s=(acc,k,0):=by
 rw [h.eq,show 201-acc.length=(200-acc.length)+1 by have:=h.le;omega,FQ,if_pos ho]
theorem Jc.told {s:List UInt8} {acc:List ZU} {k:Nat} {st:NS} (h:Jc s acc k st) (ho:st.over=true):Yp acc=0∧(G5 acc).length≤k∧k≤s.length:=by
 refine ⟨?_,h.tx,h.ks⟩
 rw [N6 h.le h.far rfl,←h.st,if_pos ho]
theorem Qn {st:NS} (h:st.over=true) (o k:Int):(Zs st o k).2.2=4:=by unfold Zs;rw [if_pos h]
theorem OJ {l:List ZU} (h:Yp l=0):l≠[]:=by
 rintro rfl
 exact absurd h (by decide)
end Zk
namespace Zk
open Go YZ Go.RowKit
open YS
section
variable {g:Zv} {w:World} {l:List As}
theorem Uy {xs:List Za} {k:Nat} {x:Za} (h:xs[k]?=some x):(xs.map Za.d)[k]?=some x.d:=by rw [lva,h];rfl
theorem dd (x:Za):(⟨x.op,x.a,x.b,x.to⟩:ZU)=x.d:=rfl
section
variable {xs:List Za} {k:Nat} {x:Za} {r is e:Int} {st st':NS}
theorem ck1 (hl:xs.length≤200) (hF:WE (xs.map Za.d) k) (hx:xs[k]?=some x) (h:r=WK ⟨x.op,x.a,x.b,x.to⟩) (hr:r≠0):r=Yp (xs.map Za.d):=by
 rw [dd] at h
 rw [ad7 (by simpa using hl) hF (Uy hx) (h ▸ hr),h]
theorem ck2 (hl:xs.length≤200) (hF:WE (xs.map Za.d) k) (hx:xs[k]?=some x) (h:r=WK ⟨x.op,x.a,x.b,x.to⟩) (hr:r=0) (hst:Zq (xs.map Za.d) k=st) (hn:Zs st x.op k=(st',is,e)) (he:e≠0):e=Yp (xs.map Za.d):=by
 rw [dd,hr] at h
 have hn':Zs (Zq (xs.map Za.d) k) x.d.op k=(st',is,e):=by rw [hst];exact hn
 rw [adf (by simpa using hl) hF (Uy hx) h.symm (by rw [hn'];exact he),hn']
theorem ck3 (hx:xs[k]?=some x) (hst:Zq (xs.map Za.d) k=st) (hn:Zs st x.op k=(st',is,e)):Zq (xs.map Za.d) (k+1)=st':=by
 rw [Yo (Uy hx),hst];show (Zs st x.op k).1=_;rw [hn]
theorem ck4 (hF:WE (xs.map Za.d) k) (hx:xs[k]?=some x) (h:r=WK ⟨x.op,x.a,x.b,x.to⟩) (hr:r=0) (hst:Zq (xs.map Za.d) k=st) (hn:Zs st x.op k=(st',is,e)) (he:e=0):WE (xs.map Za.d) (k+1):=by
 rw [dd,hr] at h
 exact hF.succ (Uy hx) h.symm (by rw [hst];show (Zs st x.op k).2.2=0;rw [hn];exact he)
theorem ck5 {op last:List Int} {ov:Bool} (hl:xs.length≤200) (hF:WE (xs.map Za.d) k) (hk:k=xs.length) (hst:Zq (xs.map Za.d) k=⟨op,last,ov⟩) (ho:ov=false):3=Yp (xs.map Za.d):=by
 rw [N6 (by simpa using hl) hF (by simpa using hk),hst,ho];rfl
theorem ck6 {op last:List Int} {ov:Bool} (hl:xs.length≤200) (hF:WE (xs.map Za.d) k) (hk:k=xs.length) (hst:Zq (xs.map Za.d) k=⟨op,last,ov⟩) (ho:ov=true):0=Yp (xs.map Za.d):=by
 rw [N6 (by simpa using hl) hF (by simpa using hk),hst,ho];rfl
end
theorem check (H:Sat g w l) (v:Value) (xs:List Za) (hx:ZZ g Kr (okV g) 4 v xs):Fc Tryz.prog 210 #[v] w (fun r w'=>(∃e,r=.int .i64 e∧e=Yp (xs.map Za.d))∧Sat g w' l):=by
 refine Fc.of Tryz.func210 rfl k_i ?_
 have hml:(xs.map Za.d).length=xs.length:=lia0 ..
 refine Zw hx rfl ?_
 refine cI (fun c1=>?_) (fun c1=>?_)
 ·replace c1:=Yx (c1)
  refine Z6.mk ?_
  refine ⟨?_,?_⟩
  ·refine ⟨2,?_⟩
   refine ⟨?_,?_⟩
   ·refine int_eq ?_
    omega
   exact (acd qo).symm
  exact H
 replace c1:=Yw (c1)
 refine Z7.mk (Fc.imp (Zk.Xo _) ?_)
 rintro _ w1 ⟨p1,⟨Kq,⟨FP,⟨rfl,H'⟩⟩⟩⟩
 refine H.XZ H' ?_
 clear H H'
 intro H
 refine Zw hx rfl ?_
 refine YP.rule (α:=Nat × List Int × List Int × Bool × Value × Value) (0,OY.op,OY.last,OY.over,Kq,FP) (fun x_=>[(15,.int .i64 x_.1)]) (fun x_ w_=>(x_.1≤xs.length)∧(Zq (xs.map Za.d) x_.1=⟨x_.2.1,x_.2.2.1,x_.2.2.2.1⟩)∧(WE (xs.map Za.d) x_.1)∧Sat g w_ ((Pt p1 [x_.2.2.2.2.1,x_.2.2.2.2.2,.bool x_.2.2.2.1] 324::Sl 3 1 ZG x_.2.2.2.2.1 x_.2.1::Sl 5 1 YL x_.2.2.2.2.2 x_.2.2.1::l))) (fun x_=>xs.length-x_.1) ?_ ?_ ?_
 ·exact k_b
 ·try simp only
  refine ⟨qo,?_⟩
  refine ⟨rfl,?_⟩
  refine ⟨?_,?_⟩
  ·exact WE.zero _
  exact H
 clear H
 rintro ⟨k,op,last,ov,vo,vl⟩ f_ w_ ⟨hk,hst,hF,H⟩
 try simp only at hk hst hF H ⊢
 have hok:=X6 (xs.map Za.d) k
 rw [hst] at hok
 refine cI (fun c2=>?_) (fun c2=>?_)
 ·replace c2:=Yx (c2)
  refine bk ?_
  obtain ⟨x1,hx1⟩:∃x,(xs)[(k)]?=some x:=⟨_,laa qo⟩
  obtain ⟨b1,o1,E1,F1,ZE⟩:=ZZ.Y1 hx hx1
  have Vt:=ZE.op
  have Uj:=ZE.a
  have Ui:=ZE.b
  have Ym:=ZE.to
  refine ZJ E1 rfl rfl rfl<|ZA (H.XQ F1) 0 rfl rfl rfl<|ZS H rfl<|fun p2 w2 H=>ZD H 0 rfl rfl rfl (by simp only [List.all_cons,List.all_nil,H.one 2 rfl,H.one 3 rfl,ZZ.one Ym,ZZ.one hx];rfl)<|fun w3 H=>ZA (H.at 0 rfl) 0 rfl rfl rfl ?_
  refine Z7.mk (Fc.imp (YS.check _ _ _ _ _ _ qa (H.rd Ym)) ?_)
  rintro _ w2 ⟨⟨r1,⟨rfl,h1⟩⟩,H'⟩
  refine H.XZ H' ?_
  clear H H'
  intro H
  refine cI (fun c3=>?_) (fun c3=>?_)
  ·replace c3:=Ye (c3)
   refine Z6.mk ?_
   refine ⟨?_,?_⟩
   ·refine ⟨r1,?_⟩
    refine ⟨?_,?_⟩
    ·refine int_eq ?_
     omega
    exact ck1 qo hF hx1 h1 qa
   refine H.drop 3<|fun H=>H.drop 2<|fun H=>H.drop 1<|fun H=>H.drop 0<|fun H=>?_
   exact H
  replace c3:=Yd (c3)
  refine ZA (H.at 0 rfl) 0 rfl rfl rfl<|H.Z8 [3,3,3]<|fun H=>?_
  refine Z7.mk (Fc.imp (Zk.next _ hok H _ _ _ _ _) ?_)
  clear H
  rintro _ w4 ⟨XU,⟨Wf,⟨Se,⟨Xn,⟨Uh,⟨U3,⟨e1,⟨rfl,⟨h2,H⟩⟩⟩⟩⟩⟩⟩⟩⟩
  refine cI (fun c4=>?_) (fun c4=>?_)
  ·replace c4:=Ye (c4)
   refine Z6.mk ?_
   refine ⟨?_,?_⟩
   ·refine ⟨e1,?_⟩
    refine ⟨?_,?_⟩
    ·refine int_eq ?_
     omega
    exact ck2 qo hF hx1 h1 qa hst h2 qa
   refine H.drop 3<|fun H=>H.drop 2<|fun H=>H.drop 1<|fun H=>H.drop 0<|fun H=>?_
   exact H
  replace c4:=Yd (c4)
  refine ZX qo ?_
  refine WN.mk ((k+1,XU,Wf,Se,Xn,Uh)) (Zo rfl k_c (ZT)) ?_ ?_
  ·refine ⟨qo,?_⟩
   refine ⟨?_,?_⟩
   ·exact ck3 hx1 hst h2
   refine ⟨?_,?_⟩
   ·exact ck4 hF hx1 h1 qa hst h2 qa
   refine H.drop 3<|fun H=>?_
   exact H
  omega
 replace c2:=Yw (c2)
 refine Z9 rfl<|Z4 (H.at 0 rfl) 2 rfl rfl rfl ?_
 refine cI (fun c3=>?_) (fun c3=>?_)
 ·replace c3:=Si (c3)
  refine Z6.mk ?_
  refine ⟨?_,?_⟩
  ·refine ⟨3,?_⟩
   refine ⟨?_,?_⟩
   ·refine int_eq ?_
    omega
   exact ck5 qo hF qo hst qa
  refine H.drop 2<|fun H=>H.drop 1<|fun H=>H.drop 0<|fun H=>?_
  exact H
 replace c3:=Sh (c3)
 refine Z6.mk ?_
 refine ⟨?_,?_⟩
 ·refine ⟨0,?_⟩
  refine ⟨?_,?_⟩
  ·refine int_eq ?_
   omega
  exact ck6 qo hF qo hst qa
 refine H.drop 2<|fun H=>H.drop 1<|fun H=>H.drop 0<|fun H=>?_
 exact H
end
end Zk
namespace XV
open Go YZ Go.RowKit
theorem S1 (n:Int) (w:World):Fc Tryz.prog 170 #[.int .i64 n] w (fun v w'=>(∃b,v=.bool b∧(b=true↔-64≤n∧n<64))∧w=w'):=by
 refine Fc.of Tryz.func170 rfl k_i ?_
 have H:=Sat.start w
 refine br (fun c1=>?_) (fun c1=>?_)
 ·replace c1:=Xv (c1)
  refine Z6.mk ?_
  exact ⟨⟨_,rfl,by simp [Ya];omega⟩,rfl⟩
 replace c1:=Xu (c1)
 refine Z6.mk ?_
 exact ⟨⟨_,rfl,by simp [Ya];omega⟩,rfl⟩
theorem af7 (n:Int) (hn:-9223372036854775808≤n∧n≤9223372036854775807) (w:World):Fc Tryz.prog 169 #[.int .i64 n,.func (.func 170) #[] #[]] w
  (fun v w'=>∃l,v=.string (bs l)∧l=VK n∧Sat (WA w) w' []):=by
 have hlen:(VK n).length≤10:=Oj 9 n qo qo
 refine Fc.of Tryz.func169 rfl k_i ?_
 have H:=Sat.start w
 refine YP.rule (α:=Int × Value × List UInt8) (n,.slice none 0 0,[]) (fun x_=>[(0,.int .i64 x_.1),(5,x_.2.1)]) (fun x_ w_=>(x_.2.2++VK x_.1=VK n)∧(-9223372036854775808≤x_.1∧x_.1≤9223372036854775807)∧Sat (WA w) w_ ((Sl 5 1 Tu x_.2.1 x_.2.2::[]))) (fun x_=>x_.1.natAbs) ?_ ?_ ?_
 ·exact k_b
 ·try simp only
  refine ⟨rfl,?_⟩
  refine ⟨qa,?_⟩
  replace H:=H.UK (en:=Tu) (s:=1) (5) (fun _=>rfl)
  exact H
 clear H
 rintro ⟨m,vo,l⟩ f_ w_ ⟨hl,hm,H⟩
 try simp only at hl hm H ⊢
 have DQ:l.length+(VK m).length≤10:=by rw [←lba,hl];exact hlen
 have hpos:=adQ m
 by_cases h:-64≤m∧m<64
 ·have hu:=TV h
  rw [hu] at hl
  have e0:TY .i64 m 127=(((UInt8.ofNat (m % 128).toNat).toNat:Nat):Int):=by rw [Mm,Wh qo];omega
  have hb0:=(UInt8.ofNat (m % 128).toNat).toNat_lt
  refine Z7.mk (Fc.imp (XV.S1 _ _) ?_)
  rintro _ _ ⟨⟨b1,⟨rfl,h1⟩⟩,rfl⟩
  refine cF (JA (h1.2 qa))<|W6.mk _ e0<|TU qo rfl rfl<|ZY H rfl rfl rfl rfl<|fun p1 w1 H=>Wk (ys:=[_]) 1 H 1 rfl (H.at 0 rfl) rfl (fun y _=>rfl) rfl rfl rfl qo qo<|fun v1=>?_
  intro w2 H
  refine SU H 1 rfl rfl rfl rfl<|Z6.mk ?_
  refine ⟨l++[UInt8.ofNat (m % 128).toNat],?_⟩
  refine ⟨rfl,?_⟩
  refine ⟨qa,?_⟩
  refine H.firsts 0<|fun H=>?_
  exact H
 ·have hu:=Sm h
  rw [hu] at hl
  have e0:TY .i64 m 127=(((m % 128).toNat:Nat):Int):=by rw [Mm];omega
  have ho:(m % 128).toNat ||| 128=(m % 128).toNat+128:=by
   exact ahe qo
  refine Z7.mk (Fc.imp (XV.S1 _ _) ?_)
  rintro _ _ ⟨⟨b1,⟨rfl,h1⟩⟩,rfl⟩
  refine cT (IG (ajM h1 qa))<|bk<|W6.mk _ e0<|TU qo rfl rfl ?_
  (refine adV (((m % 128).toNat)) (128) qo qo qo qo ?_;intro hB)
  refine ZY H rfl rfl rfl rfl<|fun p1 w1 H=>?_
  have KY:=Ki (x:=(↑((m % 128).toNat ||| 128):Int)) (n:=((m % 128).toNat ||| 128)) qo
  rw [KY] at H
  clear KY
  refine Wk (ys:=[_]) 1 H 1 rfl (H.at 0 rfl) rfl (fun y _=>rfl) rfl rfl rfl qo qo<|fun v1=>?_
  intro w2 H
  refine YN.mk (by decide)<|Vv 7 128 rfl rfl (by decide) ?_
  refine WN.mk ((m / 128,v1,l++[UInt8.ofNat ((m % 128).toNat ||| 128)])) (ZL rfl (ZL rfl (ZT))) ?_ ?_
  ·refine ⟨?_,?_⟩
   ·(rw [ho,lma];exact hl)
   refine ⟨?_,?_⟩
   ·refine ⟨qo,?_⟩
    omega
   refine H.Z8 [1]<|fun H=>H.firsts 1<|fun H=>?_
   exact H
  omega
theorem S (n:Int) (hn:-9223372036854775808≤n∧n≤9223372036854775807) (w:World):Fc Tryz.prog 123 #[.int .i64 n] w (fun v w'=>∃l,v=.string (bs l)∧l=VK n∧l.length≤10∧Sat (WA w) w' []):=by
 have hlen:(VK n).length≤10:=Oj 9 n qo qo
 refine Fc.of Tryz.func123 rfl k_i ?_
 have H:=Sat.start w
 refine Z7.mk (Fc.imp (XV.af7 _ qa _) ?_)
 rintro _ w1 ⟨l1,⟨rfl,⟨h1,H'⟩⟩⟩
 refine H.XZ H' ?_
 clear H H'
 intro H
 refine Z6.mk ?_
 refine ⟨l1,?_⟩
 refine ⟨rfl,?_⟩
 refine ⟨qa,?_⟩
 refine ⟨?_,?_⟩
 ·(rw [h1];exact hlen)
 exact H
end XV
namespace YS
open Go YZ Go.RowKit
open XV
end YS
namespace Zk
open Go YZ Go.RowKit
open YS
section
variable {g:Zv} {w:World} {l:List As}
end
end Zk
namespace YZ
open Go Go.RowKit
def lk (m:List (List UInt8 × Int)) (k:List UInt8):Option Int:=match m with
 | []=>none
 | p::r=>if p.1=k then some p.2 else lk r k
abbrev MF:=List UInt8→Option Int
def HD (f:List UInt8→Option Int) (k:List UInt8) (o:Option Int):List UInt8→Option Int:=fun x=>if x=k then o else f x
def DM (p:List UInt8 × Int):Value × Value:=(.string (bs p.1),.int .i64 p.2)
def kv (e:MapEntry):Value × Value:=(e.key,e.val)
theorem af8 {m:List (List UInt8 × Int)} {k:List UInt8}:lk m k=none↔∀p∈m,p.1≠k:=by
 induction m with
 | nil=>simp [lk]
 | cons p r ih =>
  rw [lk]
  split
  ·rename_i h;simp [h]
  ·rename_i h;rw [ih];simp [h]
theorem ahi {m:List (List UInt8 × Int)} {k:List UInt8} {v:Int} (h:lk m k=some v):∃j,m[j]?=some (k,v)∧∀(i:Nat) (p:List UInt8 × Int),i<j→m[i]?=some p→p.1≠k:=by
 induction m with
 | nil=>cases h
 | cons p r ih =>
  rw [lk] at h
  split at h
  ·rename_i e
   obtain rfl:=Option.some.inj h
   exact ⟨0,by subst e;rfl,fun i p hi=>absurd hi (Nat.not_lt_zero i)⟩
  ·rename_i e
   obtain ⟨j,h1,h2⟩:=ih h
   refine ⟨j+1,h1,fun i q hi hq=>?_⟩
   cases i with
   | zero=>obtain rfl:=Option.some.inj hq;exact e
   | succ i=>exact h2 i q qo hq
theorem aae {k:List UInt8}:∀(es:List MapEntry) (m:List (List UInt8 × Int)) (i:Nat),es.map kv=m.map DM→lk m k=none→Instr.findNow .string (.string (bs k)) es i=some none:=by
 intro es
 induction es with
 | nil=>intro m i _ _;rfl
 | cons e r ih =>
  intro m i he hl
  cases m with
  | nil=>cases he
  | cons p m =>
   rw [ljb,ljb] at he
   injection he with h1 h2
   rw [lk] at hl
   split at hl
   ·cases hl
   ·rename_i hp
    have hk:e.key=.string (bs p.1):=congrArg Prod.fst h1
    have hs:Instr.sameNow .string (.string (bs k)) e.key=some false:=by
     rw [hk]
     obtain ⟨r,h1,h2⟩:=MapKept.sameNow_of_keys (d:=.string) (a:=.string (bs k)) (b:=.string (bs p.1)) trivial trivial
     rw [h1]
     cases r with
     | false=>rfl
     | true =>
      have:=h2.1 rfl
      simp only [Value.string.injEq] at this
      exact absurd (adM this).symm hp
    rw [Instr.findNow,hs]
    exact ih m (i+1) h2 hl
theorem aaf {k:List UInt8} {v:Int}:∀(es:List MapEntry) (m:List (List UInt8 × Int)) (i j:Nat),es.map kv=m.map DM→m[j]?=some (k,v)→(∀(i':Nat) (p:List UInt8 × Int),i'<j→m[i']?=some p→p.1≠k)→Instr.findNow .string (.string (bs k)) es i=some (some (i+j,.int .i64 v)):=by
 intro es
 induction es with
 | nil =>
  intro m i j he hj _
  cases m with
  | nil=>cases hj
  | cons p m=>cases he
 | cons e r ih =>
  intro m i j he hj hb
  cases m with
  | nil=>cases hj
  | cons p m =>
   rw [ljb,ljb] at he
   injection he with h1 h2
   have hk:e.key=.string (bs p.1):=congrArg Prod.fst h1
   have hv:e.val=.int .i64 p.2:=congrArg Prod.snd h1
   have hs:∀b,(k == p.1)=b→Instr.sameNow .string (.string (bs k)) e.key=some b:=fun b hb=>by
    rw [hk]
    obtain ⟨r,h1,h2⟩:=MapKept.sameNow_of_keys (d:=.string) (a:=.string (bs k)) (b:=.string (bs p.1)) trivial trivial
    rw [h1,←hb]
    congr 1
    rw [Bool.eq_iff_iff,h2,beq_iff_eq]
    simp only [Value.string.injEq]
    exact ⟨adM,congrArg bs⟩
   cases j with
   | zero =>
    obtain rfl:=Option.some.inj hj
    rw [Instr.findNow,hs true qs,hv]
    rfl
   | succ j =>
    have hne:=hb 0 p qo rfl
    rw [Instr.findNow,hs false (by simpa using fun h=>hne h.symm)]
    have:=ih m (i+1) j h2 hj (fun i' q hi hq=>hb (i'+1) q qo hq)
    rw [show i+(j+1)=i+1+j by omega]
    exact this
structure ahj (es:Array MapEntry) (clock:Nat) (f:List UInt8→Option Int) (m:List (List UInt8 × Int)):Prop where
 row:es.toList.map kv=m.map DM
 keys:(m.map (·.1)).Nodup
 lk:∀k,lk m k=f k
 born:∀e∈es.toList,e.born<clock
 apart:(es.toList.map (·.born)).Nodup
def Mp (b:Nat) (f:List UInt8→Option Int) (n:Nat):As:=fun h=>∃es clock m,h b=some (.map es clock)∧ahj es clock f m∧m.length=n
section
variable {P:Program} {g:Zv} {w w':World} {l:List As} {f:List UInt8→Option Int} {n n0 j b p:Nat} {t kt et ty:TypeId} {k:List UInt8} {v:Int}
theorem N1:MapKept.IsKey .string (.string (bs k)):=by trivial
theorem Sat.mp (H:Sat g w l) (j:Nat) (hj:l[j]?=some (Mp b f n)):∃es clock m,w.heap[b]?=some (.map es clock)∧ahj es clock f m∧m.length=n:=by
 obtain ⟨a,⟨es,clock,m,h1,h2,h3⟩,hs⟩:=H.part hj
 exact ⟨es,clock,m,hs b _ h1,h2,h3⟩
theorem aee {K:Value→World→Prop} (H:Sat g w l) (h:∀b w',Sat g w' (Mp b (fun _=>none) 0::l)→K (.map (some b)) w'):Zi P (Instr.makeMap t none) w K:=by
 refine ⟨_,w.alloc (.map #[] 0),rfl,h _ _ (H.more ((Below.refl _ _).alloc (lra _) _) (a:=fun k=>if k=w.heap.size then some (.map #[] 0) else none) ⟨#[],0,[],if_pos rfl,⟨rfl,List.nodup_nil,fun _=>rfl,nofun,List.nodup_nil⟩,rfl⟩ (fun k o hk=>?_) fun k hk=>if_neg qo)⟩
 dsimp only at hk
 split at hk
 ·rename_i e;subst e;obtain rfl:=Option.some.inj hk;exact heap_alloc_new w _
 ·cases hk
theorem Sat.ahk {o:Obj} {A':As} {es:Array MapEntry} {clock:Nat} {m:List (List UInt8 × Int)} (H:Sat g w l) (j:Nat) (hj:l[j]?=some (Mp b f n)) (hb:w.heap[b]?=some (.map es clock)) (hA:∀h:Hp,h b=some o→A' h):Sat g { w with heap:=w.heap.setIfInBounds b o } (l.set j A'):=by
 obtain ⟨h1,h2⟩:=MapKept.heap_set (o':=o) hb
 refine H.step hj rfl rfl rfl fun a ha sa=>⟨fun k=>if k=b then some o else none,hA _ (if_pos rfl),fun k o' hk=>?_,fun k hk hn=>?_⟩
 ·dsimp only at hk
  split at hk
  ·rename_i e;subst e;obtain rfl:=Option.some.inj hk;exact h1
  ·cases hk
 ·obtain ⟨es',clock',m',h3,_⟩:=ha
  have hne:k≠b:=fun e=>by subst e;rw [h3] at hn;cases hn
  exact ⟨if_neg hne,h2 k hne⟩
theorem aef {z:Value} (w:World) (hz:(P.info? et).bind (fun i=>i.zero)=some z):(zeroValue et).run P w=.ok z w:=by
 cases hi:P.info? et with
 | none=>rw [hi] at hz;cases hz
 | some i =>
  rw [hi] at hz
  simp only [Option.bind_some] at hz
  simp [zeroValue,typeInfo,hi,hz]
theorem acw {K:Value→World→Prop} (H:Sat g w l) (j:Nat) (hj:l[j]?=some (Mp b f n)) (ht:P.underlying t=some (.map kt et)) (hk:P.underlying kt=some .string) (hz:(P.info? et).bind (fun i=>i.zero)=some (.int .i64 0))
  (h:∀x c,((c=true∧f k=some x)∨(c=false∧f k=none∧x=0))→K (.tuple #[.int .i64 x,.bool c]) w):Zi P (Instr.lookup t (.map (some b)) (.string (bs k)) true) w K:=by
 obtain ⟨es,clock,m,hb,ok,hn⟩:=H.mp j hj
 have hl:=ok.lk k
 cases hf:f k with
 | none =>
  rw [hf] at hl
  have h1:=aae es.toList m 0 ok.row hl
  exact ⟨_,w,by simp [Instr.lookup,run_underlying ht,MapKept.run_getObj_map hb,MapKept.run_checkKey hk N1,MapKept.run_findKey hk h1,aef w hz,Result.andThen],h 0 false (.inr ⟨rfl,hf,rfl⟩)⟩
 | some x =>
  rw [hf] at hl
  obtain ⟨i,h2,h3⟩:=ahi hl
  have h1:=aaf es.toList m 0 i ok.row h2 h3
  exact ⟨_,w,by simp [Instr.lookup,run_underlying ht,MapKept.run_getObj_map hb,MapKept.run_checkKey hk N1,MapKept.run_findKey hk h1,Result.andThen],h x true (.inl ⟨rfl,hf⟩)⟩
theorem af9 {m:List (List UInt8 × Int)} {k:List UInt8} {v:Int} (h:lk m k=none) (x:List UInt8):lk (m++[(k,v)]) x=if x=k then some v else lk m x:=by
 induction m with
 | nil =>
  show (if k=x then some v else none)=_
  by_cases e:x=k
  ·rw [if_pos e,if_pos e.symm]
  ·rw [if_neg e,if_neg (Ne.symm e)];rfl
 | cons p r ih =>
  rw [lk] at h
  split at h
  ·cases h
  rename_i hp
  rw [lOa,lk,lk]
  by_cases e:p.1=x
  ·rw [if_pos e,if_pos e,if_neg (fun e2=>hp (e.trans e2))]
  ·rw [if_neg e,if_neg e];exact ih h
theorem ah6 {m:List (List UInt8 × Int)} {k:List UInt8} {v v':Int} {i:Nat} (hn:(m.map (·.1)).Nodup) (h:m[i]?=some (k,v)) (x:List UInt8):lk (m.set i (k,v')) x=if x=k then some v' else lk m x:=by
 induction m generalizing i with
 | nil=>cases h
 | cons p r ih =>
  rw [ljb,List.nodup_cons] at hn
  cases i with
  | zero =>
   obtain rfl:=Option.some.inj h
   rw [lsb0,lk,lk]
   by_cases e:x=k
   ·rw [if_pos e,if_pos e.symm]
   ·rw [if_neg e,if_neg (fun e2=>e e2.symm),if_neg (fun e2=>e e2.symm)]
  | succ i =>
   rw [ltb,lk,lk]
   have hpk:p.1≠k:=fun e=>hn.1 (e ▸ lnb.2 ⟨_,lha h,rfl⟩)
   by_cases e:p.1=x
   ·rw [if_pos e,if_pos e,if_neg (fun e2=>hpk (e.trans e2))]
   ·rw [if_neg e,if_neg e];exact ih hn.2 h
theorem acy {K:World→Prop} (H:Sat g w l) (j:Nat) (hj:l[j]?=some (Mp b f n)) (ht:P.underlying t=some (.map kt et)) (hk:P.underlying kt=some .string)
  (h:∀n',n'=(if f k=none then n+1 else n)→Rp l j (Mp b (HD f k (some v)) n') fun l'=>∀w',Sat g w' l'→K w'):JE P (Instr.mapUpdate t (.map (some b)) (.string (bs k)) (.int .i64 v)) w K:=by
 obtain ⟨es,clock,m,hb,ok,hn⟩:=H.mp j hj
 have hl:=ok.lk k
 have h:=h _ rfl
 rw [Wo] at h
 cases hf:f k with
 | none =>
  rw [hf] at hl
  have h1:=aae es.toList m 0 ok.row hl
  refine ⟨_,by simp [Instr.mapUpdate,run_underlying ht,MapKept.run_getObj_map hb,MapKept.run_checkKey hk N1,MapKept.run_findKey hk h1,MapKept.run_setObj_map _ hb,Result.andThen];rfl,h _ (H.ahk (m:=m) j hj hb fun hp e=>⟨_,_,m++[(k,v)],e,⟨?_,?_,fun x=>?_,?_,?_⟩,?_⟩)⟩
  ·rw [Array.toList_push,lXa,lXa,ok.row];rfl
  ·rw [lXa,List.nodup_append]
   refine ⟨ok.keys,by simp,fun a ha c hc e=>?_⟩
   obtain ⟨q,hq,rfl⟩:=lnb.1 ha
   have hc:c=k:=by simpa using hc
   exact af8.1 hl q hq (e.trans hc)
  ·rw [af9 hl];unfold HD;rw [ok.lk]
  ·intro e he
   rw [Array.toList_push] at he
   rcases lFa.1 he with he|he
   ·have:=ok.born e he;omega
   ·obtain rfl:e=_:=by simpa using he
    exact Nat.lt_succ_self _
  ·rw [Array.toList_push,lXa,List.nodup_append]
   refine ⟨ok.apart,by simp,fun a ha c hc e=>?_⟩
   obtain ⟨q,hq,rfl⟩:=lnb.1 ha
   have hc:c=clock:=by simpa using hc
   have:=ok.born q hq
   omega
  ·rw [lba,hn,if_pos hf];rfl
 | some x =>
  rw [hf] at hl
  obtain ⟨i,h2,h3⟩:=ahi hl
  have h1:=aaf es.toList m 0 i ok.row h2 h3
  rw [lwb] at h1
  have hil:i<es.size:=by
   have:=congrArg List.length ok.row
   have:=(lca.1 h2).1
   simp at *;omega
  have hei:kv es[i]=DM (k,x):=by
   have:=congrArg (·[i]?) ok.row
   simp only [List.getElem?_map,h2,Option.map_some,Array.getElem?_toList,Array.getElem?_eq_getElem hil] at this
   exact Option.some.inj this
  have hke:es[i].key=.string (bs k):=congrArg Prod.fst hei
  have hmod:(es.modify i fun e=>{ e with key:=.string (bs k),val:=.int .i64 v }).toList=es.toList.set i { es[i] with key:=.string (bs k),val:=.int .i64 v }:=by
   rw [Array.toList_modify]
   apply lJa
   intro q
   rw [List.getElem?_modify,lPa]
   split
   ·rename_i e
    subst e
    simp [hil]
   ·simp
  refine ⟨_,by simp [Instr.mapUpdate,run_underlying ht,MapKept.run_getObj_map hb,MapKept.run_checkKey hk N1,MapKept.run_findKey hk h1,hil,hke,MapKept.run_keyThatStays (d:=.string) N1,MapKept.run_setObj_map _ hb,Result.andThen];rfl,h _ (H.ahk (m:=m) j hj hb fun hp e=>⟨_,_,m.set i (k,v),e,⟨?_,?_,fun y=>?_,?_,?_⟩,?_⟩)⟩
  ·rw [hmod,List.map_set,List.map_set,ok.row];rfl
  ·rw [List.map_set]
   have:(m.map (·.1)).set i k=m.map (·.1):=by
    apply lJa
    intro q
    rw [lPa]
    split
    ·rename_i e
     subst e
     rw [if_pos (by simpa using (lca.1 h2).1),lva,h2];rfl
    ·rfl
   rw [this];exact ok.keys
  ·rw [ah6 ok.keys h2];unfold HD;rw [ok.lk]
  ·intro e he
   rw [hmod] at he
   rcases List.mem_or_eq_of_mem_set he with he|he
   ·exact ok.born e he
   ·rw [he];exact ok.born es[i] qs
  ·rw [hmod,List.map_set]
   have:(es.toList.map (·.born)).set i es[i].born=es.toList.map (·.born):=by
    apply lJa
    intro q
    rw [lPa]
    split
    ·rename_i e
     subst e
     simp [hil]
    ·rfl
   show ((es.toList.map (·.born)).set i es[i].born).Nodup
   rw [this];exact ok.apart
  ·rw [lfa,hn,if_neg (by rw [hf];nofun)]
end
end YZ
namespace Ref
open Go YZ Go.RowKit
def ZG (n:Int):List Value:=[.int .i64 n]
theorem aeg {a b:Int} (hb:0<b) (h:a<0):(S9 a b=0∧a % b=0)∨(S9 a b<0∧a % b=S9 a b+b):=by
 unfold S9
 rw [Int.tmod_eq_emod]
 have h1:=Int.emod_nonneg a (Int.ne_of_gt hb)
 have h2:=Int.emod_lt_of_pos a hb
 by_cases hd:b ∣ a
 ·left
  have:=Int.emod_eq_zero_of_dvd hd
  rw [if_pos (.inr hd)]
  omega
 ·right
  rw [if_neg (by rintro (h'|h');omega;exact hd h')]
  have:(b.natAbs:Int)=b:=by omega
  rw [this]
  omega
theorem acv {α:Type} {xs ys:List α} {i:Nat} (h:∀q,q<i→xs[q]?=ys[q]?) (h1:xs[i]?=ys[i]?):∀q,q<i+1→xs[q]?=ys[q]?:=fun q hq=>by
 rcases lEa q i with h2|h2
 ·exact h q h2
 ·rw [show q=i by omega];exact h1
theorem aec {α:Type} {xs ys:List α} {i:Nat} (h1:xs.length≤i) (h2:ys.length≤i) (h:∀q,q<i→xs[q]?=ys[q]?):xs=ys:=by
 apply lJa
 intro q
 rcases lEa q i with h3|h3
 ·exact h q h3
 ·rw [lSa qo,lSa qo]
theorem rest (n m:Int) (hn:-9223372036854775808≤n∧n≤9223372036854775807) (hm:0<m∧m≤9223372036854775807) (w:World):Fc Tryz.prog 16 #[.int .i64 n,.int .i64 m] w (fun v w'=>v=.int .i64 (n % m)∧w=w'):=by
 refine Fc.of Tryz.func16 rfl k_i ?_
 have H:=Sat.start w
 have h1:=Int.emod_nonneg n (Int.ne_of_gt hm.1)
 have h2:=Int.emod_lt_of_pos n hm.1
 rcases Int.lt_or_le n 0 with hlt|hge
 ·have hw:=aeg hm.1 hlt
  refine Vz.mk qo<|W6.keep ?_
  refine cI (fun c1=>?_) (fun c1=>?_)
  ·replace c1:=Yx (c1)
   refine ZX qo<|Z6.mk ?_
   refine ⟨?_,?_⟩
   ·refine int_eq ?_
    omega
   rfl
  replace c1:=Yw (c1)
  refine Z6.mk ?_
  refine ⟨?_,?_⟩
  ·refine int_eq ?_
   omega
  rfl
 ·refine Vz.mk qo<|Od qo<|cF (Zl qa)<|Z6.mk ?_
  exact ⟨rfl,rfl⟩
end Ref
namespace Zk
open XV G6 YS
def gd (l:List Int) (i:Nat):Int:=l.getD i 0
theorem ah7 {l:List Int} {k i:Nat} {v:Int} (h:k<l.length):gd (l.set k v) i=if i=k then v else gd l i:=by
 unfold gd
 rw [lea,lea,lPa]
 by_cases e:i=k
 ·subst e;rw [if_pos rfl,if_pos h,if_pos rfl];rfl
 ·rw [if_neg (Ne.symm e),if_neg e]
theorem Wn {l:List Int} {k:Nat} {v:Int} (h:k<l.length):gd (l.set k v) k=v:=by rw [ah7 h,if_pos rfl]
theorem Zn {l:List Int} {k i:Nat} {v:Int} (e:i≠k):gd (l.set k v) i=gd l i:=by
 unfold gd
 rw [lea,lea,lvb (Ne.symm e)]
theorem KR {l:List Int} {k:Nat} {v:Int} (h:l[k]?=some v):gd l k=v:=by
 unfold gd;rw [lea,h];rfl
def oo (l:List ZU) (i:Nat):Int:=((l[i]?).map ZU.op).getD 0
theorem Ug {l:List ZU} {i:Nat} {x:ZU} (h:l[i]?=some x):oo l i=x.op:=by unfold oo;rw [h];rfl
def Zp (l:List ZU) (i:Nat):Prop:=oo l i=2∨oo l i=3∨oo l i=4
structure MI (l:List ZU) (k:Nat) (st:NS) (E L:List Int):Prop where
 eL:E.length=l.length
 lL:L.length=l.length
 cur:st=Zq l k
 inc:st.op.Pairwise (·<·)
 mem:∀m∈st.op,m=-1∨∃i:Nat,m=i∧i<k∧Zp l i
 root:st.over=false→st.op[0]?=some (-1)∧st.last[0]?=some 2
 last:∀j i:Nat,st.op[j]?=some (i:Int)→gd E i=-1∧((st.last[j]?=some (oo l i)∧gd L i=-1)∨(st.last[j]?=some 5∧oo l i=4∧∃h:Nat,gd L i=h∧i<h∧h<k∧oo l h=5∧gd L h=i))
 closed:∀i,i<k→Zp l i→(i:Int)∉st.op→∃e:Nat,gd E i=e∧i<e∧e<k∧oo l e=11∧gd E e=i∧(gd L i=-1∨∃h:Nat,gd L i=h∧i<h∧h<e∧oo l i=4∧oo l h=5∧gd L h=i∧gd E h=e)∧∀m∈st.op,¬((i:Int)<m∧m<e)
 pair:∀i j,i<j→j<k→Zp l i→Zp l j→(i:Int)∉st.op→(j:Int)∉st.op→gd E j<gd E i∨gd E i<j
theorem MI.zero {l:List ZU} {E L:List Int} (h1:E.length=l.length) (h2:L.length=l.length):MI l 0 OY E L:=by
 refine ⟨h1,h2,rfl,by simp [OY],fun m hm=>?_,fun _=>⟨rfl,rfl⟩,fun j i h=>?_,fun i h=>absurd h (Nat.not_lt_zero i),fun i j _ h=>absurd h (Nat.not_lt_zero j)⟩
 ·left;simpa [OY] using hm
 ·have:=lha h
  simp [OY] at this
theorem Sd {l:List Int} (h:l.Pairwise (·<·)) {i j:Nat} {x:Int} (h1:l[i]?=some x) (h2:l[j]?=some x):i=j:=by
 have key:∀{a b:Nat},a<b→l[a]?=some x→l[b]?=some x→False:=fun {a b} hab ha hb=>by
  obtain ⟨DS,HF⟩:=lca.1 ha
  obtain ⟨JB,Mk⟩:=lca.1 hb
  have:=List.pairwise_iff_getElem.1 h a b DS JB hab
  rw [HF,Mk] at this;omega
 rcases Nat.lt_trichotomy i j with h3|h3|h3
 ·exact (key h3 h1 h2).elim
 ·exact h3
 ·exact (key h3 h2 h1).elim
theorem MI.plain {l:List ZU} {k:Nat} {op last:List Int} {E L:List Int} {x:ZU} {is:Int} (h:MI l k ⟨op,last,false⟩ E L) (hx:l[k]?=some x) (h2:x.op≠2) (h3:x.op≠3) (h4:x.op≠4) (h5:x.op≠5) (h11:x.op≠11) (hn:Zs ⟨op,last,false⟩ x.op k=(⟨op,last,false⟩,is,0)):MI l (k+1) ⟨op,last,false⟩ (E.set k (-1)) (L.set k (-1)):=by
 have IA:=Ug hx
 have hno:∀i,Zp l i→i≠k:=fun i hi e=>by subst e;unfold Zp at hi;omega
 obtain ⟨e1,e2,e3,e4,e5,e6,e7,e8,e9⟩:=h
 refine ⟨by simpa using e1,by simpa using e2,by rw [Yo hx,←e3,hn],e4,fun m hm=>?_,e6,fun j i hj=>?_,fun i hi ho hm=>?_,fun i j hij hj oi oj mi mj=>?_⟩
 ·rcases e5 m hm with r|⟨i,r1,r2,r3⟩
  ·exact .inl r
  ·exact .inr ⟨i,r1,by omega,r3⟩
 ·obtain ⟨a1,a2⟩:=e7 j i hj
  have hik:i≠k:=by
   rcases e5 _ (lha hj) with r|⟨i',r1,r2,r3⟩ <;> omega
  rw [Zn hik,Zn hik]
  refine ⟨a1,a2.imp id fun ⟨b1,b2,q,b3,b4,b5,b6,b7⟩=>⟨b1,b2,q,b3,b4,by omega,b6,?_⟩⟩
  rw [Zn qo];exact b7
 ·have hik:=hno i ho
  obtain ⟨e,a1,a2,a3,a4,a5,a6,a7⟩:=e8 i qo ho hm
  rw [Zn hik,Zn hik]
  refine ⟨e,a1,a2,by omega,a4,by rw [Zn qo];exact a5,a6.imp id fun ⟨q,b1,b2,b3,b4,b5,b6,b7⟩=>⟨q,b1,b2,b3,b4,b5,by rw [Zn qo];exact b6,by rw [Zn qo];exact b7⟩,a7⟩
 ·rw [Zn (hno i oi),Zn (hno j oj)]
  exact e9 i j hij (by have:=hno j oj;omega) oi oj mi mj
theorem MI.opens {l:List ZU} {k:Nat} {op last:List Int} {E L:List Int} {x:ZU} {is:Int} (h:MI l k ⟨op,last,false⟩ E L) (hx:l[k]?=some x) (ho:x.op=2∨x.op=3∨x.op=4) (hn:Zs ⟨op,last,false⟩ x.op k=(⟨op++[(k:Int)],last++[x.op],false⟩,is,0)):MI l (k+1) ⟨op++[(k:Int)],last++[x.op],false⟩ (E.set k (-1)) (L.set k (-1)):=by
 have IA:=Ug hx
 have hlt:=(lca.1 hx).1
 have hok:=X6 l k
 obtain ⟨e1,e2,e3,e4,e5,e6,e7,e8,e9⟩:=h
 rw [←e3] at hok
 have hlen:=hok.len
 simp only at hlen e3 e4 e5 e6 e7 e8 e9
 have L5:Zp l k:=by unfold Zp;rw [IA];exact ho
 refine ⟨by simpa using e1,by simpa using e2,by rw [Yo hx,←e3,hn],?_,fun m hm=>?_,fun _=>?_,fun j i hj=>?_,fun i hi Kp hm=>?_,fun i j hij hj oi oj mi mj=>?_⟩
 ·rw [List.pairwise_append]
  refine ⟨e4,by simp,fun a ha b hb=>?_⟩
  rw [lta.1 hb]
  rcases e5 a ha with r|⟨i,r1,r2,r3⟩ <;> omega
 ·rcases lFa.1 hm with hm|hm
  ·rcases e5 m hm with r|⟨i,r1,r2,r3⟩
   ·exact .inl r
   ·exact .inr ⟨i,r1,by omega,r3⟩
  ·exact .inr ⟨k,lta.1 hm,by omega,L5⟩
 ·obtain ⟨r1,r2⟩:=e6 trivial
  have l1:=(lca.1 r1).1
  exact ⟨by rw [loa l1];exact r1,by rw [loa qo];exact r2⟩
 ·rw [lVa] at hj
  split at hj
  ·rename_i hjl
   obtain ⟨a1,a2⟩:=e7 j i hj
   have hik:i≠k:=by
    rcases e5 _ (lha hj) with r|⟨i',r1,r2,r3⟩ <;> omega
   rw [Zn hik,Zn hik,loa qo]
   refine ⟨a1,a2.imp id fun ⟨b1,b2,q,b3,b4,b5,b6,b7⟩=>⟨b1,b2,q,b3,b4,by omega,b6,?_⟩⟩
   rw [Zn qo];exact b7
  ·rename_i hjl
   have hj0:j=op.length:=by
    have:=(lca.1 hj).1
    simp at this;omega
   subst hj0
   simp at hj
   have:i=k:=by omega
   subst this
   rw [Wn qo,Wn qo]
   refine ⟨rfl,.inl ⟨?_,rfl⟩⟩
   rw [←hlen,lsa (lra _),IA];simp
 ·have Iz:(i:Int)∉op:=fun h=>hm (leb _ h)
  have hik:i≠k:=fun e=>hm (by subst e;simp)
  obtain ⟨e,a1,a2,a3,a4,a5,a6,a7⟩:=e8 i qo Kp Iz
  rw [Zn hik,Zn hik]
  refine ⟨e,a1,a2,by omega,a4,by rw [Zn qo];exact a5,a6.imp id fun ⟨q,b1,b2,b3,b4,b5,b6,b7⟩=>⟨q,b1,b2,b3,b4,b5,by rw [Zn qo];exact b6,by rw [Zn qo];exact b7⟩,fun m hm=>?_⟩
  rcases lFa.1 hm with hm|hm
  ·exact a7 m hm
  ·rw [lta.1 hm];omega
 ·have m1:(i:Int)∉op:=fun h=>mi (leb _ h)
  have m2:(j:Int)∉op:=fun h=>mj (leb _ h)
  have hik:i≠k:=fun e=>mi (by subst e;simp)
  have Eu:j≠k:=fun e=>mj (by subst e;simp)
  rw [Zn hik,Zn Eu]
  exact e9 i j hij qo oi oj m1 m2
theorem MI.top {l:List ZU} {k:Nat} {op last:List Int} {E L:List Int} (h:MI l k ⟨op,last,false⟩ E L) {y:Int} (hy:op[op.length-1]?=some y):(y=-1∧op.length=1∧last[op.length-1]?=some 2)∨∃i:Nat,y=i∧i<k∧Zp l i∧1<op.length:=by
 obtain ⟨r1,r2⟩:=h.root rfl
 simp only at r1 r2
 by_cases h1:op.length=1
 ·left
  rw [h1] at hy ⊢
  rw [show 1-1=0 from rfl,r1] at hy
  exact ⟨(Option.some.inj hy).symm,rfl,r2⟩
 ·right
  rcases h.mem y (lha hy) with r|⟨i,q1,q2,q3⟩
  ·exfalso
   subst r
   have:=Sd h.inc r1 hy
   have:=(lca.1 r1).1
   omega
  ·have:=(lca.1 hy).1
   exact ⟨i,q1,q2,q3,by omega⟩
theorem MI.Q9 {l:List ZU} {k:Nat} {op last:List Int} {E L:List Int} {x:ZU} {y z:Int} (h:MI l k ⟨op,last,false⟩ E L) (hx:l[k]?=some x) (ho:x.op=5) (hz:last[op.length-1]?=some z) (hz4:z=4) (hy:op[op.length-1]?=some y)
  (hn:Zs ⟨op,last,false⟩ x.op k=(⟨op,last.set (op.length-1) 5,false⟩,y,0)):MI l (k+1) ⟨op,last.set (op.length-1) 5,false⟩ (E.set k (-1)) (((L.set k (-1)).set k y).set y.toNat k)∧0≤y∧y.toNat<l.length:=by
 subst hz4
 have IA:=Ug hx
 have hlt:=(lca.1 hx).1
 have ht:=h.top hy
 rw [hz] at ht
 obtain ⟨i0,rfl,hi0,Nc,Nn⟩:∃i:Nat,y=i∧i<k∧Zp l i∧1<op.length:=by
  rcases ht with ⟨_,_,r⟩|r
  ·cases r
  ·exact r
 rw [lka]
 obtain ⟨e1,e2,e3,e4,e5,e6,e7,e8,e9⟩:=h
 simp only at e3 e4 e5 e6 e7 e8 e9
 have hno:∀i,Zp l i→i≠k:=fun i hi e=>by subst e;unfold Zp at hi;omega
 have h50:∀i,oo l i=5→i≠i0:=fun i hi e=>by subst e;unfold Zp at Nc;omega
 have gL:∀i,i≠k→i≠i0→gd (((L.set k (-1)).set k (i0:Int)).set i0 k) i=gd L i:=fun i h1 h2=>by rw [Zn h2,Zn h1,Zn h1]
 have hl0:oo l i0=4:=by
  obtain ⟨_,r|⟨r1,r2,_⟩⟩:=e7 _ _ hy
  ·rw [hz] at r;exact (Option.some.inj r.1).symm
  ·exact r2
 refine ⟨⟨by simpa using e1,by simpa using e2,by rw [Yo hx,←e3,hn],e4,fun m hm=>?_,fun _=>?_,fun j i hj=>?_,fun i hi Kp hm=>?_,fun i j hij hj oi oj mi mj=>?_⟩,by omega,by omega⟩
 ·rcases e5 m hm with r|⟨i,r1,r2,r3⟩
  ·exact .inl r
  ·exact .inr ⟨i,r1,by omega,r3⟩
 ·obtain ⟨r1,r2⟩:=e6 trivial
  refine ⟨r1,?_⟩
  show (last.set _ 5)[0]?=_
  rw [lvb qo];exact r2
 ·have hj:op[j]?=some (i:Int):=hj
  have hik:i≠k:=by
   rcases e5 _ (lha hj) with r|⟨i',r1,r2,r3⟩ <;> omega
  by_cases hjt:j=op.length-1
  ·subst hjt
   rw [hy] at hj
   have:i=i0:=by have:=Option.some.inj hj;omega
   subst this
   refine ⟨by rw [Zn hik];exact (e7 _ _ hy).1,.inr ⟨?_,hl0,k,Wn (by simp;omega),hi0,by omega,by rw [IA];exact ho,?_⟩⟩
   ·show (last.set _ 5)[_]?=_
    rw [lyb (lca.1 hz).1]
   ·rw [Zn (Ne.symm hik),Wn (by simp;omega)]
  ·have QU:i≠i0:=fun e=>by subst e;exact hjt (Sd e4 hj hy)
   obtain ⟨a1,a2⟩:=e7 j i hj
   rw [Zn hik,gL i hik QU]
   have hls:(last.set (op.length-1) 5)[j]?=last[j]?:=lvb qo
   refine ⟨a1,?_⟩
   show ((last.set (op.length-1) 5)[j]?=_∧_)∨((last.set (op.length-1) 5)[j]?=_∧_)
   rw [hls]
   exact a2.imp id fun ⟨b1,b2,q,b3,b4,b5,b6,b7⟩=>⟨b1,b2,q,b3,b4,by omega,b6,by rw [gL q qo (h50 q b6)];exact b7⟩
 ·have hik:=hno i Kp
  have QU:i≠i0:=fun e=>hm (by subst e;exact lha hy)
  obtain ⟨e,a1,a2,a3,a4,a5,a6,a7⟩:=e8 i qo Kp hm
  rw [Zn hik,gL i hik QU]
  exact ⟨e,a1,a2,by omega,a4,by rw [Zn qo];exact a5,a6.imp id fun ⟨q,b1,b2,b3,b4,b5,b6,b7⟩=>⟨q,b1,b2,b3,b4,b5,by rw [gL q qo (h50 q b5)];exact b6,by rw [Zn qo];exact b7⟩,a7⟩
 ·rw [Zn (hno i oi),Zn (hno j oj)]
  exact e9 i j hij (by have:=hno j oj;omega) oi oj mi mj
theorem MI.aeh {l:List ZU} {k:Nat} {op last:List Int} {E L:List Int} {x:ZU} {y:Int} {q:Bool} (h:MI l k ⟨op,last,false⟩ E L) (hx:l[k]?=some x) (ho:x.op=11) (hy:op[op.length-1]?=some y) (hy0:y<0)
  (hn:Zs ⟨op,last,false⟩ x.op k=(⟨op.take (op.length-1),last.take (op.length-1),q⟩,y,0)):MI l (k+1) ⟨op.take (op.length-1),last.take (op.length-1),q⟩ ((E.set k (-1)).set k y) (L.set k (-1)):=by
 have IA:=Ug hx
 have hlt:=(lca.1 hx).1
 obtain ⟨rfl,Nn,_⟩:y=-1∧op.length=1∧last[op.length-1]?=some 2:=by
  rcases h.top hy with r|⟨i,r,_⟩
  ·exact r
  ·omega
 have hq:q=true:=by
  have:=Zs
  unfold Zs at hn
  rw [if_neg qs,if_neg qo,if_neg qo,if_pos ho] at hn
  injection hn with hn _
  injection hn with _ _ hn
  rw [←hn];simp [Nn]
 have hop:op=[-1]:=by
  match op,Nn with
  | [a],_=>have hy:[a][0]?=some (-1):=hy;rw [show a=-1 from Option.some.inj hy]
 subst hop
 obtain ⟨e1,e2,e3,e4,e5,e6,e7,e8,e9⟩:=h
 simp only at e3 e4 e5 e6 e7 e8 e9
 have hno:∀i,Zp l i→i≠k:=fun i hi e=>by subst e;unfold Zp at hi;omega
 refine ⟨by simpa using e1,by simpa using e2,by rw [Yo hx,←e3,hn],by simp,(fun m hm=>by simp at hm),(fun h=>by rw [hq] at h;cases h),(fun j i hj=>by simp at hj),fun i hi Kp hm=>?_,fun i j hij hj oi oj mi mj=>?_⟩
 ·have hik:=hno i Kp
  obtain ⟨e,a1,a2,a3,a4,a5,a6,a7⟩:=e8 i qo Kp qs
  rw [Zn hik,Zn hik,Zn hik]
  exact ⟨e,a1,a2,by omega,a4,by rw [Zn qo,Zn qo];exact a5,a6.imp id fun ⟨q,b1,b2,b3,b4,b5,b6,b7⟩=>⟨q,b1,b2,b3,b4,b5,by rw [Zn qo];exact b6,by rw [Zn qo,Zn qo];exact b7⟩,fun m hm=>by simp at hm⟩
 ·rw [Zn (hno i oi),Zn (hno j oj),Zn (hno i oi),Zn (hno j oj)]
  exact e9 i j hij (by have:=hno j oj;omega) oi oj qs qs
theorem adh {l:List Int} {y:Int} (hy:l[l.length-1]?=some y):l=l.take (l.length-1)++[y]:=by
 have hlt:=(lca.1 hy).1
 conv=>lhs;rw [←lHb (l:=l),show l.length=(l.length-1)+1 by omega,lBb,hy]
 rfl
theorem MI.end_ {l:List ZU} {k:Nat} {op last:List Int} {E L E':List Int} {x:ZU} {y:Int} {q:Bool} (h:MI l k ⟨op,last,false⟩ E L) (hx:l[k]?=some x) (ho:x.op=11) (hy:op[op.length-1]?=some y) (hy0:0≤y)
  (hn:Zs ⟨op,last,false⟩ x.op k=(⟨op.take (op.length-1),last.take (op.length-1),q⟩,y,0))
  (hE:E'=if 0≤gd (L.set k (-1)) y.toNat then (((E.set k (-1)).set k y).set y.toNat k).set (gd (L.set k (-1)) y.toNat).toNat k else ((E.set k (-1)).set k y).set y.toNat k) :
  MI l (k+1) ⟨op.take (op.length-1),last.take (op.length-1),q⟩ E' (L.set k (-1))∧y.toNat<l.length∧(0≤gd (L.set k (-1)) y.toNat→(gd (L.set k (-1)) y.toNat).toNat<l.length):=by
 have IA:=Ug hx
 have hlt:=(lca.1 hx).1
 obtain ⟨i0,rfl,hi0,Nc,Nn⟩:∃i:Nat,y=i∧i<k∧Zp l i∧1<op.length:=by
  rcases h.top hy with ⟨r,_⟩|r
  ·omega
  ·exact r
 rw [lka] at *
 have hok:=X6 l k
 obtain ⟨e1,e2,e3,e4,e5,e6,e7,e8,e9⟩:=h
 rw [←e3] at hok
 have hlen:=hok.len
 simp only at hlen e3 e4 e5 e6 e7 e8 e9
 have hq:q=false:=by
  unfold Zs at hn
  rw [if_neg qs,if_neg qo,if_neg qo,if_pos ho] at hn
  injection hn with hn _
  injection hn with _ _ hn
  rw [←hn];simp;omega
 have FO:i0≠k:=by omega
 have hno:∀i,Zp l i→i≠k:=fun i hi e=>by subst e;unfold Zp at hi;omega
 rw [Zn FO] at hE ⊢
 obtain ⟨a0,aL⟩:=e7 _ _ hy
 have hh:gd L i0=-1∨∃h:Nat,gd L i0=h∧i0<h∧h<k∧oo l h=5∧gd L h=i0∧oo l i0=4:=by
  rcases aL with ⟨_,r⟩|⟨_,r0,r⟩
  ·exact .inl r
  ·obtain ⟨h,r1,r2,r3,r4,r5⟩:=r;exact .inr ⟨h,r1,r2,r3,r4,r5,r0⟩
 have FN:E'.length=l.length:=by rw [hE];split <;> simpa using e1
 have gk:gd E' k=i0:=by
  rcases hh with r|⟨h,r1,r2,r3,r4,r5,r6⟩
  ·rw [hE,if_neg qo,Zn (Ne.symm FO),Wn (by simp;omega)]
  ·rw [hE,if_pos qo,r1,lka,Zn qo,Zn (Ne.symm FO),Wn (by simp;omega)]
 have g0:gd E' i0=k:=by
  rcases hh with r|⟨h,r1,r2,r3,r4,r5,r6⟩
  ·rw [hE,if_neg qo,Wn (by simp;omega)]
  ·rw [hE,if_pos qo,r1,lka,Zn qo,Wn (by simp;omega)]
 have gE:∀i,i≠k→i≠i0→(gd L i0≠i)→gd E' i=gd E i:=fun i h1 h2 h3=>by
  rw [hE]
  split
  ·rw [Zn qo,Zn h2,Zn h1,Zn h1]
  ·rw [Zn h2,Zn h1,Zn h1]
 have hsp:=adh hy
 have Nb:∀m∈op.take (op.length-1),m∈op∧m<(i0:Int):=fun m hm=>by
  refine ⟨lrb hm,?_⟩
  rw [hsp,List.pairwise_append] at e4
  exact e4.2.2 m hm _ (List.mem_singleton_self _)
 have hni:∀i:Nat,(i:Int)∉op.take (op.length-1)→i≠i0→(i:Int)∉op:=fun i h1 h2 h3=>by
  rw [hsp] at h3
  rcases lFa.1 h3 with r|r
  ·exact h1 r
  ·have:=lta.1 r;omega
 have hLn:∀i,Zp l i→gd L i0≠i:=fun i hi e=>by
  rcases hh with r|⟨h,r1,r2,r3,r4,r5,r6⟩
  ·omega
  ·have:h=i:=by omega
   subst this;unfold Zp at hi;omega
 have al8:∀i,oo l i=11→gd L i0≠i:=fun i hi e=>by
  rcases hh with r|⟨h,r1,r2,r3,r4,r5,r6⟩
  ·omega
  ·have:h=i:=by omega
   subst this;omega
 have Uz:∀i,i<k→Zp l i→(i:Int)∉op→∃e:Nat,gd E' i=e∧gd E i=e∧i<e∧e<k∧oo l e=11∧gd E' e=i∧(gd L i=-1∨∃h:Nat,gd L i=h∧i<h∧h<e∧oo l i=4∧oo l h=5∧gd L h=i∧gd E' h=e)∧∀m∈op,¬((i:Int)<m∧m<e):=fun i hi Kp hm=>by
  have QU:i≠i0:=fun e=>hm (by subst e;exact lha hy)
  obtain ⟨e,a1,a2,a3,a4,a5,a6,a7⟩:=e8 i hi Kp hm
  refine ⟨e,by rw [gE i qo QU (hLn i Kp)];exact a1,a1,a2,a3,a4,?_,a6.imp id fun ⟨q,b1,b2,b3,b4,b5,b6,b7⟩=>⟨q,b1,b2,b3,b4,b5,b6,?_⟩,a7⟩
  ·rw [gE e qo (fun h=>by subst h;unfold Zp at Nc;omega) (al8 e a4)];exact a5
  ·rw [gE q qo (fun h=>by subst h;unfold Zp at Nc;omega) (fun h=>?_)]
   ·exact b7
   ·rcases hh with r|⟨h',r1,r2,r3,r4,r5,r6⟩
    ·omega
    ·have:h'=q:=by omega
     subst this;omega
 refine ⟨⟨FN,by simpa using e2,by rw [Yo hx,←e3,hn],?_,fun m hm=>?_,fun _=>?_,fun j i hj=>?_,fun i hi Kp hm=>?_,fun i j hij hj oi oj mi mj=>?_⟩,by omega,fun h0=>?_⟩
 ·exact e4.sublist (List.take_sublist _ _)
 ·rcases e5 m (Nb m hm).1 with r|⟨i,r1,r2,r3⟩
  ·exact .inl r
  ·exact .inr ⟨i,r1,by omega,r3⟩
 ·obtain ⟨r1,r2⟩:=e6 trivial
  refine ⟨?_,?_⟩
  ·show (op.take _)[0]?=_
   rw [lAa,if_pos qo];exact r1
  ·show (last.take _)[0]?=_
   rw [lAa,if_pos qo];exact r2
 ·have hj:(op.take (op.length-1))[j]?=some (i:Int):=hj
  have hmi:=Nb _ (lha hj)
  rw [lAa] at hj
  split at hj
  ·rename_i hjl
   obtain ⟨a1,a2⟩:=e7 j i hj
   have Kp:Zp l i:=by
    rcases e5 _ hmi.1 with r|⟨i',r1,r2,r3⟩
    ·omega
    ·have:i=i':=by omega
     subst this;exact r3
   have QU:i≠i0:=by omega
   have hik:=hno i Kp
   rw [gE i hik QU (hLn i Kp),Zn hik]
   refine ⟨a1,?_⟩
   show ((last.take (op.length-1))[j]?=_∧_)∨((last.take (op.length-1))[j]?=_∧_)
   rw [lAa,if_pos hjl]
   exact a2.imp id fun ⟨b1,b2,p,b3,b4,b5,b6,b7⟩=>⟨b1,b2,p,b3,b4,by omega,b6,by rw [Zn qo];exact b7⟩
  ·cases hj
 ·have hik:=hno i Kp
  by_cases QU:i=i0
  ·subst QU
   rw [g0,Zn hik]
   refine ⟨k,rfl,hi0,by omega,by rw [IA];exact ho,by rw [gk],?_,fun m hm=>?_⟩
   ·rcases hh with r|⟨h,r1,r2,r3,r4,r5,r6⟩
    ·exact .inl r
    ·refine .inr ⟨h,r1,r2,r3,r6,r4,by rw [Zn qo];exact r5,?_⟩
     rw [hE,if_pos qo,r1,lka,Wn (by simp;omega)]
   ·have:=(Nb m hm).2;omega
  ·have hm':=hni i hm QU
   obtain ⟨e,a1,_,a2,a3,a4,a5,a6,a7⟩:=Uz i qo Kp hm'
   rw [a1,Zn hik]
   exact ⟨e,rfl,a2,by omega,a4,a5,a6.imp id fun ⟨p,b1,b2,b3,b4,b5,b6,b7⟩=>⟨p,b1,b2,b3,b4,b5,by rw [Zn qo];exact b6,b7⟩,fun m hm=>a7 m (Nb m hm).1⟩
 ·have hik:=hno i oi
  have Eu:=hno j oj
  by_cases QU:i=i0
  ·subst QU
   obtain ⟨e,a1,_,a2,a3,_⟩:=Uz j (by have:=hj;clear hh aL Uz e7 e8 e9;omega) oj (hni j mj (by clear hh aL Uz e7 e8 e9;omega))
   left;rw [a1,g0];exact Int.ofNat_lt.2 a3
  ·by_cases FM:j=i0
   ·subst FM
    obtain ⟨e,a1,_,a2,a3,a4,a5,_,a7⟩:=Uz i (by clear hh aL Uz e7 e8 e9;omega) oi (hni i mi QU)
    have:=a7 _ (lha hy)
    right;rw [a1]
    have hne:e≠j:=fun h=>by subst h;clear hh aL Uz e7 e8 e9 a5;unfold Zp at oj;omega
    clear hh aL Uz e7 e8 e9
    omega
   ·obtain ⟨e,a1,b1,_⟩:=Uz i qo oi (hni i mi QU)
    obtain ⟨e',a1',b1',_⟩:=Uz j qo oj (hni j mj FM)
    have:=e9 i j hij qo oi oj (hni i mi QU) (hni j mj FM)
    rw [a1,a1'];rw [b1,b1'] at this;exact this
 ·rcases hh with r|⟨h,r1,r2,r3,r4,r5,r6⟩
  ·omega
  ·rw [r1];omega
section
variable {l:List ZU} {k:Nat} {op last:List Int} {E L:List Int} {x:ZU} {is:Int} {st':NS}
theorem Yg {o:Int} (hn:Zs ⟨op,last,false⟩ o k=(st',is,0)) :
  ((o=2∨o=3∨o=4)∧st'=⟨op++[(k:Int)],last++[o],false⟩)∨(o=5∧last.getD (op.length-1) 0=4∧st'=⟨op,last.set (op.length-1) 5,false⟩∧is=op.getD (op.length-1) 0) ∨
  (o=11∧st'=⟨op.take (op.length-1),last.take (op.length-1),decide (op.length-1=0)⟩∧is=op.getD (op.length-1) 0)∨((o≠2∧o≠3∧o≠4∧o≠5∧o≠11)∧st'=⟨op,last,false⟩):=by
 unfold Zs at hn
 rw [if_neg qs] at hn
 split at hn
 ·rename_i ho
  split at hn
  ·cases hn
  ·injection hn with h1 _;exact .inl ⟨ho,h1.symm⟩
 rename_i h1
 split at hn
 ·rename_i ho
  split at hn
  ·cases hn
  ·rename_i h4
   injection hn with a b;injection b with b _
   exact .inr (.inl ⟨ho,Decidable.not_not.1 h4,a.symm,b.symm⟩)
 rename_i h2
 split at hn
 ·rename_i ho
  injection hn with a b;injection b with b _
  exact .inr (.inr (.inl ⟨ho,a.symm,b.symm⟩))
 ·rename_i h3
  injection hn with a b
  exact .inr (.inr (.inr ⟨by omega,a.symm⟩))
theorem MI.G4 (h:MI l k ⟨op,last,false⟩ E L):(∃y,op[op.length-1]?=some y)∧∃z,last[op.length-1]?=some z:=by
 have hok:=X6 l k
 rw [←h.cur] at hok
 have h1:=hok.pos rfl
 have h2:=hok.len
 simp only at h1 h2
 exact ⟨⟨_,laa qo⟩,⟨_,laa qo⟩⟩
theorem getD_some {l:List Int} {i:Nat} {y:Int} (h:l[i]?=some y):l.getD i 0=y:=by rw [lea,h];rfl
theorem MI.N0 (h:MI l k ⟨op,last,false⟩ E L) (hx:l[k]?=some x) (hn:Zs ⟨op,last,false⟩ x.op k=(st',is,0)) (h5:x.op≠5) (h11:x.op≠11):MI l (k+1) st' (E.set k (-1)) (L.set k (-1)):=by
 rcases Yg hn with ⟨ho,rfl⟩|⟨ho,_⟩|⟨ho,_⟩|⟨ho,rfl⟩
 ·exact h.opens hx ho hn
 ·exact absurd ho h5
 ·exact absurd ho h11
 ·exact h.plain hx ho.1 ho.2.1 ho.2.2.1 h5 h11 hn
theorem MI.Vb (h:MI l k ⟨op,last,false⟩ E L) (hx:l[k]?=some x) (hn:Zs ⟨op,last,false⟩ x.op k=(st',is,0)) (h5:x.op=5):MI l (k+1) st' (E.set k (-1)) (((L.set k (-1)).set k is).set is.toNat k)∧0≤is∧is.toNat<l.length:=by
 obtain ⟨⟨y,hy⟩,⟨z,hz⟩⟩:=h.G4
 rcases Yg hn with ⟨ho,_⟩|⟨ho,h4,rfl,h7⟩|⟨ho,_⟩|⟨ho,_⟩
 ·omega
 ·rw [getD_some hz] at h4
  rw [getD_some hy] at h7
  subst h7
  exact h.Q9 hx ho hz h4 hy hn
 ·omega
 ·exact absurd h5 ho.2.2.2.1
theorem MI.step_end (h:MI l k ⟨op,last,false⟩ E L) (hx:l[k]?=some x) (hn:Zs ⟨op,last,false⟩ x.op k=(st',is,0)) (h11:x.op=11) :
  (is<0∧MI l (k+1) st' ((E.set k (-1)).set k is) (L.set k (-1))) ∨
  (0≤is∧is.toNat<l.length∧((gd (L.set k (-1)) is.toNat<0∧MI l (k+1) st' (((E.set k (-1)).set k is).set is.toNat k) (L.set k (-1))) ∨
   (0≤gd (L.set k (-1)) is.toNat∧(gd (L.set k (-1)) is.toNat).toNat<l.length∧MI l (k+1) st' ((((E.set k (-1)).set k is).set is.toNat k).set (gd (L.set k (-1)) is.toNat).toNat k) (L.set k (-1))))):=by
 obtain ⟨⟨y,hy⟩,_⟩:=h.G4
 rcases Yg hn with ⟨ho,_⟩|⟨ho,_⟩|⟨ho,rfl,h7⟩|⟨ho,_⟩
 ·omega
 ·omega
 ·rw [getD_some hy] at h7
  subst h7
  rcases Int.lt_or_le is 0 with h0|h0
  ·exact .inl ⟨h0,h.aeh hx ho hy h0 hn⟩
  ·right
   have:=fun E' hE=>h.end_ (E':=E') hx ho hy h0 hn hE
   rcases Int.lt_or_le (gd (L.set k (-1)) is.toNat) 0 with h8|h8
   ·obtain ⟨a,b,_⟩:=this _ rfl
    rw [if_neg qo] at a
    exact ⟨h0,b,.inl ⟨h8,a⟩⟩
   ·obtain ⟨a,b,c⟩:=this _ rfl
    rw [if_pos h8] at a
    exact ⟨h0,b,.inr ⟨h8,c h8,a⟩⟩
 ·exact absurd h11 ho.2.2.2.2
theorem MI.Th (h:MI l k ⟨op,last,false⟩ E L) (hx:l[k]?=some x) (hn:Zs ⟨op,last,false⟩ x.op k=(st',is,0)) (h11:x.op=11) :
  (is<0∧MI l (k+1) st' ((E.set k (-1)).set k is) (L.set k (-1))) ∨
  (∃z,0≤is∧is.toNat<l.length∧(L.set k (-1))[is.toNat]?=some z∧z<0∧MI l (k+1) st' (((E.set k (-1)).set k is).set is.toNat k) (L.set k (-1))) ∨
  (∃z,0≤is∧is.toNat<l.length∧(L.set k (-1))[is.toNat]?=some z∧0≤z∧z.toNat<l.length∧MI l (k+1) st' ((((E.set k (-1)).set k is).set is.toNat k).set z.toNat k) (L.set k (-1))):=by
 rcases h.step_end hx hn h11 with r|⟨h1,h2,r⟩
 ·exact .inl r
 ·obtain ⟨z,hz⟩:∃z,(L.set k (-1))[is.toNat]?=some z:=⟨_,laa (by rw [lfa,h.lL];exact h2)⟩
  rw [KR hz] at r
  rcases r with ⟨r1,r2⟩|⟨r1,r2,r3⟩
  ·exact .inr (.inl ⟨z,h1,h2,hz,r1,r2⟩)
  ·exact .inr (.inr ⟨z,h1,h2,hz,r1,r2,r3⟩)
theorem MI.done {l:List ZU} {op last:List Int} (h:MI l l.length ⟨op,last,true⟩ E L) (hl:l≠[]):op=[]:=by
 obtain ⟨n,hn⟩:∃n,l.length=n+1:=⟨l.length-1,by have:=lIb.2 hl;omega⟩
 have key:∀k,(Zq l k).over=true→(Zq l k).op=[]:=by
  intro k
  induction k with
  | zero=>intro h;cases h
  | succ k ih =>
   intro ho
   cases hx:l[k]? with
   | none =>
    have e:Zq l (k+1)=Zq l k:=by
     show (match l[k]? with|none=>Zq l k|some x=>(Zs (Zq l k) x.op k).1)=_
     rw [hx]
    rw [e] at ho ⊢;exact ih ho
   | some x =>
    rw [Yo hx] at ho ⊢
    unfold Zs at ho ⊢
    split
    ·rename_i h1;exact ih h1
    rename_i h1
    rw [if_neg h1] at ho
    split
    ·rename_i h2
     rw [if_pos h2] at ho
     split
     ·rename_i h3;rw [if_pos h3] at ho;exact absurd ho h1
     ·rename_i h3;rw [if_neg h3] at ho;exact absurd ho h1
    rename_i h2
    rw [if_neg h2] at ho
    split
    ·rename_i h3
     rw [if_pos h3] at ho
     split
     ·rename_i h4;rw [if_pos h4] at ho;exact absurd ho h1
     ·rename_i h4;rw [if_neg h4] at ho;exact absurd ho h1
    rename_i h3
    rw [if_neg h3] at ho
    split
    ·rename_i h4
     rw [if_pos h4] at ho
     have:(Zq l k).op.length-1=0:=by simpa using ho
     show (Zq l k).op.take _=[]
     rw [this];rfl
    ·rename_i h4;rw [if_neg h4] at ho;exact absurd ho h1
 have:=key l.length (by rw [←h.cur])
 rw [←h.cur] at this;exact this
end
end Zk
namespace Zk
open XV G6 YS
def tp (st:NS):Int:=st.op.getD (st.op.length-1) 0
def tl (st:NS):Int:=st.last.getD (st.op.length-1) 0
structure MK (l:List ZU) (k:Nat) (st:NS) (E L:List Int):Prop where
 mi:MI l k st E L
 e:∀e,e<k→oo l e=11→gd E e=tp (Zq l e)
 h:∀h,h<k→oo l h=5→gd L h=tp (Zq l h)
 q:∀e i:Nat,e<k→oo l e=11→tp (Zq l e)=i→tl (Zq l e)=5→i<k∧0≤gd L i
section
variable {l:List ZU} {k:Nat} {op last:List Int} {E L:List Int} {x:ZU} {is:Int} {st st':NS}
theorem MK.cur (h:MK l k st E L):st=Zq l k:=h.mi.cur
theorem MK.eL (h:MK l k st E L):E.length=l.length:=h.mi.eL
theorem MK.lL (h:MK l k st E L):L.length=l.length:=h.mi.lL
theorem MK.zero (h1:E.length=l.length) (h2:L.length=l.length):MK l 0 OY E L:=⟨MI.zero h1 h2,nofun,nofun,nofun⟩
theorem MK.N0 (h:MK l k ⟨op,last,false⟩ E L) (hx:l[k]?=some x) (hn:Zs ⟨op,last,false⟩ x.op k=(st',is,0)) (h5:x.op≠5) (h11:x.op≠11):MK l (k+1) st' (E.set k (-1)) (L.set k (-1)):=by
 have IA:=Ug hx
 refine ⟨h.mi.N0 hx hn h5 h11,fun e he ho=>?_,fun e he ho=>?_,fun e i he ho ht hl=>?_⟩
 ·have:e≠k:=fun c=>by subst c;omega
  rw [Zn this];exact h.e e qo ho
 ·have:e≠k:=fun c=>by subst c;omega
  rw [Zn this];exact h.h e qo ho
 ·have:e≠k:=fun c=>by subst c;omega
  obtain ⟨q1,q2⟩:=h.q e i qo ho ht hl
  rw [Zn qo];exact ⟨by omega,q2⟩
theorem MI.tpk (h:MI l k ⟨op,last,false⟩ E L) {y:Int} (hy:op[op.length-1]?=some y):tp (Zq l k)=y:=by
 rw [←h.cur];unfold tp;exact getD_some hy
theorem MK.Vb (h:MK l k ⟨op,last,false⟩ E L) (hx:l[k]?=some x) (hn:Zs ⟨op,last,false⟩ x.op k=(st',is,0)) (h5:x.op=5):MK l (k+1) st' (E.set k (-1)) (((L.set k (-1)).set k is).set is.toNat k)∧0≤is∧is.toNat<l.length:=by
 obtain ⟨m1,m2,m3⟩:=h.mi.Vb hx hn h5
 have IA:=Ug hx
 have hlt:=(lca.1 hx).1
 obtain ⟨⟨y,hy⟩,⟨z,hz⟩⟩:=h.mi.G4
 have De:is=y:=by
  rcases Yg hn with ⟨ho,_⟩|⟨_,_,_,h7⟩|⟨ho,_⟩|⟨ho,_⟩
  ·omega
  ·rw [getD_some hy] at h7;exact h7
  ·omega
  ·exact absurd h5 ho.2.2.2.1
 subst De
 obtain ⟨i0,rfl,hi0,Nc,_⟩:∃i:Nat,is=i∧i<k∧Zp l i∧1<op.length:=by
  rcases h.mi.top hy with ⟨r,_⟩|r
  ·omega
  ·exact r
 rw [lka] at *
 have hn0:∀j,(oo l j=11∨oo l j=5)→j≠i0:=fun j hj c=>by subst c;unfold Zp at Nc;omega
 have hL:L.length=l.length:=h.lL
 refine ⟨⟨m1,fun e he ho=>?_,fun e he ho=>?_,fun e i he ho ht hl=>?_⟩,m2,m3⟩
 ·have:e≠k:=fun c=>by subst c;omega
  rw [Zn this];exact h.e e qo ho
 ·rw [Zn (hn0 e (.inr ho))]
  by_cases c:e=k
  ·subst c
   rw [Wn (by simp;omega)]
   exact (h.mi.tpk hy).symm
  ·rw [Zn c,Zn c];exact h.h e qo ho
 ·have:e≠k:=fun c=>by subst c;omega
  obtain ⟨q1,q2⟩:=h.q e i qo ho ht hl
  refine ⟨by omega,?_⟩
  by_cases c:i=i0
  ·subst c
   rw [Wn (by simp;omega)];omega
  ·rw [Zn c,Zn qo,Zn qo];exact q2
theorem MK.Th (h:MK l k ⟨op,last,false⟩ E L) (hx:l[k]?=some x) (hn:Zs ⟨op,last,false⟩ x.op k=(st',is,0)) (h11:x.op=11) :
  (is<0∧MK l (k+1) st' ((E.set k (-1)).set k is) (L.set k (-1))) ∨
  (∃z,0≤is∧is.toNat<l.length∧(L.set k (-1))[is.toNat]?=some z∧z<0∧MK l (k+1) st' (((E.set k (-1)).set k is).set is.toNat k) (L.set k (-1))) ∨
  (∃z,0≤is∧is.toNat<l.length∧(L.set k (-1))[is.toNat]?=some z∧0≤z∧z.toNat<l.length∧MK l (k+1) st' ((((E.set k (-1)).set k is).set is.toNat k).set z.toNat k) (L.set k (-1))):=by
 have IA:=Ug hx
 have hlt:=(lca.1 hx).1
 obtain ⟨⟨y,hy⟩,⟨z9,hz9⟩⟩:=h.mi.G4
 have De:is=y:=by
  rcases Yg hn with ⟨ho,_⟩|⟨ho,_⟩|⟨_,_,h7⟩|⟨ho,_⟩
  ·omega
  ·omega
  ·rw [getD_some hy] at h7;exact h7
  ·exact absurd h11 ho.2.2.2.2
 subst De
 have Gs:=h.mi.tpk hy
 have hE:E.length=l.length:=h.eL
 have hL:L.length=l.length:=h.lL
 have hh:∀e,e<k+1→oo l e=5→gd (L.set k (-1)) e=tp (Zq l e):=fun e he ho=>by
  have:e≠k:=fun c=>by subst c;omega
  rw [Zn this];exact h.h e qo ho
 have hq:∀e i:Nat,e<k+1→oo l e=11→tp (Zq l e)=i→tl (Zq l e)=5→i<k+1∧0≤gd (L.set k (-1)) i:=fun e i he ho ht hl=>by
  by_cases c:e=k
  ·subst c
   have hi:is=(i:Int):=Gs.symm.trans ht
   obtain ⟨i0,h1,hi0,_,_⟩:∃i0:Nat,is=i0∧i0<e∧Zp l i0∧1<op.length:=by
    rcases h.mi.top hy with ⟨r,_⟩|r
    ·omega
    ·exact r
   obtain rfl:i=i0:=by omega
   rw [Zn qo]
   refine ⟨by omega,?_⟩
   rw [hi] at hy
   obtain ⟨_,r|⟨_,_,q,r3,_⟩⟩:=h.mi.last _ _ hy
   ·exfalso
    rw [←h.cur] at hl
    unfold tl at hl
    simp only at hl r
    rw [getD_some r.1] at hl
    rcases h.mi.mem _ (lha hy) with r2|⟨j,r1,_,r3⟩
    ·omega
    ·obtain rfl:i=j:=by omega
     unfold Zp at r3;omega
   ·rw [r3];omega
  ·obtain ⟨q1,q2⟩:=h.q e i qo ho ht hl
   rw [Zn qo];exact ⟨by omega,q2⟩
 rcases h.mi.Th hx hn h11 with ⟨r1,r2⟩|⟨z,r1,r2,r3,r4,r5⟩|⟨z,r1,r2,r3,r4,r5,r6⟩
 ·refine .inl ⟨r1,r2,fun e he ho=>?_,hh,hq⟩
  by_cases c:e=k
  ·subst c;rw [Wn (by simp;omega)];exact Gs.symm
  ·rw [Zn c,Zn c];exact h.e e qo ho
 ·obtain ⟨i0,rfl,hi0,Nc,_⟩:∃i:Nat,is=i∧i<k∧Zp l i∧1<op.length:=by
   rcases h.mi.top hy with ⟨r,_⟩|r
   ·omega
   ·exact r
  refine .inr (.inl ⟨z,r1,r2,r3,r4,r5,fun e he ho=>?_,hh,hq⟩)
  rw [lka]
  have:e≠i0:=fun c=>by subst c;unfold Zp at Nc;omega
  rw [Zn this]
  by_cases c:e=k
  ·subst c;rw [Wn (by simp;omega)];exact Gs.symm
  ·rw [Zn c,Zn c];exact h.e e qo ho
 ·obtain ⟨i0,rfl,hi0,Nc,_⟩:∃i:Nat,is=i∧i<k∧Zp l i∧1<op.length:=by
   rcases h.mi.top hy with ⟨r,_⟩|r
   ·omega
   ·exact r
  rw [lka] at *
  refine .inr (.inr ⟨z,r1,r2,r3,r4,r5,r6,fun e he ho=>?_,hh,hq⟩)
  have hz:z=gd L i0:=by
   have:=KR r3
   rw [Zn qo] at this;exact this.symm
  have h5:oo l z.toNat=5:=by
   obtain ⟨_,r|⟨_,_,q,q3,_,_,q6,_⟩⟩:=h.mi.last _ _ hy
   ·omega
   ·rw [hz,q3,lka];exact q6
  rw [Zn (fun c=>by subst c;omega)]
  have:e≠i0:=fun c=>by subst c;unfold Zp at Nc;omega
  rw [Zn this]
  by_cases c:e=k
  ·subst c;rw [Wn (by simp;omega)];exact Gs.symm
  ·rw [Zn c,Zn c];exact h.e e qo ho
end
end Zk
namespace YZ
open Go Go.RowKit Go.Lib
section
variable {P:Program} {g:Zv} {w w':World} {l:List As} {K:Value→World→Prop} {α:Type} {en:α→List Value} {s:Nat} {v v':Value} {xs:List α} {ys:List UInt8} {b o j i:Nat} {e e1 t u ty:TypeId} {x:α}
theorem aei {n lo:Nat} {ki:IntKind} {q:Int} (hi:q=lo) (hl:lo<n) (ht:P.underlying t=some (.array n e)) (hsz:(P.info? e).map (fun i=>i.size)=some 1)
  (k:K (.slice (some ⟨b,o+lo,none⟩) (n-lo) (n-lo)) w):Zi P (Instr.sliceAt t (.pointer (some ⟨b,o,none⟩)) (some (.int ki q)) none none) w K:=by
 refine ⟨_,w,?_,k⟩
 subst hi
 cases hi':P.info? e with
 | none=>simp [hi'] at hsz
 | some i' =>
  simp only [hi',Option.map_some,Option.some.injEq] at hsz
  have hb:(Instr.sliceBounds false n n (some (.int ki lo)) none none).run P w=.ok (lo,n,n) w:=by
   unfold Instr.sliceBounds
   simp [run_sliceBound (P:=P) w ki (lo:Int) n _ qo qo]
  have hne:n≠lo:=by omega
  unfold Instr.sliceAt
  simp only [Sem.run_bind,run_underlying ht,Result.andThen_ok]
  simp [Instr.sureAddr,hb,sizeOf,typeInfo,hi',hsz,hne,Addr.add_lit]
theorem aej (H:Sat g w l) (j:Nat) (hj:l[j]?=some (Sl e s en v xs)) (E:El v s i b o) (hx:xs[i]?=some x) (off m c:Nat) (hm:off+m≤s) (x':α) (WY:Wi (en x) off ((ys.take m).flatMap Tu)=en x')
  (ht:P.underlying t=some (.slice e1)) (hsz:(P.info? e1).map (fun i=>i.size)=some 1)
  (k:Rp l j (Sl e s en v (xs.set i x')) fun l'=>∀w',Sat g w' l'→K (.int .i64 (min ys.length m:Nat)) w'):Zi P (Builtin.copy_ #[t,u] ty #[.slice (some ⟨b,o+off,none⟩) m c,.string (bs ys)]) w K:=by
 obtain ⟨cur,hb,hle,_,hk⟩:=H.II hj E hx
 rw [Wo] at k
 have Ku:((ys.take m).flatMap Tu).length=min ys.length m:=by rw [YI K1,lac,lla,Nat.min_comm]
 cases hi:P.info? e1 with
 | none=>simp [hi] at hsz
 | some i1 =>
  simp only [hi,Option.map_some,Option.some.injEq] at hsz
  have h1:∀u∈(ys.take m).flatMap Tu,u.oneCell'=true:=fun u hu=>by
   obtain ⟨y,_,hu⟩:=List.mem_flatMap.1 hu
   rw [show u=_ from lta.1 hu];rfl
  have hst:=run_storeCells_at (P:=P) b (o+off) e ((ys.take m).flatMap Tu) 0 cur.toArray w hb (by rw [Ku];simp;omega) h1
  simp only [Nat.add_zero] at hst
  obtain ⟨hU,hB⟩:=SX (o:=o+off) (vs:=(ys.take m).flatMap Tu) hb (by rw [Ku];omega)
  refine ⟨_,_,?_,k _ (hk _ x' off _ (by rw [Ku];omega) WY hU hB)⟩
  have hf:(Array.map (fun b:UInt8=>Value.int .u8 b.toNat) ((bs ys).extract 0 (Nat.min ys.length m)).data).toList=(ys.take m).flatMap Tu:=by
   rw [←aaj]
   unfold strCells bs
   simp
   exact Nat.min_comm _ _
  have Gy:(Builtin.firstCells 1 (Nat.min ys.length m) (.string (bs ys))).run P w=.ok ((ys.take m).flatMap Tu).toArray w:=by
   show Sem.run P (pure _) w=_
   rw [Sem.run_pure]
   congr 1
   apply Array.ext'
   exact hf
  simp [Builtin.copy_,run_underlying ht,Builtin.lenOf,TW,sizeOf,typeInfo,hi,hsz,Gy,hst]
  rfl
end
end YZ
namespace Mem
open Go YZ Go.RowKit
structure WT where
 l:List UInt8
 h:l.length=256
def Xf (p:WT):List Value:=p.l.flatMap Tu
theorem RC (p:WT):(Xf p).length=256:=by
 unfold Xf;rw [YI K1,p.h]
def zp:WT:=⟨List.replicate 256 0,lja ..⟩
def flat (ps:List WT):List UInt8:=ps.flatMap (·.l)
theorem Yc:∀ps:List WT,(flat ps).length=256 * ps.length
 | []=>rfl
 | p::ps=>by
  have:=Yc ps
  unfold flat at this ⊢
  rw [lQa,lba,p.h,this,lda];omega
theorem Sc:∀(ps:List WT) (q:Nat),(flat ps)[q]?=(ps[q / 256]?).bind (fun p=>p.l[q % 256]?)
 | [],q=>by simp [flat]
 | p::ps,q=>by
  have ih:=Sc ps (q-256)
  unfold flat at ih ⊢
  rw [lQa,lVa,p.h]
  by_cases h:q<256
  ·rw [if_pos h,Nat.div_eq_of_lt h,Nat.mod_eq_of_lt h];rfl
  ·rw [if_neg h,ih,show q / 256=(q-256) / 256+1 by omega,show q % 256=(q-256) % 256 by omega];rfl
def ow (xs:List UInt8) (a:Nat) (zs:List UInt8):List UInt8:=xs.take a++zs++xs.drop (a+zs.length)
theorem Ka {xs zs:List UInt8} {a:Nat} (h:a+zs.length≤xs.length):(ow xs a zs).length=xs.length:=by
 unfold ow
 rw [lba,lba,lla,lIa];omega
theorem NZ {xs zs:List UInt8} {a:Nat} (h:a+zs.length≤xs.length) (q:Nat):(ow xs a zs)[q]?=if a≤q∧q<a+zs.length then zs[q-a]? else xs[q]?:=by
 unfold ow
 rw [lma,lVa,lVa,lla,lob qo,lAa,lNa]
 by_cases h1:q<a
 ·rw [if_pos h1,if_pos h1,if_neg qo]
 ·rw [if_neg h1]
  by_cases h2:q-a<zs.length
  ·rw [if_pos h2,if_pos qo]
  ·rw [if_neg h2,if_neg qo];congr 1;omega
theorem aek (xs:List UInt8) (a:Nat):ow xs a []=xs:=by
 unfold ow;simp
theorem ahl {xs ys zs:List UInt8} {a:Nat} (h:a+ys.length+zs.length≤xs.length):ow (ow xs a ys) (a+ys.length) zs=ow xs a (ys++zs):=by
 apply lJa
 intro q
 rw [NZ (by rw [Ka qo];omega),NZ qo,NZ (by rw [lba];omega),lba,lVa]
 by_cases h1:a+ys.length≤q∧q<a+ys.length+zs.length
 ·rw [if_pos h1,if_pos qo,if_neg qo];congr 1;omega
 ·rw [if_neg h1]
  by_cases h2:a≤q∧q<a+ys.length
  ·rw [if_pos h2,if_pos qo,if_pos qo]
  ·rw [if_neg h2,if_neg qo]
def EZ (p:WT) (k:Nat) (zs:List UInt8) (h:k+zs.length≤256):WT:=⟨ow p.l k zs,by rw [Ka (by rw [p.h];exact h),p.h]⟩
theorem Oa {ps:List WT} {i k:Nat} {p:WT} {zs:List UInt8} (hp:ps[i]?=some p) (h:k+zs.length≤256) (hk:k<256):flat (ps.set i (EZ p k zs h))=ow (flat ps) (256 * i+k) zs:=by
 have hi:=(lca.1 hp).1
 apply lJa
 intro q
 rw [NZ (by rw [Yc];omega),Sc,Sc,lPa]
 by_cases h1:i=q / 256
 ·subst h1
  rw [if_pos rfl,if_pos hi,hp]
  show (ow p.l k zs)[q % 256]?=_
  rw [NZ (by rw [p.h];exact h)]
  by_cases h2:k≤q % 256∧q % 256<k+zs.length
  ·rw [if_pos h2,if_pos qo];congr 1;omega
  ·rw [if_neg h2,if_neg qo];rfl
 ·rw [if_neg h1,if_neg qo]
theorem ahm:∀(zs:List UInt8) (xs:List UInt8) (k:Nat),k+zs.length≤xs.length→Wi (xs.flatMap Tu) k (zs.flatMap Tu)=(ow xs k zs).flatMap Tu:=by
 intro zs xs k h
 rw [UY _ _ _ (by rw [YI K1,YI K1];omega)]
 unfold ow
 rw [lMa,lMa,YI K1,lac]
 have ht:=Ut (en:=Tu) K1 xs k qo
 have hd:=Ti (en:=Tu) K1 xs (k+zs.length) qo
 rw [lac] at ht hd
 rw [ht,hd]
theorem take_drop {zs:List UInt8} {m q:Nat} (h:m=min zs.length q):zs.take q++zs.drop m=zs:=by
 subst h
 rcases Nat.le_total zs.length q with h|h
 ·rw [lxa h,lob h,List.drop_length,lua]
 ·rw [Nat.min_eq_right h,lZa]
abbrev fits (ps:List WT) (a:Int) (n:Nat):Prop:=0≤a∧a+n≤256 * ps.length
theorem put {g:Zv} {w:World} {l:List As} {p:Nat} {v mo:Value} {ps:List WT} (H:Sat g w (Pt p [v,mo] 221::Sl 223 256 Xf v ps::l)) (a:Int) (ys:List UInt8) (hp:ps.length≤8) (ha:-9223372036854775808≤a∧a≤9223372036854775807) (hy:ys.length≤9223372036854775807) :
  Fc Tryz.prog 82 #[.pointer (some ⟨p,0,none⟩),.int .i64 a,.string (bs ys)] w (fun r w'=>∃e ps',r=.int .i64 e∧((e=23∧ps'=ps∧¬fits ps a ys.length)∨(e=0∧fits ps a ys.length∧flat ps'=ow (flat ps) a.toNat ys))∧ps'.length=ps.length∧Sat g w' (Pt p [v,mo] 221::Sl 223 256 Xf v ps'::l)):=by
 refine Fc.of Tryz.func82 rfl k_i<|Z9 rfl<|Z4 (H.at 0 rfl) 0 rfl rfl rfl<|YJ H 1 rfl rfl<|ZX qo ?_
 refine br (fun c1=>?_) (fun c1=>?_)
 ·replace c1:=Yx (c1)
  refine cT rfl<|Z6.mk ?_
  exact ⟨_,_,rfl,.inl ⟨rfl,rfl,by unfold fits;omega⟩,rfl,H⟩
 replace c1:=Yw (c1)
 refine WB rfl ?_
 refine br (fun c2=>?_) (fun c2=>?_)
 ·replace c2:=Yx (c2)
  refine cT rfl<|Z6.mk ?_
  exact ⟨_,_,rfl,.inl ⟨rfl,rfl,by unfold fits;omega⟩,rfl,H⟩
 replace c2:=Yw (c2)
 refine WB rfl<|ZX qo ?_
 refine cI (fun c3=>?_) (fun c3=>?_)
 ·replace c3:=Yx (c3)
  refine Z6.mk ?_
  exact ⟨_,_,rfl,.inl ⟨rfl,rfl,by unfold fits;omega⟩,rfl,H⟩
 replace c3:=Yw (c3)
 refine YP.rule (α:=Nat × List UInt8 × List WT) (a.toNat,ys,ps) (fun x_=>[(1,.int .i64 x_.1),(2,.string (bs x_.2.1))]) (fun x_ w_=>(x_.1+x_.2.1.length≤256 * ps.length)∧(x_.2.2.length=ps.length)∧(ow (flat x_.2.2) x_.1 x_.2.1=ow (flat ps) a.toNat ys)∧Sat g w_ ((Pt p [v,mo] 221::Sl 223 256 Xf v x_.2.2::l))) (fun x_=>x_.2.1.length) ?_ ?_ ?_
 ·exact k_b
 ·try simp only
  refine ⟨qo,?_⟩
  refine ⟨?_,?_⟩
  ·exact k_P
  refine ⟨?_,?_⟩
  ·exact k_P
  exact H
 clear H
 rintro ⟨b,zs,qs⟩ f_ w_ ⟨hb,hq,ho,H⟩
 try simp only at hb hq ho H ⊢
 obtain ⟨k,hk⟩:∃k,k=b % 256:=⟨_,rfl⟩
 obtain ⟨m,hm⟩:∃m,m=min zs.length (256-k):=⟨_,rfl⟩
 refine WB rfl ?_
 refine cI (fun c4=>?_) (fun c4=>?_)
 rotate_left
 ·replace c4:=Yw (c4)
  refine Z6.mk ?_
  exact ⟨_,_,rfl,.inr ⟨rfl,⟨by omega,by omega⟩,by rw [←ho,show zs=[] from lqa qo,aek]⟩,hq,H⟩
 replace c4:=Yx (c4)
 refine bk<|Z9 rfl<|Z4 (H.at 0 rfl) 0 rfl rfl rfl<|Vz.mk (by decide)<|O3 qo qo ?_
 obtain ⟨x1,hx1⟩:∃x,(qs)[((b) / 256)]?=some x:=⟨_,laa qo⟩
 obtain ⟨b1,o1,E1⟩:=H.Y1 1 rfl ((b) / 256) qo
 refine ZJ E1 rfl rfl rfl<|Vz.mk (by decide)<|Od qo<|aei (lo:=k) qo qo rfl rfl ?_
 have hz:k+(zs.take (256-k)).length≤256:=by rw [lla];omega
 refine aej H 1 rfl E1 hx1 k (256-k) (256-k) qo (EZ x1 k (zs.take (256-k)) hz) (ahm _ _ _ (by rw [x1.h];exact hz)) rfl rfl ?_
 rw [←hm]
 intro w2 H
 have hf:=Oa hx1 hz qo
 rw [show 256 * (b / 256)+k=b by omega] at hf
 have MQ:(zs.take (256-k)).length=m:=by rw [lla];omega
 have h2:=ahl (xs:=flat qs) (ys:=zs.take (256-k)) (zs:=zs.drop m) (a:=b) (by rw [MQ,lIa,Yc];omega)
 rw [MQ,take_drop hm,←hf,ho] at h2
 refine ZX qo<|ajx rfl (m) qo qo ?_
 refine WN.mk ((b+m,List.drop m zs,qs.set (b / 256) (EZ x1 k (List.take (256-k) zs) hz))) (Zo rfl k_c (ZL rfl (ZT))) ?_ ?_
 ·refine ⟨?_,?_⟩
  ·(simp;omega)
  refine ⟨?_,?_⟩
  ·(rw [lfa];exact hq)
  refine ⟨qa,?_⟩
  exact H
 (simp;omega)
end Mem
namespace Mem
open Go YZ Go.RowKit
def J9 (ys:List UInt8) (most:Int):Prop:=0≤most∧most≤8∧ys.length % 256=0∧(ys.length / 256:Nat)≤most
theorem ael {xs ys:List UInt8} (h:xs.length=ys.length):ow xs 0 ys=ys:=by
 unfold ow
 rw [lfc,lTa,lwb,←h,List.drop_length,lua]
theorem of (w:World) (ys:List UInt8) (most:Int) (hy:ys.length≤9223372036854775807):Fc Tryz.prog 99 #[.string (bs ys),.int .i64 most] w (fun r w' =>
  (J9 ys most∧∃p v ps,r=.tuple #[.pointer (some ⟨p,0,none⟩),.int .i64 0]∧flat ps=ys∧ps.length≤8∧Sat (WA w) w' [Pt p [v,.int .i64 most] 221,Sl 223 256 Xf v ps])∨(¬J9 ys most∧r=.tuple #[.pointer none,.int .i64 1]∧Sat (WA w) w' [])):=by
 refine Fc.of Tryz.func99 rfl k_i ?_
 have H:=Sat.start w
 refine br (fun c1=>?_) (fun c1=>?_)
 ·replace c1:=Yx (c1)
  refine cT rfl<|Z6.mk ?_
  exact .inr ⟨fun h=>by obtain ⟨h1,h2,h3,h4⟩:=h;omega,rfl,H⟩
 replace c1:=Yw (c1)
 refine br (fun c2=>?_) (fun c2=>?_)
 ·replace c2:=Yx (c2)
  refine cT rfl<|Z6.mk ?_
  exact .inr ⟨fun h=>by obtain ⟨h1,h2,h3,h4⟩:=h;omega,rfl,H⟩
 replace c2:=Yw (c2)
 refine WB rfl<|Vz.mk (by decide)<|Od qo ?_
 refine br (fun c3=>?_) (fun c3=>?_)
 ·replace c3:=Ye (c3)
  refine cT rfl<|Z6.mk ?_
  exact .inr ⟨fun h=>by obtain ⟨h1,h2,h3,h4⟩:=h;omega,rfl,H⟩
 replace c3:=Yd (c3)
 refine WB rfl<|Vz.mk (by decide)<|O3 qo qo ?_
 refine cI (fun c4=>?_) (fun c4=>?_)
 ·replace c4:=Yx (c4)
  refine Z6.mk ?_
  exact .inr ⟨fun h=>by obtain ⟨h1,h2,h3,h4⟩:=h;omega,rfl,H⟩
 replace c4:=Yw (c4)
 refine WB rfl<|Vz.mk (by decide)<|O3 qo qo<|SS (en:=Xf) (s:=256) H (zp) (((ys.length) / 256)) (((ys.length) / 256)) 256 rfl rfl rfl RC qo qo qo qo qo<|fun v1=>?_
 intro w1 H
 obtain ⟨a1,c5,rfl⟩:=H.form 0 rfl
 refine Zf rfl rfl rfl<|ZH H<|fun p1 w2 H=>?_
 refine Z7.mk (Fc.imp (Mem.put H _ _ ?_ ?_ ?_) ?_)
 ·(simp;omega)
 ·omega
 ·assumption
 clear H
 rintro _ w1 ⟨e1,⟨OW,⟨rfl,⟨(⟨h1,⟨h2,h3⟩⟩|⟨h4,⟨h5,h6⟩⟩),⟨h7,H⟩⟩⟩⟩⟩
 ·refine Z6.mk ?_
  exact absurd ⟨by omega,by rw [lja];omega⟩ h3
 refine Z6.mk ?_
 exact .inl ⟨⟨by omega,by omega,by omega,by omega⟩,_,_,_,rfl,Eq.trans qa (ael (by rw [Yc,lja];omega)),by rw [h7,lja];omega,H⟩
theorem ajZ (xs:List UInt8) (k c:Nat):((xs.flatMap Tu).drop k).take c=((xs.drop k).take c).flatMap Tu:=by
 rw [IF,IF,←List.map_drop,←List.map_drop,←List.map_take,←List.map_take]
theorem Dd {w:World} {b o:Nat} {xs:List UInt8} (h:At w b o (xs.flatMap Tu)) (k c:Nat):At w b (o+k) (((xs.drop k).take c).flatMap Tu):=by
 rw [←ajZ]
 exact h.sub k c
theorem aar {ps:List WT} {i k c:Nat} {p:WT} (hp:ps[i]?=some p) (h:k+c≤256):((flat ps).drop (256 * i+k)).take c=(p.l.drop k).take c:=by
 apply lJa
 intro q
 rw [lAa,lAa]
 split
 ·rw [lNa,lNa,Sc,show (256 * i+k+q) / 256=i by omega,show (256 * i+k+q) % 256=k+q by omega,hp];rfl
 ·rfl
theorem aj0 (y:UInt8):((Tu y).all (·.oneCell'))=true:=rfl
theorem acz {xs zs:List UInt8} {b m c:Nat} (h:c≤m):(zs++(xs.drop b).take c)++(xs.drop (b+c)).take (m-c)=zs++(xs.drop b).take m:=by
 rw [lma]
 congr 1
 rw [show m=c+(m-c) by omega,List.take_add,lub0,Nat.add_sub_cancel_left]
theorem bytes {g:Zv} {w:World} {l:List As} {p:Nat} {v mo:Value} {ps:List WT} (H:Sat g w (Pt p [v,mo] 221::Sl 223 256 Xf v ps::l)) (a n:Int) (hp:ps.length≤8) (ha:-9223372036854775808≤a∧a≤9223372036854775807) (hn:-9223372036854775808≤n∧n≤9223372036854775807) :
  Fc Tryz.prog 161 #[.pointer (some ⟨p,0,none⟩),.int .i64 a,.int .i64 n] w (fun r w'=>∃e zs,r=.tuple #[.string (bs zs),.int .i64 e]∧((e=23∧zs=[]∧¬(0≤a∧0≤n∧a+n≤256 * ps.length))∨(e=0∧(0≤a∧0≤n∧a+n≤256 * ps.length)∧zs=((flat ps).drop a.toNat).take n.toNat))∧Sat g w' (Pt p [v,mo] 221::Sl 223 256 Xf v ps::l)):=by
 refine Fc.of Tryz.func161 rfl k_i<|Z9 rfl<|Z4 (H.at 0 rfl) 0 rfl rfl rfl<|YJ H 1 rfl rfl<|ZX qo ?_
 refine br (fun c1=>?_) (fun c1=>?_)
 ·replace c1:=Yx (c1)
  refine cT rfl<|Z6.mk ?_
  exact ⟨_,_,rfl,.inl ⟨rfl,rfl,by omega⟩,H⟩
 replace c1:=Yw (c1)
 refine br (fun c2=>?_) (fun c2=>?_)
 ·replace c2:=Yx (c2)
  refine cT rfl<|Z6.mk ?_
  exact ⟨_,_,rfl,.inl ⟨rfl,rfl,by omega⟩,H⟩
 replace c2:=Yw (c2)
 refine br (fun c3=>?_) (fun c3=>?_)
 ·replace c3:=Yx (c3)
  refine cT rfl<|Z6.mk ?_
  exact ⟨_,_,rfl,.inl ⟨rfl,rfl,by omega⟩,H⟩
 replace c3:=Yw (c3)
 refine ZX qo ?_
 refine cI (fun c4=>?_) (fun c4=>?_)
 ·replace c4:=Yx (c4)
  refine Z6.mk ?_
  exact ⟨_,_,rfl,.inl ⟨rfl,rfl,by omega⟩,H⟩
 replace c4:=Yw (c4)
 refine SS (en:=Tu) (s:=1) H (0) (0) ((n).toNat) 1 rfl rfl rfl (fun _=>rfl) qo qo qo qo qo<|fun v1=>?_
 intro w1 H
 refine YP.rule (α:=Nat × Nat × List UInt8 × Value) (a.toNat,n.toNat,List.replicate 0 0,v1) (fun x_=>[(1,.int .i64 x_.1),(2,.int .i64 x_.2.1),(9,x_.2.2.2)]) (fun x_ w_=>(x_.1+x_.2.1≤256 * ps.length)∧(x_.2.2.1.length+x_.2.1≤2048)∧(x_.2.2.1++((flat ps).drop x_.1).take x_.2.1=((flat ps).drop a.toNat).take n.toNat)∧Sat g w_ ((Sl 5 1 Tu x_.2.2.2 x_.2.2.1::Pt p [v,mo] 221::Sl 223 256 Xf v ps::l))) (fun x_=>x_.2.1) ?_ ?_ ?_
 ·exact k_b
 ·try simp only
  refine ⟨qo,?_⟩
  refine ⟨?_,?_⟩
  ·(simp;omega)
  refine ⟨?_,?_⟩
  ·(rw [List.replicate_zero,lTa];done)
  exact H
 clear H
 rintro ⟨b,m,zs,vo⟩ f_ w_ ⟨hb,hz,he,H⟩
 try simp only at hb hz he H ⊢
 rcases lUb m with hm|hm
 ·subst hm
  refine cF (Zl qo)<|SU H 0 rfl rfl rfl rfl<|Z6.mk ?_
  exact ⟨_,_,rfl,.inr ⟨rfl,⟨by omega,by omega,by omega⟩,by rw [←he,lfc,lua]⟩,H.del 0⟩
 ·obtain ⟨k,hk⟩:∃k,k=b % 256:=⟨_,rfl⟩
  refine cT (Y4 qo)<|bk<|Z9 rfl<|Z4 (H.at 1 rfl) 0 rfl rfl rfl<|Vz.mk (by decide)<|O3 qo qo ?_
  obtain ⟨x1,hx1⟩:∃x,(ps)[((b) / 256)]?=some x:=⟨_,laa qo⟩
  obtain ⟨b1,o1,E1⟩:=H.Y1 2 rfl ((b) / 256) qo
  refine ZJ E1 rfl rfl rfl<|Vz.mk (by decide)<|Od qo<|aei (lo:=k) qo qo rfl rfl ?_
  rcases lEa m (256-k) with hmk|hmk
  ·refine WM rfl<|cT (Y4 qo)<|alZ m rfl rfl qo qo<|Wk (ys:=(x1.l.drop k).take (m)) 1 H 0 rfl (Dd (xs:=x1.l) (show At _ _ _ (Xf x1) from H.el 2 rfl E1 hx1) k (m)) (by rw [lla,lIa,x1.h];omega) (fun y _=>aj0 y) rfl rfl rfl qo qo<|fun Tt w2 H=>?_
   have hf:=aar (k:=k) (c:=m) hx1 qo
   rw [show 256 * (b / 256)+k=b by omega] at hf
   have hs:=(acz (xs:=flat ps) (zs:=zs) (b:=b) (m:=m) (c:=m) qo).trans he
   rw [hf] at hs
   have Uz:((x1.l.drop k).take (m)).length=m:=by rw [lla,lIa,x1.h];omega
   refine WM rfl<|ZX qo<|WM rfl<|ZX qo ?_
   refine WN.mk ((b+m,m-m,zs++List.take m (List.drop k x1.l),Tt)) (Zo rfl k_c (Zo rfl k_c (ZL rfl (ZT)))) ?_ ?_
   ·refine ⟨?_,?_⟩
    ·exact k_a
    refine ⟨?_,?_⟩
    ·exact k_a
    refine ⟨qa,?_⟩
    exact H
   (simp only [List.length_append,List.length_set,List.length_cons,List.length_nil];omega)
  ·refine WM rfl<|cF (Zl qo)<|Wk (ys:=(x1.l.drop k).take (256-k)) 1 H 0 rfl (Dd (xs:=x1.l) (show At _ _ _ (Xf x1) from H.el 2 rfl E1 hx1) k (256-k)) (by rw [lla,lIa,x1.h];omega) (fun y _=>aj0 y) rfl rfl rfl qo qo<|fun Tt w2 H=>?_
   have hf:=aar (k:=k) (c:=256-k) hx1 qo
   rw [show 256 * (b / 256)+k=b by omega] at hf
   have hs:=(acz (xs:=flat ps) (zs:=zs) (b:=b) (m:=m) (c:=256-k) qo).trans he
   rw [hf] at hs
   have Uz:((x1.l.drop k).take (256-k)).length=256-k:=by rw [lla,lIa,x1.h];omega
   refine WM rfl<|ZX qo<|WM rfl<|ZX qo ?_
   refine WN.mk ((b+(256-k),m-(256-k),zs++List.take (256-k) (List.drop k x1.l),Tt)) (Zo rfl k_c (Zo rfl k_c (ZL rfl (ZT)))) ?_ ?_
   ·refine ⟨?_,?_⟩
    ·exact k_a
    refine ⟨?_,?_⟩
    ·exact k_a
    refine ⟨qa,?_⟩
    exact H
   (simp only [List.length_append,List.length_set,List.length_cons,List.length_nil];omega)
end Mem
namespace YS
open Go YZ Go.RowKit
open Classical in
noncomputable def wd (o:Int):Int :=
 if o=44∨o=45∨o=48∨o=49∨o=58∨o=60 then 1
 else if o=46∨o=47∨o=50∨o=51∨o=59∨o=61 then 2
 else if o=40∨o=52∨o=53∨o=54∨o=62 then 4
 else if o=41∨o=55 then 8 else 0
theorem L4 (o:Int) (w:World):Fc Tryz.prog 200 #[.int .u8 o] w (fun v w'=>(∃r,v=.int .i64 r∧r=wd o)∧w=w'):=by
 refine Fc.of Tryz.func200 rfl k_i ?_
 have H:=Sat.start w
 refine bk ?_
 refine cI (fun c1=>?_) (fun c1=>?_)
 ·replace c1:=ZR (c1)
  refine cT (ZN qa)<|Z6.mk ?_
  (unfold wd;simp only [*];simp;done)
 replace c1:=ZQ (c1)
 refine cI (fun c2=>?_) (fun c2=>?_)
 ·replace c2:=ZR (c2)
  refine cT (ZN qa)<|Z6.mk ?_
  (unfold wd;simp only [*];simp;done)
 replace c2:=ZQ (c2)
 refine cI (fun c3=>?_) (fun c3=>?_)
 ·replace c3:=ZR (c3)
  refine cT (ZN qa)<|Z6.mk ?_
  (unfold wd;simp only [*];simp;done)
 replace c3:=ZQ (c3)
 refine cI (fun c4=>?_) (fun c4=>?_)
 ·replace c4:=ZR (c4)
  refine cT (ZN qa)<|Z6.mk ?_
  (unfold wd;simp only [*];simp;done)
 replace c4:=ZQ (c4)
 refine cI (fun c5=>?_) (fun c5=>?_)
 ·replace c5:=ZR (c5)
  refine cT (ZN qa)<|Z6.mk ?_
  (unfold wd;simp only [*];simp;done)
 replace c5:=ZQ (c5)
 refine cI (fun c6=>?_) (fun c6=>?_)
 ·replace c6:=ZR (c6)
  refine Z6.mk ?_
  (unfold wd;simp only [*];simp;done)
 replace c6:=ZQ (c6)
 refine cI (fun c7=>?_) (fun c7=>?_)
 ·replace c7:=ZR (c7)
  refine cT (ZN qa)<|Z6.mk ?_
  (unfold wd;simp only [*];simp;done)
 replace c7:=ZQ (c7)
 refine cI (fun c8=>?_) (fun c8=>?_)
 ·replace c8:=ZR (c8)
  refine cT (ZN qa)<|Z6.mk ?_
  (unfold wd;simp only [*];simp;done)
 replace c8:=ZQ (c8)
 refine cI (fun c9=>?_) (fun c9=>?_)
 ·replace c9:=ZR (c9)
  refine cT (ZN qa)<|Z6.mk ?_
  (unfold wd;simp only [*];simp;done)
 replace c9:=ZQ (c9)
 refine cI (fun c10=>?_) (fun c10=>?_)
 ·replace c10:=ZR (c10)
  refine cT (ZN qa)<|Z6.mk ?_
  (unfold wd;simp only [*];simp;done)
 replace c10:=ZQ (c10)
 refine cI (fun c11=>?_) (fun c11=>?_)
 ·replace c11:=ZR (c11)
  refine cT (ZN qa)<|Z6.mk ?_
  (unfold wd;simp only [*];simp;done)
 replace c11:=ZQ (c11)
 refine cI (fun c12=>?_) (fun c12=>?_)
 ·replace c12:=ZR (c12)
  refine Z6.mk ?_
  (unfold wd;simp only [*];simp;done)
 replace c12:=ZQ (c12)
 refine cI (fun c13=>?_) (fun c13=>?_)
 ·replace c13:=ZR (c13)
  refine cT (ZN qa)<|Z6.mk ?_
  (unfold wd;simp only [*];simp;done)
 replace c13:=ZQ (c13)
 refine cI (fun c14=>?_) (fun c14=>?_)
 ·replace c14:=ZR (c14)
  refine cT (ZN qa)<|Z6.mk ?_
  (unfold wd;simp only [*];simp;done)
 replace c14:=ZQ (c14)
 refine cI (fun c15=>?_) (fun c15=>?_)
 ·replace c15:=ZR (c15)
  refine cT (ZN qa)<|Z6.mk ?_
  (unfold wd;simp only [*];simp;done)
 replace c15:=ZQ (c15)
 refine cI (fun c16=>?_) (fun c16=>?_)
 ·replace c16:=ZR (c16)
  refine cT (ZN qa)<|Z6.mk ?_
  (unfold wd;simp only [*];simp;done)
 replace c16:=ZQ (c16)
 refine cI (fun c17=>?_) (fun c17=>?_)
 ·replace c17:=ZR (c17)
  refine Z6.mk ?_
  (unfold wd;simp only [*];simp;done)
 replace c17:=ZQ (c17)
 refine cI (fun c18=>?_) (fun c18=>?_)
 ·replace c18:=ZR (c18)
  refine cT (ZN qa)<|Z6.mk ?_
  (unfold wd;simp only [*];simp;done)
 replace c18:=ZQ (c18)
 refine cI (fun c19=>?_) (fun c19=>?_)
 ·replace c19:=ZR (c19)
  refine Z6.mk ?_
  (unfold wd;simp only [*];simp;done)
 replace c19:=ZQ (c19)
 refine Z6.mk ?_
 (unfold wd;simp only [*];simp;done)
theorem aem (o:Int):wd o=0∨wd o=1∨wd o=2∨wd o=4∨wd o=8:=by
 unfold wd
 repeat' split
 all_goals omega
end YS
namespace Mem
open Go YZ Go.RowKit
theorem has {g:Zv} {w:World} {l:List As} {p:Nat} {v mo:Value} {ps:List WT} (H:Sat g w (Pt p [v,mo] 221::Sl 223 256 Xf v ps::l)) (a n:Int) (hp:ps.length≤8) (hn:0≤n∧n≤4096) :
  Fc Tryz.prog 237 #[.pointer (some ⟨p,0,none⟩),.int .i64 a,.int .i64 n] w (fun r w'=>(∃b,r=.bool b∧(b=true↔a+n≤256 * ps.length))∧Sat g w' (Pt p [v,mo] 221::Sl 223 256 Xf v ps::l)):=by
 refine Fc.of Tryz.func237 rfl k_i<|Z9 rfl<|Z4 (H.at 0 rfl) 0 rfl rfl rfl<|YJ H 1 rfl rfl<|ZX qo<|ZX qo<|Z6.mk ?_
 refine ⟨?_,?_⟩
 ·refine ⟨Kx a ((↑ps.length:Int) * 256-n),?_⟩
  refine ⟨rfl,?_⟩
  (rw [YY,decide_eq_true_iff];omega)
 exact H
def byteOf (u:Int):UInt8:=UInt8.ofNat (u % 256).toNat
def J8:Nat→Int→List UInt8
 | 0,_=>[]
 | n+1,u=>byteOf u::J8 n (u / 256)
theorem L3:∀(n:Nat) (u:Int),(J8 n u).length=n
 | 0,_=>rfl
 | n+1,u=>by rw [J8,lda,L3 n]
theorem acg (u:Int):((byteOf u).toNat:Int)=u % 256:=by
 unfold byteOf
 rw [UInt8.toNat_ofNat']
 omega
theorem al9 {x:WT} {k:Nat} {y:Int} (h:k+[byteOf y].length≤256):Wi (Xf x) (k * 1) [.int .u8 (y % 256)]=Xf (EZ x k [byteOf y] h):=by
 rw [lac,←acg]
 exact ahm [byteOf y] x.l k (by rw [x.h];exact h)
theorem aga {xs:List UInt8} {b n:Nat} {y:Int} (h:b+(n+1)≤xs.length):ow (ow xs b [byteOf y]) (b+1) (J8 n (y / 256))=ow xs b (J8 (n+1) y) :=
 ahl (xs:=xs) (ys:=[byteOf y]) (zs:=J8 n (y / 256)) (a:=b) (by rw [L3,lBa];omega)
theorem store {g:Zv} {w:World} {l:List As} {p:Nat} {v mo:Value} {ps:List WT} (H:Sat g w (Pt p [v,mo] 221::Sl 223 256 Xf v ps::l)) (op base off u:Int) (hp:ps.length≤8) (hop:54≤op) (hw:0<YS.wd op) (ho:0≤off∧off≤4294967295) (hu:-9223372036854775808≤u∧u≤9223372036854775807) :
  Fc Tryz.prog 225 #[.pointer (some ⟨p,0,none⟩),.int .u8 op,.int .i64 base,.int .i64 off,.int .i64 u] w (fun r w'=>∃e ps',r=.int .i64 e∧((e=23∧ps'=ps∧¬(base % 4294967296+off+YS.wd op≤256 * ps.length))∨(e=0∧(base % 4294967296+off+YS.wd op≤256 * ps.length)∧flat ps'=ow (flat ps) (base % 4294967296+off).toNat (J8 (YS.wd op).toNat u)))∧ps'.length=ps.length∧Sat g w' (Pt p [v,mo] 221::Sl 223 256 Xf v ps'::l)):=by
 refine Fc.of Tryz.func225 rfl k_i ?_
 have EY:=YS.aem op
 obtain ⟨m,hm⟩:∃m:Nat,YS.wd op=m:=⟨(YS.wd op).toNat,by omega⟩
 rw [hm,lka]
 rw [hm] at EY
 refine Z7.mk (Fc.imp (YS.L4 _ _) ?_)
 rintro _ _ ⟨⟨r1,⟨rfl,h1⟩⟩,rfl⟩
 refine Yr rfl rfl<|Xc qo rfl rfl<|bk<|XB (Z5 qo)<|cF (Zl qa)<|XB (Zl qo)<|cF (Zl qo)<|ZX qo ?_
 refine Z7.mk (Fc.imp (Mem.has H _ _ qa qo) ?_)
 clear H
 rintro _ w1 ⟨⟨b1,⟨rfl,h2⟩⟩,H⟩
 refine cI (fun c1=>?_) (fun c1=>?_)
 ·replace c1:=Rc h2 (Si (c1))
  refine Z6.mk ?_
  exact ⟨_,_,rfl,.inl ⟨rfl,rfl,by omega⟩,rfl,H⟩
 replace c1:=h2.1 (Sh (c1))
 refine ZX qo ?_
 refine YP.rule (α:=Nat × Nat × Int × List WT) (m,(base % 4294967296+off).toNat,u,ps) (fun x_=>[(11,.int .i64 x_.1),(13,.int .i64 x_.2.1),(4,.int .i64 x_.2.2.1)]) (fun x_ w_=>(x_.2.1+x_.1≤256 * ps.length)∧(x_.1≤8)∧(-9223372036854775808≤x_.2.2.1∧x_.2.2.1≤9223372036854775807)∧(x_.2.2.2.length=ps.length)∧(ow (flat x_.2.2.2) x_.2.1 (J8 x_.1 x_.2.2.1)=ow (flat ps) (base % 4294967296+off).toNat (J8 m u))∧Sat g w_ ((Pt p [v,mo] 221::Sl 223 256 Xf v x_.2.2.2::l))) (fun x_=>x_.1) ?_ ?_ ?_
 ·exact k_b
 ·try simp only
  refine ⟨qo,?_⟩
  refine ⟨qo,?_⟩
  refine ⟨qa,?_⟩
  refine ⟨?_,?_⟩
  ·exact k_P
  refine ⟨?_,?_⟩
  ·exact k_P
  exact H
 clear H
 rintro ⟨n,b,y,qs⟩ f_ w_ ⟨hb,hn8,hy,hq,he,H⟩
 try simp only at hb hn8 hy hq he H ⊢
 rcases lUb n with hn0|hn0
 ·subst hn0
  refine cF (Zl qo)<|Z6.mk ?_
  exact ⟨_,_,rfl,.inr ⟨rfl,by omega,by rw [←he];exact (aek _ _).symm⟩,hq,H⟩
 ·obtain ⟨n,rfl⟩:∃k,n=k+1:=⟨n-1,by omega⟩
  obtain ⟨k,hk⟩:∃k,k=b % 256:=⟨_,rfl⟩
  refine cT (Y4 qo)<|bk<|Z9 rfl<|Z4 (H.at 0 rfl) 0 rfl rfl rfl<|Vz.mk (by decide)<|O3 qo qo<|Vz.mk (by decide)<|Od qo<|adW rfl rfl ?_
  obtain ⟨x1,hx1⟩:∃x,(qs)[((b) / 256)]?=some x:=⟨_,laa qo⟩
  obtain ⟨b2,o1,E1⟩:=H.Y1 1 rfl ((b) / 256) qo
  refine ZJ E1 rfl rfl rfl<|Mi 1 ((b) % 256) qo qo rfl rfl ?_
  rw [←hk]
  have Jb:k+[byteOf y].length≤256:=by rw [lBa];omega
  refine YB H 1 rfl E1 hx1 (k * 1) (EZ x1 k [byteOf y] Jb) rfl rfl (Nat.ble_eq_true_of_le qo) (al9 Jb)<|fun w2 H=>?_
  have hf:=Oa hx1 Jb qo
  rw [show 256 * (b / 256)+k=b by omega] at hf
  have h2:=aga (xs:=flat qs) (b:=b) (n:=n) (y:=y) (by rw [Yc];omega)
  rw [←hf,he] at h2
  refine YN.mk (by decide)<|Vv 8 256 rfl rfl (by decide)<|ZX qo<|ZX qo ?_
  refine WN.mk ((n+1-1,b+1,y / 256,qs.set (b / 256) (EZ x1 k [byteOf y] Jb))) (Zo rfl k_c (Zo rfl k_c (ZL rfl (ZT)))) ?_ ?_
  ·refine ⟨?_,?_⟩
   ·exact k_a
   refine ⟨qo,?_⟩
   refine ⟨?_,?_⟩
   ·refine ⟨?_,?_⟩
    ·exact k_a
    (simp only [List.length_append,List.length_set,List.length_cons,List.length_nil];omega)
   refine ⟨?_,?_⟩
   ·(rw [lfa];exact hq)
   refine ⟨qa,?_⟩
   exact H
  omega
end Mem
namespace Mem
open Go YZ Go.RowKit
def KQ:List UInt8→Nat
 | []=>0
 | c::r=>c.toNat+256 * KQ r
theorem L2:∀l:List UInt8,KQ l<256 ^ l.length
 | []=>by simp [KQ]
 | c::r=>by
  have h1:=L2 r
  have h2:=c.toNat_lt
  rw [KQ,lda,Nat.pow_succ]
  omega
def Gq (op:Int):Prop:=op=40∨op=41∨op=44∨op=46∨op=48∨op=50∨op=52
instance (op:Int):Decidable (Gq op):=by unfold Gq;infer_instance
noncomputable def FL (n:Int) (w:Int):Int:=Xe .i64 (ZO .i64 (Ws .u64 n (64-8 * w))) (64-8 * w)
noncomputable def Hy (op:Int) (n:Int):Int:=if Gq op then FL n (YS.wd op) else ZO .i64 n
theorem isSigned (op:Int) (w:World):Fc Tryz.prog 238 #[.int .u8 op] w (fun r w'=>(∃b,r=.bool b∧(b=true↔Gq op))∧w=w'):=by
 refine Fc.of Tryz.func238 rfl k_i ?_
 have H:=Sat.start w
 unfold Gq
 refine bk ?_
 refine cI (fun c1=>?_) (fun c1=>?_)
 ·replace c1:=ZR (c1)
  refine cT (ZN qa)<|Z6.mk ?_
  refine ⟨?_,?_⟩
  ·refine ⟨true,?_⟩
   refine ⟨?_,?_⟩
   ·exact k_K
   (simp;omega)
  rfl
 replace c1:=ZQ (c1)
 refine cI (fun c2=>?_) (fun c2=>?_)
 ·replace c2:=ZR (c2)
  refine cT (ZN qa)<|Z6.mk ?_
  refine ⟨?_,?_⟩
  ·refine ⟨true,?_⟩
   refine ⟨?_,?_⟩
   ·exact k_K
   (simp;omega)
  rfl
 replace c2:=ZQ (c2)
 refine cI (fun c3=>?_) (fun c3=>?_)
 ·replace c3:=ZR (c3)
  refine cT (ZN qa)<|Z6.mk ?_
  refine ⟨?_,?_⟩
  ·refine ⟨true,?_⟩
   refine ⟨?_,?_⟩
   ·exact k_K
   (simp;omega)
  rfl
 replace c3:=ZQ (c3)
 refine cI (fun c4=>?_) (fun c4=>?_)
 ·replace c4:=ZR (c4)
  refine cT (ZN qa)<|Z6.mk ?_
  refine ⟨?_,?_⟩
  ·refine ⟨true,?_⟩
   refine ⟨?_,?_⟩
   ·exact k_K
   (simp;omega)
  rfl
 replace c4:=ZQ (c4)
 refine cI (fun c5=>?_) (fun c5=>?_)
 ·replace c5:=ZR (c5)
  refine cT (ZN qa)<|Z6.mk ?_
  refine ⟨?_,?_⟩
  ·refine ⟨true,?_⟩
   refine ⟨?_,?_⟩
   ·exact k_K
   (simp;omega)
  rfl
 replace c5:=ZQ (c5)
 refine cI (fun c6=>?_) (fun c6=>?_)
 ·replace c6:=ZR (c6)
  refine cT (ZN qa)<|Z6.mk ?_
  refine ⟨?_,?_⟩
  ·refine ⟨true,?_⟩
   refine ⟨?_,?_⟩
   ·exact k_K
   (simp;omega)
  rfl
 replace c6:=ZQ (c6)
 refine cI (fun c7=>?_) (fun c7=>?_)
 ·replace c7:=ZR (c7)
  refine Z6.mk ?_
  refine ⟨?_,?_⟩
  ·refine ⟨true,?_⟩
   refine ⟨?_,?_⟩
   ·exact k_K
   (simp;omega)
  rfl
 replace c7:=ZQ (c7)
 refine Z6.mk ?_
 refine ⟨?_,?_⟩
 ·refine ⟨false,?_⟩
  refine ⟨?_,?_⟩
  ·exact k_K
  (simp;omega)
 rfl
theorem ama (n m:Int) (hn:0≤n∧n≤18446744073709551615) (hm:1≤m∧m≤8) (w:World):Fc Tryz.prog 239 #[.int .u64 n,.int .i64 m] w (fun r w'=>(∃q,r=.int .i64 q∧q=FL n m)∧w=w'):=by
 refine Fc.of Tryz.func239 rfl k_i ?_
 have H:=Sat.start w
 refine ZX qo<|ZX qo<|YN.mk qo<|W6.keep<|Zu rfl rfl<|YN.mk qo<|W6.keep<|Z6.mk ?_
 refine ⟨?_,?_⟩
 ·refine ⟨Xe IntKind.i64 (ZO IntKind.i64 (Ws IntKind.u64 n (64-8 * m))) (64-8 * m),?_⟩
  refine ⟨?_,?_⟩
  ·refine int_eq ?_
   omega
  rfl
 rfl
end Mem
namespace Mem
open Go YZ Go.RowKit
theorem Jy {α:Type} {l:List α} {q:Nat} {c:α} (h:l[q]?=some c):(l.drop q).take 1=[c]:=by
 obtain ⟨hq,rfl⟩:=lca.1 h
 rw [lwa hq];rfl
theorem aen {l:List UInt8} {A i m:Nat} {c:UInt8} (hc:l[A+i]?=some c) (hi:i<m):KQ ((l.drop (A+i)).take (m-i))=c.toNat+256 * KQ ((l.drop (A+(i+1))).take (m-(i+1))):=by
 obtain ⟨hq,rfl⟩:=lca.1 hc
 rw [lwa hq,show m-i=(m-(i+1))+1 by omega,List.take_succ_cons,KQ];rfl
theorem amb (x:Nat) (c:Nat) (hx:x<72057594037927936) (hc:c<256):So .u64 (Ws .u64 (x:Int) 8) (c:Int)=((c+256 * x:Nat):Int):=by
 have e:Ws .u64 (x:Int) 8=((256 * x:Nat):Int):=by
  have h:=afL .u64 (x:Int) 8 (by decide)
  rw [show ((8:Nat):Int)=8 from rfl] at h
  rw [h,Ga qo]
  omega
 rw [e]
 obtain ⟨z,h1,h2⟩:=ab8 (K:=fun z=>z=((c+256 * x:Nat):Int)) (x:=((256 * x:Nat):Int)) (y:=(c:Int)) 8 256 rfl qo qo qo qo qo
 rw [h1,h2]
theorem load {g:Zv} {w:World} {l:List As} {p:Nat} {v mo:Value} {ps:List WT} (H:Sat g w (Pt p [v,mo] 221::Sl 223 256 Xf v ps::l)) (op base off:Int) (hp:ps.length≤8) (hop:op<54) (hw:0<YS.wd op) (ho:0≤off∧off≤4294967295) :
  Fc Tryz.prog 226 #[.pointer (some ⟨p,0,none⟩),.int .u8 op,.int .i64 base,.int .i64 off] w (fun r w'=>∃n e,r=.tuple #[.int .i64 n,.int .i64 e]∧((e=23∧¬(base % 4294967296+off+YS.wd op≤256 * ps.length))∨(e=0∧(base % 4294967296+off+YS.wd op≤256 * ps.length)∧n=Hy op (KQ (((flat ps).drop (base % 4294967296+off).toNat).take (YS.wd op).toNat))))∧Sat g w' (Pt p [v,mo] 221::Sl 223 256 Xf v ps::l)):=by
 refine Fc.of Tryz.func226 rfl k_i ?_
 have EY:=YS.aem op
 obtain ⟨m,hm⟩:∃m:Nat,YS.wd op=m:=⟨(YS.wd op).toNat,by omega⟩
 rw [hm,lka]
 rw [hm] at EY
 refine Z7.mk (Fc.imp (YS.L4 _ _) ?_)
 rintro _ _ ⟨⟨r1,⟨rfl,h1⟩⟩,rfl⟩
 refine Yr rfl rfl<|Xc qo rfl rfl<|bk<|XB (Z5 qo)<|cF (YM qa)<|XB (Zl qo)<|cF (Zl qo)<|ZX qo ?_
 refine Z7.mk (Fc.imp (Mem.has H _ _ qa qo) ?_)
 clear H
 rintro _ w1 ⟨⟨b1,⟨rfl,h2⟩⟩,H⟩
 refine cI (fun c1=>?_) (fun c1=>?_)
 ·replace c1:=Rc h2 (Si (c1))
  refine Z6.mk ?_
  refine ⟨0,23,?_⟩
  refine ⟨rfl,?_⟩
  refine ⟨?_,?_⟩
  ·refine (Or.inl ?_)
   refine ⟨qo,?_⟩
   intro x1
   omega
  exact H
 replace c1:=h2.1 (Sh (c1))
 refine ZX qo<|ZX qo ?_
 obtain ⟨A,hA⟩:∃A:Nat,(A:Int)=base % 4294967296+off:=⟨(base % 4294967296+off).toNat,by omega⟩
 rw [←hA,lka]
 rw [←hA] at c1 h2
 have hfl:=Yc ps
 refine YP.rule (α:=Nat × Nat) (m,0) (fun x_=>[(13,.int .i64 ((x_.1:Int)-1)),(12,.int .u64 x_.2)]) (fun x_ w_=>(x_.1≤m)∧(x_.2=KQ (((flat ps).drop (A+x_.1)).take (m-x_.1)))∧Sat g w_ ((Pt p [v,mo] 221::Sl 223 256 Xf v ps::l))) (fun x_=>x_.1) ?_ ?_ ?_
 ·exact k_b
 ·try simp only
  refine ⟨qo,?_⟩
  refine ⟨?_,?_⟩
  ·(rw [lqb];rfl)
  exact H
 clear H
 rintro ⟨j,x⟩ f_ w_ ⟨hj,hx,H⟩
 try simp only at hj hx H ⊢
 rcases lUb j with hj0|hj0
 ·subst hj0
  rw [Nat.sub_zero,Nat.add_zero] at hx
  have anN:x≤18446744073709551615:=by
   have h3:=L2 (((flat ps).drop A).take m)
   rw [←hx,lla,lIa] at h3
   have h4:256 ^ (min m ((flat ps).length-A))≤256 ^ 8:=lUa (by decide) qo
   omega
  rw [←hx]
  refine cF (YM qo) ?_
  refine Z7.mk (Fc.imp (Mem.isSigned _ _) ?_)
  rintro _ _ ⟨⟨b2,⟨rfl,h3⟩⟩,rfl⟩
  refine cI (fun c2=>?_) (fun c2=>?_)
  ·replace c2:=h3.1 (c2)
   refine Z7.mk (Fc.imp (Mem.ama _ _ qo qo _) ?_)
   rintro _ _ ⟨⟨q1,⟨rfl,h4⟩⟩,rfl⟩
   refine Z6.mk ?_
   refine ⟨q1,0,?_⟩
   refine ⟨rfl,?_⟩
   refine ⟨?_,?_⟩
   ·refine (Or.inr ?_)
    refine ⟨qo,?_⟩
    refine ⟨qo,?_⟩
    exact h4.trans (by unfold Hy;rw [if_pos c2,h1])
   exact H
  replace c2:=Rc h3 (c2)
  refine Zu rfl rfl<|Z6.mk ?_
  refine ⟨ZO IntKind.i64 (↑x:Int),0,?_⟩
  refine ⟨rfl,?_⟩
  refine ⟨?_,?_⟩
  ·refine (Or.inr ?_)
   refine ⟨qo,?_⟩
   refine ⟨qo,?_⟩
   exact (if_neg c2).symm
  exact H
 ·obtain ⟨i,rfl⟩:∃k,j=k+1:=⟨j-1,by omega⟩
  refine cT (Ys qo)<|bk<|ZX qo<|YN.mk (by decide)<|W6.keep<|Z9 rfl<|Z4 (H.at 0 rfl) 0 rfl rfl rfl<|Vz.mk (by decide)<|O3 qo qo<|Vz.mk (by decide)<|Od qo ?_
  obtain ⟨x1,hx1⟩:∃x,(ps)[(((A)+((i+1)-1)) / 256)]?=some x:=⟨_,laa qo⟩
  obtain ⟨b2,o1,E1⟩:=H.Y1 1 rfl (((A)+((i+1)-1)) / 256) qo
  refine ZJ E1 qo rfl rfl<|Mi 1 (((A)+((i+1)-1)) % 256) qo qo rfl rfl ?_
  obtain ⟨c,hc⟩:∃c,x1.l[(A+i) % 256]?=some c:=⟨_,laa (by rw [x1.h];omega)⟩
  have UA:=Dd (xs:=x1.l) (show At _ _ _ (Xf x1) from H.el 1 rfl E1 hx1) ((A+i) % 256) 1
  rw [Jy hc] at UA
  refine Z4 UA 0 qs rfl rfl ?_
  have Gy:(flat ps)[A+i]?=some c:=by rw [Sc,show ps[(A+i) / 256]?=some x1 from hx1];exact hc
  have hst:=aen Gy (show i<m by omega)
  rw [←hx] at hst
  have amc:x<72057594037927936:=by
   have h3:=L2 (((flat ps).drop (A+(i+1))).take (m-(i+1)))
   rw [←hx,lla,lIa] at h3
   have h4:256 ^ (min (m-(i+1)) ((flat ps).length-(A+(i+1))))≤256 ^ 7:=lUa (by decide) qo
   omega
  have Uz:=c.toNat_lt
  have hor:=amb x c.toNat amc Uz
  refine Qo qo rfl rfl<|W6.mk _ hor<|ZX qo ?_
  rw [show (((i+1:Nat):Int)-1-1)=(i:Int)-1 by omega]
  refine WN.mk ((i,c.toNat+256 * x)) (ZL rfl (ZL rfl (ZT))) ?_ ?_
  ·refine ⟨qo,?_⟩
   refine ⟨?_,?_⟩
   ·exact hst.symm
   exact H
  omega
end Mem
namespace Bm
open Go YZ
def f1 (b:Nat):Nat:=(b / 2 &&& 85)+(b &&& 85)
def f2 (b:Nat):Nat:=(b / 4 &&& 51)+(b &&& 51)
theorem s1:∀b<256,∀c<2,(b / 2+128 * c) &&& 85=b / 2 &&& 85:=by decide +kernel
theorem s2:∀b<256,∀c<4,(b / 4+64 * c) &&& 51=b / 4 &&& 51:=by decide +kernel
def Q8:List Nat:=[0,1,28,2,29,14,24,3,30,22,20,15,25,17,4,8,31,27,13,23,21,19,16,7,26,12,18,6,11,5,10,9]
def Q7:List Nat:=[0,1,56,2,57,49,28,3,61,58,42,50,38,29,17,4,62,47,59,36,45,43,51,22,53,39,33,30,24,18,12,5,63,55,48,27,60,41,37,16,46,35,44,21,52,32,23,11,54,26,40,15,34,20,31,10,25,14,19,9,13,8,7,6]
def Pu (l:List Nat):List Value:=l.map fun (n:Nat)=>Value.int .u8 (n:Int)
end Bm
namespace XG
open Go YZ
def rkS (u:IntKind) (M:Int) (which a b:Int):Int :=
 if which=0 then ZO u (a+b) else if which=1 then ZO u (a-b) else if which=2 then ZO u (a * b)
 else if which=7 then TY u a b else if which=8 then So u a b else if which=9 then Q3 u a b
 else if which=10 then Ws u a (b % M)
 else if which=11 then if 0<b % M∧Xe u a (M-1)≠0 then So u (Xe u a (b % M)) (Ws u u.max (M-b % M)) else Xe u a (b % M)
 else if which=12 then Xe u a (b % M)
 else if which=13 then So u (Ws u a (b % M)) (Xe u a (M-b % M))
 else So u (Xe u a (b % M)) (Ws u a (M-b % M))
def KP (b:Bool):Int:=if b then 1 else 0
def VJ (which a b ua ub:Int):Int :=
 if which=0 then KP (decide (a=b)) else if which=1 then KP (!decide (a=b)) else if which=2 then KP (decide (a<b)) else if which=3 then KP (decide (ua<ub))
 else if which=4 then KP (decide (b<a)) else if which=5 then KP (decide (ub<ua)) else if which=6 then KP (decide (a≤b)) else if which=7 then KP (decide (ua≤ub))
 else if which=8 then KP (decide (b≤a)) else KP (decide (ub≤ua))
def V7 (k:IntKind) (which a b ua ub:Int):Int × Int :=
 if b=0 then (0,21)
 else if which=0 then if b=-1∧a≠0∧a=ZO k (0-a) then (0,22) else (ZO .i64 (TG k a b),0)
 else if which=1 then (ZO .i64 (TG (if k=.i32 then .u32 else .u64) ua ub),0)
 else if which=2 then if b=-1 then (0,0) else (ZO .i64 (S9 a b),0)
 else (ZO .i64 (S9 ua ub),0)
def amd (op a b:Int):Int × Int :=
 if 70≤op∧op≤79 then (VJ (op-70) (ZO .i32 a) (ZO .i32 b) (ZO .u32 a) (ZO .u32 b),0)
 else if 81≤op∧op≤90 then (VJ (op-81) a b (ZO .u64 a) (ZO .u64 b),0)
 else if 109≤op∧op≤112 then (ZO .i64 (ZO .i32 (V7 .i32 (op-109) (ZO .i32 a) (ZO .i32 b) (ZO .u32 a) (ZO .u32 b)).1),(V7 .i32 (op-109) (ZO .i32 a) (ZO .i32 b) (ZO .u32 a) (ZO .u32 b)).2)
 else if 127≤op∧op≤130 then V7 .i64 (op-127) a b (ZO .u64 a) (ZO .u64 b)
 else if 106≤op∧op≤120 then (ZO .i64 (ZO .i32 (rkS .u32 32 (op-106) (ZO .u32 a) (ZO .u32 b))),0)
 else if 124≤op∧op≤138 then (ZO .i64 (rkS .u64 64 (op-124) (ZO .u64 a) (ZO .u64 b)),0)
 else (0,6)
theorem ame {b:Int} (hb:-2147483648≤b∧b≤2147483647) (hz:b≠0):ZO .u32 b≠0:=by
 unfold ZO;simp [IntKind.wrap,IntKind.bits,IntKind.signed];omega
theorem amf {b:Int} (hb:-9223372036854775808≤b∧b≤9223372036854775807) (hz:b≠0):ZO .u64 b≠0:=by
 unfold ZO;simp [IntKind.wrap,IntKind.bits,IntKind.signed];omega
end XG
end Go.Proofs.YtakpnepblgfknaaGreatDoor
