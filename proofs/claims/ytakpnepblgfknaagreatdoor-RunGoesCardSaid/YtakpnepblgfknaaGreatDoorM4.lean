/- Texts of this claim, one behind the other. -/
import Derived.Test.YtakpnepblgfknaaGreatDoorM3
import Derived.Test.YtakpnepblgfknaaGreatDoorM2
set_option maxRecDepth 100000
set_option maxHeartbeats 4000000
set_option linter.unusedVariables false
set_option linter.unusedSimpArgs false
set_option linter.defProp false
namespace Go.Proofs.YtakpnepblgfknaaGreatDoor
namespace XG
open Go YZ Go.RowKit
theorem ah8 (k:IntKind) (x y:Int):TG k x y=ZO k (x.tdiv y):=by unfold TG ZO;rfl
theorem Iy (a b:Int):-9223372036854775808≤TG .i64 a b∧TG .i64 a b≤9223372036854775807:=by
 rw [ah8];have:=XM .i64 (a.tdiv b)
 rw [show IntKind.min .i64=-9223372036854775808 from rfl,show IntKind.max .i64=9223372036854775807 from rfl] at this
 exact this
theorem aj1 {a b:Int} (ha:-9223372036854775808≤a∧a≤9223372036854775807):-9223372036854775808≤S9 a b∧S9 a b≤9223372036854775807:=by
 unfold S9
 have h:(a.tmod b).natAbs≤a.natAbs:=by rw [Int.natAbs_tmod];exact Nat.mod_le _ _
 by_cases hp:0≤a
 ·have:=Int.tmod_nonneg b hp;omega
 ·have h2:0≤(-a).tmod b:=Int.tmod_nonneg b qo
  rw [Int.neg_tmod] at h2
  omega
section
variable {g:Zv} {w:World} {l:List As}
theorem W5 (H:Sat g w l) (b:Bool):Fc Tryz.prog 240 #[.bool b] w (fun v w'=>∃r,v=.int .i64 r∧r=KP b∧Sat g w' l):=by
 refine Fc.of Tryz.func240 rfl k_i ?_
 refine cI (fun c1=>?_) (fun c1=>?_)
 ·refine Z6.mk ?_
  refine ⟨1,?_⟩
  refine ⟨?_,?_⟩
  ·(subst_vars;rfl)
  refine ⟨?_,?_⟩
  ·(subst_vars;rfl)
  exact H
 refine Z6.mk ?_
 refine ⟨0,?_⟩
 refine ⟨?_,?_⟩
 ·(subst_vars;rfl)
 refine ⟨?_,?_⟩
 ·(subst_vars;rfl)
 exact H
theorem ah9 (H:Sat g w l) (k a b c d:Int):Fc Tryz.prog 247 #[.int .u8 k,.int .i32 a,.int .i32 b,.int .u32 c,.int .u32 d] w (fun v w'=>∃r,v=.int .i64 r∧r=VJ k a b c d∧Sat g w' l):=by
 refine Fc.of Tryz.func247 rfl k_i<|bk ?_
 refine cI (fun c1=>?_) (fun c1=>?_)
 ·replace c1:=ZR (c1)
  refine Z7.mk (Fc.imp (XG.W5 H _) ?_)
  clear H
  rintro _ w1 ⟨r1,⟨rfl,⟨h1,H⟩⟩⟩
  refine Z6.mk ?_
  refine ⟨r1,?_⟩
  refine ⟨?_,?_⟩
  ·refine int_eq ?_
   omega
  refine ⟨?_,?_⟩
  ·exact k_e
  exact H
 replace c1:=ZQ (c1)
 refine cI (fun c2=>?_) (fun c2=>?_)
 ·replace c2:=ZR (c2)
  refine Z7.mk (Fc.imp (XG.W5 H _) ?_)
  clear H
  rintro _ w1 ⟨r1,⟨rfl,⟨h1,H⟩⟩⟩
  refine Z6.mk ?_
  refine ⟨r1,?_⟩
  refine ⟨?_,?_⟩
  ·refine int_eq ?_
   omega
  refine ⟨?_,?_⟩
  ·exact k_e
  exact H
 replace c2:=ZQ (c2)
 refine cI (fun c3=>?_) (fun c3=>?_)
 ·replace c3:=ZR (c3)
  refine Z7.mk (Fc.imp (XG.W5 H _) ?_)
  clear H
  rintro _ w1 ⟨r1,⟨rfl,⟨h1,H⟩⟩⟩
  refine Z6.mk ?_
  refine ⟨r1,?_⟩
  refine ⟨?_,?_⟩
  ·refine int_eq ?_
   omega
  refine ⟨?_,?_⟩
  ·exact k_e
  exact H
 replace c3:=ZQ (c3)
 refine cI (fun c4=>?_) (fun c4=>?_)
 ·replace c4:=ZR (c4)
  refine Z7.mk (Fc.imp (XG.W5 H _) ?_)
  clear H
  rintro _ w1 ⟨r1,⟨rfl,⟨h1,H⟩⟩⟩
  refine Z6.mk ?_
  refine ⟨r1,?_⟩
  refine ⟨?_,?_⟩
  ·refine int_eq ?_
   omega
  refine ⟨?_,?_⟩
  ·exact k_e
  exact H
 replace c4:=ZQ (c4)
 refine cI (fun c5=>?_) (fun c5=>?_)
 ·replace c5:=ZR (c5)
  refine Z7.mk (Fc.imp (XG.W5 H _) ?_)
  clear H
  rintro _ w1 ⟨r1,⟨rfl,⟨h1,H⟩⟩⟩
  refine Z6.mk ?_
  refine ⟨r1,?_⟩
  refine ⟨?_,?_⟩
  ·refine int_eq ?_
   omega
  refine ⟨?_,?_⟩
  ·exact k_e
  exact H
 replace c5:=ZQ (c5)
 refine cI (fun c6=>?_) (fun c6=>?_)
 ·replace c6:=ZR (c6)
  refine Z7.mk (Fc.imp (XG.W5 H _) ?_)
  clear H
  rintro _ w1 ⟨r1,⟨rfl,⟨h1,H⟩⟩⟩
  refine Z6.mk ?_
  refine ⟨r1,?_⟩
  refine ⟨?_,?_⟩
  ·refine int_eq ?_
   omega
  refine ⟨?_,?_⟩
  ·exact k_e
  exact H
 replace c6:=ZQ (c6)
 refine cI (fun c7=>?_) (fun c7=>?_)
 ·replace c7:=ZR (c7)
  refine Z7.mk (Fc.imp (XG.W5 H _) ?_)
  clear H
  rintro _ w1 ⟨r1,⟨rfl,⟨h1,H⟩⟩⟩
  refine Z6.mk ?_
  refine ⟨r1,?_⟩
  refine ⟨?_,?_⟩
  ·refine int_eq ?_
   omega
  refine ⟨?_,?_⟩
  ·exact k_e
  exact H
 replace c7:=ZQ (c7)
 refine cI (fun c8=>?_) (fun c8=>?_)
 ·replace c8:=ZR (c8)
  refine Z7.mk (Fc.imp (XG.W5 H _) ?_)
  clear H
  rintro _ w1 ⟨r1,⟨rfl,⟨h1,H⟩⟩⟩
  refine Z6.mk ?_
  refine ⟨r1,?_⟩
  refine ⟨?_,?_⟩
  ·refine int_eq ?_
   omega
  refine ⟨?_,?_⟩
  ·exact k_e
  exact H
 replace c8:=ZQ (c8)
 refine cI (fun c9=>?_) (fun c9=>?_)
 ·replace c9:=ZR (c9)
  refine Z7.mk (Fc.imp (XG.W5 H _) ?_)
  clear H
  rintro _ w1 ⟨r1,⟨rfl,⟨h1,H⟩⟩⟩
  refine Z6.mk ?_
  refine ⟨r1,?_⟩
  refine ⟨?_,?_⟩
  ·refine int_eq ?_
   omega
  refine ⟨?_,?_⟩
  ·exact k_e
  exact H
 replace c9:=ZQ (c9)
 refine Z7.mk (Fc.imp (XG.W5 H _) ?_)
 clear H
 rintro _ w1 ⟨r1,⟨rfl,⟨h1,H⟩⟩⟩
 refine Z6.mk ?_
 refine ⟨r1,?_⟩
 refine ⟨?_,?_⟩
 ·refine int_eq ?_
  omega
 refine ⟨?_,?_⟩
 ·exact k_e
 exact H
theorem aia (H:Sat g w l) (k a b c d:Int):Fc Tryz.prog 248 #[.int .u8 k,.int .i64 a,.int .i64 b,.int .u64 c,.int .u64 d] w (fun v w'=>∃r,v=.int .i64 r∧r=VJ k a b c d∧Sat g w' l):=by
 refine Fc.of Tryz.func248 rfl k_i<|bk ?_
 refine cI (fun c1=>?_) (fun c1=>?_)
 ·replace c1:=ZR (c1)
  refine Z7.mk (Fc.imp (XG.W5 H _) ?_)
  clear H
  rintro _ w1 ⟨r1,⟨rfl,⟨h1,H⟩⟩⟩
  refine Z6.mk ?_
  refine ⟨r1,?_⟩
  refine ⟨?_,?_⟩
  ·refine int_eq ?_
   omega
  refine ⟨?_,?_⟩
  ·exact k_e
  exact H
 replace c1:=ZQ (c1)
 refine cI (fun c2=>?_) (fun c2=>?_)
 ·replace c2:=ZR (c2)
  refine Z7.mk (Fc.imp (XG.W5 H _) ?_)
  clear H
  rintro _ w1 ⟨r1,⟨rfl,⟨h1,H⟩⟩⟩
  refine Z6.mk ?_
  refine ⟨r1,?_⟩
  refine ⟨?_,?_⟩
  ·refine int_eq ?_
   omega
  refine ⟨?_,?_⟩
  ·exact k_e
  exact H
 replace c2:=ZQ (c2)
 refine cI (fun c3=>?_) (fun c3=>?_)
 ·replace c3:=ZR (c3)
  refine Z7.mk (Fc.imp (XG.W5 H _) ?_)
  clear H
  rintro _ w1 ⟨r1,⟨rfl,⟨h1,H⟩⟩⟩
  refine Z6.mk ?_
  refine ⟨r1,?_⟩
  refine ⟨?_,?_⟩
  ·refine int_eq ?_
   omega
  refine ⟨?_,?_⟩
  ·exact k_e
  exact H
 replace c3:=ZQ (c3)
 refine cI (fun c4=>?_) (fun c4=>?_)
 ·replace c4:=ZR (c4)
  refine Z7.mk (Fc.imp (XG.W5 H _) ?_)
  clear H
  rintro _ w1 ⟨r1,⟨rfl,⟨h1,H⟩⟩⟩
  refine Z6.mk ?_
  refine ⟨r1,?_⟩
  refine ⟨?_,?_⟩
  ·refine int_eq ?_
   omega
  refine ⟨?_,?_⟩
  ·exact k_e
  exact H
 replace c4:=ZQ (c4)
 refine cI (fun c5=>?_) (fun c5=>?_)
 ·replace c5:=ZR (c5)
  refine Z7.mk (Fc.imp (XG.W5 H _) ?_)
  clear H
  rintro _ w1 ⟨r1,⟨rfl,⟨h1,H⟩⟩⟩
  refine Z6.mk ?_
  refine ⟨r1,?_⟩
  refine ⟨?_,?_⟩
  ·refine int_eq ?_
   omega
  refine ⟨?_,?_⟩
  ·exact k_e
  exact H
 replace c5:=ZQ (c5)
 refine cI (fun c6=>?_) (fun c6=>?_)
 ·replace c6:=ZR (c6)
  refine Z7.mk (Fc.imp (XG.W5 H _) ?_)
  clear H
  rintro _ w1 ⟨r1,⟨rfl,⟨h1,H⟩⟩⟩
  refine Z6.mk ?_
  refine ⟨r1,?_⟩
  refine ⟨?_,?_⟩
  ·refine int_eq ?_
   omega
  refine ⟨?_,?_⟩
  ·exact k_e
  exact H
 replace c6:=ZQ (c6)
 refine cI (fun c7=>?_) (fun c7=>?_)
 ·replace c7:=ZR (c7)
  refine Z7.mk (Fc.imp (XG.W5 H _) ?_)
  clear H
  rintro _ w1 ⟨r1,⟨rfl,⟨h1,H⟩⟩⟩
  refine Z6.mk ?_
  refine ⟨r1,?_⟩
  refine ⟨?_,?_⟩
  ·refine int_eq ?_
   omega
  refine ⟨?_,?_⟩
  ·exact k_e
  exact H
 replace c7:=ZQ (c7)
 refine cI (fun c8=>?_) (fun c8=>?_)
 ·replace c8:=ZR (c8)
  refine Z7.mk (Fc.imp (XG.W5 H _) ?_)
  clear H
  rintro _ w1 ⟨r1,⟨rfl,⟨h1,H⟩⟩⟩
  refine Z6.mk ?_
  refine ⟨r1,?_⟩
  refine ⟨?_,?_⟩
  ·refine int_eq ?_
   omega
  refine ⟨?_,?_⟩
  ·exact k_e
  exact H
 replace c8:=ZQ (c8)
 refine cI (fun c9=>?_) (fun c9=>?_)
 ·replace c9:=ZR (c9)
  refine Z7.mk (Fc.imp (XG.W5 H _) ?_)
  clear H
  rintro _ w1 ⟨r1,⟨rfl,⟨h1,H⟩⟩⟩
  refine Z6.mk ?_
  refine ⟨r1,?_⟩
  refine ⟨?_,?_⟩
  ·refine int_eq ?_
   omega
  refine ⟨?_,?_⟩
  ·exact k_e
  exact H
 replace c9:=ZQ (c9)
 refine Z7.mk (Fc.imp (XG.W5 H _) ?_)
 clear H
 rintro _ w1 ⟨r1,⟨rfl,⟨h1,H⟩⟩⟩
 refine Z6.mk ?_
 refine ⟨r1,?_⟩
 refine ⟨?_,?_⟩
 ·refine int_eq ?_
  omega
 refine ⟨?_,?_⟩
 ·exact k_e
 exact H
theorem aib (H:Sat g w l) (k a b c d:Int) (ha:-2147483648≤a∧a≤2147483647) (hb:-2147483648≤b∧b≤2147483647) (hd:d=ZO .u32 b):Fc Tryz.prog 249 #[.int .u8 k,.int .i32 a,.int .i32 b,.int .u32 c,.int .u32 d] w (fun v w'=>∃q e,v=.tuple #[.int .i64 q,.int .i64 e]∧(q,e)=V7 .i32 k a b c d∧Sat g w' l):=by
 have hz:b≠0→d≠0:=fun h=>by rw [hd];exact ame hb h
 refine Fc.of Tryz.func249 rfl k_i ?_
 refine cI (fun c1=>?_) (fun c1=>?_)
 ·replace c1:=ZR (c1)
  refine Z6.mk ?_
  refine ⟨0,21,?_⟩
  refine ⟨rfl,?_⟩
  refine ⟨?_,?_⟩
  ·exact k_f
  exact H
 replace c1:=ZQ (c1)
 refine bk ?_
 refine cI (fun c2=>?_) (fun c2=>?_)
 ·replace c2:=ZR (c2)
  refine br (fun c3=>?_) (fun c3=>?_)
  ·replace c3:=ZR (c3)
   refine br (fun c4=>?_) (fun c4=>?_)
   ·replace c4:=Ye (c4)
    refine W6.keep ?_
    refine cI (fun c5=>?_) (fun c5=>?_)
    ·replace c5:=ZR (c5)
     refine Z6.mk ?_
     refine ⟨0,22,?_⟩
     refine ⟨rfl,?_⟩
     refine ⟨?_,?_⟩
     ·exact k_f
     exact H
    replace c5:=ZQ (c5)
    refine Vz.mk qo<|W6.keep<|Zu rfl rfl<|Z6.mk ?_
    refine ⟨ZO IntKind.i64 (TG IntKind.i32 a b),0,?_⟩
    refine ⟨rfl,?_⟩
    refine ⟨?_,?_⟩
    ·exact k_f
    exact H
   replace c4:=Yd (c4)
   refine cF rfl<|Vz.mk qo<|W6.keep<|Zu rfl rfl<|Z6.mk ?_
   refine ⟨ZO IntKind.i64 (TG IntKind.i32 a b),0,?_⟩
   refine ⟨rfl,?_⟩
   refine ⟨?_,?_⟩
   ·exact k_f
   exact H
  replace c3:=ZQ (c3)
  refine cF rfl<|Vz.mk qo<|W6.keep<|Zu rfl rfl<|Z6.mk ?_
  refine ⟨ZO IntKind.i64 (TG IntKind.i32 a b),0,?_⟩
  refine ⟨rfl,?_⟩
  refine ⟨?_,?_⟩
  ·exact k_f
  exact H
 replace c2:=ZQ (c2)
 refine cI (fun c3=>?_) (fun c3=>?_)
 ·replace c3:=ZR (c3)
  refine Vz.mk qo<|W6.keep<|Zu rfl rfl<|Z6.mk ?_
  refine ⟨ZO IntKind.i64 (TG IntKind.u32 c d),0,?_⟩
  refine ⟨rfl,?_⟩
  refine ⟨?_,?_⟩
  ·(unfold V7;(repeat first|rw [if_pos k_j]|rw [if_neg k_q]))
   rfl
  exact H
 replace c3:=ZQ (c3)
 refine cI (fun c4=>?_) (fun c4=>?_)
 ·replace c4:=ZR (c4)
  refine cI (fun c5=>?_) (fun c5=>?_)
  ·replace c5:=ZR (c5)
   refine Z6.mk ?_
   refine ⟨0,0,?_⟩
   refine ⟨rfl,?_⟩
   refine ⟨?_,?_⟩
   ·exact k_f
   exact H
  replace c5:=ZQ (c5)
  refine Vz.mk qo<|W6.keep<|Zu rfl rfl<|Z6.mk ?_
  refine ⟨ZO IntKind.i64 (S9 a b),0,?_⟩
  refine ⟨rfl,?_⟩
  refine ⟨?_,?_⟩
  ·exact k_f
  exact H
 replace c4:=ZQ (c4)
 refine Vz.mk qo<|W6.keep<|Zu rfl rfl<|Z6.mk ?_
 refine ⟨ZO IntKind.i64 (S9 c d),0,?_⟩
 refine ⟨rfl,?_⟩
 refine ⟨?_,?_⟩
 ·exact k_f
 exact H
theorem aic (H:Sat g w l) (k a b c d:Int) (ha:-9223372036854775808≤a∧a≤9223372036854775807) (hb:-9223372036854775808≤b∧b≤9223372036854775807) (hd:d=ZO .u64 b):Fc Tryz.prog 250 #[.int .u8 k,.int .i64 a,.int .i64 b,.int .u64 c,.int .u64 d] w (fun v w'=>∃q e,v=.tuple #[.int .i64 q,.int .i64 e]∧(q,e)=V7 .i64 k a b c d∧Sat g w' l):=by
 have hz:b≠0→d≠0:=fun h=>by rw [hd];exact amf hb h
 refine Fc.of Tryz.func250 rfl k_i ?_
 refine cI (fun c1=>?_) (fun c1=>?_)
 ·replace c1:=ZR (c1)
  refine Z6.mk ?_
  refine ⟨0,21,?_⟩
  refine ⟨rfl,?_⟩
  refine ⟨?_,?_⟩
  ·exact k_f
  exact H
 replace c1:=ZQ (c1)
 refine bk ?_
 refine cI (fun c2=>?_) (fun c2=>?_)
 ·replace c2:=ZR (c2)
  refine br (fun c3=>?_) (fun c3=>?_)
  ·replace c3:=ZR (c3)
   refine br (fun c4=>?_) (fun c4=>?_)
   ·replace c4:=Ye (c4)
    refine W6.keep ?_
    refine cI (fun c5=>?_) (fun c5=>?_)
    ·replace c5:=ZR (c5)
     refine Z6.mk ?_
     refine ⟨0,22,?_⟩
     refine ⟨rfl,?_⟩
     refine ⟨?_,?_⟩
     ·exact k_f
     exact H
    replace c5:=ZQ (c5)
    refine Vz.mk qo<|W6.keep<|Z6.mk ?_
    refine ⟨TG IntKind.i64 a b,0,?_⟩
    refine ⟨rfl,?_⟩
    refine ⟨?_,?_⟩
    ·(unfold V7;(repeat first|rw [if_pos k_j]|rw [if_neg k_q]))
     exact congrArg (fun z=>(z,(0:Int))) (Sv (Iy _ _)).symm
    exact H
   replace c4:=Yd (c4)
   refine cF rfl<|Vz.mk qo<|W6.keep<|Z6.mk ?_
   refine ⟨TG IntKind.i64 a b,0,?_⟩
   refine ⟨rfl,?_⟩
   refine ⟨?_,?_⟩
   ·(unfold V7;(repeat first|rw [if_pos k_j]|rw [if_neg k_q]))
    exact congrArg (fun z=>(z,(0:Int))) (Sv (Iy _ _)).symm
   exact H
  replace c3:=ZQ (c3)
  refine cF rfl<|Vz.mk qo<|W6.keep<|Z6.mk ?_
  refine ⟨TG IntKind.i64 a b,0,?_⟩
  refine ⟨rfl,?_⟩
  refine ⟨?_,?_⟩
  ·(unfold V7;(repeat first|rw [if_pos k_j]|rw [if_neg k_q]))
   exact congrArg (fun z=>(z,(0:Int))) (Sv (Iy _ _)).symm
  exact H
 replace c2:=ZQ (c2)
 refine cI (fun c3=>?_) (fun c3=>?_)
 ·replace c3:=ZR (c3)
  refine Vz.mk qo<|W6.keep<|Zu rfl rfl<|Z6.mk ?_
  refine ⟨ZO IntKind.i64 (TG IntKind.u64 c d),0,?_⟩
  refine ⟨rfl,?_⟩
  refine ⟨?_,?_⟩
  ·(unfold V7;(repeat first|rw [if_pos k_j]|rw [if_neg k_q]))
   rfl
  exact H
 replace c3:=ZQ (c3)
 refine cI (fun c4=>?_) (fun c4=>?_)
 ·replace c4:=ZR (c4)
  refine cI (fun c5=>?_) (fun c5=>?_)
  ·replace c5:=ZR (c5)
   refine Z6.mk ?_
   refine ⟨0,0,?_⟩
   refine ⟨rfl,?_⟩
   refine ⟨?_,?_⟩
   ·exact k_f
   exact H
  replace c5:=ZQ (c5)
  refine Vz.mk qo<|W6.keep<|Z6.mk ?_
  refine ⟨S9 a b,0,?_⟩
  refine ⟨rfl,?_⟩
  refine ⟨?_,?_⟩
  ·(unfold V7;(repeat first|rw [if_pos k_j]|rw [if_neg k_q]))
   exact congrArg (fun z=>(z,(0:Int))) (Sv (aj1 qo)).symm
  exact H
 replace c4:=ZQ (c4)
 refine Vz.mk qo<|W6.keep<|Zu rfl rfl<|Z6.mk ?_
 refine ⟨ZO IntKind.i64 (S9 c d),0,?_⟩
 refine ⟨rfl,?_⟩
 refine ⟨?_,?_⟩
 ·exact k_f
 exact H
end
end XG
namespace XG
open Go YZ Go.RowKit
theorem wrap32 (a:Int):-2147483648≤ZO .i32 a∧ZO .i32 a≤2147483647:=XM .i32 a
theorem aj2 (b:Int):b % 4294967296=ZO .u32 (ZO .i32 b):=by
 unfold ZO;simp [IntKind.wrap,IntKind.bits,IntKind.signed];omega
theorem aj3 (b:Int):b % 18446744073709551616=ZO .u64 b:=by
 unfold ZO;simp [IntKind.wrap,IntKind.bits,IntKind.signed]
section
variable {op a b r e k a' b' c d:Int}
end
section
variable {g:Zv} {w:World} {l:List As}
end
end XG
namespace YZ
open Go Go.RowKit
section
variable {P:Program} {g:Zv} {α:Type} {en:α→List Value} {ok:α→Prop} {s:Nat} {t e:TypeId} {v:Value} {xs:List α} {K:Value→Prop} {S:World→Prop}
end
end YZ
namespace YZ
open Go Go.RowKit Go.Lib
def patch {α:Type} (xs:List α) (a:Nat) (ys:List α):List α:=xs.take a++ys++xs.drop (a+ys.length)
theorem Va {α:Type} {xs ys:List α} {a:Nat} (h:a+ys.length≤xs.length):(patch xs a ys).length=xs.length:=by
 unfold patch;simp;omega
theorem adi {α:Type} {xs:List α} {a:Nat}:patch xs a []=xs:=by unfold patch;simp
theorem abo {β:Type} (D news:List β) (p n:Nat) (hp:p+news.length≤n) (hn:n≤D.length):(D.take p++news++D.drop (p+news.length)).take n=(D.take n).take p++news++(D.take n).drop (p+news.length):=by
 apply lJa
 intro i
 have h1:(D.take p).length=p:=by rw [lla];omega
 have h2:((D.take n).take p).length=p:=by rw [lla,lla];omega
 by_cases hi:i<n
 ·rw [lAa,if_pos hi]
  by_cases hi1:i<p
  ·rw [lma,lma,loa qo,loa qo,lAa,lAa,lAa,if_pos hi1,if_pos hi1,if_pos hi]
  ·rw [lma,lma,lsa (show (D.take p).length≤i by omega),lsa (show ((D.take n).take p).length≤i by omega),h1,h2]
   by_cases hi2:i-p<news.length
   ·rw [loa hi2,loa hi2]
   ·rw [lsa qo,lsa qo,lNa,lNa,lAa,if_pos qo]
 ·rw [lAa,if_neg hi,lSa]
  simp;omega
section
variable {P:Program} {g:Zv} {w:World} {l:List As} {K:Value→World→Prop} {α:Type} {en:α→List Value} {ok:α→Prop} {s j a:Nat} {v v' u:Value} {xs ys:List α} {e t t2 ty:TypeId}
theorem Sa {A:As} (hj:l[j]?=some A):l.set j A=l:=by
 apply lJa
 intro i
 rw [lPa]
 split
 ·rename_i h;subst h
  rw [if_pos (lca.1 hj).1];exact hj.symm
 ·rfl
theorem J7 (H:Sat g w l) (j:Nat) (hj:l[j]?=some (Sl e s en v xs)) (V:Vw v s xs.length a xs.length v') (hl:a+ys.length≤xs.length) (ht:P.underlying t=some (.slice e)) (hsz:(P.info? e).map (fun i=>i.size)=some s)
  (h1:∀c∈ys.flatMap en,c.oneCell'=true) (hlen:(Builtin.lenOf u).run P w=.ok ys.length w) (Gy:(Builtin.firstCells s ys.length u).run P w=.ok (ys.flatMap en).toArray w)
  (k:Rp l j (Sl e s en v (patch xs a ys)) fun l'=>∀w',Sat g w' l'→K (.int .i64 (ys.length:Nat)) w'):Zi P (Builtin.copy_ #[t,t2] ty #[v',u]) w K:=by
 have ho:=H.off j hj
 rw [Wo] at k
 obtain ⟨ad,cap,rfl,_,hnc,SB,ha,rfl⟩:=V
 have hmin:Nat.min ys.length (xs.length-a)=ys.length:=lob qo
 cases hi:P.info? e with
 | none=>simp [hi] at hsz
 | some i1 =>
  simp only [hi,Option.map_some,Option.some.injEq] at hsz
  by_cases hy:ys=[]
  ·subst hy
   rw [adi,Sa hj] at k
   refine ⟨_,_,?_,k w H⟩
   have amg:(Builtin.firstCells s 0 u).run P w=.ok #[] w:=Gy
   have hlen':(Builtin.lenOf u).run P w=.ok 0 w:=hlen
   have hm0:Nat.min 0 (xs.length-a)=0:=Nat.zero_min _
   generalize (if cap=a then ad else Option.map (fun x=>x.add (a * s)) ad)=base
   cases base <;> simp [Builtin.copy_,run_underlying ht,hlen',sizeOf,typeInfo,hi,hsz,hm0,amg,storeCells] <;> rfl
  ·rcases ho.1 with ⟨h,rfl⟩|⟨b,o,cap',cur,he,hlo,hb,hfit,anO,amh,ami⟩
   ·exact absurd (lEb.1 (by have h0:([]:List α).length=0:=rfl;omega)) hy
   ·injection he with q1 q2 q3
    subst q1;subst q3
    have hyl:0<ys.length:=lIb.2 hy
    have hfl:(ys.flatMap en).length=ys.length * s:=YI ho.2 ys
    have hca:¬cap=a:=by omega
    have hms:(a+ys.length) * s≤xs.length * s:=lLa _ hl
    have hcs:xs.length * s≤cap * s:=lLa _ hnc
    rw [lMb] at hms
    rw [if_neg hca]
    have hst:=run_storeCells_at (P:=P) b (o+a * s) e (ys.flatMap en) 0 cur.toArray w hb (by rw [hfl];simp;omega) h1
    simp only [Nat.add_zero] at hst
    obtain ⟨hU,hB⟩:=SX (o:=o+a * s) (vs:=ys.flatMap en) hb (by rw [hfl];omega)
    have hS:=H.O4 (lo:=0) (v':=.slice (some ⟨b,o,none⟩) xs.length cap) (xs':=patch xs a ys) hj ⟨.inr ⟨b,o,cap,_,by rw [Va hl],lRa _,hB,by rw [V8];exact hfit,by rw [Va hl];exact hnc,amh,?_⟩,ho.2⟩ ⟨⟨hU.os,hU.tape,hU.output,by rw [hU.size];exact lra _,fun k _ hk=>hU.block k fun e=>hk (by rw [e];rfl)⟩,.inl rfl⟩
    ·refine ⟨_,_,?_,k _ hS⟩
     simp [Builtin.copy_,run_underlying ht,hlen,sizeOf,typeInfo,hi,hsz,hmin,Gy,Addr.add_lit,hst]
     rfl
    ·rw [Va hl,UY _ _ _ (by rw [hfl];omega)]
     have e1:(cur.take (o+a * s)++ys.flatMap en++cur.drop (o+a * s+(ys.flatMap en).length)).drop o=(cur.drop o).take (a * s)++ys.flatMap en++(cur.drop o).drop (a * s+(ys.flatMap en).length):=by
      rw [lma,lzb (by rw [lla];omega),lgc,lub0,lma]
      rw [show o+a * s-o=a * s by omega,show o+(a * s+(ys.flatMap en).length)=o+a * s+(ys.flatMap en).length by omega]
     rw [e1,abo _ _ _ _ (by rw [hfl];omega) (by rw [lIa];omega),ami,hfl,←lMb,Ut ho.2 xs a ha,Ti ho.2 xs _ hl]
     unfold patch
     rw [lMa,lMa]
theorem agb {ys:List UInt8} {xs:List UInt8} (H:Sat g w l) (j:Nat) (hj:l[j]?=some (Sl e 1 Tu v xs)) (V:Vw v 1 xs.length a xs.length v') (hl:a+ys.length≤xs.length) (ht:P.underlying t=some (.slice e)) (hsz:(P.info? e).map (fun i=>i.size)=some 1)
  (k:Rp l j (Sl e 1 Tu v (patch xs a ys)) fun l'=>∀w',Sat g w' l'→K (.int .i64 (ys.length:Nat)) w'):Zi P (Builtin.copy_ #[t,t2] ty #[v',.string (bs ys)]) w K:=by
 refine J7 H j hj V hl ht hsz (fun c hc=>?_) ?_ ?_ k
 ·obtain ⟨y,_,hu⟩:=List.mem_flatMap.1 hc
  rw [show c=_ from lta.1 hu];rfl
 ·show Sem.run P (pure _) w=_
  rw [Sem.run_pure,TW]
 ·have hf:(Array.map (fun b:UInt8=>Value.int .u8 b.toNat) ((bs ys).extract 0 ys.length).data).toList=ys.flatMap Tu:=by
   rw [←lHb (l:=ys),←aaj]
   unfold strCells bs
   simp
  show Sem.run P (pure _) w=_
  rw [Sem.run_pure]
  congr 1
  apply Array.ext'
  exact hf
theorem Rd.cells (hr:Rd en ok s w u ys) (hs:∀x,(en x).length=s) (hy:ys≠[]):∃b o c,u=.slice (some ⟨b,o,none⟩) ys.length c∧At w b o (ys.flatMap en):=by
 obtain ⟨a,cap,rfl,h2,h3,h4⟩:=hr
 obtain ⟨b,o,news,rfl,k1,k2⟩:=h4 hy
 refine ⟨b,o,cap,rfl,?_⟩
 have h5:=k1.at
 have key:∀(ys:List α) (news:List Value),news.length=ys.length * s→(∀i x,ys[i]?=some x→(news.drop (i * s)).take s=en x)→news=ys.flatMap en:=by
  intro ys
  induction ys with
  | nil=>intro news hn _;exact lqa (by simpa using hn)
  | cons y ys ih =>
   intro news hn hp
   have h0:=hp 0 y rfl
   rw [lTb,lhb] at h0
   rw [lQa,←h0]
   rw [lda,lpb] at hn
   have:=ih (news.drop s) (by rw [lIa];omega) (fun i x hx=>by
    have:=hp (i+1) x (by simpa using hx)
    rw [lpb,Nat.add_comm,←lub0] at this;exact this)
   rw [←this,lZa]
 have:news=ys.flatMap en:=key ys news k2.1 (fun i x hx=>(k2.2 i x hx).1)
 rw [←this];exact h5
theorem agc (H:Sat g w l) (j:Nat) (hj:l[j]?=some (Sl e s en v xs)) (V:Vw v s xs.length a xs.length v') (hr:Rd en ok s w u ys) (hl:a+ys.length≤xs.length) (h1:∀y∈ys,((en y).all (·.oneCell'))=true) (ht:P.underlying t=some (.slice e)) (hsz:(P.info? e).map (fun i=>i.size)=some s)
  (k:Rp l j (Sl e s en v (patch xs a ys)) fun l'=>∀w',Sat g w' l'→K (.int .i64 (ys.length:Nat)) w'):Zi P (Builtin.copy_ #[t,t2] ty #[v',u]) w K:=by
 have hs:=(H.off j hj).2
 have Hz:∀c∈ys.flatMap en,c.oneCell'=true:=fun c hc=>by
  obtain ⟨y,hy,hu⟩:=List.mem_flatMap.1 hc
  exact lkb.1 (h1 y hy) c hu
 by_cases hy:ys=[]
 ·subst hy
  obtain ⟨a',cap,rfl,h2,h3,h4⟩:=hr
  refine J7 H j hj V hl ht hsz Hz rfl ?_ k
  cases a' with
  | none=>rfl
  | some ad =>
   show (loadCells ad (0 * s)).run P w=_
   rw [lTb]
   simp [loadCells,loadCellsFrom]
 ·obtain ⟨b,o,c,rfl,UA⟩:=hr.cells hs hy
  refine J7 H j hj V hl ht hsz Hz rfl ?_ k
  show (loadCells ⟨b,o,none⟩ (ys.length * s)).run P w=_
  rw [←YI hs ys]
  exact run_loadCells_list (P:=P) w ⟨b,o,none⟩ (ys.flatMap en) (fun i u hi=>by
   rw [Addr.add_lit]
   exact UA.cell hi)
end
end YZ
namespace YZ
open Go Go.RowKit Go.Lib
theorem aeo {l:List Value}:∀{n:Nat} {k:List Value→Prop},n≤l.length→k (l.take n)→MV l n k:=by
 induction l with
 | nil=>intro n k h hk;cases n with
  | zero=>exact hk
  | succ n=>simp at h
 | cons x r ih=>intro n k h hk;cases n with
  | zero=>exact hk
  | succ n=>exact ih (by simpa using h) hk
section
variable {P:Program} {g:Zv} {w:World} {l:List As} {K:Value→World→Prop} {b o j:Nat} {e t ty:TypeId} {vs:List Value}
theorem amj {d:TypeDesc} (h:At w b o vs) (hu:P.underlying t=some d) (hd:On d=true) (hn:P.cellsOf t=vs.length) (k:K (.agg vs.toArray) w):Zi P (Instr.loadAt t (.pointer (some ⟨b,o,none⟩))) w K :=
 ZA h 0 rfl hu hd (by
  rw [Qw,lhb]
  exact aeo qo (by rw [hn,lHb];exact k))
theorem agd (H:Sat g w l) (hz:(P.info? t).bind (fun i=>i.zero)=some (.agg vs.toArray)) (k:∀p w',Sat g w' (Pt p vs t::l)→K (.pointer (some ⟨p,0,none⟩)) w'):Zi P (Instr.alloc t true (.tuple #[])) w K :=
 ZS H hz k
theorem age {z:Value} (H:Sat g w l) (hu:P.underlying t=some (.slice e)) (hz:(P.info? e).map (fun i=>(i.size,i.zero))=some (vs.length,some z)) (hsz:z.cells.size=vs.length) (hn:vs.length≤16777216)
  (k:∀p w',Sat g w' (Pt p vs e::l)→K (.slice (some ⟨p,0,none⟩) 1 1) w'):Zi P (Instr.buildSlice t 1 #[(0,.agg vs.toArray)]) w K:=by
 refine aah hu hz hsz qo ?_
 rw [RK]
 have hl:((List.replicate 1 z.cells.toList).flatten).length=vs.length:=by simp [hsz]
 have hs:Wi ((List.replicate 1 z.cells.toList).flatten) 0 vs=vs:=by
  rw [UY _ _ _ qo,lfc,lTa,lwb,←hl,List.drop_length,lua]
 rw [show (#[((0:Nat),Value.agg vs.toArray)]:Array (Nat × Value)).toList=[(0,Value.agg vs.toArray)] from rfl,QY]
 simp only [Wv,Tm,Nat.zero_mul]
 rw [show (Value.agg vs.toArray).cells.toList=vs from rfl,hs]
 have ht:(Nat.beq vs.length vs.length && Nat.ble (0+vs.length) ((List.replicate 1 z.cells.toList).flatten).length)=true:=by
  rw [hl,lwb,Nat.beq_refl,Nat.ble_eq_true_of_le (lra _)];rfl
 rw [ht]
 exact fun w' n=>k _ w' (H.new n)
end
end YZ
namespace Mem
open Go YZ Go.RowKit
theorem size {g:Zv} {w:World} {l:List As} {p:Nat} {v mo:Value} {ps:List WT} (H:Sat g w (Pt p [v,mo] 221::Sl 223 256 Xf v ps::l)) :
  Fc Tryz.prog 198 #[.pointer (some ⟨p,0,none⟩)] w (fun r w'=>r=.int .i64 ps.length∧Sat g w' (Pt p [v,mo] 221::Sl 223 256 Xf v ps::l)):=by
 refine Fc.of Tryz.func198 rfl k_i<|Z9 rfl<|Z4 (H.at 0 rfl) 0 rfl rfl rfl<|YJ H 1 rfl rfl<|Z6.mk ?_
 exact ⟨rfl,H⟩
theorem agf (p:WT):(Xf p).all (·.oneCell')=true:=by
 unfold Xf
 rw [List.all_flatMap]
 exact lkb.2 fun y _=>rfl
theorem grow {g:Zv} {w:World} {l:List As} {p:Nat} {v:Value} {most:Int} {ps:List WT} (H:Sat g w (Pt p [v,.int .i64 most] 221::Sl 223 256 Xf v ps::l)) (n:Int) (hp:ps.length≤most) (hm:most≤8) (hn:-9223372036854775808≤n∧n≤9223372036854775807) :
  Fc Tryz.prog 199 #[.pointer (some ⟨p,0,none⟩),.int .i64 n] w (fun r w'=>∃e v' ps',r=.int .i64 e∧((e=-1∧ps'=ps∧most-ps.length<n % 4294967296)∨(e=ps.length∧n % 4294967296≤most-ps.length∧ps'=ps++List.replicate (n % 4294967296).toNat zp))∧Sat g w' (Pt p [v',.int .i64 most] 221::Sl 223 256 Xf v' ps'::l)):=by
 refine Fc.of Tryz.func199 rfl k_i ?_
 have hn2:0≤n % 4294967296∧n % 4294967296<4294967296:=by omega
 obtain ⟨z,hz⟩:∃z:WT,z=zp:=⟨_,rfl⟩
 obtain ⟨m,hm2⟩:∃m:Nat,n % 4294967296=m:=⟨(n % 4294967296).toNat,by omega⟩
 refine ZM H [] [(0,.pure),(1,.pure),(2,.pure),(3,.pure),(4,.pure),(5,.pure),(6,.held),(7,.pure),(8,.pure),(9,.pure)] mixed k_i k_i<|fun w1 H=>tk (fun wx HS=>Yr rfl rfl ⟨rfl,rfl⟩)<|tk (fun wx HS=>Xc qo rfl rfl ⟨rfl,rfl⟩)<|tk (fun wx HS=>Z9 rfl ⟨rfl,rfl⟩)<|tk (fun wx HS=>Z4 (HS.at 0 rfl) 0 rfl rfl rfl ⟨rfl,rfl⟩) ?_
 obtain ⟨a1,c1,V1⟩:=H.form 1 rfl
 refine tk (fun wx HS=>XP V1 rfl ⟨rfl,rfl⟩)<|Z9 rfl<|Z4 (H.at 0 rfl) 1 rfl rfl rfl<|ZX qo ?_
 by_cases hgt:most-ps.length<n % 4294967296
 ·refine cT (Y4 qa)<|Z6.mk ?_
  exact ⟨_,_,_,rfl,.inl ⟨rfl,rfl,by omega⟩,H⟩
 refine cF (Zl qo)<|agd (vs:=Xf z) H (by rw [hz];kernel_rfl)<|fun pz w3 H=>?_
 refine YP.rule (α:=Nat × Value) (0,v) (fun x_=>[(25,.int .i64 x_.1)]) (fun x_ w_=>(x_.1≤m)∧Sat g w_ ((Pt pz (Xf z) 223::Pt p [x_.2,.int .i64 most] 221::Sl 223 256 Xf x_.2 (ps++List.replicate x_.1 z)::l))) (fun x_=>m-x_.1) ?_ ?_ ?_
 ·exact k_b
 ·try simp only
  refine ⟨qo,?_⟩
  refine H.cg (YT rfl (YT rfl (YT (Ro ?_) (rfl))))
  (rw [List.replicate_zero,lua];done)
 clear H
 rintro ⟨i,vv⟩ f_ w_ ⟨hi,H⟩
 try simp only at hi H ⊢
 have hlr:(ps++List.replicate i z).length=ps.length+i:=by rw [lba,lja]
 rcases lEa i m with hlt|hge
 ·refine cT (Y4 qo)<|bk<|ZM H [] [(0,.pure),(1,.pure),(2,.pure),(3,.pure),(4,.held),(5,.held),(6,.forced),(7,.free),(8,.pure),(9,.pure),(10,.free)] mixed k_i k_i<|fun w2 H=>tk (fun wx HS=>Z9 rfl ⟨rfl,rfl⟩)<|tk (fun wx HS=>Z4 (HS.at 1 rfl) 0 rfl rfl rfl ⟨rfl,rfl⟩)<|tk (fun wx HS=>amj (HS.at 0 rfl) rfl rfl (by rw [RC];rfl) ⟨rfl,rfl⟩)<|age (z:=.agg (Xf zp).toArray) H rfl (by rw [RC];kernel_rfl) (by rw [RC];kernel_rfl) (by rw [RC];omega)<|fun p3 w6 H=>Yt.mk (H.drop 0 (fun H=>H))<|Wk (ys:=[z]) 256 H 3 rfl (show At _ _ _ ([z].flatMap Xf) by rw [lQa,List.flatMap_nil,lua];exact H.at 0 rfl) rfl (fun y _=>agf y) rfl rfl rfl qo qo<|fun v4 w7 H=>?_
  rw [lma,←List.replicate_succ'] at H
  refine tk (fun wx HS=>Z9 rfl ⟨rfl,rfl⟩)<|XA H 2 rfl rfl rfl (H.one 3 rfl)<|fun w4 H=>ZX qo ?_
  refine WN.mk ((i+1,v4)) (Zo rfl k_c (ZT)) ?_ ?_
  ·refine ⟨qa,?_⟩
   refine H.Z8 [3,3,3]<|fun H=>H.drop 3<|fun H=>?_
   exact H
  omega
 ·obtain rfl:i=m:=by omega
  refine cF (Zl qo) ?_
  refine Z6.mk ⟨_,vv,ps++List.replicate i z,rfl,.inr ⟨rfl,by omega,by rw [hm2,←hz,lka]⟩,?_⟩
  refine H.Z8 [2,2]<|fun H=>H.drop 2<|fun H=>?_
  exact H
end Mem
namespace Fold
open XV G6 YS Zk
def UM (x:ZU):Prop:=x.op=2∨x.op=3∨x.op=4
instance (x:ZU):Decidable (UM x):=by unfold UM;infer_instance
def Hx (x:ZU):List Int→Option (List Int)
 | []=>none
 | z::r=>if WK x≠0 then none else if UM x then (if 12≤r.length then none else some (x.op::z::r)) else if x.op=5 then (if z=4 then some (5::r) else none) else if x.op=11 then some r else some (z::r)
theorem UT (x:ZU) (z:Int) (r:List Int):Hx x (z::r)=if WK x≠0 then none else if UM x then (if 12≤r.length then none else some (x.op::z::r)) else if x.op=5 then (if z=4 then some (5::r) else none) else if x.op=11 then some r else some (z::r):=rfl
def run:List ZU→List Int→Option (List Int)
 | [],s=>some s
 | x::l,s=>(Hx x s).bind (run l)
theorem RB:∀(a b:List ZU) (s:List Int),run (a++b) s=(run a s).bind (run b)
 | [],_,_=>rfl
 | x::a,b,s=>by
  rw [lOa,run,run]
  cases Hx x s with
  | none=>rfl
  | some t=>exact RB a b t
theorem Qm:∀(l:List ZU) (k:Nat) (st:NS),Gu st→(st.over=true↔st.op.length=0)→(Jz l k st=0↔run l st.last.reverse=some [])
 | [],k,st,hN,ho=>by
  rw [Jz,run]
  have hl:=hN.len
  by_cases h:st.over=true
  ·rw [if_pos h]
   have:st.last=[]:=lqa (by rw [hl];exact ho.1 h)
   rw [this];simp
  ·rw [if_neg h]
   refine ⟨fun h2=>(by cases h2),fun h2=>absurd (ho.2 ?_) h⟩
   have h2:st.last.reverse=[]:=Option.some.inj h2
   have:=congrArg List.length h2
   simp at this
   rw [←hl,this];rfl
 | x::l,k,st,hN,ho=>by
  have hl:=hN.len
  rw [Jz,run]
  by_cases UL:st.over=true
  ·have hla:st.last=[]:=lqa (by rw [hl];exact ho.1 UL)
   rw [hla]
   show _↔(none:Option (List Int))=some []
   refine ⟨fun h=>?_,fun h=>by cases h⟩
   exfalso
   by_cases hc:WK x≠0
   ·rw [if_pos hc] at h;exact hc h
   ·rw [if_neg hc,Qn UL,if_pos (by decide)] at h;cases h
  ·have FW:st.over=false:=by simpa using UL
   have hp:=hN.pos FW
   have J6:=abj hN x.op k
   obtain ⟨op,last,over⟩:=st
   simp only at hl hp FW ho hN J6
   subst FW
   rcases lgb last with rfl|⟨p,z,rfl⟩
   ·simp at hl;omega
   rw [lab0] at *
   have Ts:op.length-1=p.length:=by simp at hl;omega
   have Et:(p++[z]).getD (op.length-1) 0=z:=by rw [Ts,lea];simp
   simp only [List.reverse_append,List.reverse_cons,List.reverse_nil,List.nil_append,List.cons_append]
   rw [UT]
   by_cases hc:WK x≠0
   ·rw [if_pos hc,if_pos hc]
    exact ⟨fun h=>absurd h hc,fun h=>by cases h⟩
   ·rw [if_neg hc,if_neg hc]
    have e:Zs ⟨op,p++[z],false⟩ x.op k=if x.op=2∨x.op=3∨x.op=4 then if 12≤op.length-1 then (⟨op,p++[z],false⟩,-2,7) else (⟨op++[(k:Int)],p++[z]++[x.op],false⟩,-2,0)
      else if x.op=5 then if (p++[z]).getD (op.length-1) 0≠4 then (⟨op,p++[z],false⟩,-2,4) else (⟨op,(p++[z]).set (op.length-1) 5,false⟩,op.getD (op.length-1) 0,0)
      else if x.op=11 then (⟨op.take (op.length-1),(p++[z]).take (op.length-1),decide (op.length-1=0)⟩,op.getD (op.length-1) 0,0) else (⟨op,p++[z],false⟩,-2,0):=rfl
    rw [e] at J6 ⊢
    clear e
    by_cases h2:x.op=2∨x.op=3∨x.op=4
    ·rw [if_pos h2] at J6 ⊢
     rw [if_pos (show UM x from h2),List.length_reverse,←Ts]
     by_cases h12:12≤op.length-1
     ·rw [if_pos h12,if_pos h12,if_pos (show (7:Int)≠0 by decide)]
      exact ⟨fun h=>(by cases h),fun h=>by cases h⟩
     ·rw [if_neg h12] at J6 ⊢
      rw [if_neg h12,if_neg (show ¬(0:Int)≠0 by decide)]
      have:=Qm l (k+1) _ J6 ⟨fun h=>(by cases h),fun h=>by simp at h⟩
      simp only [List.reverse_append,List.reverse_cons,List.reverse_nil,List.nil_append,List.cons_append] at this
      exact this
    ·rw [if_neg h2] at J6 ⊢
     rw [if_neg (show ¬UM x from h2)]
     by_cases h5:x.op=5
     ·rw [if_pos h5] at J6 ⊢
      rw [if_pos h5]
      rw [Et] at J6 ⊢
      by_cases h4:z=4
      ·rw [if_neg (show ¬z≠4 by simpa using h4)] at J6 ⊢
       rw [if_pos h4,if_neg (show ¬(0:Int)≠0 by decide)]
       have:=Qm l (k+1) _ J6 ⟨fun h=>(by cases h),fun h=>by simp only at h;omega⟩
       have e:(p++[z]).set (op.length-1) 5=p++[5]:=by rw [Ts];simp
       simp only [e,List.reverse_append,List.reverse_cons,List.reverse_nil,List.nil_append,List.cons_append] at this
       simp only [e]
       exact this
      ·rw [if_pos (show z≠4 from h4),if_neg h4,if_pos (show (4:Int)≠0 by decide)]
       exact ⟨fun h=>(by cases h),fun h=>by cases h⟩
     ·rw [if_neg h5] at J6 ⊢
      rw [if_neg h5]
      by_cases h11:x.op=11
      ·rw [if_pos h11] at J6 ⊢
       rw [if_pos h11,if_neg (show ¬(0:Int)≠0 by decide)]
       have e:(p++[z]).take (op.length-1)=p:=by rw [Ts];simp
       have:=Qm l (k+1) _ J6 ⟨fun h=>by simp at h ⊢;omega,fun h=>by simp at h ⊢;omega⟩
       simp only [e] at this ⊢
       exact this
      ·rw [if_neg h11] at J6 ⊢
       rw [if_neg h11,if_neg (show ¬(0:Int)≠0 by decide)]
       have:=Qm l (k+1) _ J6 ⟨fun h=>(by cases h),fun h=>by simp only at h;omega⟩
       simp only [List.reverse_append,List.reverse_cons,List.reverse_nil,List.nil_append,List.cons_append] at this
       exact this
theorem acA {l:List ZU}:Yp l=0↔l.length≤200∧run l [2]=some []:=by
 unfold Yp
 by_cases h:200<l.length
 ·rw [if_pos h];exact ⟨fun h2=>(by cases h2),fun h2=>by omega⟩
 ·rw [if_neg h,Qm l 0 OY ad6 ⟨fun h=>(by cases h),fun h=>by cases h⟩]
  exact ⟨fun h2=>⟨by omega,h2⟩,fun h2=>h2.2⟩
structure WD (x:ZU):Prop where
 WK:WK x=0
 no:¬UM x∧x.op≠5∧x.op≠11
theorem abp {x:ZU} (h:WD x) {s:List Int} (hs:s≠[]):Hx x s=some s:=by
 cases s with
 | nil=>exact absurd rfl hs
 | cons z r=>rw [UT,if_neg (by rw [h.WK];decide),if_neg h.no.1,if_neg h.no.2.1,if_neg h.no.2.2]
theorem NY {x:ZU} (h:WD x) {l:List ZU} {s:List Int} (hs:s≠[]):run (x::l) s=run l s:=by
 rw [run,abp h hs];rfl
theorem Vs {x:ZU} {s t:List Int} (h:Hx x s=some t):WK x=0∧∃z r,s=z::r∧((UM x∧r.length<12∧t=x.op::z::r)∨(x.op=5∧z=4∧t=5::r)∨(x.op=11∧t=r)∨(WD x∧t=z::r)):=by
 cases s with
 | nil=>cases h
 | cons z r =>
  rw [UT] at h
  by_cases hc:WK x≠0
  ·rw [if_pos hc] at h;cases h
  ·rw [if_neg hc] at h
   have hc:=Decidable.of_not_not hc
   refine ⟨hc,z,r,rfl,?_⟩
   by_cases ho:UM x
   ·rw [if_pos ho] at h
    by_cases h12:12≤r.length
    ·rw [if_pos h12] at h;cases h
    ·rw [if_neg h12] at h;exact .inl ⟨ho,by omega,(Option.some.inj h).symm⟩
   ·rw [if_neg ho] at h
    by_cases h5:x.op=5
    ·rw [if_pos h5] at h
     by_cases h4:z=4
     ·rw [if_pos h4] at h;exact .inr (.inl ⟨h5,h4,(Option.some.inj h).symm⟩)
     ·rw [if_neg h4] at h;cases h
    ·rw [if_neg h5] at h
     by_cases h11:x.op=11
     ·rw [if_pos h11] at h;exact .inr (.inr (.inl ⟨h11,(Option.some.inj h).symm⟩))
     ·rw [if_neg h11] at h;exact .inr (.inr (.inr ⟨⟨hc,ho,h5,h11⟩,(Option.some.inj h).symm⟩))
theorem Vq {x:ZU} {l:List ZU} {s w:List Int} (h:run (x::l) s=some w):∃t,Hx x s=some t∧run l t=some w:=by
 rw [run] at h;exact lfb.1 h
def Jx (x:ZU) (u:List Int):Option (List Int) :=
 if UM x then some (x.op::u) else if x.op=5 then (match u with|[]=>none|q::r=>if q=4 then some (5::r) else none) else if x.op=11 then (match u with|[]=>none|_::r=>some r) else some u
def UI:List ZU→List Int→Option (List Int)
 | [],u=>some u
 | x::l,u=>(Jx x u).bind (UI l)
def dd (x:ZU):Int:=if UM x then 1 else if x.op=11 then -1 else 0
def UD:List ZU→Int
 | []=>0
 | x::l=>dd x+UD l
theorem J5 {x:ZU} {u v:List Int} (h:Jx x u=some v):(v.length:Int)=u.length+dd x:=by
 unfold Jx at h
 unfold dd
 by_cases ho:UM x
 ·rw [if_pos ho] at h ⊢;rw [←Option.some.inj h];simp
 ·rw [if_neg ho] at h ⊢
  by_cases h5:x.op=5
  ·rw [if_pos h5] at h
   rw [if_neg qo]
   cases u with
   | nil=>cases h
   | cons q r =>
    simp only at h
    split at h
    ·rw [←Option.some.inj h];simp
    ·cases h
  ·rw [if_neg h5] at h
   by_cases h11:x.op=11
   ·rw [if_pos h11] at h ⊢
    cases u with
    | nil=>cases h
    | cons q r =>
     have h:some r=some v:=h
     rw [←Option.some.inj h];simp
     omega
   ·rw [if_neg h11] at h ⊢;rw [←Option.some.inj h];simp
theorem RA {x:ZU} {l:List ZU} {s w:List Int} (h:UI (x::l) s=some w):∃t,Jx x s=some t∧UI l t=some w:=by
 rw [UI] at h;exact lfb.1 h
theorem abq:∀(l:List ZU) (u v:List Int),UI l u=some v→(v.length:Int)=u.length+UD l
 | [],u,v,h=>by rw [←Option.some.inj h];simp [UD]
 | x::l,u,v,h=>by
  obtain ⟨t,h1,h2⟩:=RA h
  have:=abq l t v h2
  have:=J5 h1
  rw [UD];omega
theorem agh {x:ZU} {u v:List Int} {a:Int} {t st:List Int} (h:Jx x u=some v) (hr:Hx x (u++a::t)=some st) (b:Int):st=v++a::t∧Hx x (u++b::t)=some (v++b::t):=by
 obtain ⟨hc,z,r,e,hw⟩:=Vs hr
 unfold Jx at h
 have hne:∀b:Int,u++b::t≠[]:=fun b=>by simp
 rcases hw with ⟨ho,h12,rfl⟩|⟨h5,h4,rfl⟩|⟨h11,rfl⟩|⟨hf,rfl⟩
 ·rw [if_pos ho] at h
  obtain rfl:=Option.some.inj h
  refine ⟨by rw [←e];rfl,?_⟩
  have hl:(u++b::t).length=r.length+1:=by
   have:=congrArg List.length e
   simp at this ⊢;omega
  cases hu:u++b::t with
  | nil=>exact absurd hu (hne b)
  | cons z' r' =>
   rw [hu] at hl
   rw [UT,if_neg (by rw [hc];decide),if_pos ho,if_neg (by simp at hl;omega),lOa,hu]
 ·rw [if_neg k_T,if_pos h5] at h
  cases u with
  | nil=>cases h
  | cons q u' =>
   simp only at h
   rw [lOa] at e
   injection e with e1 e2
   subst e1
   rw [if_pos h4] at h
   obtain rfl:=Option.some.inj h
   refine ⟨by rw [←e2];rfl,?_⟩
   rw [lOa]
   rw [UT,if_neg (by rw [hc];decide),if_neg k_T,if_pos h5,if_pos h4];rfl
 ·rw [if_neg k_T,if_neg qo,if_pos h11] at h
  cases u with
  | nil=>cases h
  | cons q u' =>
   obtain rfl:=Option.some.inj h
   rw [lOa] at e
   injection e with e1 e2
   refine ⟨e2.symm,?_⟩
   rw [lOa]
   rw [UT,if_neg (by rw [hc];decide),if_neg k_T,if_neg qo,if_pos h11]
 ·rw [if_neg hf.no.1,if_neg hf.no.2.1,if_neg hf.no.2.2] at h
  obtain rfl:=Option.some.inj h
  exact ⟨e.symm,abp hf (hne b)⟩
theorem Ql:∀(A:List ZU) (u v:List Int) (a:Int) (t st:List Int),UI A u=some v→run A (u++a::t)=some st→∀b:Int,st=v++a::t∧run A (u++b::t)=some (v++b::t)
 | [],u,v,a,t,st,h,hr,b=>by
  obtain rfl:=Option.some.inj h
  exact ⟨(Option.some.inj hr).symm,rfl⟩
 | x::A,u,v,a,t,st,h,hr,b=>by
  obtain ⟨u1,h1,h2⟩:=RA h
  obtain ⟨t1,r1,r2⟩:=Vq hr
  obtain ⟨e1,e2⟩:=agh h1 r1 b
  subst e1
  obtain ⟨f1,f2⟩:=Ql A u1 v a t st h2 r2 b
  exact ⟨f1,by rw [run,e2];exact f2⟩
theorem piece:∀(l:List ZU) (u:List Int) (q:Int) (t:List Int),run l (u++q::t)=some []→∃A y R,l=A++y::R∧UI A u=some []∧(y.op=11∨(y.op=5∧q=4))∧WK y=0
 | [],u,q,t,h=>by
  have:=Option.some.inj h
  simp at this
 | x::l,u,q,t,h=>by
  obtain ⟨t1,r1,r2⟩:=Vq h
  obtain ⟨hc,z,r,e,hw⟩:=Vs r1
  cases u with
  | nil =>
   injection e with e1 e2
   subst e1;subst e2
   rcases hw with ⟨ho,h12,rfl⟩|⟨h5,h4,rfl⟩|⟨h11,rfl⟩|⟨hf,rfl⟩
   ·obtain ⟨A,y,R,e1,e2,e3⟩:=piece l [x.op] q t r2
    exact ⟨x::A,y,R,by rw [e1];rfl,by rw [UI,Jx,if_pos ho];exact e2,e3⟩
   ·exact ⟨[],x,l,rfl,rfl,.inr ⟨h5,h4⟩,hc⟩
   ·exact ⟨[],x,l,rfl,rfl,.inl h11,hc⟩
   ·obtain ⟨A,y,R,e1,e2,e3⟩:=piece l [] q t r2
    exact ⟨x::A,y,R,by rw [e1];rfl,by rw [UI,Jx,if_neg hf.no.1,if_neg hf.no.2.1,if_neg hf.no.2.2];exact e2,e3⟩
  | cons a u' =>
   rw [lOa] at e
   injection e with e1 e2
   subst e1;subst e2
   rcases hw with ⟨ho,h12,rfl⟩|⟨h5,h4,rfl⟩|⟨h11,rfl⟩|⟨hf,rfl⟩
   ·obtain ⟨A,y,R,e1,e2,e3⟩:=piece l (x.op::a::u') q t r2
    exact ⟨x::A,y,R,by rw [e1];rfl,by rw [UI,Jx,if_pos ho];exact e2,e3⟩
   ·obtain ⟨A,y,R,e1,e2,e3⟩:=piece l (5::u') q t r2
    refine ⟨x::A,y,R,by rw [e1];rfl,?_,e3⟩
    rw [UI,Jx,if_neg k_T,if_pos h5]
    show ((if a=4 then some (5::u') else none).bind (UI A))=_
    rw [if_pos h4];exact e2
   ·obtain ⟨A,y,R,e1,e2,e3⟩:=piece l u' q t r2
    refine ⟨x::A,y,R,by rw [e1];rfl,?_,e3⟩
    rw [UI,Jx,if_neg k_T,if_neg qo,if_pos h11];exact e2
   ·obtain ⟨A,y,R,e1,e2,e3⟩:=piece l (a::u') q t r2
    exact ⟨x::A,y,R,by rw [e1];rfl,by rw [UI,Jx,if_neg hf.no.1,if_neg hf.no.2.1,if_neg hf.no.2.2];exact e2,e3⟩
def Na:Int→List ZU→Nat
 | _,[]=>0
 | d,x::r=>if d+dd x=0 then 1 else 1+Na (d+dd x) r
def IZ:Int→List ZU→Nat
 | _,[]=>0
 | d,x::r=>if (x.op=5∧d=1)∨(x.op=11∧d=1) then 0 else 1+IZ (d+dd x) r
theorem Pq:∀(A:List ZU) (u v:List Int) (R:List ZU),UI A u=some v→Na (u.length+1) (A++R)=A.length+Na (v.length+1) R
 | [],u,v,R,h=>by obtain rfl:=Option.some.inj h;simp
 | x::A,u,v,R,h=>by
  obtain ⟨t,h1,h2⟩:=RA h
  have e:=J5 h1
  rw [lOa,Na,if_neg qo,show (u.length:Int)+1+dd x=t.length+1 by omega,Pq A t v R h2,lda]
  omega
theorem aaD:∀(A:List ZU) (u v:List Int) (R:List ZU),UI A u=some v→IZ (u.length+1) (A++R)=A.length+IZ (v.length+1) R
 | [],u,v,R,h=>by obtain rfl:=Option.some.inj h;simp
 | x::A,u,v,R,h=>by
  obtain ⟨t,h1,h2⟩:=RA h
  have e:=J5 h1
  have hn:¬((x.op=5∧(u.length:Int)+1=1)∨(x.op=11∧(u.length:Int)+1=1)):=by
   intro hh
   have hu:u=[]:=by
    rcases hh with hh|hh
    ·exact lqa qo
    ·exact lqa qo
   subst hu
   unfold Jx at h1
   rcases hh with hh|hh
   ·rw [if_neg k_T,if_pos hh.1] at h1;cases h1
   ·rw [if_neg k_T,if_neg qo,if_pos hh.1] at h1;cases h1
  rw [lOa,IZ,if_neg hn,show (u.length:Int)+1+dd x=t.length+1 by omega,aaD A t v R h2,lda]
  omega
inductive Su:List ZU→Prop
 | one {y e:ZU} {A:List ZU}:UM y→UI A []=some []→e.op=11→Su (y::(A++[e]))
 | two {y x e:ZU} {A B:List ZU}:y.op=4→UI A []=some []→x.op=5→UI B []=some []→e.op=11→Su (y::(A++x::(B++[e])))
theorem TQ:∀a b:List ZU,UD (a++b)=UD a+UD b
 | [],b=>by simp [UD]
 | x::a,b=>by rw [lOa,UD,UD,TQ a b];omega
theorem Vp {A:List ZU} (h:UI A []=some []):UD A=0:=by
 have:=abq A [] [] h
 simp at this;omega
theorem Qk {y:ZU} {r:List ZU} {z:Int} {s:List Int} (ho:UM y) (h:run (y::r) (z::s)=some []) :
  (∃A e R,r=A++e::R∧UI A []=some []∧e.op=11∧WK e=0∧run A (y.op::z::s)=some (y.op::z::s)∧run R (z::s)=some []∧Na 1 r=A.length+1∧IZ 1 r=A.length) ∨
  (∃A x B e R,y.op=4∧r=A++x::(B++e::R)∧UI A []=some []∧x.op=5∧UI B []=some []∧e.op=11∧WK e=0∧run A (4::z::s)=some (4::z::s)∧run B (5::z::s)=some (5::z::s)∧run R (z::s)=some []∧Na 1 r=A.length+1+B.length+1∧IZ 1 r=A.length):=by
 obtain ⟨t1,r1,r2⟩:=Vq h
 obtain ⟨hc,z',r',e,hw⟩:=Vs r1
 injection e with e1 e2
 subst e1;subst e2
 have ht:t1=y.op::z::s:=by
  rcases hw with ⟨_,_,rfl⟩|⟨h5,_⟩|⟨h11,_⟩|⟨hf,_⟩
  ·rfl
  ·unfold UM at ho;omega
  ·unfold UM at ho;omega
  ·exact absurd ho hf.no.1
 subst ht
 obtain ⟨A,x,R,e1,e2,e3,e4⟩:=piece r [] y.op (z::s) r2
 subst e1
 have hA:=r2
 rw [RB] at hA
 obtain ⟨st,Ja,IY⟩:=lfb.1 hA
 have hA3:=(Ql A [] [] y.op (z::s) st e2 Ja 0).1
 simp only [List.nil_append] at hA3
 subst hA3
 have s1:=Pq A [] [] (x::R) e2
 have o1:=aaD A [] [] (x::R) e2
 simp only [List.length_nil,Int.natCast_zero,Int.zero_add] at s1 o1
 have hx:¬UM x:=by unfold UM;omega
 rcases e3 with h11|⟨h5,h4⟩
 ·left
  obtain ⟨t2,q1,q2⟩:=Vq IY
  obtain ⟨_,z2,r2',f1,f2⟩:=Vs q1
  injection f1 with f3 f4
  subst f3;subst f4
  have I9:t2=z::s:=by
   rcases f2 with ⟨h,_⟩|⟨h,_⟩|⟨_,h⟩|⟨h,_⟩
   ·exact absurd h hx
   ·omega
   ·exact h
   ·exact absurd h11 h.no.2.2
  subst I9
  refine ⟨A,x,R,rfl,e2,h11,e4,Ja,q2,?_,?_⟩
  ·rw [s1,Na,dd,if_neg hx,if_pos h11,if_pos (by decide)]
  ·rw [o1,IZ,if_pos (.inr ⟨h11,rfl⟩)];rfl
 ·right
  rw [h4] at Ja IY
  obtain ⟨t2,q1,q2⟩:=Vq IY
  obtain ⟨_,z2,r2',f1,f2⟩:=Vs q1
  injection f1 with f3 f4
  subst f3;subst f4
  have I9:t2=5::z::s:=by
   rcases f2 with ⟨h,_⟩|⟨_,_,h⟩|⟨h,_⟩|⟨h,_⟩
   ·exact absurd h hx
   ·exact h
   ·omega
   ·exact absurd h5 h.no.2.1
  subst I9
  obtain ⟨B,e,R2,g1,g2,g3,g4⟩:=piece R [] 5 (z::s) q2
  have g3:e.op=11:=by
   rcases g3 with h|⟨_,h⟩
   ·exact h
   ·cases h
  subst g1
  have hB:=q2
  rw [RB] at hB
  obtain ⟨st2,hB1,Dc⟩:=lfb.1 hB
  have hB3:=(Ql B [] [] 5 (z::s) st2 g2 hB1 0).1
  simp only [List.nil_append] at hB3
  subst hB3
  have s2:=Pq B [] [] (e::R2) g2
  simp only [List.length_nil,Int.natCast_zero,Int.zero_add] at s2
  have he:¬UM e:=by unfold UM;omega
  obtain ⟨t3,k1,k2⟩:=Vq Dc
  obtain ⟨_,z3,r3',f5,f6⟩:=Vs k1
  injection f5 with f7 f8
  subst f7;subst f8
  have EX:t3=z::s:=by
   rcases f6 with ⟨h,_⟩|⟨h,_⟩|⟨_,h⟩|⟨h,_⟩
   ·exact absurd h he
   ·omega
   ·exact h
   ·exact absurd g3 h.no.2.2
  subst EX
  refine ⟨A,x,B,e,R2,h4,rfl,e2,h5,g2,g3,g4,Ja,hB1,k2,?_,?_⟩
  ·rw [s1,Na,dd,if_neg hx,if_neg (show ¬x.op=11 by omega),if_neg (by decide),show (1:Int)+0=1 from rfl,s2,Na,dd,if_neg he,if_pos g3,if_pos (by decide)]
   omega
  ·rw [o1,IZ,if_pos (.inl ⟨h5,rfl⟩)];rfl
end Fold
namespace YZ
open Go Go.RowKit
section
variable {P:Program} {g:Zv} {w w':World} {l l1 l2:List As} {A:As} {K:Value→World→Prop} {α:Type} {en:α→List Value} {s j h a:Nat} {v v1 v2:Value} {xs:List α} {e t ty:TypeId}
theorem L1:∀{l1 l2:List As} {h:Hp},Re (l1++l2) h→∃a b,Ks h a b∧Re l1 a∧Re l2 b
 | [],l2,h,hs=>⟨fun _=>none,h,fun k=>.inr ⟨rfl,rfl⟩,trivial,hs⟩
 | A::l1,l2,h,hs=>by
  obtain ⟨a,b,h1,h2,h3⟩:=hs
  obtain ⟨c,d,h4,h5,h6⟩:=L1 (l1:=l1) h3
  obtain ⟨f,h7,h8⟩:=h1.swap h4.comm
  exact ⟨f,d,h7.comm,⟨a,c,h8,h2,h5⟩,h6⟩
theorem Sat.box (H:Sat g w (l1++l)):Sat g w (Re l1::l):=by
 obtain ⟨h,hs,a,b,h1,h2,h3⟩:=H.ex
 obtain ⟨c,d,h4,h5,h6⟩:=L1 h3
 exact ⟨H.os,H.tape,H.output,h,hs,a,b,h1,h2,c,d,h4,h5,h6⟩
theorem Sat.unbox (H:Sat g w (Re l1::l)):Sat g w (l1++l):=by
 obtain ⟨h,hs,a,b,h1,h2,c,d,h4,h5,h6⟩:=H.ex
 exact ⟨H.os,H.tape,H.output,h,hs,a,b,h1,h2,Qq h4 h5 h6⟩
theorem Sat.weak {A B:As} (H:Sat g w (A::l)) (hAB:∀h,A h→B h):Sat g w (B::l):=by
 obtain ⟨h,hs,a,b,h1,h2,c,d,h4,h5,h6⟩:=H.ex
 exact ⟨H.os,H.tape,H.output,h,hs,a,b,h1,h2,c,d,h4,hAB _ h5,h6⟩
theorem Sat.aid {β:Type} {Q:β→Prop} {f:β→List As} (H:Sat g w ((fun h=>∃x,Q x∧Re (f x) h)::l)):∃x,Q x∧Sat g w (f x++l):=by
 obtain ⟨h,hs,a,b,h1,h2,c,d,h4,⟨x,h5,h6⟩,h7⟩:=H.ex
 exact ⟨x,h5,H.os,H.tape,H.output,h,hs,a,b,h1,h2,Qq h4 h6 h7⟩
theorem Sat.amk {β:Type} {Q:β→Prop} {f:β→List As} (x:β) (hx:Q x) (H:Sat g w (f x++l)):Sat g w ((fun h=>∃x,Q x∧Re (f x) h)::l) :=
 H.box.weak fun _ hh=>⟨x,hx,hh⟩
theorem Sat.Ix (H:Sat g w l) (j:Nat) (hj:l[j]?=some (Sl e s en v xs)) (V:Vw v s xs.length a h v1):Sat g w (l.set j (Sl e s en v1 ((xs.take h).drop a))):=by
 have ho:=H.off j hj
 obtain ⟨ad,cap,rfl,q1,q2,q3,q4,rfl⟩:=V
 refine H.O4 hj (ho.cut q4 q1) (Gr.same w ?_)
 left
 cases ad with
 | none=>split <;> rfl
 | some q =>
  split
  ·rfl
  ·obtain ⟨qb,qo,sp⟩:=q
   simp only [Option.map_some,Value.ownBlock,Addr.add]
   split <;> rfl
theorem aj4 (QC:Nat) (H:Sat g w l) (j:Nat) (hj:l[j]?=some (Sl e s en v xs)) (V2:Vw v s xs.length 0 h v2) (V1:Vw v s xs.length a xs.length v1) (h1:∀y∈xs,((en y).all (·.oneCell'))=true)
  (hu:P.underlying t=some (.slice e)) (hz:(P.info? e).map (fun i=>(i.zero.map (fun z=>z.cells.size),i.size,i.bytes))=some (some s,s,QC)) (hsz:Nat.ble 1 s=true)
  (hb:(xs.length+xs.length) * QC≤140737488355328) (hml:xs.length+xs.length≤140737488355328)
  (k:∀v',Rp l j (Sl e s en v' (xs.take h++xs.drop a)) fun l'=>∀w',Sat g w' l'→K v' w'):Zi P (Builtin.append_ #[t,t] ty #[v2,v1]) w K:=by
 have hr:=H.rdv (ok:=fun _=>True) j hj V1 (fun _ _=>trivial)
 rw [lHb] at hr
 have ho:=H.off j hj
 have hle:=V2.le
 have anP:=V1.le
 obtain ⟨ad,cap,rfl,q1,q2,q3,q4,rfl⟩:=V2
 have hc:=ho.cut (l:=0) (h:=h) (lRa _) hle.1
 rw [lhb] at hc
 have hown:(Value.slice (if cap=0 then ad else ad.map (·.add (0 * s))) (h-0) (cap-0)).ownBlock=(Value.slice ad xs.length cap).ownBlock∨(Value.slice (if cap=0 then ad else ad.map (·.add (0 * s))) (h-0) (cap-0)).ownBlock=none:=by
  left
  cases ad with
  | none=>split <;> rfl
  | some q =>
   split
   ·rfl
   ·obtain ⟨qb,qo,sp⟩:=q
    simp only [Option.map_some,Value.ownBlock,Addr.add]
    split <;> rfl
 have H1:=H.O4 hj hc (Gr.same w hown)
 have hj1:(l.set j (Sl e s en (Value.slice (if cap=0 then ad else ad.map (·.add (0 * s))) (h-0) (cap-0)) (xs.take h)))[j]?=some (Sl e s en (Value.slice (if cap=0 then ad else ad.map (·.add (0 * s))) (h-0) (cap-0)) (xs.take h)):=by
  rw [lyb (lca.1 hj).1]
 have Nn:(xs.take h).length+(xs.drop a).length≤xs.length+xs.length:=by rw [lla,lIa];omega
 refine Uo QC H1 j hj1 hr (fun y hy=>h1 y (List.mem_of_mem_drop hy)) hu hz hsz (lGa (lLa _ Nn) hb) (lGa Nn hml) fun v'=>?_
 have k:=k v'
 rw [Wo] at k ⊢
 rw [List.set_set]
 exact k
theorem Iw (z:Value) (n:Nat) (hz:z.cells=#[z]):Builtin.zeroCells z.cells n=(List.replicate n z).toArray:=by
 unfold Builtin.zeroCells
 apply Array.ext'
 simp only [hz]
 apply lJa
 intro q
 simp only [Array.toList_map,Array.toList_range,List.getElem?_map,List.getElem?_range,List.size_toArray,List.length_singleton,Nat.mul_one,List.getElem?_replicate,Nat.mod_one]
 by_cases h:q<n
 ·simp [h]
 ·simp [h]
theorem aaW {tx:TypeId} {ki:IntKind} {m:Nat} {z:Value} {i:TypeInfo} (Er:z.cells=#[z]) (hu:P.underlying t=some (.slice e)) (hx:P.underlying tx=some (.int ki)) (hi:P.info? e=some i) (h2:i.zero=some z) (h3:i.size=1)
  (Ep:IntKind.i64.wrap (m:Int)=m) (G3:¬(281474976710656<(m:Int) * (i.bytes:Int))) (base:Option Addr) (n cap:Nat) (olds:List Value) (hold:(Builtin.firstCells 1 n (.slice base n cap)).run P w.drew=.ok olds.toArray w.drew)
  (hm0:m≠0) (hg:cap<n+m) (h63:((n+m:Nat):Int)≤9223372036854775807) (hfit:Builtin.nextslicecap (n+m) cap * i.bytes≤281474976710656) :
  (Builtin.append_ #[t,tx] ty #[.slice base n cap,.int .i64 m]).run P w=.ok (.slice (some ⟨w.heap.size,0,none⟩) (n+m) (grownCap w (n+m) cap e))
    (w.drew.alloc (.cells ((olds++List.replicate m z).toArray++Builtin.zeroCells z.cells (grownCap w (n+m) cap e-(n+m))) e)):=by
 have hn:¬(n+m≤cap):=by omega
 have hneg:¬((m:Int)<0):=by omega
 have h63':¬(9223372036854775807<((n:Int)+(m:Int))):=by omega
 have aml:¬(281474976710656<Builtin.nextslicecap (n+m) cap * i.bytes):=by omega
 have FK:Builtin.zeroCells z.cells m=(List.replicate m z).toArray:=Iw z m Er
 simp [Builtin.append_,run_underlying hu,run_underlying hx,sizeOf,typeInfo,zeroValue,hi,h2,h3,asInt,asIntOf,Ep,hneg,hn,h63',aml,G3,hm0,FK,Question.forced,hold,newRow,grownCap]
 congr 2
 apply Array.ext'
 simp [List.append_assoc]
theorem aaE {tx:TypeId} {ki:IntKind} {z:Value} {i:TypeInfo} (hu:P.underlying t=some (.slice e)) (hx:P.underlying tx=some (.int ki)) (hi:P.info? e=some i) (h3:i.size=1) (base:Option Addr) (n cap:Nat) (hn:n≤cap) (hb:base.isSome=true∨base=none) :
  (Builtin.append_ #[t,tx] ty #[.slice base n cap,.int .i64 ((0:Nat):Int)]).run P w=.ok (.slice base n cap) w:=by
 have hw0:IntKind.i64.wrap 0=0:=by decide
 cases base with
 | none=>simp [Builtin.append_,run_underlying hu,run_underlying hx,sizeOf,typeInfo,hi,h3,asInt,asIntOf,hw0,hn]
 | some a=>simp [Builtin.append_,run_underlying hu,run_underlying hx,sizeOf,typeInfo,hi,h3,asInt,asIntOf,hw0,hn,storeCells]
theorem amm {tx:TypeId} {ki:IntKind} {m:Nat} {z:Value} {zx:α} (QC:Nat) (H:Sat g w l) (j:Nat) (hj:l[j]?=some (Sl e 1 en v xs)) (hzx:en zx=[z]) (Eo:z.oneCell'=true) (Er:z.cells=#[z])
  (hu:P.underlying t=some (.slice e)) (hx:P.underlying tx=some (.int ki)) (hz:(P.info? e).map (fun i=>(i.zero,i.size,i.bytes))=some (some z,1,QC))
  (hb:(xs.length+m) * QC≤140737488355328) (hml:xs.length+m≤140737488355328)
  (k:∀v',Rp l j (Sl e 1 en v' (xs++List.replicate m zx)) fun l'=>∀w',Sat g w' l'→K v' w'):Zi P (Builtin.append_ #[t,tx] ty #[v,.int .i64 m]) w K:=by
 have ho:=H.off j hj
 have Ep:IntKind.i64.wrap (m:Int)=m:=by have:=Sv (show -9223372036854775808≤(m:Int)∧(m:Int)≤9223372036854775807 by omega);unfold ZO at this;exact this
 have fin:∀{v':Value} {w':World},SA 0 w' e 1 en v' (xs++List.replicate m zx)→Gr w w' v v'→K v' w':=fun {v' w'} hO G=>by
  have k:=k v'
  rw [Wo] at k
  exact k w' (H.O4 hj hO G)
 have hfl:(List.replicate m zx).flatMap en=List.replicate m z:=by
  clear fin k Ep hml hb
  induction m with
  | zero=>rfl
  | succ m ih=>rw [lQb,lQa,ih,hzx];rfl
 have h1:∀u∈List.replicate m z,u.oneCell'=true:=fun u hu=>by rw [List.eq_of_mem_replicate hu];exact Eo
 cases hi:P.info? e with
 | none=>simp [hi] at hz
 | some i =>
  simp only [hi,Option.map_some,Option.some.injEq,Prod.mk.injEq] at hz
  obtain ⟨h2,h3,h4⟩:=hz
  subst h4
  have hneg:¬((m:Int)<0):=by omega
  have hmb:m * i.bytes≤140737488355328:=lGa (lLa _ (Nat.le_add_left _ _)) hb
  have G3:¬(281474976710656<(m:Int) * (i.bytes:Int)):=by
   have:((m * i.bytes:Nat):Int)≤140737488355328:=Int.ofNat_le.2 hmb
   push_cast at this
   omega
  have FK:Builtin.zeroCells z.cells m=(List.replicate m z).toArray:=Iw z m Er
  by_cases hm0:m=0
  ·subst hm0
   have hst:SA 0 w e 1 en v (xs++List.replicate 0 zx):=by rw [List.replicate_zero,lua];exact ho
   rcases ho.1 with ⟨rfl,rfl⟩|⟨gg,of,cap,cur,rfl,Ez,HC,hfit,hnc,SB,ht⟩
   ·exact ⟨_,_,aaE (z:=z) hu hx hi h3 none 0 0 (lra _) (.inr rfl),fin hst (Gr.same w (.inl rfl))⟩
   ·exact ⟨_,_,aaE (z:=z) hu hx hi h3 (some ⟨gg,of,none⟩) xs.length cap hnc (.inl rfl),fin hst (Gr.same w (.inl rfl))⟩
  have grow:∀(base:Option Addr) (cap:Nat) (olds:List Value),v=.slice base xs.length cap→olds=xs.flatMap en→(Builtin.firstCells 1 xs.length (.slice base xs.length cap)).run P w.drew=.ok olds.toArray w.drew→cap<xs.length+m→Zi P (Builtin.append_ #[t,tx] ty #[v,.int .i64 m]) w K:=by
   intro base cap olds hv OX hold hg
   subst hv
   have I8:olds.length=xs.length:=by rw [OX,YI ho.2,lac]
   have hr:=aaW (P:=P) (w:=w) (ty:=ty) Er hu hx hi h2 h3 Ep G3 base xs.length cap olds hold hm0 hg qo (growslice_fits hg hb)
   have hge:=grownCap_ge w (xs.length+m) cap e
   have SB:grownCap w (xs.length+m) cap e≤maxLen:=grownCap_le_maxLen w (xs.length+m) cap e (by simp only [maxLen];omega)
   refine ⟨_,_,hr,fin ⟨.inr ⟨w.heap.size,0,_,((olds++List.replicate m z).toArray++Builtin.zeroCells z.cells (grownCap w (xs.length+m) cap e-(xs.length+m))).toList,by rw [lba,lja],lRa _,heap_alloc_new w.drew _,?_,?_,?_,?_⟩,ho.2⟩ ⟨⟨rfl,rfl,rfl,by simp,fun k hk _=>by first|exact heap_alloc_old w.drew _ k hk|exact heap_alloc_old w.drew _ hk⟩,.inr (.inr ⟨w.heap.size,rfl,lra _⟩)⟩⟩
   ·rw [Array.toList_append,Iw z _ Er]
    simp only [List.length_append,List.length_replicate,I8]
    omega
   ·rw [lba,lja];exact hge
   ·simp only [maxLen] at SB;omega
   ·rw [Array.toList_append,lhb,lba,lja,lMa,hfl,←OX]
    rw [lya (by simp [I8]),lxa (by simp [I8])]
  rcases ho.1 with ⟨rfl,rfl⟩|⟨gg,of,cap,cur,rfl,Ez,HC,hfit,hnc,SB,ht⟩
  ·exact grow none 0 [] rfl rfl (by simp [Builtin.firstCells]) (show 0<0+m by omega)
  ·by_cases hr:xs.length+m≤cap
   ·have hst:=run_storeCells_at (P:=P) gg (of+xs.length * 1) e (List.replicate m z) 0 cur.toArray w HC (by rw [lja];simp;omega) h1
    simp only [Nat.add_zero,Nat.mul_one] at hst
    obtain ⟨hU,hB⟩:=SX (o:=of+xs.length * 1) (vs:=List.replicate m z) HC (by rw [lja];omega)
    refine ⟨.slice (some ⟨gg,of,none⟩) (xs.length+m) cap,_,?_,fin (w':=_) ⟨.inr ⟨gg,of,cap,_,by rw [lba,lja],Ez,hB,by rw [V8];exact hfit,by rw [lba,lja];exact hr,SB,?_⟩,ho.2⟩ ⟨⟨hU.os,hU.tape,hU.output,by rw [hU.size];exact lra _,fun k _ hk=>hU.block k (fun e=>hk (by rw [e];rfl))⟩,.inl rfl⟩⟩
    ·simp [Builtin.append_,run_underlying hu,run_underlying hx,sizeOf,typeInfo,zeroValue,hi,h2,h3,asInt,asIntOf,Ep,hneg,G3,hr,hm0,FK,Addr.add_lit,hst]
    ·rw [lba,lja,lMa,←ht,hfl,UY _ _ _ (by rw [lja];omega),lja,lac,lac,lma,
      lzb (by rw [lla];omega),←lma,lgc,show of+xs.length-of=xs.length by omega,
      lya (by rw [lba,lla,lIa,lja];omega),lxa (by rw [lba,lla,lIa,lja];omega)]
   ·refine grow (some ⟨gg,of,none⟩) cap (xs.flatMap en) rfl rfl ?_ qo
    have G8:At w gg of (xs.flatMap en):=by
     have:=HC.at.sub of (xs.length * 1);rw [ht,lwb] at this;exact this
    exact run_firstCells_some (P:=P) w.drew 1 xs.length ⟨gg,of,none⟩ xs.length cap (xs.flatMap en) (YI ho.2 xs) (fun q u hq=>by rw [Addr.add_lit];simpa using G8.cell hq)
end
end YZ
namespace Zk
open Go YZ Go.RowKit
open YS
section
variable {g:Zv} {w:World} {l:List As}
theorem match_ (H:Sat g w l) (v:Value) (xs:List Za) (hx:ZZ g Kr (okV g) 4 v xs):Fc Tryz.prog 203 #[v] w (fun r w'=>∃(u1 u2:Value) (E L:List Int) (e:Int),r=.tuple #[u1,u2,.int .i64 e]∧e=Yp (xs.map Za.d)∧((e≠0∧E=[]∧L=[])∨(e=0∧∃op last,MK (xs.map Za.d) xs.length ⟨op,last,true⟩ E L))∧Sat g w' (Sl 3 1 ZG u1 E::Sl 3 1 ZG u2 L::l)):=by
 refine Fc.of Tryz.func203 rfl k_i ?_
 have hml:(xs.map Za.d).length=xs.length:=lia0 ..
 by_cases hc:Yp (xs.map Za.d)=0
 ·obtain ⟨hl,hF,UL⟩:=Zb hc
  rw [hml] at hl hF UL
  refine Z7.mk (Fc.imp (Zk.check H _ _ hx) ?_)
  clear H
  rintro _ w1 ⟨⟨e1,⟨rfl,h1⟩⟩,H⟩
  refine cF (WG qo)<|Kf H [] (.op 0 .pure (.op 1 .pure (.op 3 .pure (.op 4 .pure (.fork (.op 2 .free (.op 6 .pure (.op 5 .free (.op 7 .pure .nil)))) (.op 5 .free (.op 2 .free (.op 6 .pure (.op 7 .pure .nil))))))))) mixed k_i<|fun w2 H=>tk (fun wx HS=>Zw hx rfl ⟨rfl,rfl⟩)<|tk (fun wx HS=>Zw hx rfl ⟨rfl,rfl⟩) ?_
  refine ⟨?_,?_⟩
  focus
   refine SS (en:=ZG) (s:=1) H (0) ((xs.length)) ((xs.length)) 8 rfl rfl rfl (fun _=>rfl) qo qo qo qo qo<|fun v1=>?_
   intro w1 H
   refine SS (en:=ZG) (s:=1) H (0) ((xs.length)) ((xs.length)) 8 rfl rfl rfl (fun _=>rfl) qo qo qo qo qo<|fun v2=>?_
   intro w2 H
   refine Z7.mk (Fc.imp (Zk.Xo _) ?_)
   rintro _ w1 ⟨p1,⟨Kq,⟨FP,⟨rfl,H'⟩⟩⟩⟩
   refine H.XZ H' ?_
   clear H H'
   intro H
   refine Zw hx rfl ?_
  rotate_left 1
  focus
   refine SS (en:=ZG) (s:=1) H (0) ((xs.length)) ((xs.length)) 8 rfl rfl rfl (fun _=>rfl) qo qo qo qo qo<|fun v1=>?_
   intro w1 H
   refine SS (en:=ZG) (s:=1) H (0) ((xs.length)) ((xs.length)) 8 rfl rfl rfl (fun _=>rfl) qo qo qo qo qo<|fun v2=>?_
   intro w2 H
   refine Z7.mk (Fc.imp (Zk.Xo _) ?_)
   rintro _ w1 ⟨p1,⟨Kq,⟨FP,⟨rfl,H'⟩⟩⟩⟩
   refine H.XZ H' ?_
   clear H H'
   intro H
   refine Zw hx rfl ?_
  rotate_left 1
  focus
   generalize v1=ue at *
   generalize v2=ul at *
  rotate_left
  focus
   generalize v2=ue at *
   generalize v1=ul at *
  rotate_left
  ·refine YP.rule (α:=Nat × List Int × List Int × Bool × Value × Value × List Int × List Int) (0,OY.op,OY.last,OY.over,Kq,FP,List.replicate xs.length 0,List.replicate xs.length 0) (fun x_=>[(26,.int .i64 x_.1)]) (fun x_ w_=>(x_.1≤xs.length)∧(MK (xs.map Za.d) x_.1 ⟨x_.2.1,x_.2.2.1,x_.2.2.2.1⟩ x_.2.2.2.2.2.2.1 x_.2.2.2.2.2.2.2)∧Sat g w_ ((Pt p1 [x_.2.2.2.2.1,x_.2.2.2.2.2.1,.bool x_.2.2.2.1] 324::Sl 3 1 ZG x_.2.2.2.2.1 x_.2.1::Sl 5 1 YL x_.2.2.2.2.2.1 x_.2.2.1::Sl 3 1 ZG ue x_.2.2.2.2.2.2.1::Sl 3 1 ZG ul x_.2.2.2.2.2.2.2::l))) (fun x_=>xs.length-x_.1) ?_ ?_ ?_
   ·exact k_b
   ·try simp only
    refine ⟨qo,?_⟩
    refine ⟨?_,?_⟩
    ·exact MK.zero qs qs
    refine H.Z8 [3,4,4,4,4]<|fun H=>?_
    exact H
   clear H
   rintro ⟨k,op,last,ov,vo,vl,E,L⟩ f_ w_ ⟨hk,hM,H⟩
   try simp only at hk hM H ⊢
   have FN:=hM.eL
   have En:=hM.lL
   rw [hml] at FN En
   rcases lEa k xs.length with hlt|hge
   ·obtain ⟨x,G2⟩:∃x,xs[k]?=some x:=⟨_,laa hlt⟩
    have IN:=Uy G2
    have QB:=(hF k _ hlt IN).2
    have hok:=X6 (xs.map Za.d) k
    rw [←hM.cur] at QB hok
    have UL:ov=false:=by
     cases ov
     ·rfl
     ·rw [Qn rfl] at QB;cases QB
    subst UL
    change (Zs ⟨op,last,false⟩ x.op k).2.2=0 at QB
    by_cases h5:x.op=5
    ·refine cT (Y4 qo)<|bk ?_
     obtain ⟨b1,o1,E1,F1,ZE⟩:=ZZ.Y1 hx G2
     have Vt:=ZE.op
     have Uj:=ZE.a
     have Ui:=ZE.b
     have Ym:=ZE.to
     refine ZJ E1 rfl rfl rfl<|ZA (H.XQ F1) 0 rfl rfl rfl<|ZS H rfl<|fun p2 w3 H=>ZD H 0 rfl rfl rfl k_r<|fun w4 H=>?_
     obtain ⟨x1,hx1⟩:∃x,(E)[(k)]?=some x:=⟨_,laa qo⟩
     obtain ⟨b2,o2,E2⟩:=H.Y1 4 rfl (k) qo
     refine ZJ E2 rfl rfl rfl<|YB H 4 rfl E2 hx1 0 (-1) rfl rfl rfl rfl<|fun w3 H=>?_
     obtain ⟨x2,Rm⟩:∃x,(L)[(k)]?=some x:=⟨_,laa qo⟩
     obtain ⟨b3,o3,E3⟩:=H.Y1 5 rfl (k) qo
     refine ZJ E3 rfl rfl rfl<|YB H 5 rfl E3 Rm 0 (-1) rfl rfl rfl rfl<|fun w4 H=>ZA (H.at 0 rfl) 0 rfl rfl rfl<|H.Z8 [3,3,3]<|fun H=>?_
     refine Z7.mk (Fc.imp (Zk.next _ hok H _ _ _ _ _) ?_)
     clear H
     rintro _ w3 ⟨XU,⟨Wf,⟨Se,⟨Xn,⟨Uh,⟨U3,⟨e2,⟨rfl,⟨h2,H⟩⟩⟩⟩⟩⟩⟩⟩⟩
     rw [h2] at QB
     simp only at QB
     subst QB
     obtain ⟨J4,JB,Mk⟩:=hM.Vb IN h2 h5
     rw [hml] at Mk
     refine bk<|Z9 rfl<|Z4 (H.at 3 rfl) 0 rfl rfl rfl<|cT (ZN qa)<|ZJ E3 rfl rfl rfl ?_
     have J3:(L.set k (-1))[k]?=some _:=WQ Rm
     refine YB H 5 rfl E3 J3 0 (U3) rfl rfl rfl rfl<|fun w5 H=>?_
     obtain ⟨x3,I7⟩:∃x,((L.set k (-1)).set k U3)[(U3).toNat]?=some x:=⟨_,laa k_a⟩
     obtain ⟨b4,o4,E4⟩:=H.Y1 5 rfl (U3).toNat k_a
     refine ZJ E4 qo rfl rfl<|YB H 5 rfl E4 I7 0 ((↑k:Int)) rfl rfl rfl rfl<|fun w3 H=>ZX qo ?_
     refine WN.mk ((k+1,XU,Wf,Se,Xn,Uh,E.set k (-1),((L.set k (-1)).set k U3).set U3.toNat (↑k:Int))) (Zo rfl k_c (ZT)) ?_ ?_
     ·refine ⟨qa,?_⟩
      refine ⟨?_,?_⟩
      ·exact J4
      refine H.Z8 [5,5,4,4,4]<|fun H=>H.drop 5<|fun H=>?_
      exact H
     omega
    by_cases h11:x.op=11
    ·refine cT (Y4 qo)<|bk ?_
     obtain ⟨b1,o1,E1,F1,ZE⟩:=ZZ.Y1 hx G2
     have Vt:=ZE.op
     have Uj:=ZE.a
     have Ui:=ZE.b
     have Ym:=ZE.to
     refine ZJ E1 rfl rfl rfl<|ZA (H.XQ F1) 0 rfl rfl rfl<|ZS H rfl<|fun p2 w3 H=>ZD H 0 rfl rfl rfl k_r<|fun w4 H=>?_
     obtain ⟨x1,hx1⟩:∃x,(E)[(k)]?=some x:=⟨_,laa qo⟩
     obtain ⟨b2,o2,E2⟩:=H.Y1 4 rfl (k) qo
     refine ZJ E2 rfl rfl rfl<|YB H 4 rfl E2 hx1 0 (-1) rfl rfl rfl rfl<|fun w3 H=>?_
     obtain ⟨x2,Rm⟩:∃x,(L)[(k)]?=some x:=⟨_,laa qo⟩
     obtain ⟨b3,o3,E3⟩:=H.Y1 5 rfl (k) qo
     refine ZJ E3 rfl rfl rfl<|YB H 5 rfl E3 Rm 0 (-1) rfl rfl rfl rfl<|fun w4 H=>ZA (H.at 0 rfl) 0 rfl rfl rfl<|H.Z8 [3,3,3]<|fun H=>?_
     refine Z7.mk (Fc.imp (Zk.next _ hok H _ _ _ _ _) ?_)
     clear H
     rintro _ w3 ⟨XU,⟨Wf,⟨Se,⟨Xn,⟨Uh,⟨U3,⟨e2,⟨rfl,⟨h2,H⟩⟩⟩⟩⟩⟩⟩⟩⟩
     rw [h2] at QB
     simp only at QB
     subst QB
     rcases hM.Th IN h2 h11 with ⟨JB,J4⟩|⟨z,JB,Mk,hz,Db,J4⟩|⟨z,JB,Mk,hz,Db,L0,J4⟩
     refine bk<|Z9 rfl<|Z4 (H.at 3 rfl) 0 rfl rfl rfl<|cF (Z5 qa)<|Z9 rfl<|Z4 (H.at 3 rfl) 0 rfl rfl rfl<|cT (ZN qa)<|ZJ E2 rfl rfl rfl ?_
     have J3:(E.set k (-1))[k]?=some _:=WQ hx1
     refine YB H 4 rfl E2 J3 0 (U3) rfl rfl rfl rfl<|fun w5 H=>cF (YM qa)<|ZX qo ?_
     refine WN.mk ((k+1,XU,Wf,Se,Xn,Uh,(E.set k (-1)).set k U3,L.set k (-1))) (Zo rfl k_c (ZT)) ?_ ?_
     ·refine ⟨qa,?_⟩
      refine ⟨?_,?_⟩
      ·exact J4
      refine H.Z8 [5,5,4,4,4]<|fun H=>H.drop 5<|fun H=>?_
      exact H
     ·omega
     ·refine bk<|Z9 rfl<|Z4 (H.at 3 rfl) 0 rfl rfl rfl<|cF (Z5 qa)<|Z9 rfl<|Z4 (H.at 3 rfl) 0 rfl rfl rfl<|cT (ZN qa)<|ZJ E2 rfl rfl rfl ?_
      have J3:(E.set k (-1))[k]?=some _:=WQ hx1
      refine YB H 4 rfl E2 J3 0 (U3) rfl rfl rfl rfl<|fun w5 H=>cT (Ys qa) ?_
      obtain ⟨x3,I7⟩:∃x,((E.set k (-1)).set k U3)[(U3).toNat]?=some x:=⟨_,laa k_a⟩
      obtain ⟨b4,o4,E4⟩:=H.Y1 4 rfl (U3).toNat k_a
      refine ZJ E4 qo rfl rfl<|YB H 4 rfl E4 I7 0 ((↑k:Int)) rfl rfl rfl rfl<|fun w3 H=>?_
      obtain ⟨b5,o5,E5⟩:=H.Y1 5 rfl (U3).toNat k_a
      refine ZJ E5 qo rfl rfl<|Z4 (H.el 5 rfl E5 hz) 0 rfl rfl rfl<|cF (YM qa)<|ZX qo ?_
      refine WN.mk ((k+1,XU,Wf,Se,Xn,Uh,((E.set k (-1)).set k U3).set U3.toNat (↑k:Int),L.set k (-1))) (Zo rfl k_c (ZT)) ?_ ?_
      ·refine ⟨qa,?_⟩
       refine ⟨?_,?_⟩
       ·exact J4
       refine H.Z8 [5,5,4,4,4]<|fun H=>H.drop 5<|fun H=>?_
       exact H
      omega
     refine bk<|Z9 rfl<|Z4 (H.at 3 rfl) 0 rfl rfl rfl<|cF (Z5 qa)<|Z9 rfl<|Z4 (H.at 3 rfl) 0 rfl rfl rfl<|cT (ZN qa)<|ZJ E2 rfl rfl rfl ?_
     have J3:(E.set k (-1))[k]?=some _:=WQ hx1
     refine YB H 4 rfl E2 J3 0 (U3) rfl rfl rfl rfl<|fun w5 H=>cT (Ys qa) ?_
     obtain ⟨x3,I7⟩:∃x,((E.set k (-1)).set k U3)[(U3).toNat]?=some x:=⟨_,laa k_a⟩
     obtain ⟨b4,o4,E4⟩:=H.Y1 4 rfl (U3).toNat k_a
     refine ZJ E4 qo rfl rfl<|YB H 4 rfl E4 I7 0 ((↑k:Int)) rfl rfl rfl rfl<|fun w3 H=>?_
     obtain ⟨b5,o5,E5⟩:=H.Y1 5 rfl (U3).toNat k_a
     refine ZJ E5 qo rfl rfl<|Z4 (H.el 5 rfl E5 hz) 0 rfl rfl rfl<|cT (Ys qa) ?_
     obtain ⟨x4,G1⟩:∃x,(((E.set k (-1)).set k U3).set U3.toNat (↑k:Int))[(z).toNat]?=some x:=⟨_,laa k_a⟩
     obtain ⟨b6,o6,E6⟩:=H.Y1 4 rfl (z).toNat k_a
     refine ZJ E6 qo rfl rfl<|YB H 4 rfl E6 G1 0 ((↑k:Int)) rfl rfl rfl rfl<|fun w5 H=>ZX qo ?_
     refine WN.mk ((k+1,XU,Wf,Se,Xn,Uh,(((E.set k (-1)).set k U3).set U3.toNat (↑k:Int)).set z.toNat (↑k:Int),L.set k (-1))) (Zo rfl k_c (ZT)) ?_ ?_
     ·refine ⟨qa,?_⟩
      refine ⟨?_,?_⟩
      ·exact J4
      refine H.Z8 [5,5,4,4,4]<|fun H=>H.drop 5<|fun H=>?_
      exact H
     omega
    ·refine cT (Y4 qo)<|bk ?_
     obtain ⟨b1,o1,E1,F1,ZE⟩:=ZZ.Y1 hx G2
     have Vt:=ZE.op
     have Uj:=ZE.a
     have Ui:=ZE.b
     have Ym:=ZE.to
     refine ZJ E1 rfl rfl rfl<|ZA (H.XQ F1) 0 rfl rfl rfl<|ZS H rfl<|fun p2 w3 H=>ZD H 0 rfl rfl rfl k_r<|fun w4 H=>?_
     obtain ⟨x1,hx1⟩:∃x,(E)[(k)]?=some x:=⟨_,laa qo⟩
     obtain ⟨b2,o2,E2⟩:=H.Y1 4 rfl (k) qo
     refine ZJ E2 rfl rfl rfl<|YB H 4 rfl E2 hx1 0 (-1) rfl rfl rfl rfl<|fun w3 H=>?_
     obtain ⟨x2,Rm⟩:∃x,(L)[(k)]?=some x:=⟨_,laa qo⟩
     obtain ⟨b3,o3,E3⟩:=H.Y1 5 rfl (k) qo
     refine ZJ E3 rfl rfl rfl<|YB H 5 rfl E3 Rm 0 (-1) rfl rfl rfl rfl<|fun w4 H=>ZA (H.at 0 rfl) 0 rfl rfl rfl<|H.Z8 [3,3,3]<|fun H=>?_
     refine Z7.mk (Fc.imp (Zk.next _ hok H _ _ _ _ _) ?_)
     clear H
     rintro _ w3 ⟨XU,⟨Wf,⟨Se,⟨Xn,⟨Uh,⟨U3,⟨e2,⟨rfl,⟨h2,H⟩⟩⟩⟩⟩⟩⟩⟩⟩
     rw [h2] at QB
     simp only at QB
     subst QB
     refine bk<|Z9 rfl<|Z4 (H.at 3 rfl) 0 rfl rfl rfl<|cF (Z5 qa)<|Z9 rfl<|Z4 (H.at 3 rfl) 0 rfl rfl rfl<|cF (Z5 qa)<|ZX qo ?_
     refine WN.mk ((k+1,XU,Wf,Se,Xn,Uh,E.set k (-1),L.set k (-1))) (Zo rfl k_c (ZT)) ?_ ?_
     ·refine ⟨qa,?_⟩
      refine ⟨?_,?_⟩
      ·exact hM.N0 IN h2 h5 h11
      refine H.Z8 [5,5,4,4,4]<|fun H=>H.drop 5<|fun H=>?_
      exact H
     omega
   ·obtain rfl:k=xs.length:=by omega
    rw [←hM.cur] at UL
    have UL:ov=true:=UL
    subst UL
    refine cF (Zl qo)<|Z6.mk ?_
    refine ⟨ue,ul,E,L,0,?_⟩
    refine ⟨rfl,?_⟩
    refine ⟨qo,?_⟩
    refine ⟨?_,?_⟩
    ·exact .inr ⟨rfl,_,_,hM⟩
    refine H.Z8 [4,4]<|fun H=>H.drop 4<|fun H=>H.drop 3<|fun H=>H.drop 2<|fun H=>?_
    exact H
  ·refine YP.rule (α:=Nat × List Int × List Int × Bool × Value × Value × List Int × List Int) (0,OY.op,OY.last,OY.over,Kq,FP,List.replicate xs.length 0,List.replicate xs.length 0) (fun x_=>[(26,.int .i64 x_.1)]) (fun x_ w_=>(x_.1≤xs.length)∧(MK (xs.map Za.d) x_.1 ⟨x_.2.1,x_.2.2.1,x_.2.2.2.1⟩ x_.2.2.2.2.2.2.1 x_.2.2.2.2.2.2.2)∧Sat g w_ ((Pt p1 [x_.2.2.2.2.1,x_.2.2.2.2.2.1,.bool x_.2.2.2.1] 324::Sl 3 1 ZG x_.2.2.2.2.1 x_.2.1::Sl 5 1 YL x_.2.2.2.2.2.1 x_.2.2.1::Sl 3 1 ZG ue x_.2.2.2.2.2.2.1::Sl 3 1 ZG ul x_.2.2.2.2.2.2.2::l))) (fun x_=>xs.length-x_.1) ?_ ?_ ?_
   ·exact k_b
   ·try simp only
    refine ⟨qo,?_⟩
    refine ⟨?_,?_⟩
    ·exact MK.zero qs qs
    exact H
   clear H
   rintro ⟨k,op,last,ov,vo,vl,E,L⟩ f_ w_ ⟨hk,hM,H⟩
   try simp only at hk hM H ⊢
   have FN:=hM.eL
   have En:=hM.lL
   rw [hml] at FN En
   rcases lEa k xs.length with hlt|hge
   ·obtain ⟨x,G2⟩:∃x,xs[k]?=some x:=⟨_,laa hlt⟩
    have IN:=Uy G2
    have QB:=(hF k _ hlt IN).2
    have hok:=X6 (xs.map Za.d) k
    rw [←hM.cur] at QB hok
    have UL:ov=false:=by
     cases ov
     ·rfl
     ·rw [Qn rfl] at QB;cases QB
    subst UL
    change (Zs ⟨op,last,false⟩ x.op k).2.2=0 at QB
    by_cases h5:x.op=5
    ·refine cT (Y4 qo)<|bk ?_
     obtain ⟨b1,o1,E1,F1,ZE⟩:=ZZ.Y1 hx G2
     have Vt:=ZE.op
     have Uj:=ZE.a
     have Ui:=ZE.b
     have Ym:=ZE.to
     refine ZJ E1 rfl rfl rfl<|ZA (H.XQ F1) 0 rfl rfl rfl<|ZS H rfl<|fun p2 w3 H=>ZD H 0 rfl rfl rfl k_r<|fun w4 H=>?_
     obtain ⟨x1,hx1⟩:∃x,(E)[(k)]?=some x:=⟨_,laa qo⟩
     obtain ⟨b2,o2,E2⟩:=H.Y1 4 rfl (k) qo
     refine ZJ E2 rfl rfl rfl<|YB H 4 rfl E2 hx1 0 (-1) rfl rfl rfl rfl<|fun w3 H=>?_
     obtain ⟨x2,Rm⟩:∃x,(L)[(k)]?=some x:=⟨_,laa qo⟩
     obtain ⟨b3,o3,E3⟩:=H.Y1 5 rfl (k) qo
     refine ZJ E3 rfl rfl rfl<|YB H 5 rfl E3 Rm 0 (-1) rfl rfl rfl rfl<|fun w4 H=>ZA (H.at 0 rfl) 0 rfl rfl rfl<|H.Z8 [3,3,3]<|fun H=>?_
     refine Z7.mk (Fc.imp (Zk.next _ hok H _ _ _ _ _) ?_)
     clear H
     rintro _ w3 ⟨XU,⟨Wf,⟨Se,⟨Xn,⟨Uh,⟨U3,⟨e2,⟨rfl,⟨h2,H⟩⟩⟩⟩⟩⟩⟩⟩⟩
     rw [h2] at QB
     simp only at QB
     subst QB
     obtain ⟨J4,JB,Mk⟩:=hM.Vb IN h2 h5
     rw [hml] at Mk
     refine bk<|Z9 rfl<|Z4 (H.at 3 rfl) 0 rfl rfl rfl<|cT (ZN qa)<|ZJ E3 rfl rfl rfl ?_
     have J3:(L.set k (-1))[k]?=some _:=WQ Rm
     refine YB H 5 rfl E3 J3 0 (U3) rfl rfl rfl rfl<|fun w5 H=>?_
     obtain ⟨x3,I7⟩:∃x,((L.set k (-1)).set k U3)[(U3).toNat]?=some x:=⟨_,laa k_a⟩
     obtain ⟨b4,o4,E4⟩:=H.Y1 5 rfl (U3).toNat k_a
     refine ZJ E4 qo rfl rfl<|YB H 5 rfl E4 I7 0 ((↑k:Int)) rfl rfl rfl rfl<|fun w3 H=>ZX qo ?_
     refine WN.mk ((k+1,XU,Wf,Se,Xn,Uh,E.set k (-1),((L.set k (-1)).set k U3).set U3.toNat (↑k:Int))) (Zo rfl k_c (ZT)) ?_ ?_
     ·refine ⟨qa,?_⟩
      refine ⟨?_,?_⟩
      ·exact J4
      refine H.Z8 [5,5,4,4,4]<|fun H=>H.drop 5<|fun H=>?_
      exact H
     omega
    by_cases h11:x.op=11
    ·refine cT (Y4 qo)<|bk ?_
     obtain ⟨b1,o1,E1,F1,ZE⟩:=ZZ.Y1 hx G2
     have Vt:=ZE.op
     have Uj:=ZE.a
     have Ui:=ZE.b
     have Ym:=ZE.to
     refine ZJ E1 rfl rfl rfl<|ZA (H.XQ F1) 0 rfl rfl rfl<|ZS H rfl<|fun p2 w3 H=>ZD H 0 rfl rfl rfl k_r<|fun w4 H=>?_
     obtain ⟨x1,hx1⟩:∃x,(E)[(k)]?=some x:=⟨_,laa qo⟩
     obtain ⟨b2,o2,E2⟩:=H.Y1 4 rfl (k) qo
     refine ZJ E2 rfl rfl rfl<|YB H 4 rfl E2 hx1 0 (-1) rfl rfl rfl rfl<|fun w3 H=>?_
     obtain ⟨x2,Rm⟩:∃x,(L)[(k)]?=some x:=⟨_,laa qo⟩
     obtain ⟨b3,o3,E3⟩:=H.Y1 5 rfl (k) qo
     refine ZJ E3 rfl rfl rfl<|YB H 5 rfl E3 Rm 0 (-1) rfl rfl rfl rfl<|fun w4 H=>ZA (H.at 0 rfl) 0 rfl rfl rfl<|H.Z8 [3,3,3]<|fun H=>?_
     refine Z7.mk (Fc.imp (Zk.next _ hok H _ _ _ _ _) ?_)
     clear H
     rintro _ w3 ⟨XU,⟨Wf,⟨Se,⟨Xn,⟨Uh,⟨U3,⟨e2,⟨rfl,⟨h2,H⟩⟩⟩⟩⟩⟩⟩⟩⟩
     rw [h2] at QB
     simp only at QB
     subst QB
     rcases hM.Th IN h2 h11 with ⟨JB,J4⟩|⟨z,JB,Mk,hz,Db,J4⟩|⟨z,JB,Mk,hz,Db,L0,J4⟩
     refine bk<|Z9 rfl<|Z4 (H.at 3 rfl) 0 rfl rfl rfl<|cF (Z5 qa)<|Z9 rfl<|Z4 (H.at 3 rfl) 0 rfl rfl rfl<|cT (ZN qa)<|ZJ E2 rfl rfl rfl ?_
     have J3:(E.set k (-1))[k]?=some _:=WQ hx1
     refine YB H 4 rfl E2 J3 0 (U3) rfl rfl rfl rfl<|fun w5 H=>cF (YM qa)<|ZX qo ?_
     refine WN.mk ((k+1,XU,Wf,Se,Xn,Uh,(E.set k (-1)).set k U3,L.set k (-1))) (Zo rfl k_c (ZT)) ?_ ?_
     ·refine ⟨qa,?_⟩
      refine ⟨?_,?_⟩
      ·exact J4
      refine H.Z8 [5,5,4,4,4]<|fun H=>H.drop 5<|fun H=>?_
      exact H
     ·omega
     ·refine bk<|Z9 rfl<|Z4 (H.at 3 rfl) 0 rfl rfl rfl<|cF (Z5 qa)<|Z9 rfl<|Z4 (H.at 3 rfl) 0 rfl rfl rfl<|cT (ZN qa)<|ZJ E2 rfl rfl rfl ?_
      have J3:(E.set k (-1))[k]?=some _:=WQ hx1
      refine YB H 4 rfl E2 J3 0 (U3) rfl rfl rfl rfl<|fun w5 H=>cT (Ys qa) ?_
      obtain ⟨x3,I7⟩:∃x,((E.set k (-1)).set k U3)[(U3).toNat]?=some x:=⟨_,laa k_a⟩
      obtain ⟨b4,o4,E4⟩:=H.Y1 4 rfl (U3).toNat k_a
      refine ZJ E4 qo rfl rfl<|YB H 4 rfl E4 I7 0 ((↑k:Int)) rfl rfl rfl rfl<|fun w3 H=>?_
      obtain ⟨b5,o5,E5⟩:=H.Y1 5 rfl (U3).toNat k_a
      refine ZJ E5 qo rfl rfl<|Z4 (H.el 5 rfl E5 hz) 0 rfl rfl rfl<|cF (YM qa)<|ZX qo ?_
      refine WN.mk ((k+1,XU,Wf,Se,Xn,Uh,((E.set k (-1)).set k U3).set U3.toNat (↑k:Int),L.set k (-1))) (Zo rfl k_c (ZT)) ?_ ?_
      ·refine ⟨qa,?_⟩
       refine ⟨?_,?_⟩
       ·exact J4
       refine H.Z8 [5,5,4,4,4]<|fun H=>H.drop 5<|fun H=>?_
       exact H
      omega
     refine bk<|Z9 rfl<|Z4 (H.at 3 rfl) 0 rfl rfl rfl<|cF (Z5 qa)<|Z9 rfl<|Z4 (H.at 3 rfl) 0 rfl rfl rfl<|cT (ZN qa)<|ZJ E2 rfl rfl rfl ?_
     have J3:(E.set k (-1))[k]?=some _:=WQ hx1
     refine YB H 4 rfl E2 J3 0 (U3) rfl rfl rfl rfl<|fun w5 H=>cT (Ys qa) ?_
     obtain ⟨x3,I7⟩:∃x,((E.set k (-1)).set k U3)[(U3).toNat]?=some x:=⟨_,laa k_a⟩
     obtain ⟨b4,o4,E4⟩:=H.Y1 4 rfl (U3).toNat k_a
     refine ZJ E4 qo rfl rfl<|YB H 4 rfl E4 I7 0 ((↑k:Int)) rfl rfl rfl rfl<|fun w3 H=>?_
     obtain ⟨b5,o5,E5⟩:=H.Y1 5 rfl (U3).toNat k_a
     refine ZJ E5 qo rfl rfl<|Z4 (H.el 5 rfl E5 hz) 0 rfl rfl rfl<|cT (Ys qa) ?_
     obtain ⟨x4,G1⟩:∃x,(((E.set k (-1)).set k U3).set U3.toNat (↑k:Int))[(z).toNat]?=some x:=⟨_,laa k_a⟩
     obtain ⟨b6,o6,E6⟩:=H.Y1 4 rfl (z).toNat k_a
     refine ZJ E6 qo rfl rfl<|YB H 4 rfl E6 G1 0 ((↑k:Int)) rfl rfl rfl rfl<|fun w5 H=>ZX qo ?_
     refine WN.mk ((k+1,XU,Wf,Se,Xn,Uh,(((E.set k (-1)).set k U3).set U3.toNat (↑k:Int)).set z.toNat (↑k:Int),L.set k (-1))) (Zo rfl k_c (ZT)) ?_ ?_
     ·refine ⟨qa,?_⟩
      refine ⟨?_,?_⟩
      ·exact J4
      refine H.Z8 [5,5,4,4,4]<|fun H=>H.drop 5<|fun H=>?_
      exact H
     omega
    ·refine cT (Y4 qo)<|bk ?_
     obtain ⟨b1,o1,E1,F1,ZE⟩:=ZZ.Y1 hx G2
     have Vt:=ZE.op
     have Uj:=ZE.a
     have Ui:=ZE.b
     have Ym:=ZE.to
     refine ZJ E1 rfl rfl rfl<|ZA (H.XQ F1) 0 rfl rfl rfl<|ZS H rfl<|fun p2 w3 H=>ZD H 0 rfl rfl rfl k_r<|fun w4 H=>?_
     obtain ⟨x1,hx1⟩:∃x,(E)[(k)]?=some x:=⟨_,laa qo⟩
     obtain ⟨b2,o2,E2⟩:=H.Y1 4 rfl (k) qo
     refine ZJ E2 rfl rfl rfl<|YB H 4 rfl E2 hx1 0 (-1) rfl rfl rfl rfl<|fun w3 H=>?_
     obtain ⟨x2,Rm⟩:∃x,(L)[(k)]?=some x:=⟨_,laa qo⟩
     obtain ⟨b3,o3,E3⟩:=H.Y1 5 rfl (k) qo
     refine ZJ E3 rfl rfl rfl<|YB H 5 rfl E3 Rm 0 (-1) rfl rfl rfl rfl<|fun w4 H=>ZA (H.at 0 rfl) 0 rfl rfl rfl<|H.Z8 [3,3,3]<|fun H=>?_
     refine Z7.mk (Fc.imp (Zk.next _ hok H _ _ _ _ _) ?_)
     clear H
     rintro _ w3 ⟨XU,⟨Wf,⟨Se,⟨Xn,⟨Uh,⟨U3,⟨e2,⟨rfl,⟨h2,H⟩⟩⟩⟩⟩⟩⟩⟩⟩
     rw [h2] at QB
     simp only at QB
     subst QB
     refine bk<|Z9 rfl<|Z4 (H.at 3 rfl) 0 rfl rfl rfl<|cF (Z5 qa)<|Z9 rfl<|Z4 (H.at 3 rfl) 0 rfl rfl rfl<|cF (Z5 qa)<|ZX qo ?_
     refine WN.mk ((k+1,XU,Wf,Se,Xn,Uh,E.set k (-1),L.set k (-1))) (Zo rfl k_c (ZT)) ?_ ?_
     ·refine ⟨qa,?_⟩
      refine ⟨?_,?_⟩
      ·exact hM.N0 IN h2 h5 h11
      refine H.Z8 [5,5,4,4,4]<|fun H=>H.drop 5<|fun H=>?_
      exact H
     omega
   ·obtain rfl:k=xs.length:=by omega
    rw [←hM.cur] at UL
    have UL:ov=true:=UL
    subst UL
    refine cF (Zl qo)<|Z6.mk ?_
    refine ⟨ue,ul,E,L,0,?_⟩
    refine ⟨rfl,?_⟩
    refine ⟨qo,?_⟩
    refine ⟨?_,?_⟩
    ·exact .inr ⟨rfl,_,_,hM⟩
    refine H.Z8 [4,4]<|fun H=>H.drop 4<|fun H=>H.drop 3<|fun H=>H.drop 2<|fun H=>?_
    exact H
 ·refine Z7.mk (Fc.imp (Zk.check H _ _ hx) ?_)
  clear H
  rintro _ w1 ⟨⟨e1,⟨rfl,h1⟩⟩,H⟩
  refine cT (Vg qo)<|Z6.mk ?_
  exact ⟨.slice none 0 0,.slice none 0 0,[],[],_,rfl,h1,.inl ⟨by rw [h1];exact hc,rfl,rfl⟩,(H.UK (en:=ZG) (s:=1) 3 (fun _=>rfl)).UK (en:=ZG) (s:=1) 3 (fun _=>rfl)⟩
end
end Zk
end Go.Proofs.YtakpnepblgfknaaGreatDoor
