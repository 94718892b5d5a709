/- Texts of this claim, one behind the other. -/
import Derived.Test.YtakpnepblgfknaaGreatDoorM8
import Derived.Test.YtakpnepblgfknaaGreatDoorM7
import Derived.Test.YtakpnepblgfknaaGreatDoorM4
import Derived.Test.YtakpnepblgfknaaGreatDoorM3
set_option maxRecDepth 100000
set_option maxHeartbeats 4000000
set_option linter.unusedVariables false
set_option linter.unusedSimpArgs false
set_option linter.defProp false
namespace Go.Proofs.YtakpnepblgfknaaGreatDoor
namespace XG
open Go YZ Go.RowKit
open Bm Fold
noncomputable def UC (k a b:Int):Int :=
 let n:Int:=((b.toNat &&& (32-1):Nat):Int)
 if k=0 then (a+b) % 4294967296 else if k=1 then (a-b) % 4294967296 else if k=2 then a * b % 4294967296
 else if k=7 then TY .u32 a b else if k=8 then So .u32 a b else if k=9 then Q3 .u32 a b
 else if k=10 then Ws .u32 a n
 else if k=11 then (if 0<n then (if Xe .u32 a 31≠0 then So .u32 (Xe .u32 a n) (Ws .u32 4294967295 (32-n)) else Xe .u32 a n) else Xe .u32 a n)
 else if k=12 then Xe .u32 a n
 else if k=13 then So .u32 (Ws .u32 a n) (Xe .u32 a (32-n))
 else So .u32 (Xe .u32 a n) (Ws .u32 a (32-n))
noncomputable def UB (k a b:Int):Int :=
 let n:Int:=((b.toNat &&& (64-1):Nat):Int)
 if k=0 then (a+b) % 18446744073709551616 else if k=1 then (a-b) % 18446744073709551616 else if k=2 then a * b % 18446744073709551616
 else if k=7 then TY .u64 a b else if k=8 then So .u64 a b else if k=9 then Q3 .u64 a b
 else if k=10 then Ws .u64 a n
 else if k=11 then (if 0<n then (if Xe .u64 a 63≠0 then So .u64 (Xe .u64 a n) (Ws .u64 18446744073709551615 (64-n)) else Xe .u64 a n) else Xe .u64 a n)
 else if k=12 then Xe .u64 a n
 else if k=13 then So .u64 (Ws .u64 a n) (Xe .u64 a (64-n))
 else So .u64 (Xe .u64 a n) (Ws .u64 a (64-n))
noncomputable def Vl (op a b:Int):Int × Int :=
 if 70≤op∧op≤79 then (VJ (op-70) (ZO .i32 a) (ZO .i32 b) (a % 4294967296) (b % 4294967296),0)
 else if 81≤op∧op≤90 then (VJ (op-81) a b (a % 18446744073709551616) (b % 18446744073709551616),0)
 else if 109≤op∧op≤112 then (ZO .i64 (ZO .i32 (V7 .i32 (op-109) (ZO .i32 a) (ZO .i32 b) (a % 4294967296) (b % 4294967296)).1),(V7 .i32 (op-109) (ZO .i32 a) (ZO .i32 b) (a % 4294967296) (b % 4294967296)).2)
 else if 127≤op∧op≤130 then V7 .i64 (op-127) a b (a % 18446744073709551616) (b % 18446744073709551616)
 else if 106≤op∧op≤120 then (ZO .i64 (ZO .i32 (UC (op-106) (a % 4294967296) (b % 4294967296))),0)
 else if 124≤op∧op≤138 then (ZO .i64 (UB (op-124) (a % 18446744073709551616) (b % 18446744073709551616)),0)
 else (0,6)
noncomputable def Vj (op a:Int):Int × Int :=
 if op=69 then (KP (decide (ZO .i32 a=0)),0) else if op=80 then (KP (decide (a=0)),0)
 else if op=103 then (MJ (a % 4294967296),0) else if op=104 then (MG (a % 4294967296),0) else if op=105 then (MD (a % 4294967296),0)
 else if op=121 then (MH (a % 18446744073709551616),0) else if op=122 then (ME (a % 18446744073709551616),0) else if op=123 then (MC (a % 18446744073709551616),0)
 else if op=192∨op=194 then (ZO .i64 (ZO .i8 a),0) else if op=193∨op=195 then (ZO .i64 (ZO .i16 a),0)
 else if op=167∨op=172∨op=196 then (ZO .i64 (ZO .i32 a),0) else if op=173 then (a % 4294967296,0) else (0,6)
section
variable {g:Zv} {w:World} {l:List As} {op a b q e r:Int}
theorem aht (H:Sat g w l) (k a b:Int) (hb:0≤b∧b≤4294967295):Fc Tryz.prog 251 #[.int .u8 k,.int .u32 a,.int .u32 b,.int .i64 32] w (fun v w'=>∃r,v=.int .u32 r∧r=UC k a b∧Sat g w' l):=by
 refine Fc.of Tryz.func251 rfl k_i<|ZX qo<|abd qo rfl rfl ?_
 (refine abf ((b).toNat) ((32-1)) qo qo qo qo ?_;intro Ja IY)
 refine Xc qo rfl rfl<|bk ?_
 refine cI (fun c1=>?_) (fun c1=>?_)
 ·replace c1:=ZR (c1)
  refine SQ<|Z6.mk ?_
  refine ⟨(a+b) % 4294967296,?_⟩
  refine ⟨?_,?_⟩
  ·refine int_eq ?_
   omega
  refine ⟨?_,?_⟩
  ·exact k_g
  exact H
 replace c1:=ZQ (c1)
 refine cI (fun c2=>?_) (fun c2=>?_)
 ·replace c2:=ZR (c2)
  refine SQ<|Z6.mk ?_
  refine ⟨(a-b) % 4294967296,?_⟩
  refine ⟨?_,?_⟩
  ·refine int_eq ?_
   omega
  refine ⟨?_,?_⟩
  ·exact k_g
  exact H
 replace c2:=ZQ (c2)
 refine cI (fun c3=>?_) (fun c3=>?_)
 ·replace c3:=ZR (c3)
  refine SQ<|Z6.mk ?_
  refine ⟨a * b % 4294967296,?_⟩
  refine ⟨?_,?_⟩
  ·refine int_eq ?_
   omega
  refine ⟨?_,?_⟩
  ·exact k_g
  exact H
 replace c3:=ZQ (c3)
 refine cI (fun c4=>?_) (fun c4=>?_)
 ·replace c4:=ZR (c4)
  refine W6.keep<|Z6.mk ?_
  refine ⟨TY IntKind.u32 a b,?_⟩
  refine ⟨?_,?_⟩
  ·refine int_eq ?_
   omega
  refine ⟨?_,?_⟩
  ·exact k_g
  exact H
 replace c4:=ZQ (c4)
 refine cI (fun c5=>?_) (fun c5=>?_)
 ·replace c5:=ZR (c5)
  refine W6.keep<|Z6.mk ?_
  refine ⟨So IntKind.u32 a b,?_⟩
  refine ⟨?_,?_⟩
  ·refine int_eq ?_
   omega
  refine ⟨?_,?_⟩
  ·exact k_g
  exact H
 replace c5:=ZQ (c5)
 refine cI (fun c6=>?_) (fun c6=>?_)
 ·replace c6:=ZR (c6)
  refine W6.keep<|Z6.mk ?_
  refine ⟨Q3 IntKind.u32 a b,?_⟩
  refine ⟨?_,?_⟩
  ·refine int_eq ?_
   omega
  refine ⟨?_,?_⟩
  ·exact k_g
  exact H
 replace c6:=ZQ (c6)
 refine cI (fun c7=>?_) (fun c7=>?_)
 ·replace c7:=ZR (c7)
  refine YN.mk qo<|W6.keep<|Z6.mk ?_
  refine ⟨Ws IntKind.u32 a (↑(b.toNat &&& 32-1):Int),?_⟩
  refine ⟨?_,?_⟩
  ·refine int_eq ?_
   omega
  refine ⟨?_,?_⟩
  ·exact k_g
  exact H
 replace c7:=ZQ (c7)
 refine cI (fun c8=>?_) (fun c8=>?_)
 ·replace c8:=ZR (c8)
  refine YN.mk qo<|W6.keep ?_
  refine br (fun c9=>?_) (fun c9=>?_)
  ·replace c9:=Yx (c9)
   refine ZX qo<|YN.mk (by decide)<|W6.keep ?_
   refine cI (fun c10=>?_) (fun c10=>?_)
   ·replace c10:=Ye (c10)
    refine abd qo rfl rfl<|afT qo qo<|ZX qo<|YN.mk qo<|W6.keep<|W6.keep<|Z6.mk ?_
    refine ⟨So IntKind.u32 (Xe IntKind.u32 a (↑(b.toNat &&& 32-1):Int)) (Ws IntKind.u32 (4294967295-0) (32-(↑(b.toNat &&& 32-1):Int))),?_⟩
    refine ⟨?_,?_⟩
    ·refine int_eq ?_
     omega
    refine ⟨?_,?_⟩
    ·exact k_g
    exact H
   replace c10:=Yd (c10)
   refine Z6.mk ?_
   refine ⟨Xe IntKind.u32 a (↑(b.toNat &&& 32-1):Int),?_⟩
   refine ⟨?_,?_⟩
   ·refine int_eq ?_
    omega
   refine ⟨?_,?_⟩
   ·exact k_g
   exact H
  replace c9:=Yw (c9)
  refine cF rfl<|Z6.mk ?_
  refine ⟨Xe IntKind.u32 a (↑(b.toNat &&& 32-1):Int),?_⟩
  refine ⟨?_,?_⟩
  ·refine int_eq ?_
   omega
  refine ⟨?_,?_⟩
  ·exact k_g
  exact H
 replace c8:=ZQ (c8)
 refine cI (fun c9=>?_) (fun c9=>?_)
 ·replace c9:=ZR (c9)
  refine YN.mk qo<|W6.keep<|Z6.mk ?_
  refine ⟨Xe IntKind.u32 a (↑(b.toNat &&& 32-1):Int),?_⟩
  refine ⟨?_,?_⟩
  ·refine int_eq ?_
   omega
  refine ⟨?_,?_⟩
  ·exact k_g
  exact H
 replace c9:=ZQ (c9)
 refine cI (fun c10=>?_) (fun c10=>?_)
 ·replace c10:=ZR (c10)
  refine ZM H [] [(0,.pure),(1,.pure),(2,.pure),(3,.pure),(4,.pure),(5,.pure),(6,.pure),(7,.pure),(8,.pure),(9,.pure)] mixed k_i k_i<|fun w1 H=>YN.mk qo<|W6.keep<|ZX qo<|YN.mk qo<|W6.keep<|W6.keep<|Z6.mk ?_
  refine ⟨So IntKind.u32 (Ws IntKind.u32 a (↑(b.toNat &&& 32-1):Int)) (Xe IntKind.u32 a (32-(↑(b.toNat &&& 32-1):Int))),?_⟩
  refine ⟨?_,?_⟩
  ·refine int_eq ?_
   omega
  refine ⟨?_,?_⟩
  ·exact k_g
  exact H
 replace c10:=ZQ (c10)
 refine ZM H [] [(0,.pure),(1,.pure),(2,.pure),(3,.pure),(4,.pure),(5,.pure),(6,.pure),(7,.pure),(8,.pure),(9,.pure)] mixed k_i k_i<|fun w1 H=>YN.mk qo<|W6.keep<|ZX qo<|YN.mk qo<|W6.keep<|W6.keep<|Z6.mk ?_
 refine ⟨So IntKind.u32 (Xe IntKind.u32 a (↑(b.toNat &&& 32-1):Int)) (Ws IntKind.u32 a (32-(↑(b.toNat &&& 32-1):Int))),?_⟩
 refine ⟨?_,?_⟩
 ·refine int_eq ?_
  omega
 refine ⟨?_,?_⟩
 ·exact k_g
 exact H
theorem ahu (H:Sat g w l) (k a b:Int) (hb:0≤b∧b≤18446744073709551615):Fc Tryz.prog 252 #[.int .u8 k,.int .u64 a,.int .u64 b,.int .i64 64] w (fun v w'=>∃r,v=.int .u64 r∧r=UB k a b∧Sat g w' l):=by
 refine Fc.of Tryz.func252 rfl k_i<|ZX qo<|Qo qo rfl rfl ?_
 (refine Un ((b).toNat) ((64-1)) qo qo qo qo ?_;intro Ja IY)
 refine Xc qo rfl rfl<|bk ?_
 refine cI (fun c1=>?_) (fun c1=>?_)
 ·replace c1:=ZR (c1)
  refine SO<|Z6.mk ?_
  refine ⟨(a+b) % 18446744073709551616,?_⟩
  refine ⟨?_,?_⟩
  ·refine int_eq ?_
   omega
  refine ⟨?_,?_⟩
  ·exact k_h
  exact H
 replace c1:=ZQ (c1)
 refine cI (fun c2=>?_) (fun c2=>?_)
 ·replace c2:=ZR (c2)
  refine SO<|Z6.mk ?_
  refine ⟨(a-b) % 18446744073709551616,?_⟩
  refine ⟨?_,?_⟩
  ·refine int_eq ?_
   omega
  refine ⟨?_,?_⟩
  ·exact k_h
  exact H
 replace c2:=ZQ (c2)
 refine cI (fun c3=>?_) (fun c3=>?_)
 ·replace c3:=ZR (c3)
  refine SO<|Z6.mk ?_
  refine ⟨a * b % 18446744073709551616,?_⟩
  refine ⟨?_,?_⟩
  ·refine int_eq ?_
   omega
  refine ⟨?_,?_⟩
  ·exact k_h
  exact H
 replace c3:=ZQ (c3)
 refine cI (fun c4=>?_) (fun c4=>?_)
 ·replace c4:=ZR (c4)
  refine W6.keep<|Z6.mk ?_
  refine ⟨TY IntKind.u64 a b,?_⟩
  refine ⟨?_,?_⟩
  ·refine int_eq ?_
   omega
  refine ⟨?_,?_⟩
  ·exact k_h
  exact H
 replace c4:=ZQ (c4)
 refine cI (fun c5=>?_) (fun c5=>?_)
 ·replace c5:=ZR (c5)
  refine W6.keep<|Z6.mk ?_
  refine ⟨So IntKind.u64 a b,?_⟩
  refine ⟨?_,?_⟩
  ·refine int_eq ?_
   omega
  refine ⟨?_,?_⟩
  ·exact k_h
  exact H
 replace c5:=ZQ (c5)
 refine cI (fun c6=>?_) (fun c6=>?_)
 ·replace c6:=ZR (c6)
  refine W6.keep<|Z6.mk ?_
  refine ⟨Q3 IntKind.u64 a b,?_⟩
  refine ⟨?_,?_⟩
  ·refine int_eq ?_
   omega
  refine ⟨?_,?_⟩
  ·exact k_h
  exact H
 replace c6:=ZQ (c6)
 refine cI (fun c7=>?_) (fun c7=>?_)
 ·replace c7:=ZR (c7)
  refine YN.mk qo<|W6.keep<|Z6.mk ?_
  refine ⟨Ws IntKind.u64 a (↑(b.toNat &&& 64-1):Int),?_⟩
  refine ⟨?_,?_⟩
  ·refine int_eq ?_
   omega
  refine ⟨?_,?_⟩
  ·exact k_h
  exact H
 replace c7:=ZQ (c7)
 refine cI (fun c8=>?_) (fun c8=>?_)
 ·replace c8:=ZR (c8)
  refine YN.mk qo<|W6.keep ?_
  refine br (fun c9=>?_) (fun c9=>?_)
  ·replace c9:=Yx (c9)
   refine ZX qo<|YN.mk (by decide)<|W6.keep ?_
   refine cI (fun c10=>?_) (fun c10=>?_)
   ·replace c10:=Ye (c10)
    refine Qo qo rfl rfl<|afU qo qo<|ZX qo<|YN.mk qo<|W6.keep<|W6.keep<|Z6.mk ?_
    refine ⟨So IntKind.u64 (Xe IntKind.u64 a (↑(b.toNat &&& 64-1):Int)) (Ws IntKind.u64 (18446744073709551615-0) (64-(↑(b.toNat &&& 64-1):Int))),?_⟩
    refine ⟨?_,?_⟩
    ·refine int_eq ?_
     omega
    refine ⟨?_,?_⟩
    ·exact k_h
    exact H
   replace c10:=Yd (c10)
   refine Z6.mk ?_
   refine ⟨Xe IntKind.u64 a (↑(b.toNat &&& 64-1):Int),?_⟩
   refine ⟨?_,?_⟩
   ·refine int_eq ?_
    omega
   refine ⟨?_,?_⟩
   ·exact k_h
   exact H
  replace c9:=Yw (c9)
  refine cF rfl<|Z6.mk ?_
  refine ⟨Xe IntKind.u64 a (↑(b.toNat &&& 64-1):Int),?_⟩
  refine ⟨?_,?_⟩
  ·refine int_eq ?_
   omega
  refine ⟨?_,?_⟩
  ·exact k_h
  exact H
 replace c8:=ZQ (c8)
 refine cI (fun c9=>?_) (fun c9=>?_)
 ·replace c9:=ZR (c9)
  refine YN.mk qo<|W6.keep<|Z6.mk ?_
  refine ⟨Xe IntKind.u64 a (↑(b.toNat &&& 64-1):Int),?_⟩
  refine ⟨?_,?_⟩
  ·refine int_eq ?_
   omega
  refine ⟨?_,?_⟩
  ·exact k_h
  exact H
 replace c9:=ZQ (c9)
 refine cI (fun c10=>?_) (fun c10=>?_)
 ·replace c10:=ZR (c10)
  refine ZM H [] [(0,.pure),(1,.pure),(2,.pure),(3,.pure),(4,.pure),(5,.pure),(6,.pure),(7,.pure),(8,.pure),(9,.pure)] mixed k_i k_i<|fun w1 H=>YN.mk qo<|W6.keep<|ZX qo<|YN.mk qo<|W6.keep<|W6.keep<|Z6.mk ?_
  refine ⟨So IntKind.u64 (Ws IntKind.u64 a (↑(b.toNat &&& 64-1):Int)) (Xe IntKind.u64 a (64-(↑(b.toNat &&& 64-1):Int))),?_⟩
  refine ⟨?_,?_⟩
  ·refine int_eq ?_
   omega
  refine ⟨?_,?_⟩
  ·exact k_h
  exact H
 replace c10:=ZQ (c10)
 refine ZM H [] [(0,.pure),(1,.pure),(2,.pure),(3,.pure),(4,.pure),(5,.pure),(6,.pure),(7,.pure),(8,.pure),(9,.pure)] mixed k_i k_i<|fun w1 H=>YN.mk qo<|W6.keep<|ZX qo<|YN.mk qo<|W6.keep<|W6.keep<|Z6.mk ?_
 refine ⟨So IntKind.u64 (Xe IntKind.u64 a (↑(b.toNat &&& 64-1):Int)) (Ws IntKind.u64 a (64-(↑(b.toNat &&& 64-1):Int))),?_⟩
 refine ⟨?_,?_⟩
 ·refine int_eq ?_
  omega
 refine ⟨?_,?_⟩
 ·exact k_h
 exact H
theorem tw1 (h:70≤op∧op≤79) (hr:r=VJ (op-70) (ZO .i32 a) (ZO .i32 b) (a % 4294967296) (b % 4294967296)):(r,(0:Int))=Vl op a b:=by unfold Vl;rw [if_pos h,hr]
theorem tw2 (h:81≤op∧op≤90) (hr:r=VJ (op-81) a b (a % 18446744073709551616) (b % 18446744073709551616)):(r,(0:Int))=Vl op a b:=by unfold Vl;rw [if_neg qo,if_pos h,hr]
theorem tw3 (h:109≤op∧op≤112) (hq:(q,e)=V7 .i32 (op-109) (ZO .i32 a) (ZO .i32 b) (a % 4294967296) (b % 4294967296)):(ZO .i64 (ZO .i32 q),e)=Vl op a b:=by
 unfold Vl;rw [if_neg qo,if_neg qo,if_pos h,←hq]
theorem tw4 (h:127≤op∧op≤130) (hq:(q,e)=V7 .i64 (op-127) a b (a % 18446744073709551616) (b % 18446744073709551616)):(q,e)=Vl op a b:=by
 unfold Vl;rw [if_neg qo,if_neg qo,if_neg qo,if_pos h,←hq]
theorem tw5 (h:106≤op∧op≤120) (h2:¬(109≤op∧op≤112)) (hq:q=UC (op-106) (a % 4294967296) (b % 4294967296)):(ZO .i64 (ZO .i32 q),(0:Int))=Vl op a b:=by
 unfold Vl;rw [if_neg qo,if_neg qo,if_neg h2,if_neg qo,if_pos h,hq]
theorem tw6 (h:124≤op∧op≤138) (h2:¬(127≤op∧op≤130)) (hq:q=UB (op-124) (a % 18446744073709551616) (b % 18446744073709551616)):(ZO .i64 q,(0:Int))=Vl op a b:=by
 unfold Vl;rw [if_neg qo,if_neg qo,if_neg qo,if_neg h2,if_neg qo,if_pos h,hq]
theorem D9 (h:¬(70≤op∧op≤79∨81≤op∧op≤90∨106≤op∧op≤120∨124≤op∧op≤138)):((0:Int),(6:Int))=Vl op a b:=by
 unfold Vl;rw [if_neg qo,if_neg qo,if_neg qo,if_neg qo,if_neg qo,if_neg qo]
theorem amX (H:Sat g w l) (op a b:Int) (hop:0≤op∧op≤255) (ha:WU a) (hb:WU b):Fc Tryz.prog 228 #[.int .u8 op,.int .i64 a,.int .i64 b] w (fun v w'=>∃r e,v=.tuple #[.int .i64 r,.int .i64 e]∧(r,e)=Vl op a b∧Sat g w' l):=by
 refine Fc.of Tryz.func228 rfl k_i<|bk ?_
 refine br (fun c1=>?_) (fun c1=>?_)
 ·replace c1:=Xv (c1)
  refine cI (fun c2=>?_) (fun c2=>?_)
  ·replace c2:=Xv (c2)
   refine K2 qo<|Zu rfl rfl<|Zu rfl rfl<|Yr rfl rfl<|Yr rfl rfl ?_
   refine Z7.mk (Fc.imp (XG.ah9 H _ _ _ _ _) ?_)
   clear H
   rintro _ w1 ⟨r1,⟨rfl,⟨h1,H⟩⟩⟩
   refine Z6.mk ?_
   refine ⟨r1,0,?_⟩
   refine ⟨rfl,?_⟩
   refine ⟨?_,?_⟩
   ·exact tw1 qo qa
   exact H
  replace c2:=Xu (c2)
  refine br (fun c3=>?_) (fun c3=>?_)
  ·replace c3:=Xv (c3)
   refine cI (fun c4=>?_) (fun c4=>?_)
   ·replace c4:=Xv (c4)
    refine K2 qo<|WL rfl rfl<|WL rfl rfl ?_
    refine Z7.mk (Fc.imp (XG.aia H _ _ _ _ _) ?_)
    clear H
    rintro _ w1 ⟨r1,⟨rfl,⟨h1,H⟩⟩⟩
    refine Z6.mk ?_
    refine ⟨r1,0,?_⟩
    refine ⟨rfl,?_⟩
    refine ⟨?_,?_⟩
    ·exact tw2 qo qa
    exact H
   replace c4:=Xu (c4)
   refine br (fun c5=>?_) (fun c5=>?_)
   ·replace c5:=Xv (c5)
    refine cI (fun c6=>?_) (fun c6=>?_)
    ·replace c6:=Xv (c6)
     refine K2 qo<|Zu rfl rfl<|Zu rfl rfl<|Yr rfl rfl<|Yr rfl rfl ?_
     refine Z7.mk (Fc.imp (XG.aib H _ _ _ _ _ ?_ ?_ ?_) ?_)
     ·exact wrap32 _
     ·exact wrap32 _
     ·exact aj2 _
     clear H
     rintro _ w1 ⟨q1,⟨e1,⟨rfl,⟨h1,H⟩⟩⟩⟩
     refine Zu rfl rfl<|Zu rfl rfl<|Z6.mk ?_
     refine ⟨ZO IntKind.i64 (ZO IntKind.i32 q1),e1,?_⟩
     refine ⟨rfl,?_⟩
     refine ⟨?_,?_⟩
     ·exact tw3 qo qa
     exact H
    replace c6:=Xu (c6)
    refine br (fun c7=>?_) (fun c7=>?_)
    ·replace c7:=Xv (c7)
     refine cI (fun c8=>?_) (fun c8=>?_)
     ·replace c8:=Xv (c8)
      refine K2 qo<|WL rfl rfl<|WL rfl rfl ?_
      refine Z7.mk (Fc.imp (XG.aic H _ _ _ _ _ qa qa ?_) ?_)
      ·exact aj3 _
      clear H
      rintro _ w1 ⟨q1,⟨e1,⟨rfl,⟨h1,H⟩⟩⟩⟩
      refine Z6.mk ?_
      refine ⟨q1,e1,?_⟩
      refine ⟨rfl,?_⟩
      refine ⟨?_,?_⟩
      ·exact tw4 qo qa
      exact H
     replace c8:=Xu (c8)
     refine VA (Ys qo)<|cF (YM qo)<|VA (Ys qo) ?_
     refine cI (fun c9=>?_) (fun c9=>?_)
     ·replace c9:=Xv (c9)
      refine K2 qo<|WL rfl rfl<|WL rfl rfl ?_
      refine Z7.mk (Fc.imp (XG.ahu H _ _ _ qo) ?_)
      clear H
      rintro _ w1 ⟨r1,⟨rfl,⟨h1,H⟩⟩⟩
      refine Zu rfl rfl<|Z6.mk ?_
      refine ⟨ZO IntKind.i64 r1,0,?_⟩
      refine ⟨rfl,?_⟩
      refine ⟨?_,?_⟩
      ·exact tw6 qo qo qa
      exact H
     replace c9:=Xu (c9)
     refine Z6.mk ?_
     refine ⟨0,6,?_⟩
     refine ⟨rfl,?_⟩
     refine ⟨?_,?_⟩
     ·exact D9 qo
     exact H
    replace c7:=Xu (c7)
    refine cF rfl<|VA (Ys qo) ?_
    refine cI (fun c8=>?_) (fun c8=>?_)
    ·replace c8:=Xv (c8)
     refine K2 qo<|Yr rfl rfl<|Yr rfl rfl ?_
     refine Z7.mk (Fc.imp (XG.aht H _ _ _ qo) ?_)
     clear H
     rintro _ w1 ⟨r1,⟨rfl,⟨h1,H⟩⟩⟩
     refine Zu rfl rfl<|Zu rfl rfl<|Z6.mk ?_
     refine ⟨ZO IntKind.i64 (ZO IntKind.i32 r1),0,?_⟩
     refine ⟨rfl,?_⟩
     refine ⟨?_,?_⟩
     ·exact tw5 qo qo qa
     exact H
    replace c8:=Xu (c8)
    refine br (fun c9=>?_) (fun c9=>?_)
    ·replace c9:=Xv (c9)
     refine cT (Ys qo)<|K2 qo<|WL rfl rfl<|WL rfl rfl ?_
     refine Z7.mk (Fc.imp (XG.ahu H _ _ _ qo) ?_)
     clear H
     rintro _ w1 ⟨r1,⟨rfl,⟨h1,H⟩⟩⟩
     refine Zu rfl rfl<|Z6.mk ?_
     refine ⟨ZO IntKind.i64 r1,0,?_⟩
     refine ⟨rfl,?_⟩
     refine ⟨?_,?_⟩
     ·exact tw6 qo qo qa
     exact H
    replace c9:=Xu (c9)
    refine cF rfl<|Z6.mk ?_
    refine ⟨0,6,?_⟩
    refine ⟨rfl,?_⟩
    refine ⟨?_,?_⟩
    ·exact D9 qo
    exact H
   replace c5:=Xu (c5)
   refine cF rfl<|XB (YM qo)<|cF rfl ?_
   refine br (fun c6=>?_) (fun c6=>?_)
   ·replace c6:=Xv (c6)
    refine cT (Ys qo)<|K2 qo<|Yr rfl rfl<|Yr rfl rfl ?_
    refine Z7.mk (Fc.imp (XG.aht H _ _ _ qo) ?_)
    clear H
    rintro _ w1 ⟨r1,⟨rfl,⟨h1,H⟩⟩⟩
    refine Zu rfl rfl<|Zu rfl rfl<|Z6.mk ?_
    refine ⟨ZO IntKind.i64 (ZO IntKind.i32 r1),0,?_⟩
    refine ⟨rfl,?_⟩
    refine ⟨?_,?_⟩
    ·exact tw5 qo qo qa
    exact H
   replace c6:=Xu (c6)
   refine cF rfl<|XB (YM qo)<|cF rfl<|Z6.mk ?_
   refine ⟨0,6,?_⟩
   refine ⟨rfl,?_⟩
   refine ⟨?_,?_⟩
   ·exact D9 qo
   exact H
  replace c3:=Xu (c3)
  refine cF rfl<|XB (YM qo)<|cF rfl<|XB (YM qo)<|cF rfl<|XB (YM qo)<|cF rfl<|XB (YM qo)<|cF rfl<|Z6.mk ?_
  refine ⟨0,6,?_⟩
  refine ⟨rfl,?_⟩
  refine ⟨?_,?_⟩
  ·exact D9 qo
  exact H
 replace c1:=Xu (c1)
 refine cF rfl<|XB (YM qo)<|cF rfl<|XB (YM qo)<|cF rfl<|XB (YM qo)<|cF rfl<|XB (YM qo)<|cF rfl<|XB (YM qo)<|cF rfl<|Z6.mk ?_
 refine ⟨0,6,?_⟩
 refine ⟨rfl,?_⟩
 refine ⟨?_,?_⟩
 ·exact D9 qo
 exact H
theorem amY (H:Sat g w l) (amZ:No g 2 0 (Pu Q8)) (am0:No g 3 0 (Pu Q7)) (op a:Int) (hop:0≤op∧op≤255) (ha:WU a):Fc Tryz.prog 227 #[.int .u8 op,.int .i64 a] w (fun v w'=>∃r e,v=.tuple #[.int .i64 r,.int .i64 e]∧(r,e)=Vj op a∧Sat g w' l):=by
 have LG:∀a:Int,0≤a % 4294967296∧a % 4294967296≤4294967295:=fun a=>by omega
 have LF:∀a:Int,0≤a % 18446744073709551616∧a % 18446744073709551616≤18446744073709551615:=fun a=>by omega
 refine Fc.of Tryz.func227 rfl k_i<|bk ?_
 refine cI (fun c1=>?_) (fun c1=>?_)
 ·replace c1:=ZR (c1)
  refine Zu rfl rfl ?_
  refine Z7.mk (Fc.imp (XG.W5 H _) ?_)
  clear H
  rintro _ w1 ⟨r1,⟨rfl,⟨h1,H⟩⟩⟩
  refine Z6.mk ?_
  refine ⟨r1,0,?_⟩
  refine ⟨rfl,?_⟩
  refine ⟨?_,?_⟩
  ·exact k_l
  exact H
 replace c1:=ZQ (c1)
 refine cI (fun c2=>?_) (fun c2=>?_)
 ·replace c2:=ZR (c2)
  refine Z7.mk (Fc.imp (XG.W5 H _) ?_)
  clear H
  rintro _ w1 ⟨r1,⟨rfl,⟨h1,H⟩⟩⟩
  refine Z6.mk ?_
  refine ⟨r1,0,?_⟩
  refine ⟨rfl,?_⟩
  refine ⟨?_,?_⟩
  ·exact k_l
  exact H
 replace c2:=ZQ (c2)
 refine cI (fun c3=>?_) (fun c3=>?_)
 ·replace c3:=ZR (c3)
  refine Yr rfl rfl ?_
  refine Z7.mk (Fc.imp (XG.akE H _ ?_) ?_)
  ·exact LG _
  clear H
  rintro _ w1 ⟨r1,⟨rfl,⟨h1,⟨⟨h2,h3⟩,H⟩⟩⟩⟩
  refine Z6.mk ?_
  refine ⟨r1,0,?_⟩
  refine ⟨rfl,?_⟩
  refine ⟨?_,?_⟩
  ·exact k_l
  exact H
 replace c3:=ZQ (c3)
 refine cI (fun c4=>?_) (fun c4=>?_)
 ·replace c4:=ZR (c4)
  refine Yr rfl rfl ?_
  refine Z7.mk (Fc.imp (XG.akG H qa _ ?_) ?_)
  ·exact LG _
  clear H
  rintro _ w1 ⟨r1,⟨rfl,⟨h1,⟨⟨h2,h3⟩,H⟩⟩⟩⟩
  refine Z6.mk ?_
  refine ⟨r1,0,?_⟩
  refine ⟨rfl,?_⟩
  refine ⟨?_,?_⟩
  ·exact k_l
  exact H
 replace c4:=ZQ (c4)
 refine cI (fun c5=>?_) (fun c5=>?_)
 ·replace c5:=ZR (c5)
  refine Yr rfl rfl ?_
  refine Z7.mk (Fc.imp (XG.akI H _ ?_) ?_)
  ·exact LG _
  clear H
  rintro _ w1 ⟨r1,⟨rfl,⟨h1,⟨⟨h2,h3⟩,H⟩⟩⟩⟩
  refine Z6.mk ?_
  refine ⟨r1,0,?_⟩
  refine ⟨rfl,?_⟩
  refine ⟨?_,?_⟩
  ·exact k_l
  exact H
 replace c5:=ZQ (c5)
 refine cI (fun c6=>?_) (fun c6=>?_)
 ·replace c6:=ZR (c6)
  refine WL rfl rfl ?_
  refine Z7.mk (Fc.imp (XG.akF H _ ?_) ?_)
  ·exact LF _
  clear H
  rintro _ w1 ⟨r1,⟨rfl,⟨h1,⟨⟨h2,h3⟩,H⟩⟩⟩⟩
  refine Z6.mk ?_
  refine ⟨r1,0,?_⟩
  refine ⟨rfl,?_⟩
  refine ⟨?_,?_⟩
  ·exact k_l
  exact H
 replace c6:=ZQ (c6)
 refine cI (fun c7=>?_) (fun c7=>?_)
 ·replace c7:=ZR (c7)
  refine WL rfl rfl ?_
  refine Z7.mk (Fc.imp (XG.akH H qa _ ?_) ?_)
  ·exact LF _
  clear H
  rintro _ w1 ⟨r1,⟨rfl,⟨h1,⟨⟨h2,h3⟩,H⟩⟩⟩⟩
  refine Z6.mk ?_
  refine ⟨r1,0,?_⟩
  refine ⟨rfl,?_⟩
  refine ⟨?_,?_⟩
  ·exact k_l
  exact H
 replace c7:=ZQ (c7)
 refine cI (fun c8=>?_) (fun c8=>?_)
 ·replace c8:=ZR (c8)
  refine WL rfl rfl ?_
  refine Z7.mk (Fc.imp (XG.akJ H _ ?_) ?_)
  ·exact LF _
  clear H
  rintro _ w1 ⟨r1,⟨rfl,⟨h1,⟨⟨h2,h3⟩,H⟩⟩⟩⟩
  refine Z6.mk ?_
  refine ⟨r1,0,?_⟩
  refine ⟨rfl,?_⟩
  refine ⟨?_,?_⟩
  ·exact k_l
  exact H
 replace c8:=ZQ (c8)
 refine cI (fun c9=>?_) (fun c9=>?_)
 ·replace c9:=ZR (c9)
  refine cT (ZN qa)<|Zu rfl rfl<|Zu rfl rfl<|Z6.mk ?_
  refine ⟨ZO IntKind.i64 (ZO IntKind.i8 a),0,?_⟩
  refine ⟨rfl,?_⟩
  refine ⟨?_,?_⟩
  ·exact k_t
  exact H
 replace c9:=ZQ (c9)
 refine cI (fun c10=>?_) (fun c10=>?_)
 ·replace c10:=ZR (c10)
  refine Zu rfl rfl<|Zu rfl rfl<|Z6.mk ?_
  refine ⟨ZO IntKind.i64 (ZO IntKind.i8 a),0,?_⟩
  refine ⟨rfl,?_⟩
  refine ⟨?_,?_⟩
  ·exact k_t
  exact H
 replace c10:=ZQ (c10)
 refine cI (fun c11=>?_) (fun c11=>?_)
 ·replace c11:=ZR (c11)
  refine cT (ZN qa)<|Zu rfl rfl<|Zu rfl rfl<|Z6.mk ?_
  refine ⟨ZO IntKind.i64 (ZO IntKind.i16 a),0,?_⟩
  refine ⟨rfl,?_⟩
  refine ⟨?_,?_⟩
  ·exact k_t
  exact H
 replace c11:=ZQ (c11)
 refine cI (fun c12=>?_) (fun c12=>?_)
 ·replace c12:=ZR (c12)
  refine Zu rfl rfl<|Zu rfl rfl<|Z6.mk ?_
  refine ⟨ZO IntKind.i64 (ZO IntKind.i16 a),0,?_⟩
  refine ⟨rfl,?_⟩
  refine ⟨?_,?_⟩
  ·exact k_t
  exact H
 replace c12:=ZQ (c12)
 refine cI (fun c13=>?_) (fun c13=>?_)
 ·replace c13:=ZR (c13)
  refine cT (ZN qa)<|Zu rfl rfl<|Zu rfl rfl<|Z6.mk ?_
  refine ⟨ZO IntKind.i64 (ZO IntKind.i32 a),0,?_⟩
  refine ⟨rfl,?_⟩
  refine ⟨?_,?_⟩
  ·exact k_t
  exact H
 replace c13:=ZQ (c13)
 refine cI (fun c14=>?_) (fun c14=>?_)
 ·replace c14:=ZR (c14)
  refine cT (ZN qa)<|Zu rfl rfl<|Zu rfl rfl<|Z6.mk ?_
  refine ⟨ZO IntKind.i64 (ZO IntKind.i32 a),0,?_⟩
  refine ⟨rfl,?_⟩
  refine ⟨?_,?_⟩
  ·exact k_t
  exact H
 replace c14:=ZQ (c14)
 refine cI (fun c15=>?_) (fun c15=>?_)
 ·replace c15:=ZR (c15)
  refine Zu rfl rfl<|Zu rfl rfl<|Z6.mk ?_
  refine ⟨ZO IntKind.i64 (ZO IntKind.i32 a),0,?_⟩
  refine ⟨rfl,?_⟩
  refine ⟨?_,?_⟩
  ·exact k_t
  exact H
 replace c15:=ZQ (c15)
 refine cI (fun c16=>?_) (fun c16=>?_)
 ·replace c16:=ZR (c16)
  refine Yr rfl rfl<|Xc qo rfl rfl<|Z6.mk ?_
  refine ⟨a % 4294967296,0,?_⟩
  refine ⟨rfl,?_⟩
  refine ⟨?_,?_⟩
  ·exact k_t
  exact H
 replace c16:=ZQ (c16)
 refine Z6.mk ?_
 refine ⟨0,6,?_⟩
 refine ⟨rfl,?_⟩
 refine ⟨?_,?_⟩
 ·exact k_t
 exact H
end
end XG
namespace Wj
open Go YZ Go.RowKit
open YS Zk XV YQ Valid
def GO (a:Int) (n:Nat) (all:Int):Int:=if 0≤a∧a+n≤all then 0 else 23
theorem KJ {a:Int} {n:Nat} {all:Int}:GO a n all=0↔0≤a∧a+n≤all:=by
 unfold GO
 by_cases h:0≤a∧a+n≤all
 ·rw [if_pos h];simp [h]
 ·rw [if_neg h];simp [h]
theorem LD {a:Int} {n:Nat} {all:Int} (h:¬(0≤a∧a+n≤all)):GO a n all=23:=if_neg h
def JM (m:Y9):Int:=Yb (fun x:SL=>GO x.pl x.fs.length m.table) m.elems
def MB (m:Y9):Int:=Yb (fun x:Int × List UInt8=>GO x.1 x.2.length (m.pages * 256)) m.data
def Js (m:Y9):Int:=fst (Wq m.d) (fst (JM m) (MB m))
def JL (n:Nat) (xs:List (Int × List UInt8)):List UInt8:=xs.foldl (fun b x=>patch b x.1.toNat x.2) (List.replicate n 0)
def LC (n:Nat) (xs:List SL):List Int:=xs.foldl (fun b x=>patch b x.pl.toNat x.fs) (List.replicate n (-1))
structure LM (n:Nat) (xs:List (Int × List UInt8)) (i:Nat) (cur:List UInt8):Prop where
 eq:cur=JL n (xs.take i)
 len:cur.length=n
structure LT (n:Nat) (xs:List SL) (i:Nat) (cur:List Int):Prop where
 eq:cur=LC n (xs.take i)
 len:cur.length=n
 ok:∀y∈cur,WU y
theorem LM.zero {n:Nat} {xs:List (Int × List UInt8)}:LM n xs 0 (List.replicate n 0):=⟨rfl,lja⟩
theorem LM.step {n i:Nat} {xs:List (Int × List UInt8)} {cur:List UInt8} {x:Int × List UInt8} (h:LM n xs i cur) (hx:xs[i]?=some x) (hl:x.1.toNat+x.2.length≤n):LM n xs (i+1) (patch cur x.1.toNat x.2):=by
 refine ⟨?_,by rw [Va (by rw [h.len];exact hl),h.len]⟩
 rw [lBb,hx,h.eq]
 unfold JL
 rw [List.foldl_append];rfl
theorem LM.fin {n i:Nat} {xs:List (Int × List UInt8)} {cur:List UInt8} (h:LM n xs i cur) (hi:xs.length≤i):cur=JL n xs:=by
 rw [h.eq,lxa hi]
theorem LT.zero {n:Nat} {xs:List SL}:LT n xs 0 (List.replicate n (-1)):=⟨rfl,lja,fun y hy=>by rw [List.eq_of_mem_replicate hy];decide⟩
theorem aaK {α:Type} {xs ys:List α} {a:Nat} {P:α→Prop} (h:∀x∈xs,P x) (hy:∀y∈ys,P y):∀y∈patch xs a ys,P y:=by
 intro y hm
 unfold patch at hm
 rcases lFa.1 hm with hm|hm
 ·rcases lFa.1 hm with hm|hm
  ·exact h y (lrb hm)
  ·exact hy y hm
 ·exact h y (List.mem_of_mem_drop hm)
theorem LT.step {n i:Nat} {xs:List SL} {cur:List Int} {x:SL} (h:LT n xs i cur) (hx:xs[i]?=some x) (hl:x.pl.toNat+x.fs.length≤n) (hf:∀y∈x.fs,WU y):LT n xs (i+1) (patch cur x.pl.toNat x.fs):=by
 refine ⟨?_,by rw [Va (by rw [h.len];exact hl),h.len],aaK h.ok hf⟩
 rw [lBb,hx,h.eq]
 unfold LC
 rw [List.foldl_append];rfl
theorem LT.fin {n i:Nat} {xs:List SL} {cur:List Int} (h:LT n xs i cur) (hi:xs.length≤i):cur=LC n xs:=by
 rw [h.eq,lxa hi]
theorem aeO {P:Int→Prop} {n:Nat} {xs:List SL} (h0:P (-1)) (h:∀x∈xs,∀y∈x.fs,P y):∀y∈LC n xs,P y:=by
 have key:∀(xs:List SL) (b:List Int),(∀y∈b,P y)→(∀x∈xs,∀y∈x.fs,P y)→∀y∈xs.foldl (fun b x=>patch b x.pl.toNat x.fs) b,P y:=by
  intro xs
  induction xs with
  | nil=>intro b hb _;exact hb
  | cons x r ih=>intro b hb hx;exact ih _ (aaK hb (hx x (.head _))) fun z hz=>hx z (.tail _ hz)
 exact key xs _ (fun y hy=>by rw [List.eq_of_mem_replicate hy];exact h0) h
theorem aeP {n:Nat} {xs:List SL} (h:∀x∈xs,x.pl.toNat+x.fs.length≤n):(LC n xs).length=n:=by
 have key:∀(xs:List SL) (b:List Int),b.length=n→(∀x∈xs,x.pl.toNat+x.fs.length≤n)→(xs.foldl (fun b x=>patch b x.pl.toNat x.fs) b).length=n:=by
  intro xs
  induction xs with
  | nil=>intro b hb _;exact hb
  | cons x r ih=>intro b hb hx;exact ih _ (by rw [Va (by rw [hb];exact hx x (.head _)),hb]) fun z hz=>hx z (.tail _ hz)
 exact key xs _ lja h
theorem aeQ {n:Nat} {xs:List (Int × List UInt8)} (h:∀x∈xs,x.1.toNat+x.2.length≤n):(JL n xs).length=n:=by
 have key:∀(xs:List (Int × List UInt8)) (b:List UInt8),b.length=n→(∀x∈xs,x.1.toNat+x.2.length≤n)→(xs.foldl (fun b x=>patch b x.1.toNat x.2) b).length=n:=by
  intro xs
  induction xs with
  | nil=>intro b hb _;exact hb
  | cons x r ih=>intro b hb hx;exact ih _ (by rw [Va (by rw [hb];exact hx x (.head _)),hb]) fun z hz=>hx z (.tail _ hz)
 exact key xs _ lja h
structure GN (m:Y9) (mem:List UInt8) (ts gs:List Int) (e:Int):Prop where
 eq:e=Js m
 ok:e=0→mem=JL (256 * m.pages.toNat) m.data∧ts=LC m.table.toNat m.elems∧gs=m.globals.map (·.2.2)
 no:e≠0→mem=[]∧ts=[]∧gs=[]
theorem GN.bad {m:Y9} {e:Int} (h:e=Js m) (h0:e≠0):GN m [] [] [] e:=⟨h,fun h=>absurd h h0,fun _=>⟨rfl,rfl,rfl⟩⟩
theorem mk1 {m:Y9} {e:Int} (h:e=Wq m.d) (h0:e≠0):GN m [] [] [] e:=.bad (by unfold Js;rw [SM _ (h ▸ h0)];exact h) h0
theorem mk2 {m:Y9} {i:Nat} {x:SL} (h:0=Wq m.d) (hA:AI (fun x:SL=>GO x.pl x.fs.length m.table) m.elems i) (hx:m.elems[i]?=some x) (hb:¬(0≤x.pl∧x.pl+x.fs.length≤m.table)):GN m [] [] [] 23:=by
 have h1:JM m=23:=by
  unfold JM;rw [hA.bad hx (by rw [LD hb];decide),LD hb]
 exact .bad (by unfold Js;rw [←h,Wy,h1];rfl) (by decide)
theorem mk3 {m:Y9} {i:Nat} {x:Int × List UInt8} (h:0=Wq m.d) (h1:JM m=0) (hA:AI (fun x:Int × List UInt8=>GO x.1 x.2.length (m.pages * 256)) m.data i) (hx:m.data[i]?=some x) (hb:¬(0≤x.1∧x.1+x.2.length≤m.pages * 256)):GN m [] [] [] 23:=by
 have h2:MB m=23:=by
  unfold MB;rw [hA.bad hx (by rw [LD hb];decide),LD hb]
 exact .bad (by unfold Js;rw [←h,Wy,h1,Wy,h2]) (by decide)
theorem mk4 {m:Y9} {mem:List UInt8} {ts gs:List Int} (h:0=Wq m.d) (h1:JM m=0) (h2:MB m=0) (q1:mem=JL (256 * m.pages.toNat) m.data) (q2:ts=LC m.table.toNat m.elems) (q3:gs=m.globals.map (·.2.2)):GN m mem ts gs 0 :=
 ⟨by unfold Js;rw [←h,Wy,h1,Wy,h2],fun _=>⟨q1,q2,q3⟩,fun h=>absurd rfl h⟩
end Wj
namespace Wj
open Go YZ Go.RowKit
open YS Zk XV YQ Valid
noncomputable def P5 (k a:Int):Int:=if k=127 then ZO .i64 (ZO .i32 a) else a
def tE (m:Y9) (n:Int):Int:=if n < -1∨((m.ZB.length:Int)+m.funcs.length)≤n then 1 else 0
noncomputable def gE (p:(Int × Bool × Int) × Int):Int:=if p.2≠P5 p.1.1 p.2∨(p.1.2.1=false∧p.2≠p.1.2.2) then 1 else 0
noncomputable def Ic (m:Y9) (n:Nat) (ts gs:List Int):Int :=
 fst (Wq m.d) (if n % 256≠0∨((n / 256:Nat):Int)<m.pages∨m.most<((n / 256:Nat):Int) then 1 else if (ts.length:Int)≠m.table∨gs.length≠m.globals.length then 1 else fst (Yb (tE m) ts) (Yb gE (m.globals.zip gs)))
section
variable {m:Y9} {n i:Nat} {ts gs:List Int} {e:Int}
theorem ft1 (h:Wq m.d=0) (hc:n % 256≠0∨((n / 256:Nat):Int)<m.pages∨m.most<((n / 256:Nat):Int)):1=Ic m n ts gs:=by
 unfold Ic;rw [h,Wy,if_pos hc]
theorem ft3 (h:Wq m.d=0) (hc:¬(n % 256≠0∨((n / 256:Nat):Int)<m.pages∨m.most<((n / 256:Nat):Int))) (hd:¬((ts.length:Int)≠m.table∨gs.length≠m.globals.length)):Ic m n ts gs=fst (Yb (tE m) ts) (Yb gE (m.globals.zip gs)):=by
 unfold Ic;rw [h,Wy,if_neg hc,if_neg hd]
theorem akK {x:Int} (hx:¬(x < -1∨((m.ZB.length:Int)+m.funcs.length)≤x)):tE m x=0:=if_neg hx
theorem am1 {p:(Int × Bool × Int) × Int} (h1:p.2=P5 p.1.1 p.2) (h2:p.1.2.1=true∨p.2=p.1.2.2):gE p=0:=if_neg (by
 rintro (h|⟨h3,h4⟩)
 ·exact h h1
 ·rcases h2 with h2|h2
  ·rw [h2] at h3;cases h3
  ·exact h4 h2)
theorem zip_map (f:Int × Bool × Int→Int):∀xs:List (Int × Bool × Int),xs.zip (xs.map f)=xs.map fun x=>(x,f x)
 | []=>rfl
 | x::r=>by rw [ljb,List.zip_cons_cons,zip_map f r];rfl
theorem agF {a:Int} (h:-2147483648≤a∧a≤2147483647):ZO .i64 (ZO .i32 a)=a:=by
 rw [alR h,Sv qo]
theorem agG {k a:Int} (h:k≠127∨(-2147483648≤a∧a≤2147483647)):P5 k a=a:=by
 unfold P5
 by_cases hk:k=127
 ·rw [if_pos hk];exact agF (h.resolve_left (fun h=>h hk))
 ·rw [if_neg hk]
theorem NM (h:Js m=0):Wq m.d=0∧JM m=0∧MB m=0:=by
 unfold Js at h
 obtain ⟨h1,h⟩:=Zm.1 h
 exact ⟨h1,Zm.1 h⟩
theorem aeR {x:Int} (h:R1 (ZF m.d) x=0):0≤x∧x<(m.ZB.length:Int)+m.funcs.length:=by
 unfold R1 at h
 cases hk:Valid.Xx (ZF m.d) x with
 | none=>rw [if_pos hk] at h;cases h
 | some d =>
  unfold Valid.Xx Valid.QO at hk
  by_cases h0:x<0
  ·rw [if_pos h0] at hk;cases hk
  ·rw [if_neg h0] at hk
   have Gm:(ZF m.d).ZB.length=m.ZB.length:=lia0 ..
   have hlf:(ZF m.d).M5.length=m.funcs.length:=by
    show ((m.funcs.map YA.d).map _).length=_
    rw [lia0,lia0]
   by_cases h1:x<(ZF m.d).ZB.length
   ·omega
   ·rw [if_neg h1] at hk
    cases hq:(ZF m.d).M5[x.toNat-(ZF m.d).ZB.length]? with
    | none=>rw [hq] at hk;cases hk
    | some z =>
     have:=(lca.1 hq).1
     omega
theorem abH (h:Wq m.d=0) (n:Nat):Yb (tE m) (LC n m.elems)=0:=by
 rw [UH]
 have hh:=(Xb h).1
 unfold Vf at hh
 obtain ⟨_,hh⟩:=Zm.1 hh
 obtain ⟨_,hh⟩:=Zm.1 hh
 obtain ⟨_,hh⟩:=Zm.1 hh
 obtain ⟨_,hh⟩:=Zm.1 hh
 obtain ⟨_,hh⟩:=Zm.1 hh
 unfold Tz at hh
 obtain ⟨h6,_⟩:=Zm.1 hh
 refine aeO (P:=fun x=>tE m x=0) (akK qo) fun x hx y hy=>?_
 have h7:=UH.1 h6 x.d (lnb.2 ⟨x,hx,rfl⟩)
 unfold TN at h7
 split at h7
 ·cases h7
 ·have h8:=aeR (UH.1 h7 y hy)
  exact akK qo
theorem aeS (h:Wq m.d=0):Yb gE (m.globals.zip (m.globals.map (·.2.2)))=0:=by
 rw [zip_map,UH]
 intro p hp
 obtain ⟨x,hx,rfl⟩:=lnb.1 hp
 have P:=U4 (UF (Xb h).1).1
 have hg:=P.NP x hx
 unfold M9 at hg
 obtain ⟨_,h2⟩:=Zm.1 hg
 unfold Po at h2
 refine am1 ?_ (.inr rfl)
 refine (agG ?_).symm
 by_cases hc:x.1≠127∨(-2147483648≤x.2.2∧x.2.2≤2147483647)
 ·exact hc
 ·rw [if_neg hc] at h2;cases h2
theorem acJ {mem:List UInt8} (h:GN m mem ts gs 0) (k:Nat):(Ic m (mem.length+256 * k) ts gs=0↔m.pages+k≤m.most)∧(mem.length:Int)=256 * m.pages∧(ts.length:Int)=m.table∧0≤m.pages∧m.pages≤m.most∧m.most≤8:=by
 obtain ⟨h1,h2,h3⟩:=NM h.eq.symm
 obtain ⟨q1,q2,q3⟩:=h.ok rfl
 have P:=U4 (UF (Xb h1).1).1
 have P1:=P.pages
 have P2:=P.most
 have P3:=P.table
 unfold JM at h2
 unfold MB at h3
 have hm:mem.length=256 * m.pages.toNat:=by
  rw [q1]
  refine aeQ fun x hx=>?_
  have:=KJ.1 (UH.1 h3 x hx)
  omega
 have ht:ts.length=m.table.toNat:=by
  rw [q2]
  refine aeP fun x hx=>?_
  have:=KJ.1 (UH.1 h2 x hx)
  omega
 have hg:gs.length=m.globals.length:=by rw [q3,lia0]
 refine ⟨?_,by omega,by omega,P1.1,P1.2,P2⟩
 constructor
 ·intro hf
  by_cases hc:(mem.length+256 * k) % 256≠0∨(((mem.length+256 * k) / 256:Nat):Int)<m.pages∨m.most<(((mem.length+256 * k) / 256:Nat):Int)
  ·rw [←ft1 (ts:=ts) (gs:=gs) h1 hc] at hf;cases hf
  ·omega
 ·intro hk
  rw [ft3 h1 qo qo,q2,abH h1,Wy,q3,aeS h1]
end
end Wj
namespace Rn
open Go YZ Go.RowKit
open YS Zk XV YQ Valid
def Vk (k n:Int):Prop:=WU n∧(k=127→-2147483648≤n∧n≤2147483647)
theorem Vk.r {k n:Int} (h:Vk k n):WU n:=h.1
theorem Vk.wide {n:Int} (h:WU n):Vk 126 n:=⟨h,fun h=>absurd h (by decide)⟩
theorem Vk.low {n:Int} (h:-2147483648≤n∧n≤2147483647):Vk 127 n:=⟨by unfold WU;omega,fun _=>h⟩
def KV (ks vs:List Int):Prop:=vs.length=ks.length∧∀(i:Nat) (k v:Int),ks[i]?=some k→vs[i]?=some v→Vk k v
section
variable {ks vs a b x y:List Int} {k v:Int}
theorem KV.len (h:KV ks vs):vs.length=ks.length:=h.1
theorem KV.nil:KV [] []:=⟨rfl,fun i k v h=>by simp at h⟩
theorem KV.one (h:Vk k v):KV [k] [v]:=⟨rfl,fun i k' v' h1 h2=>by
 cases i with
 | zero=>obtain rfl:=Option.some.inj h1;obtain rfl:=Option.some.inj h2;exact h
 | succ i=>simp at h1⟩
theorem KV.app (h:KV a x) (h2:KV b y):KV (a++b) (x++y):=by
 refine ⟨by rw [lba,lba,h.1,h2.1],fun i k v h3 h4=>?_⟩
 rw [lVa] at h3 h4
 rw [h.1] at h4
 by_cases hi:i<a.length
 ·rw [if_pos hi] at h3 h4;exact h.2 i k v h3 h4
 ·rw [if_neg hi] at h3 h4;exact h2.2 _ k v h3 h4
theorem KV.snoc (h:KV a x) (h2:Vk k v):KV (a++[k]) (x++[v]):=h.app (.one h2)
theorem KV.take (h:KV ks vs) (n:Nat):KV (ks.take n) (vs.take n):=by
 refine ⟨by rw [lla,lla,h.1],fun i k v h3 h4=>?_⟩
 rw [lAa] at h3 h4
 by_cases hi:i<n
 ·rw [if_pos hi] at h3 h4;exact h.2 i k v h3 h4
 ·rw [if_neg hi] at h3;cases h3
theorem KV.drop (h:KV ks vs) (n:Nat):KV (ks.drop n) (vs.drop n):=by
 refine ⟨by rw [lIa,lIa,h.1],fun i k v h3 h4=>?_⟩
 rw [lNa] at h3 h4
 exact h.2 _ k v h3 h4
theorem KV.split (h:KV (a++b) vs):∃x y,vs=x++y∧KV a x∧KV b y:=by
 have h1:=h.take a.length
 have h2:=h.drop a.length
 rw [lJb] at h1
 rw [List.drop_left] at h2
 exact ⟨_,_,(lZa _ _).symm,h1,h2⟩
theorem KV.akL (h:KV [k] vs):∃v,vs=[v]∧Vk k v:=by
 obtain ⟨h1,h2⟩:=h
 match vs,h1 with
 | [v],_=>exact ⟨v,rfl,h2 0 k v rfl rfl⟩
theorem KV.ahv (h:KV [] vs):vs=[]:=lqa h.1
theorem KV.QI (h:KV (a++[k]) vs):∃x v,vs=x++[v]∧KV a x∧Vk k v:=by
 obtain ⟨x,y,rfl,h1,h2⟩:=h.split
 obtain ⟨v,rfl,h3⟩:=h2.akL
 exact ⟨x,v,rfl,h1,h3⟩
theorem KV.i64 (h:KV ks vs):∀v∈vs,WU v:=fun v hv=>by
 obtain ⟨i,hi,rfl⟩:=lFb.1 hv
 exact (h.2 i _ _ (laa (by rw [←h.1];exact hi)) (laa hi)).1
theorem KV.at_ (h:KV ks vs) {i:Nat} (hk:ks[i]?=some k):∃v,vs[i]?=some v∧Vk k v:=by
 have hi:i<vs.length:=by rw [h.1];exact (lca.1 hk).1
 exact ⟨_,laa hi,h.2 i _ _ hk (laa hi)⟩
theorem KV.set (h:KV ks vs) {i:Nat} (hk:ks[i]?=some k) (hv:Vk k v):KV ks (vs.set i v):=by
 refine ⟨by rw [lfa];exact h.1,fun j k' v' h3 h4=>?_⟩
 rw [lPa] at h4
 by_cases e:i=j
 ·subst e
  rw [if_pos rfl] at h4
  split at h4
  ·obtain rfl:=Option.some.inj h4
   rw [hk] at h3
   obtain rfl:=Option.some.inj h3;exact hv
  ·cases h4
 ·rw [if_neg e] at h4;exact h.2 j _ _ h3 h4
theorem KV.ahw (ks:List Int):KV ks (List.replicate ks.length 0):=⟨lja,fun i k v _ h=>by
 obtain ⟨_,e⟩:=lca.1 h
 rw [List.getElem_replicate] at e
 subst e
 exact ⟨by unfold WU;omega,fun _=>by omega⟩⟩
end
structure Sr where
 mem:List UInt8
 Zr:List Int
 Zg:List Int
structure YE where
 fn:Int
 at_:Int
 loc:List Int
 stk:List Int
structure MS where
 ins:Sr
 calls:List YE
 host:Int
structure SI where
 e:Int
 vals:List Int
 WH:Int
 host:Int
 left:Int
def top (s:List Int) (k:Nat):Int:=s.getD (s.length-1-k) 0
def low (s:List Int) (k:Nat):List Int:=s.take (s.length-k)
theorem UO {s:List Int} {a:Int}:top (s++[a]) 0=a:=by
 unfold top
 rw [lba,lBa,lea,lsa qo,show s.length+1-1-0-s.length=0 by omega];rfl
theorem Ib {s:List Int} {a:Int} {k:Nat} (h:k<s.length):top (s++[a]) (k+1)=top s k:=by
 unfold top
 rw [lba,lBa,lea,lea,loa qo,show s.length+1-1-(k+1)=s.length-1-k by omega]
theorem Q6 {s:List Int} {a:Int} {k:Nat}:low (s++[a]) (k+1)=low s k:=by
 unfold low
 rw [lba,lBa,show s.length+1-(k+1)=s.length-k by omega,lya qo]
theorem KI {s:List Int}:low s 0=s:=by unfold low;simp
theorem OE {s:List Int} {k:Nat}:(low s k).length=s.length-k:=by unfold low;rw [lla];omega
theorem Pb {s:List Int} (h:1≤s.length):∃t a,s=t++[a]:=by
 rcases lgb s with rfl|⟨t,a,rfl⟩
 ·simp at h
 ·exact ⟨t,a,lab0 ..⟩
structure D8 where
 ins:Sr
 loc:List Int
 stk:List Int
 e:Int
def PM (base off:Int):Int:=base % 4294967296+off
noncomputable def VY (most:Int) (x:ZU) (I:Sr) (loc stk:List Int):D8 :=
 if x.op=26 then ⟨I,loc,low stk 1,0⟩
 else if x.op=27 then ⟨I,loc,if top stk 0=0 then low stk 3++[top stk 1] else low stk 2,0⟩
 else if x.op=32 then ⟨I,loc,stk++[loc.getD x.a.toNat 0],0⟩
 else if x.op=33 then ⟨I,loc.set x.a.toNat (top stk 0),low stk 1,0⟩
 else if x.op=34 then ⟨I,loc.set x.a.toNat (top stk 0),stk,0⟩
 else if x.op=35 then ⟨I,loc,stk++[I.Zg.getD x.a.toNat 0],0⟩
 else if x.op=36 then ⟨{ I with Zg:=I.Zg.set x.a.toNat (top stk 0) },loc,low stk 1,0⟩
 else if x.op=65∨x.op=66 then ⟨I,loc,stk++[x.a],0⟩
 else if x.op=63 then ⟨I,loc,stk++[((I.mem.length / 256:Nat):Int)],0⟩
 else if x.op=64 then
  if most-((I.mem.length / 256:Nat):Int)<top stk 0 % 4294967296 then ⟨I,loc,low stk 1++[-1],0⟩
  else ⟨{ I with mem:=I.mem++List.replicate (256 * (top stk 0 % 4294967296).toNat) 0 },loc,low stk 1++[((I.mem.length / 256:Nat):Int)],0⟩
 else if 0<wid x.op then
  if 54≤x.op then
   if PM (top stk 1) x.b+wid x.op≤I.mem.length then ⟨{ I with mem:=Mem.ow I.mem (PM (top stk 1) x.b).toNat (Mem.J8 (wid x.op).toNat (top stk 0)) },loc,low stk 2,0⟩
   else ⟨I,loc,low stk 2,23⟩
  else if PM (top stk 0) x.b+wid x.op≤I.mem.length then ⟨I,loc,low stk 1++[Mem.Hy x.op (Mem.KQ ((I.mem.drop (PM (top stk 0) x.b).toNat).take (wid x.op).toNat))],0⟩
  else ⟨I,loc,low stk 1++[0],23⟩
 else if (XE x.op).1.length=1 then ⟨I,loc,low stk 1++[(XG.Vj x.op (top stk 0)).1],(XG.Vj x.op (top stk 0)).2⟩
 else ⟨I,loc,low stk 2++[(XG.Vl x.op (top stk 1) (top stk 0)).1],(XG.Vl x.op (top stk 1) (top stk 0)).2⟩
def fz:Qh:=⟨0,[],[]⟩
def sz:Xm:=⟨[],[]⟩
def W2 (m:Yf) (n:Int):Qh:=m.funcs.getD n.toNat fz
def Rw (m:Yf) (f:Qh):Xm:=m.types.getD f.ty.toNat sz
def WV (m:Yf) (f:Qh):List Int:=(Rw m f).Zc++f.loc
def YD (m:Yf) (n:Int):Xm:=(Xx (ZF m) n).getD sz
def Jr (bd:List ZU) (i:Nat):Int:=match (List.range bd.length).find? (fun e=>decide (i<e) && decide ((bd.getD e Hs).op=11) && decide (tp (Zq bd e)=i)) with
 | some e=>e
 | none=>-1
def KH (bd:List ZU) (i:Nat):Int:=match (List.range bd.length).find? (fun e=>decide (i<e) && decide ((bd.getD e Hs).op=5) && decide (tp (Zq bd e)=i)) with
 | some e=>e
 | none=>-1
def Gf (bd:List ZU):List Int:=(List.range bd.length).map (Jr bd)
def EK (bd:List ZU):List Int:=(List.range bd.length).map (KH bd)
def KG (m:Yf) (f:Qh) (k:Nat):List XT :=
 Lb (Gf f.body) (EK f.body) f.body (Yu (ZF m) (WV m f) f.body (Rw m f)) (Rw m f).out.length k (f.body.getD k Hs)
def YU (m:Yf) (c:YE):ZU:=(W2 m c.fn).body.getD c.at_.toNat Hs
def UN (m:Yf) (c:YE):List XT:=KG m (W2 m c.fn) c.at_.toNat
inductive Ev where
 | free
 | over (vals:List Int)
 | on
 | WH (e:Int)
 | host (f:Int) (vals:List Int)
def Td (c:YE) (w:XT):YE:={ c with at_:=w.at_,stk:=c.stk.take w.height.toNat++c.stk.drop (c.stk.length-w.keep.toNat) }
def RZ (l:List XT) (n:Nat):XT:=l.getD n jz
def YW (m:Yf) (Zr:List Int) (x:ZU) (stk:List Int):Int × List Int × Int :=
 if x.op=16 then (x.a,stk,0)
 else if (Zr.length:Int)≤top stk 0 % 4294967296∨Zr.getD (top stk 0 % 4294967296).toNat 0<0 then (0,low stk 1,24)
 else if (YD m (Zr.getD (top stk 0 % 4294967296).toNat 0)).Zc≠(m.types.getD x.a.toNat sz).Zc∨(YD m (Zr.getD (top stk 0 % 4294967296).toNat 0)).out≠(m.types.getD x.a.toNat sz).out then (0,low stk 1,25)
 else (Zr.getD (top stk 0 % 4294967296).toNat 0,low stk 1,0)
def Y3 (m:Yf):Int:=m.ZB.length
def Sy (m:Yf) (I:Sr) (up:List YE) (c:YE) (x:ZU):MS × Ev :=
 let q:=YW m I.Zr x c.stk
 if q.2.2≠0 then (⟨I,[],0⟩,.WH q.2.2)
 else
  let n:=q.2.1.length-(YD m q.1).Zc.length
  if Y3 m≤q.1∧up.length+1=40 then (⟨I,[],0⟩,.WH 26)
  else if q.1<Y3 m then (⟨I,up++[{ c with stk:=q.2.1.take n }],q.1+1⟩,.host q.1 (q.2.1.drop n))
  else (⟨I,up++[{ c with stk:=q.2.1.take n }]++[⟨q.1-Y3 m,0,q.2.1.drop n++List.replicate (W2 m (q.1-Y3 m)).loc.length 0,[]⟩],0⟩,.on)
def Ss (c:YE):YE:={ c with stk:=low c.stk 1 }
def XH (c:YE):YE:={ c with at_:=c.at_+1 }
noncomputable def LB (m:Yf) (I:Sr) (up:List YE) (c:YE):MS × Ev :=
 let x:=YU m c
 let ws:=UN m c
 let c1:=XH c
 if x.op=0 then (⟨I,[],0⟩,.WH 20)
 else if x.op=1∨x.op=2∨x.op=3 then (⟨I,up++[c1],0⟩,.on)
 else if x.op=4 then (⟨I,up++[if top c.stk 0=0 then Td (Ss c1) (RZ ws 0) else Ss c1],0⟩,.on)
 else if x.op=12∨x.op=15 then (⟨I,up++[Td c1 (RZ ws 0)],0⟩,.on)
 else if x.op=13 then (⟨I,up++[if top c.stk 0=0 then Ss c1 else Td (Ss c1) (RZ ws 0)],0⟩,.on)
 else if x.op=14 then (⟨I,up++[Td (Ss c1) (RZ ws (min (top c.stk 0 % 4294967296) (ws.length-1)).toNat)],0⟩,.on)
 else if x.op=16∨x.op=17 then Sy m I up c1 x
 else
  let d:=VY m.most x I c.loc c.stk
  if d.e≠0 then (⟨d.ins,[],0⟩,.WH d.e) else (⟨d.ins,up++[{ c1 with loc:=d.loc,stk:=d.stk }],0⟩,.on)
def addTop (up:List YE) (vals:List Int):List YE:=match up.getLast? with
 | none=>[]
 | some u=>up.dropLast++[{ u with stk:=u.stk++vals }]
noncomputable def T8 (m:Yf) (I:Sr) (up:List YE) (c:YE):MS × Ev :=
 let x:=YU m c
 if x.op=11 then
  if c.at_+1=(W2 m c.fn).body.length then
   if up=[] then (⟨I,[],0⟩,.over c.stk) else (⟨I,addTop up c.stk,0⟩,.free)
  else (⟨I,up++[XH c],0⟩,.free)
 else if x.op=5 then (⟨I,up++[Td c (RZ (UN m c) 0)],0⟩,.free)
 else LB m I up c
def Jq (m:Yf) (S S':MS) (ev:Ev):Prop:=∃up c,S.calls=up++[c]∧(S',ev)=T8 m S.ins up c
theorem Jq.Sq {m:Yf} {S S1 S2:MS} {e1 e2:Ev} (h1:Jq m S S1 e1) (h2:Jq m S S2 e2):S1=S2∧e1=e2:=by
 obtain ⟨u1,c1,a1,b1⟩:=h1
 obtain ⟨u2,c2,a2,b2⟩:=h2
 obtain ⟨rfl,h⟩:=List.append_inj' (a1.symm.trans a2) rfl
 obtain rfl:=lWb.1 h
 have:=b1.trans b2.symm
 injection this with h1 h2
 exact ⟨h1,h2⟩
inductive Sp (m:Yf):MS→Nat→MS→SI→Prop
 | free {S S' T:MS} {n:Nat} {o:SI}:Jq m S S' .free→Sp m S' n T o→Sp m S n T o
 | over {S S':MS} {n:Nat} {vals:List Int}:Jq m S S' (.over vals)→Sp m S n S' ⟨1,vals,0,0,n⟩
 | stop {S S':MS} {ev:Ev}:Jq m S S' ev→(ev≠.free∧∀v,ev≠.over v)→Sp m S 0 S ⟨3,[],0,0,0⟩
 | goes {S S' T:MS} {n:Nat} {o:SI}:Jq m S S' .on→Sp m S' n T o→Sp m S (n+1) T o
 | WH {S S':MS} {n:Nat} {e:Int}:Jq m S S' (.WH e)→Sp m S (n+1) S' ⟨2,[],e,0,n⟩
 | host {S S':MS} {n:Nat} {f:Int} {vals:List Int}:Jq m S S' (.host f vals)→Sp m S (n+1) S' ⟨4,vals,0,f,n⟩
theorem Sp.Sq {m:Yf} {S T1:MS} {n:Nat} {o1:SI} (h1:Sp m S n T1 o1):∀{T2:MS} {o2:SI},Sp m S n T2 o2→T1=T2∧o1=o2:=by
 induction h1 with
 | free s1 _ ih =>
  intro T2 o2 h2
  cases h2 with
  | free s2 r2=>obtain ⟨rfl,_⟩:=s1.Sq s2;exact ih r2
  | over s2=>exact absurd (s1.Sq s2).2 qs
  | stop s2 hn=>exact absurd (s1.Sq s2).2.symm hn.1
  | goes s2 _=>exact absurd (s1.Sq s2).2 qs
  | WH s2=>exact absurd (s1.Sq s2).2 qs
  | host s2=>exact absurd (s1.Sq s2).2 qs
 | over s1 =>
  intro T2 o2 h2
  cases h2 with
  | free s2 r2=>exact absurd (s1.Sq s2).2 qs
  | over s2=>obtain ⟨rfl,h⟩:=s1.Sq s2;injection h with h;subst h;exact ⟨rfl,rfl⟩
  | stop s2 hn=>exact absurd (s1.Sq s2).2.symm (hn.2 _)
  | goes s2 _=>exact absurd (s1.Sq s2).2 qs
  | WH s2=>exact absurd (s1.Sq s2).2 qs
  | host s2=>exact absurd (s1.Sq s2).2 qs
 | stop s1 hn =>
  intro T2 o2 h2
  cases h2 with
  | free s2 r2=>exact absurd (s1.Sq s2).2 hn.1
  | over s2=>exact absurd (s1.Sq s2).2 (hn.2 _)
  | stop s2 _=>exact ⟨rfl,rfl⟩
 | goes s1 _ ih =>
  intro T2 o2 h2
  cases h2 with
  | free s2 r2=>exact absurd (s1.Sq s2).2 qs
  | over s2=>exact absurd (s1.Sq s2).2 qs
  | goes s2 r2=>obtain ⟨rfl,_⟩:=s1.Sq s2;exact ih r2
  | WH s2=>exact absurd (s1.Sq s2).2 qs
  | host s2=>exact absurd (s1.Sq s2).2 qs
 | WH s1 =>
  intro T2 o2 h2
  cases h2 with
  | free s2 r2=>exact absurd (s1.Sq s2).2 qs
  | over s2=>exact absurd (s1.Sq s2).2 qs
  | goes s2 r2=>exact absurd (s1.Sq s2).2 qs
  | WH s2=>obtain ⟨rfl,h⟩:=s1.Sq s2;injection h with h;subst h;exact ⟨rfl,rfl⟩
  | host s2=>exact absurd (s1.Sq s2).2 qs
 | host s1 =>
  intro T2 o2 h2
  cases h2 with
  | free s2 r2=>exact absurd (s1.Sq s2).2 qs
  | over s2=>exact absurd (s1.Sq s2).2 qs
  | goes s2 r2=>exact absurd (s1.Sq s2).2 qs
  | WH s2=>exact absurd (s1.Sq s2).2 qs
  | host s2=>obtain ⟨rfl,h⟩:=s1.Sq s2;injection h with h1 h2;subst h1;subst h2;exact ⟨rfl,rfl⟩
theorem Sp.cat {m:Yf} {S T:MS} {a:Nat} {o:SI} (h1:Sp m S a T o):o.e=3→∀{b:Nat} {T2:MS} {o2:SI},Sp m T b T2 o2→Sp m S (a+b) T2 o2:=by
 induction h1 with
 | free s1 _ ih=>exact fun he b T2 o2 h2=>.free s1 (ih he h2)
 | over s1=>intro he;cases he
 | stop s1 hn=>intro he b T2 o2 h2;rw [lwb];exact h2
 | goes s1 _ ih=>intro he b T2 o2 h2;rw [show ∀n,n+1+b=n+b+1 by omega];exact .goes s1 (ih he h2)
 | WH s1=>intro he;cases he
 | host s1=>intro he;cases he
theorem Sp.more {m:Yf} {S T:MS} {a:Nat} {o:SI} (h1:Sp m S a T o) (he:o.e≠3) (b:Nat):Sp m S (a+b) T { o with left:=o.left+b }:=by
 induction h1 with
 | free s1 _ ih=>exact .free s1 (ih he)
 | over s1=>exact .over s1
 | stop s1 hn=>exact absurd rfl he
 | goes s1 _ ih=>rw [show ∀n,n+1+b=n+b+1 by omega];exact .goes s1 (ih he)
 | WH s1=>rw [show ∀n,n+1+b=n+b+1 by omega];exact .WH s1
 | host s1=>rw [show ∀n,n+1+b=n+b+1 by omega];exact .host s1
theorem Sp.ends {m:Yf} {S T:MS} {a:Nat} {o:SI} (h1:Sp m S a T o):0≤o.left∧o.left≤a∧(o.e=1∨o.e=2∨o.e=3∨o.e=4)∧(o.e=3→o.left=0):=by
 induction h1 with
 | free s1 _ ih=>exact ih
 | over s1=>exact ⟨by simp only;omega,by simp only;omega,.inl rfl,fun h=>by cases h⟩
 | stop s1 hn=>exact ⟨by simp only;omega,by simp only;omega,.inr (.inr (.inl rfl)),fun h=>rfl⟩
 | goes s1 _ ih=>exact ⟨ih.1,by omega,ih.2.2⟩
 | WH s1=>exact ⟨by simp only;omega,by simp only;omega,.inr (.inl rfl),fun h=>by cases h⟩
 | host s1=>exact ⟨by simp only;omega,by simp only;omega,.inr (.inr (.inr rfl)),fun h=>by cases h⟩
noncomputable def Vi (ks:List Int) (n:Int):List Int:=ks.map fun k=>Wj.P5 k n
noncomputable def TM (m:Yf) (S:MS) (n:Int):MS :=
 ⟨S.ins,addTop S.calls (Vi (YD m (S.host-1)).out n),0⟩
structure Ia where
 f:Int
 vals:List Int
inductive LA (m:Yf):MS→List Int→Nat→MS→SI→List Ia→Prop
 | host {S S1 T:MS} {H9:List Int} {n k:Nat} {o o2:SI} {l:List Ia}:Sp m S n S1 o→o.e=4→o.left=k→LA m (TM m S1 (H9.headD 0)) H9.tail k T o2 l→LA m S H9 n T o2 (⟨o.host,o.vals⟩::l)
 | fin {S T:MS} {H9:List Int} {n:Nat} {o:SI}:Sp m S n T o→o.e≠4→LA m S H9 n T o []
theorem LA.Sq {m:Yf} {S T1:MS} {H9:List Int} {n:Nat} {o1:SI} {l1:List Ia} (h1:LA m S H9 n T1 o1 l1):∀{T2:MS} {o2:SI} {l2:List Ia},LA m S H9 n T2 o2 l2→T1=T2∧o1=o2∧l1=l2:=by
 induction h1 with
 | host r1 e1 k1 _ ih =>
  intro T2 o2 l2 h2
  cases h2 with
  | host r2 e2 k2 p2 =>
   obtain ⟨rfl,rfl⟩:=r1.Sq r2
   obtain rfl:_=_:=Int.ofNat_inj.1 (k1.symm.trans k2)
   obtain ⟨rfl,rfl,rfl⟩:=ih p2
   exact ⟨rfl,rfl,rfl⟩
  | fin r2 e2=>obtain ⟨rfl,rfl⟩:=r1.Sq r2;exact absurd e1 e2
 | fin r1 e1 =>
  intro T2 o2 l2 h2
  cases h2 with
  | host r2 e2 k2 p2=>obtain ⟨rfl,rfl⟩:=r1.Sq r2;exact absurd e2 e1
  | fin r2 e2=>obtain ⟨rfl,rfl⟩:=r1.Sq r2;exact ⟨rfl,rfl,rfl⟩
theorem LA.ahead {m:Yf} {S S1 T:MS} {H9:List Int} {a b:Nat} {o o2:SI} {l:List Ia} (h:Sp m S a S1 o) (he:o.e=3) (h2:LA m S1 H9 b T o2 l):LA m S H9 (a+b) T o2 l:=by
 cases h2 with
 | host r e k p=>exact .host (h.cat he r) e k p
 | fin r e=>exact .fin (h.cat he r) e
end Rn
namespace Rn
open Go YZ Go.RowKit
open YS Zk XV YQ Valid
def kl (k:Int):List Int:=if k=64 then [] else [k]
theorem aeT (k:Int):((kl k).length:Int)=Xj k:=by unfold kl Xj;split <;> rfl
section
variable {c:Ck} {o:List ZK} {p:ZK} {s u:List Int} {E:Yj} {L Es Ls:List Int} {bd:List ZU} {k:Nat} {x:ZU} {t:Xm}
theorem KF (S:SP c o p s u) {k:Int} (h0:k≠0) (hb:(Zj c k).1.bad=0):∃u',SP (Zj c k).1 o p s u'∧(Live p→u=u'++kl k):=by
 by_cases U2:k=64
 ·subst U2
  rw [acH]
  exact ⟨u,S,fun _=>by simp [kl]⟩
 ·obtain ⟨u',S1,_,h⟩:=S.pop U2 hb
  refine ⟨u',S1,fun hl=>?_⟩
  obtain ⟨q1,_,q3⟩:=h hl
  rw [q1,q3 h0];unfold kl;rw [if_neg U2]
theorem abI (S:SP c o p s u) (h:(Y0 c).bad=0):SP (Y0 c) o p s []∧(Live p→u=kl p.kind):=by
 obtain ⟨h1,h2,h3⟩:=abz h
 rw [S.top] at h1 h2 h3
 obtain ⟨u',S1,hl⟩:=KF S S.kind h1
 rw [h2]
 rw [S1.stk,S.base] at h3
 have:u'=[]:=lqa (by simp at h3;exact lEb.2 h3)
 subst this
 exact ⟨S1,fun hh=>by rw [hl hh];rfl⟩
theorem SP.und {o1:List ZK} {q:ZK} (S:SP c (o1++[q]) p s u) (h:p.under=false):Live q:=by
 have hlv:=S.lv
 rw [h] at hlv
 generalize FA:o1++[q]=oo at hlv
 generalize hb:false=b at hlv
 cases hlv with
 | nil=>exact absurd FA qs
 | snoc l1 l2 l3 l4 =>
  obtain ⟨rfl,h7⟩:=List.append_inj' FA rfl
  obtain rfl:=lWb.1 h7
  exact Bool.or_eq_false_iff.1 hb.symm
theorem SP.ahx (S:SP c [] p s u):s=[]∧p.under=false:=by
 have hlv:=S.lv
 generalize FA:([]:List ZK)=oo at hlv
 generalize hb:p.under=b at hlv
 cases hlv with
 | nil=>exact ⟨rfl,rfl⟩
 | snoc l1 l2 l3 l4=>exact absurd FA qs
structure Rv (E:Yj) (L:List Int) (bd:List ZU) (t:Xm) (k:Nat) (vals:List Int):Prop where
 lt:k<bd.length
 ex:∃o p s u,SP (Zz E L bd (Z0 t) k) o p s u∧p.under=false∧((p.dead=false∧KV (s++u) vals)∨(∃x,bd[k]?=some x∧x.op=11∧KV (s++kl p.kind) vals))
theorem Rv.Lz {vals:List Int} (A:At E L bd (Z0 t) k) (hc:Yp bd=0) (hk:k<bd.length) (h1:(Yu E L bd t k).1=false) (hv:KV (Yu E L bd t k).2 vals):Rv E L bd t k vals:=by
 obtain ⟨o,p,s,u,S⟩:=A.sx (A.ne hc hk)
 have hL:=(Xr S).1.1 h1
 refine ⟨hk,o,p,s,u,S,hL.2,.inl ⟨hL.1,?_⟩⟩
 have e:=(Xr S).2 h1
 unfold Yu at hv
 rw [e,S.stk] at hv;exact hv
theorem Rv.live {vals:List Int} (h:Rv E L bd t k vals) (hx:bd[k]?=some x) (h11:x.op≠11):(Yu E L bd t k).1=false∧KV (Yu E L bd t k).2 vals∧∃o p s u,SP (Zz E L bd (Z0 t) k) o p s u∧Live p∧KV (s++u) vals:=by
 obtain ⟨o,p,s,u,S,hu,h⟩:=h.ex
 rcases h with ⟨h1,h2⟩|⟨y,h1,h2,_⟩
 ·have hL:Live p:=⟨h1,hu⟩
  have e:=(Xr S).1.2 hL
  have e2:=(Xr S).2 e
  refine ⟨e,?_,o,p,s,u,S,hL,h2⟩
  unfold Yu
  rw [e2,S.stk];exact h2
 ·rw [hx] at h1
  obtain rfl:=Option.some.inj h1
  exact absurd h2 h11
theorem SP.keep (S:SP c o p s u) (K:Ju E L) (hx:WK x=0) (h:(Y2 E L c x).bad=0) (h2:x.op≠2) (h3:x.op≠3) (h4:x.op≠4) (h5:x.op≠5) (h11:x.op≠11):∃p' u',SP (Y2 E L c x) o p' s u'∧p'={ p with dead:=p'.dead }:=by
 have ok:∀{c':Ck} {u':List Int},SP c' o p s u'→∃p' u',SP c' o p' s u'∧p'={ p with dead:=p'.dead }:=fun h=>⟨p,_,h,rfl⟩
 have DD:∀{c':Ck} {u':List Int},SP c' o p s u'→∃p' u',SP (U6 c') o p' s u'∧p'={ p with dead:=p'.dead }:=fun h=>⟨_,_,h.die,rfl⟩
 have LL:Ze (YR x.op) x.a x.b:=(UP hx).1
 unfold Y2 at *
 by_cases h1:x.op=1
 ·rw [if_pos h1];exact ok S
 ·rw [if_neg h1] at h ⊢
  by_cases KK:x.op≤15
  ·rw [if_pos KK] at h ⊢
   unfold ZC at *
   by_cases a0:x.op=0
   ·rw [if_pos a0];exact DD S
   ·rw [if_neg a0,if_neg qo,if_neg h4,if_neg h5,if_neg h11] at h ⊢
    by_cases a12:x.op=12
    ·rw [if_pos a12] at h ⊢
     obtain ⟨u1,S1⟩:=S.UG (a:=x.a) h
     exact DD S1
    ·rw [if_neg a12] at h ⊢
     by_cases Ld:x.op=13
     ·rw [if_pos Ld] at h ⊢
      obtain ⟨u1,S1⟩:=S.Wb h
      exact ok S1
     ·rw [if_neg Ld] at h ⊢
      by_cases Gk:x.op=15
      ·rw [if_pos Gk] at h ⊢
       obtain ⟨u1,S1⟩:=S.R0 (k:=(c.Zp.getD 0 pz).kind) h
       exact DD S1
      ·rw [if_neg Gk] at h ⊢
       by_cases Lc:x.op=14
       ·rw [if_pos Lc] at h ⊢
        obtain ⟨u1,S1⟩:=S.XW (a:=x.a) (l:=x.to) h
        exact DD S1
       ·rw [if_neg Lc];exact ok S
  ·rw [if_neg KK] at h ⊢
   by_cases Km:x.op≤17
   ·rw [if_pos Km] at h ⊢
    obtain ⟨u',S1⟩:=S.Wx K h (MN hx qo)
    exact ok S1
   ·rw [if_neg Km] at h ⊢
    by_cases Nk:x.op=26
    ·rw [if_pos Nk] at h ⊢
     obtain ⟨u1,S1⟩:=S.R0 (k:=0) h
     exact ok S1
    ·rw [if_neg Nk] at h ⊢
     by_cases M3:x.op=27
     ·rw [if_pos M3] at h ⊢
      obtain ⟨u1,S1⟩:=S.Xl h
      exact ok S1
     ·rw [if_neg M3] at h ⊢
      by_cases M4:x.op≤36
      ·rw [if_pos M4] at h ⊢
       by_cases Kn:32≤x.op
       ·obtain ⟨u1,S1⟩:=S.YH K h (MN hx qo)
        exact ok S1
       ·exfalso
        have hb:YR x.op≠0:=by
         intro hz
         unfold WK at hx
         rw [if_pos hz] at hx;cases hx
        refine hb ?_
        have hw:wid x.op=0:=by
         unfold wid
         rw [if_neg qo,if_neg qo,if_neg qo,if_neg qo]
        have hnm:(X7 x.op).2.2=false:=by
         unfold X7
         rw [if_neg qo,if_neg qo,if_neg qo,if_neg qo,if_neg qo,if_neg qo,if_neg qo]
        unfold YR
        rw [hw,hnm]
        rw [if_neg qo,if_neg qo,if_neg qo,if_neg qo,if_neg (by decide),if_neg qo,if_neg qo,if_neg qo,if_neg qo,if_neg (by decide)]
      ·rw [if_neg M4] at h ⊢
       obtain ⟨u1,S1,_⟩:=S.W3 h
       exact ok S1
structure Pf (E:Yj) (L:List Int) (bd:List ZU) (t:Xm) (k:Nat):Prop where
 all:∀(j:Nat) (p:ZK) (i:Nat),(Zz E L bd (Z0 t) k).Zp[j]?=some p→(Zq bd k).op[j]?=some (i:Int) →
  (Zz E L bd (Z0 t) k).stack.take p.base=(Zz E L bd (Z0 t) i).stack.take p.base∧(p.under=false↔(Yu E L bd t i).1=false)
theorem Pf.zero:Pf E L bd t 0:=⟨fun j p i h1 h2=>by
 have h2:([-1]:List Int)[j]?=some (i:Int):=h2
 cases j with
 | zero=>have:=Option.some.inj h2;omega
 | succ j=>simp at h2⟩
theorem acK {α:Type} {a b:List α} {n k:Nat} (h:a.take n=b.take n) (hk:k≤n):a.take k=b.take k:=by
 have:=congrArg (List.take k) h
 rwa [List.take_take,List.take_take,lob hk] at this
theorem Pf.step (h:Pf E L bd t k) (A:At E L bd (Z0 t) k) (hc:Yp bd=0) (hr:(V4 E L bd (Z0 t)).bad=0) (K:Ju E L) (hx:bd[k]?=some x):Pf E L bd t (k+1):=by
 have hlt:=(lca.1 hx).1
 obtain ⟨h1,h2,A2⟩:=A.step hc hr K hx
 obtain ⟨_,hS,_⟩:=Zb hc
 have OU:=(hS k x hlt hx).1
 have hn:=(hS k x hlt hx).2
 have ho:=Xk hc hlt
 obtain ⟨o,p,s,u,S⟩:=A.sx (A.ne hc hlt)
 have hB:=Yo hx
 have hlen:=A.len
 have Nj:Zs (Zq bd k) x.op k=((Zq bd (k+1)),(Zs (Zq bd k) x.op k).2.1,0):=by rw [hB,←hn]
 have hst:Zq bd k=⟨(Zq bd k).op,(Zq bd k).last,false⟩:=by
  cases hq:Zq bd k with
  | mk a b c=>rw [hq] at ho;rw [show c=false from ho]
 have hall:=h.all
 have Rk:∀q∈(Zz E L bd (Z0 t) k).Zp,q.base≤s.length:=fun q hq=>(S.below q hq).1
 have P0:=S.stk
 have L5:=S.Zp
 generalize hop:(Zq bd k).op=op at *
 generalize hla:(Zq bd k).last=last at *
 rw [hst] at Nj
 have old:∀{n:Nat},(Zz E L bd (Z0 t) (k+1)).stack.take n=(Zz E L bd (Z0 t) k).stack.take n→∀{j:Nat} {q q0:ZK} {i:Nat},(Zz E L bd (Z0 t) k).Zp[j]?=some q0→q={ q0 with dead:=q.dead }→op[j]?=some (i:Int)→q0.base≤n →
   (Zz E L bd (Z0 t) (k+1)).stack.take q.base=(Zz E L bd (Z0 t) i).stack.take q.base∧(q.under=false↔(Yu E L bd t i).1=false):=by
  intro n hn2 j q q0 i hj he hi hle
  obtain ⟨a1,a2⟩:=hall j q0 i hj hi
  rw [he]
  exact ⟨(acK hn2 hle).trans a1,a2⟩
 rcases Yg Nj with ⟨OT,e⟩|⟨OT,h4,e,_⟩|⟨OT,e,_⟩|⟨OT,e⟩
 ·
  have akM:∃(s2:List Int),(Zz E L bd (Z0 t) (k+1)).Zp=(Zz E L bd (Z0 t) k).Zp++[⟨x.op,x.a,s2.length,false,p.dead || p.under⟩]∧(Zz E L bd (Z0 t) (k+1)).stack=s2∧s2.take s2.length=(Zz E L bd (Z0 t) k).stack.take s2.length∧s.length≤s2.length:=by
   rw [h2]
   have hun:∀c':Ck,c'.Zp=(Zz E L bd (Z0 t) k).Zp→Ue c'=(p.dead || p.under):=fun c' Gw=>by
    have ht:WS c'=p:=Rz (Gw.trans S.Zp)
    unfold Ue;rw [if_neg (by rw [Gw,S.Zp];simp),ht]
   unfold Y2 at h1 ⊢
   rw [if_neg qo,if_pos qo] at h1 ⊢
   unfold ZC at h1 ⊢
   rw [if_neg qo] at h1 ⊢
   by_cases h23:x.op=2∨x.op=3
   ·rw [if_pos h23]
    refine ⟨(Zz E L bd (Z0 t) k).stack,by show _++[_]=_;rw [hun _ rfl],rfl,rfl,by rw [P0,lba];omega⟩
   ·rw [if_neg h23,if_pos qo] at h1 ⊢
    obtain ⟨u1,S1,Rl,_⟩:=S.pop (k:=127) (by decide) h1
    refine ⟨s++u1,?_,S1.stk,?_,by rw [lba];omega⟩
    ·show _++[_]=_
     rw [YF,hun _ (YF _ _),S1.stk]
    ·rw [lHb,P0]
     rcases Rl with rfl|⟨y,rfl⟩
     ·rw [lHb]
     ·rw [←lma,lJb]
  obtain ⟨s2,e2,e3,e4,e5⟩:=akM
  refine ⟨fun j q i hj hi=>?_⟩
  rw [e] at hi
  rw [e2,lVa] at hj
  split at hj
  ·rename_i hjl
   have hi:op[j]?=some (i:Int):=by
    have hi:(op++[(k:Int)])[j]?=some (i:Int):=hi
    rw [loa qo] at hi;exact hi
   refine old (n:=s2.length) (by rw [e3];exact e4) hj rfl hi ?_
   have:=Rk q (lha hj)
   omega
  ·rename_i hjl
   have hj0:j-(Zz E L bd (Z0 t) k).Zp.length=0:=by
    have:=(lca.1 hj).1
    simp at this;omega
   rw [hj0] at hj
   obtain rfl:=Option.some.inj hj
   have hik:(i:Int)=k:=by
    have hi:(op++[(k:Int)])[j]?=some (i:Int):=hi
    rw [lsa qo,show j-op.length=0 by omega] at hi
    exact (Option.some.inj hi).symm
   obtain rfl:i=k:=by omega
   refine ⟨by rw [e3];exact e4,?_⟩
   show (p.dead || p.under)=false↔_
   rw [Bool.or_eq_false_iff]
   exact (Xr S).1.symm
 ·
  have e2:SP (Zz E L bd (Z0 t) (k+1)) o ⟨5,p.kind,p.base,false,p.under⟩ s []:=by
   rw [h2]
   unfold Y2 at h1 ⊢
   rw [if_neg qo,if_pos qo] at h1 ⊢
   unfold ZC at h1 ⊢
   rw [if_neg qo,if_neg qo,if_neg qo,if_pos OT] at h1 ⊢
   exact (S.Q9 h1).1
  have hn2:(Zz E L bd (Z0 t) (k+1)).stack.take s.length=(Zz E L bd (Z0 t) k).stack.take s.length:=by rw [e2.stk,P0,lJb,lJb]
  refine ⟨fun j q i hj hi=>?_⟩
  have hi:op[j]?=some (i:Int):=by rw [e] at hi;exact hi
  rw [e2.Zp,lVa] at hj
  split at hj
  ·rename_i hjl
   have hj2:(Zz E L bd (Z0 t) k).Zp[j]?=some q:=by rw [L5,loa hjl];exact hj
   exact old hn2 hj2 rfl hi (Rk q (lha hj2))
  ·rename_i hjl
   have hj0:j-o.length=0:=by
    have:=(lca.1 hj).1
    simp at this;omega
   rw [hj0] at hj
   obtain rfl:=Option.some.inj hj
   obtain rfl:j=o.length:=by omega
   have hj2:(Zz E L bd (Z0 t) k).Zp[o.length]?=some p:=by rw [L5,lsa (lra _),lqb];rfl
   obtain ⟨b1,b2⟩:=hall _ _ i hj2 hi
   exact ⟨(acK hn2 (Rk p (lha hj2))).trans b1,b2⟩
 ·
  have h3:(TA (Zz E L bd (Z0 t) k)).bad=0∧Y2 E L (Zz E L bd (Z0 t) k) x=TA (Zz E L bd (Z0 t) k):=by
   unfold Y2 at h1 ⊢
   rw [if_neg qo,if_pos qo] at h1 ⊢
   unfold ZC at h1 ⊢
   rw [if_neg qo,if_neg qo,if_neg qo,if_neg qo,if_pos OT] at h1 ⊢
   exact ⟨h1,rfl⟩
  rw [h3.2] at h2
  obtain ⟨_,_,q1,q2⟩:=S.end_ h3.1
  refine ⟨fun j q i hj hi=>?_⟩
  have hj:o[j]?=some q:=by rw [h2,q1] at hj;exact hj
  rw [e] at hi
  obtain ⟨_,hi⟩:=NO hi
  rcases lgb o with rfl|⟨o1,z,rfl⟩
  ·simp at hj
  ·rw [lab0] at *
   obtain ⟨s1,u1,rfl,S2⟩:=q2 o1 z rfl
   have hn2:(Zz E L bd (Z0 t) (k+1)).stack.take s1.length=(Zz E L bd (Z0 t) k).stack.take s1.length:=by rw [h2,S2.stk,P0,lJb,lma,lJb]
   have hj2:(Zz E L bd (Z0 t) k).Zp[j]?=some q:=by
    rw [L5,loa (lca.1 hj).1];exact hj
   refine old hn2 hj2 rfl hi ?_
   exact (S2.below q (by rw [S2.Zp];exact lha hj)).1
 ·obtain ⟨p',u',S1,hp⟩:=SP.keep S K OU h1 OT.1 OT.2.1 OT.2.2.1 OT.2.2.2.1 OT.2.2.2.2
  rw [←h2] at S1
  have hn2:(Zz E L bd (Z0 t) (k+1)).stack.take s.length=(Zz E L bd (Z0 t) k).stack.take s.length:=by rw [S1.stk,P0,lJb,lJb]
  refine ⟨fun j q i hj hi=>?_⟩
  have hi:op[j]?=some (i:Int):=by rw [e] at hi;exact hi
  rw [S1.Zp,lVa] at hj
  split at hj
  ·rename_i hjl
   have hj2:(Zz E L bd (Z0 t) k).Zp[j]?=some q:=by rw [L5,loa hjl];exact hj
   exact old hn2 hj2 rfl hi (Rk q (lha hj2))
  ·rename_i hjl
   have hj0:j-o.length=0:=by
    have:=(lca.1 hj).1
    simp at this;omega
   rw [hj0] at hj
   obtain rfl:=Option.some.inj hj
   obtain rfl:j=o.length:=by omega
   have hj2:(Zz E L bd (Z0 t) k).Zp[o.length]?=some p:=by rw [L5,lsa (lra _),lqb];rfl
   exact old hn2 hj2 hp hi (Rk p (lha hj2))
theorem Pf.every (S:Ve E L bd t Es Ls):∀k,k≤bd.length→Pf E L bd t k
 | 0,_=>.zero
 | k+1,hk=>(Pf.every S k qo).step (S.at_ qo) S.hc S.hr S.K (laa hk)
end
end Rn
namespace Rn
open Go YZ Go.RowKit
open YS Zk XV YQ Valid
section
variable {c:Ck} {o:List ZK} {p:ZK} {s u:List Int} {E:Yj} {L Es Ls Es' Ls':List Int} {bd:List ZU} {k:Nat} {x:ZU} {t:Xm}
theorem acL {k:Nat} (hc:Yp bd=0) (hk:k<bd.length):Zq bd k=⟨(Zq bd k).op,(Zq bd k).last,false⟩:=by
 have ho:=Xk hc hk
 cases hq:Zq bd k with
 | mk a b c=>rw [hq] at ho;rw [show c=false from ho]
theorem TL (hc:Yp bd=0) (hx:bd[k]?=some x):∃is,Zs ⟨(Zq bd k).op,(Zq bd k).last,false⟩ x.op k=(Zq bd (k+1),is,0):=by
 have hlt:=(lca.1 hx).1
 obtain ⟨_,hS,_⟩:=Zb hc
 have hn:=(hS k x hlt hx).2
 refine ⟨(Zs (Zq bd k) x.op k).2.1,?_⟩
 rw [←acL hc hlt,Yo hx,←hn]
theorem NL (hc:Yp bd=0):∀k,k≤bd.length→∃Es Ls,MK bd k (Zq bd k) Es Ls
 | 0,_=>⟨List.replicate bd.length 0,List.replicate bd.length 0,MK.zero lja lja⟩
 | k+1,hk=>by
  obtain ⟨Es,Ls,h⟩:=NL hc k qo
  have hx:bd[k]?=some bd[k]:=laa qo
  obtain ⟨is,hn⟩:=TL hc hx
  rw [acL hc (show k<bd.length by omega)] at h
  by_cases h5:bd[k].op=5
  ·exact ⟨_,_,(h.Vb hx hn h5).1⟩
  ·by_cases h11:bd[k].op=11
   ·rcases h.Th hx hn h11 with ⟨_,h⟩|⟨_,_,_,_,_,h⟩|⟨_,_,_,_,_,_,h⟩
    ·exact ⟨_,_,h⟩
    ·exact ⟨_,_,h⟩
    ·exact ⟨_,_,h⟩
   ·exact ⟨_,_,h.N0 hx hn h5 h11⟩
theorem snd_mk (hc:Yp bd=0) (hr:(V4 E L bd (Z0 t)).bad=0) (K:Ju E L) (tk:∀k∈t.out,Kd k) (tl:t.out.length≤1):∃Es Ls,Ve E L bd t Es Ls:=by
 obtain ⟨Es,Ls,h⟩:=NL hc bd.length (lra _)
 refine ⟨Es,Ls,hc,hr,K,tk,tl,(Zq bd bd.length).op,(Zq bd bd.length).last,?_⟩
 have ho:=(Zb hc).2.2
 have:Zq bd bd.length=⟨(Zq bd bd.length).op,(Zq bd bd.length).last,true⟩:=by
  cases hq:Zq bd bd.length with
  | mk a b c=>rw [hq] at ho;rw [show c=true from ho]
 rw [←this];exact h
theorem Ly (hc:Yp bd=0) (hk:k≤bd.length) {m:Int} (hm:m∈(Zq bd k).op):m=-1∨∃i:Nat,m=i∧i<k∧Zp bd i:=by
 obtain ⟨_,_,h⟩:=NL hc k hk
 exact h.mi.mem m hm
theorem NK (hc:Yp bd=0) (hk:k≤bd.length):(Zq bd k).op.Pairwise (·<·):=by
 obtain ⟨_,_,h⟩:=NL hc k hk
 exact h.mi.inc
theorem QH (hc:Yp bd=0) (hk:k<bd.length):(Zq bd k).op[0]?=some (-1)∧(Zq bd k).last[0]?=some 2:=by
 obtain ⟨_,_,h⟩:=NL hc k qo
 exact h.mi.root (Xk hc hk)
theorem gone (hc:Yp bd=0) {i:Nat}:∀(d k:Nat),k+d≤bd.length→i<k→(i:Int)∉(Zq bd k).op→(i:Int)∉(Zq bd (k+d)).op
 | 0,k,_,_,h=>h
 | d+1,k,hk,hi,h=>by
  have ih:=gone hc d k qo hi h
  have hx:bd[k+d]?=some bd[k+d]:=laa qo
  obtain ⟨is,hn⟩:=TL hc hx
  rw [←lVb]
  rcases Yg hn with ⟨_,e⟩|⟨_,_,e,_⟩|⟨_,e,_⟩|⟨_,e⟩
  ·rw [e]
   intro hm
   rcases lFa.1 hm with hm|hm
   ·exact ih hm
   ·have:=lta.1 hm;omega
  ·rw [e];exact ih
  ·rw [e];exact fun hm=>ih (lrb hm)
  ·rw [e];exact ih
theorem NJ (hc:Yp bd=0) (hk:k<bd.length):tp (Zq bd k)∈(Zq bd k).op:=by
 have:=(X6 bd k).pos (Xk hc hk)
 unfold tp
 rw [lea,laa qo]
 exact lbb _
theorem PZ (hc:Yp bd=0) (hx:bd[k]?=some x) (h11:x.op=11):tp (Zq bd k)∉(Zq bd (k+1)).op:=by
 have hlt:=(lca.1 hx).1
 obtain ⟨is,hn⟩:=TL hc hx
 have hp:=(X6 bd k).pos (Xk hc hlt)
 rcases Yg hn with ⟨h,_⟩|⟨h,_⟩|⟨_,e,_⟩|⟨h,_⟩
 ·omega
 ·omega
 ·rw [e]
  intro hm
  obtain ⟨j,hj,e2⟩:=lFb.1 hm
  have hj2:((Zq bd k).op.take ((Zq bd k).op.length-1))[j]?=some (tp (Zq bd k)):=by rw [←e2];exact laa hj
  obtain ⟨hjl,hj3⟩:=NO hj2
  have hl:(Zq bd k).op[(Zq bd k).op.length-1]?=some (tp (Zq bd k)):=by
   unfold tp
   rw [lea,laa qo];rfl
  have:=Sd (NK hc (ldb hlt)) hj3 hl
  omega
 ·exact absurd h11 h.2.2.2.2
theorem aeU (hc:Yp bd=0) {i e1 e2:Nat} {y1 y2:ZU} (h1:bd[e1]?=some y1) (h2:bd[e2]?=some y2) (o1:y1.op=11) (o2:y2.op=11) (t1:tp (Zq bd e1)=i) (t2:tp (Zq bd e2)=i) (i1:i<e1) (i2:i<e2):e1=e2:=by
 have key:∀{a b:Nat} {x y:ZU},bd[a]?=some x→bd[b]?=some y→x.op=11→tp (Zq bd a)=i→tp (Zq bd b)=i→i<a→a<b→False:=by
  intro a b x y hx hy am2 ta tb ia hab
  have hb:=(lca.1 hy).1
  have g:=PZ hc hx am2
  rw [ta] at g
  have g2:=gone hc (b-(a+1)) (a+1) qo qo g
  rw [show a+1+(b-(a+1))=b by omega] at g2
  exact g2 (tb ▸ NJ hc hb)
 rcases Nat.lt_trichotomy e1 e2 with h|h|h
 ·exact (key h1 h2 o1 t1 t2 i1 h).elim
 ·exact h
 ·exact (key h2 h1 o2 t2 t1 i2 h).elim
theorem Pa (hc:Yp bd=0) {i:Nat}:∀(d k j:Nat),k+d≤bd.length→(Zq bd k).op[j]?=some (i:Int)→(Zq bd k).last[j]?=some 5→(Zq bd (k+d)).op[j]?=some (i:Int)→(Zq bd (k+d)).last[j]?=some 5
 | 0,k,j,_,_,h,_=>h
 | d+1,k,j,hk,hi,h,h2=>by
  have hx:bd[k+d]?=some bd[k+d]:=laa qo
  obtain ⟨is,hn⟩:=TL hc hx
  have hik:i<k:=by
   rcases Ly hc (show k≤bd.length by omega) (lha hi) with h|⟨i',h,h3,_⟩ <;> omega
  rw [←lVb] at h2 ⊢
  have hlen:=(X6 bd (k+d)).len
  rcases Yg hn with ⟨_,e⟩|⟨_,h4,e,_⟩|⟨_,e,_⟩|⟨_,e⟩
  ·rw [e] at h2 ⊢
   have h2:((Zq bd (k+d)).op++[((k+d:Nat):Int)])[j]?=some (i:Int):=h2
   rw [lVa] at h2
   split at h2
   ·rename_i hjl
    have ih:=Pa hc d k j qo hi h h2
    show (_++_)[j]?=_
    rw [loa qo];exact ih
   ·rename_i hjl
    have hj0:j-(Zq bd (k+d)).op.length=0:=by
     have:=(lca.1 h2).1
     simp at this;omega
    rw [hj0] at h2
    have:=Option.some.inj h2
    omega
  ·rw [e] at h2 ⊢
   have ih:=Pa hc d k j qo hi h h2
   show (List.set _ _ _)[j]?=_
   rw [lPa]
   split
   ·rename_i hj
    subst hj
    rw [if_pos (lca.1 ih).1]
   ·exact ih
  ·rw [e] at h2 ⊢
   obtain ⟨hjl,h3⟩:=NO h2
   exact T9 qo (Pa hc d k j qo hi h h3)
  ·rw [e] at h2 ⊢
   exact Pa hc d k j qo hi h h2
theorem abJ (hc:Yp bd=0) {i e1 e2:Nat} {y1 y2:ZU} (h1:bd[e1]?=some y1) (h2:bd[e2]?=some y2) (o1:y1.op=5) (o2:y2.op=5) (t1:tp (Zq bd e1)=i) (t2:tp (Zq bd e2)=i) (i1:i<e1) (i2:i<e2):e1=e2:=by
 have key:∀{a b:Nat} {x y:ZU},bd[a]?=some x→bd[b]?=some y→x.op=5→y.op=5→tp (Zq bd a)=i→tp (Zq bd b)=i→i<a→a<b→False:=by
  intro a b x y hx hy G1 hy5 ta tb ia hab
  have ha:=(lca.1 hx).1
  have hb:=(lca.1 hy).1
  obtain ⟨is,hn⟩:=TL hc hx
  obtain ⟨is2,hn2⟩:=TL hc hy
  have pa:=(X6 bd a).pos (Xk hc ha)
  have pb:=(X6 bd b).pos (Xk hc hb)
  have hla:=(X6 bd a).len
  have top:∀{q:Nat},0<(Zq bd q).op.length→(Zq bd q).op[(Zq bd q).op.length-1]?=some (tp (Zq bd q)):=fun {q} hq=>by
   unfold tp
   rw [lea,laa qo];rfl
  have h4:(Zq bd b).last.getD ((Zq bd b).op.length-1) 0=4:=by
   rcases Yg hn2 with ⟨h,_⟩|⟨_,h4,_⟩|⟨h,_⟩|⟨h,_⟩
   ·omega
   ·exact h4
   ·omega
   ·exact absurd hy5 h.2.2.2.1
  have hA:(Zq bd (a+1)).op[(Zq bd a).op.length-1]?=some (i:Int)∧(Zq bd (a+1)).last[(Zq bd a).op.length-1]?=some 5:=by
   rcases Yg hn with ⟨h,_⟩|⟨_,_,e,_⟩|⟨h,_⟩|⟨h,_⟩
   ·omega
   ·rw [e]
    refine ⟨by rw [←ta];exact top pa,?_⟩
    show (List.set _ _ _)[_]?=_
    rw [lyb qo]
   ·omega
   ·exact absurd G1 h.2.2.2.1
  have GM:=top pb
  rw [tb] at GM
  have stay:∀d,a+1+d≤b→(Zq bd (a+1+d)).op[(Zq bd a).op.length-1]?=some (i:Int):=by
   intro d
   induction d with
   | zero=>intro _;exact hA.1
   | succ d ih =>
    intro hd
    have ih:=ih qo
    have hz:bd[a+1+d]?=some bd[a+1+d]:=laa qo
    obtain ⟨is3,CU⟩:=TL hc hz
    rw [←lVb]
    rcases Yg CU with ⟨_,e⟩|⟨_,_,e,_⟩|⟨h11,e,_⟩|⟨_,e⟩
    ·rw [e];show (_++_)[_]?=_;rw [loa (lca.1 ih).1];exact ih
    ·rw [e];exact ih
    ·rw [e]
     have hl:=(lca.1 ih).1
     by_cases hj:(Zq bd a).op.length-1<(Zq bd (a+1+d)).op.length-1
     ·exact T9 hj ih
     ·exfalso
      have:(Zq bd a).op.length-1=(Zq bd (a+1+d)).op.length-1:=by omega
      rw [this,top qo] at ih
      have g:=PZ hc hz h11
      rw [Option.some.inj ih] at g
      have g2:=gone hc (b-(a+1+d+1)) (a+1+d+1) qo qo g
      rw [show a+1+d+1+(b-(a+1+d+1))=b by omega] at g2
      exact g2 (tb ▸ NJ hc hb)
    ·rw [e];exact ih
  have hst:=stay (b-(a+1)) qo
  rw [show a+1+(b-(a+1))=b by omega] at hst
  have Fs:=Pa hc (b-(a+1)) (a+1) _ qo hA.1 hA.2 (by rw [show a+1+(b-(a+1))=b by omega];exact hst)
  rw [show a+1+(b-(a+1))=b by omega] at Fs
  have CT:=Sd (NK hc (ldb hb)) hst GM
  rw [CT] at Fs
  rw [lea,Fs] at h4
  cases h4
 rcases Nat.lt_trichotomy e1 e2 with h|h|h
 ·exact (key h1 h2 o1 o2 t1 t2 i1 h).elim
 ·exact h
 ·exact (key h2 h1 o2 o1 t2 t1 i2 h).elim
theorem acM {n:Nat} {P:Nat→Bool} {e:Nat} (he:e<n) (hP:P e=true) (hu:∀e',e'<n→P e'=true→e'=e):(List.range n).find? P=some e:=by
 cases h:(List.range n).find? P with
 | none =>
  have:=List.find?_eq_none.1 h e (List.mem_range.2 he)
  exact absurd hP this
 | some e' =>
  rw [hu e' (List.mem_range.1 (List.mem_of_find?_eq_some h)) (List.find?_some h)]
theorem agH {n:Nat} {P:Nat→Bool} (hu:∀e',e'<n→P e'=true→False):(List.range n).find? P=none :=
 List.find?_eq_none.2 fun e' he hp=>hu e' (List.mem_range.1 he) hp
theorem Lx {i:Nat} (hi:i<bd.length):gd (Gf bd) i=Jr bd i∧gd (EK bd) i=KH bd i:=by
 unfold gd Gf EK
 rw [lea,lea]
 simp [hi]
theorem Jp (S:Ve E L bd t Es Ls) {i:Nat} (hx:bd[i]?=some x) (ho:x.op=2∨x.op=3∨x.op=4):gd Es i=gd (Gf bd) i∧gd Ls i=gd (EK bd) i:=by
 have hlt:=(lca.1 hx).1
 obtain ⟨e,y,a1,a2,a3,a4,a5,a6⟩:=S.closed hx ho
 have hel:=(lca.1 a3).1
 rw [(Lx hlt).1,(Lx hlt).2,a1]
 have hend:Jr bd i=e:=by
  unfold Jr
  rw [acM (e:=e) hel ?_ ?_]
  ·rw [VZ a3];simp [a2,a4,a5]
  ·intro e' he' hp
   simp only [Bool.and_eq_true,decide_eq_true_eq] at hp
   obtain ⟨⟨p1,p2⟩,p3⟩:=hp
   have hx':bd[e']?=some bd[e']:=laa he'
   rw [VZ hx'] at p2
   exact aeU S.hc hx' a3 p2 a4 p3 a5 p1 a2
 refine ⟨hend.symm,?_⟩
 rcases a6 with ⟨b1,b2⟩|⟨h,y2,b1,b2,b3,b4,b5,b6⟩
 ·rw [b1]
  unfold KH
  rw [agH]
  intro e' he' hp
  simp only [Bool.and_eq_true,decide_eq_true_eq] at hp
  obtain ⟨⟨p1,p2⟩,p3⟩:=hp
  have hx':bd[e']?=some bd[e']:=laa he'
  rw [VZ hx'] at p2
  obtain ⟨op,last,M⟩:=S.C2
  have hg:gd Ls e'=i:=by rw [M.h e' he' (by rw [Ug hx'];exact p2)];exact p3
  have hle:e'<e:=by
   rcases Nat.lt_trichotomy e' e with h|h|h
   ·exact h
   ·subst h;rw [hx'] at a3;obtain rfl:=Option.some.inj a3;omega
   ·exfalso
    have g:=PZ S.hc a3 a4
    rw [a5] at g
    have g2:=gone S.hc (e'-(e+1)) (e+1) qo qo g
    rw [show e+1+(e'-(e+1))=e' by omega] at g2
    exact g2 (p3 ▸ NJ S.hc he')
  refine b2 ?_
  obtain ⟨is,hn⟩:=TL S.hc hx'
  have pa:=(X6 bd e').pos (Xk S.hc he')
  have pe:=(X6 bd e).pos (Xk S.hc hel)
  have hla:=(X6 bd e').len
  have top:∀{q:Nat},0<(Zq bd q).op.length→(Zq bd q).op[(Zq bd q).op.length-1]?=some (tp (Zq bd q)):=fun {q} hq=>by
   unfold tp
   rw [lea,laa qo];rfl
  have hA:(Zq bd (e'+1)).op[(Zq bd e').op.length-1]?=some (i:Int)∧(Zq bd (e'+1)).last[(Zq bd e').op.length-1]?=some 5:=by
   rcases Yg hn with ⟨h,_⟩|⟨_,_,e0,_⟩|⟨h,_⟩|⟨h,_⟩
   ·omega
   ·rw [e0]
    refine ⟨by rw [←p3];exact top pa,?_⟩
    show (List.set _ _ _)[_]?=_
    rw [lyb qo]
   ·omega
   ·exact absurd p2 h.2.2.2.1
  have stay:∀d,e'+1+d≤e→(Zq bd (e'+1+d)).op[(Zq bd e').op.length-1]?=some (i:Int):=by
   intro d
   induction d with
   | zero=>intro _;exact hA.1
   | succ d ih =>
    intro hd
    have ih:=ih qo
    have hz:bd[e'+1+d]?=some bd[e'+1+d]:=laa qo
    obtain ⟨is3,CU⟩:=TL S.hc hz
    rw [←lVb]
    rcases Yg CU with ⟨_,e0⟩|⟨_,_,e0,_⟩|⟨h11,e0,_⟩|⟨_,e0⟩
    ·rw [e0];show (_++_)[_]?=_;rw [loa (lca.1 ih).1];exact ih
    ·rw [e0];exact ih
    ·rw [e0]
     have hl:=(lca.1 ih).1
     by_cases hj:(Zq bd e').op.length-1<(Zq bd (e'+1+d)).op.length-1
     ·exact T9 hj ih
     ·exfalso
      have:(Zq bd e').op.length-1=(Zq bd (e'+1+d)).op.length-1:=by omega
      rw [this,top qo] at ih
      have g:=PZ S.hc hz h11
      rw [Option.some.inj ih] at g
      have g2:=gone S.hc (e-(e'+1+d+1)) (e'+1+d+1) qo qo g
      rw [show e'+1+d+1+(e-(e'+1+d+1))=e by omega] at g2
      exact g2 (a5 ▸ NJ S.hc hel)
    ·rw [e0];exact ih
  have hst:=stay (e-(e'+1)) qo
  rw [show e'+1+(e-(e'+1))=e by omega] at hst
  have Fs:=Pa S.hc (e-(e'+1)) (e'+1) _ qo hA.1 hA.2 (by rw [show e'+1+(e-(e'+1))=e by omega];exact hst)
  rw [show e'+1+(e-(e'+1))=e by omega] at Fs
  have GM:=top pe
  rw [a5] at GM
  have CT:=Sd (NK S.hc (ldb hel)) hst GM
  rw [CT] at Fs
  unfold Zk.tl
  rw [lea,Fs];rfl
 ·rw [b1]
  unfold KH
  have hhl:=(lca.1 b4).1
  rw [acM (e:=h) hhl ?_ ?_]
  ·rw [VZ b4];simp [b2,b5,b6]
  ·intro e' he' hp
   simp only [Bool.and_eq_true,decide_eq_true_eq] at hp
   obtain ⟨⟨p1,p2⟩,p3⟩:=hp
   have hx':bd[e']?=some bd[e']:=laa he'
   rw [VZ hx'] at p2
   exact abJ S.hc hx' b4 p2 b5 p3 b6 p1 b2
theorem aiF (S:Ve E L bd t Es Ls) {sh:Nat→Bool × List Int} {K0 m:Int} (hm:m=-1∨∃i:Nat,m=i∧i<bd.length∧Zp bd i):jmp Es bd sh K0 m=jmp (Gf bd) bd sh K0 m:=by
 unfold jmp
 rcases hm with rfl|⟨i,rfl,hi,ho⟩
 ·rw [if_pos (by decide),if_pos (by decide)]
 ·have hn:¬(i:Int)<0:=by omega
  rw [if_neg hn,if_neg hn,lka]
  have hx:bd[i]?=some bd[i]:=laa hi
  rw [VZ hx]
  unfold Zp at ho
  rw [Ug hx] at ho
  rw [(Jp S hx ho).1]
theorem aiG (S:Ve E L bd t Es Ls) {sh:Nat→Bool × List Int} {K0:Int} (hk:k≤bd.length):Ur Es bd sh K0 k=Ur (Gf bd) bd sh K0 k:=by
 unfold Ur
 refine List.map_congr_left fun m hm=>aiF S ?_
 rcases Ly S.hc hk hm with h|⟨i,h,h2,h3⟩
 ·exact .inl h
 ·exact .inr ⟨i,h,by omega,h3⟩
theorem acN (S:Ve E L bd t Es Ls) {sh:Nat→Bool × List Int} {K0:Int} (hx:bd[k]?=some x):Lb Es Ls bd sh K0 k x=Lb (Gf bd) (EK bd) bd sh K0 k x:=by
 have hlt:=(lca.1 hx).1
 unfold Lb
 rw [aiG S (ldb hlt)]
 unfold W7
 by_cases h4:x.op=4
 ·rw [(Jp S hx (.inr (.inr h4))).1,(Jp S hx (.inr (.inr h4))).2]
 ·simp only [if_neg h4]
end
end Rn
namespace Rn
open Go YZ Go.RowKit
open YS Zk XV YQ Valid
section
variable {c:Ck} {o:List ZK} {p q:ZK} {s u:List Int} {E:Yj} {L Es Ls Es' Ls' vals:List Int} {bd:List ZU} {k:Nat} {x:ZU} {t:Xm} {w:XT}
structure GL (E:Yj) (L:List Int) (bd:List ZU) (t:Xm) (k:Nat) (q:ZK) (w:XT):Prop where
 CS:0≤w.at_
 h:w.height=q.base
 kp:w.keep=(kl (Zh q)).length
 ty:∀x y,KV ((Zz E L bd (Z0 t) k).stack.take q.base) x→KV (kl (Zh q)) y→Rv E L bd t w.at_.toNat (x++y)
theorem SH {c:Ck} (S:SP c o p s u):c.Zp[o.length]?=some p:=by
 rw [S.Zp,lsa (lra _),lqb];rfl
theorem Ve.goto (S:Ve E L bd t Es Ls) (hk:k<bd.length) {j:Nat} (hj:(Zz E L bd (Z0 t) k).Zp[j]?=some q) (hu:q.under=false) :
  ∃m,(Zq bd k).op[j]?=some m∧GL E L bd t k q (jmp Es bd (Yu E L bd t) t.out.length m):=by
 obtain ⟨m,z,q1,q2,q3⟩:=(S.lk (k:=k) qo).all j q hj
 refine ⟨m,q1,?_⟩
 rcases Ly S.hc (ldb hk) (lha q1) with rfl|⟨i,rfl,hik,DC⟩
 ·obtain ⟨r1,r2⟩:=q3.root rfl
  have hj0:j=0:=Sd (NK S.hc (ldb hk)) q1 (QH S.hc hk).1
  subst hj0
  have hop:q.op=2:=by
   rw [(QH S.hc hk).2] at q2
   rw [←q3.op];exact (Option.some.inj q2).symm
  have hal:Zh q=t.out.getD 0 64:=by unfold Zh;rw [if_neg qo,r1]
  have CR:jmp Es bd (Yu E L bd t) t.out.length (-1)=⟨bd.length-1,t.out.length,0⟩:=if_pos (by decide)
  rw [CR]
  obtain ⟨n,hn⟩:∃n,bd.length=n+1:=⟨bd.length-1,by omega⟩
  have hx:bd[n]?=some bd[n]:=laa qo
  obtain ⟨is,Nj⟩:=TL S.hc hx
  have UL:=(Zb S.hc).2.2
  rw [hn] at UL
  have h11:bd[n].op=11∧(Zq bd n).op.length-1=0:=by
   rcases Yg Nj with ⟨_,e⟩|⟨_,_,e,_⟩|⟨h,e,_⟩|⟨_,e⟩
   ·exact k_V
   ·exact k_V
   ·rw [e] at UL;exact ⟨h,by simpa using UL⟩
   ·exact k_V
  have A:=S.at_ (k:=n) qo
  obtain ⟨o',p',s',u',P⟩:=A.sx (A.ne S.hc qo)
  have hl:=A.len
  have hp:=(X6 bd n).pos (Xk S.hc qo)
  rw [P.Zp,lba,lBa] at hl
  have ho':o'=[]:=lqa qo
  subst ho'
  obtain ⟨hs',IW⟩:=SP.ahx P
  subst hs'
  have T3:p'.kind=t.out.getD 0 64:=by
   obtain ⟨m',z',r3,r4,r5⟩:=(S.lk (k:=n) qo).all 0 p' (SH P)
   rw [(QH S.hc (show n<bd.length by omega)).1] at r3
   obtain rfl:=Option.some.inj r3
   exact (r5.root rfl).1
  refine ⟨by simp only;omega,by simp only;omega,?_,fun x y hx1 hy1=>?_⟩
  ·rw [hal,aeT,S.k0]
  ·have e:((bd.length:Int)-1).toNat=n:=by omega
   simp only [e]
   rw [r2,lfc] at hx1
   rw [hx1.ahv]
   exact ⟨by omega,[],p',[],u',P,IW,.inr ⟨_,hx,h11.1,by rw [T3,←hal];exact hy1⟩⟩
 ·obtain ⟨a1,x,a2,a3,a4,a5,a6⟩:=q3.at_ i rfl
  obtain ⟨b1,b2⟩:=a6 hu
  have hil:i<bd.length:=by omega
  obtain ⟨c1,c2⟩:=(Pf.every S k (ldb hk)).all j q i hj q1
  have Ai:=S.at_ (k:=i) qo
  obtain ⟨oi,pi,si,ui,Pi⟩:=Ai.sx (Ai.ne S.hc hil)
  have hsi:(Yu E L bd t i).2=(Zz E L bd (Z0 t) i).stack:=(Xr Pi).2 b1
  unfold hgt at b2
  have CR:jmp Es bd (Yu E L bd t) t.out.length i=if x.op=3 then ⟨i,0,(Yu E L bd t i).2.length⟩ else ⟨gd Es i,Xj x.a,(Yu E L bd t i).2.length-(if x.op=4 then 1 else 0)⟩:=by
   unfold jmp
   rw [if_neg qo,lka,VZ a2]
  rw [CR]
  by_cases h3:x.op=3
  ·rw [if_pos h3]
   rw [if_neg qo] at b2
   have Fy:q.op=3:=by omega
   have hal:kl (Zh q)=[]:=by unfold Zh;rw [if_pos Fy];rfl
   have hb:q.base=(Zz E L bd (Z0 t) i).stack.length:=by omega
   refine ⟨by simp only;omega,by simp only;rw [hsi];omega,by rw [hal];rfl,fun x1 y1 hx1 hy1=>?_⟩
   rw [hal] at hy1
   rw [hy1.ahv,lua]
   simp only [Int.toNat_natCast]
   rw [c1,hb,lHb] at hx1
   exact Rv.Lz Ai S.hc hil b1 (by rw [hsi];exact hx1)
  ·rw [if_neg h3]
   have Fy:q.op≠3:=by omega
   have hal:Zh q=x.a:=by unfold Zh;rw [if_neg Fy,a3]
   obtain ⟨e,y,d1,d2,d3,d4,d5,_⟩:=S.closed a2 a4
   have hel:=(lca.1 d3).1
   have Ae:=S.at_ (k:=e) qo
   obtain ⟨o',p',s',u',P⟩:=Ae.sx (Ae.ne S.hc hel)
   have hl:=Ae.len
   rw [P.Zp,lba,lBa] at hl
   have O9:(Zq bd e).op[o'.length]?=some (i:Int):=by
    rw [←d5];unfold tp
    rw [←hl,lKa,lea,laa qo];rfl
   obtain ⟨f1,f2⟩:=(Pf.every S e (ldb hel)).all _ p' i (SH P) O9
   have IW:=f2.2 b1
   obtain ⟨m',z',g1,g2,g3⟩:=(S.lk (k:=e) qo).all _ p' (SH P)
   rw [O9] at g1
   obtain rfl:=Option.some.inj g1
   obtain ⟨_,x',k1,k2,_,_,k3⟩:=g3.at_ i rfl
   obtain rfl:x=x':=by rw [a2] at k1;exact Option.some.inj k1
   have k4:=(k3 IW).2
   unfold hgt at k4
   have hbb:p'.base=q.base:=by omega
   refine ⟨by simp only;omega,by simp only;rw [hsi];omega,by rw [hal,aeT],fun x1 y1 hx1 hy1=>?_⟩
   simp only [d1,Int.toNat_natCast]
   refine ⟨hel,o',p',s',u',P,IW,.inr ⟨y,d3,d4,?_⟩⟩
   rw [hal,←k2] at hy1
   refine KV.app ?_ hy1
   have:s'=(Zz E L bd (Z0 t) k).stack.take q.base:=by
    rw [c1,←hbb,←f1,P.base,P.stk,lJb]
   rw [this];exact hx1
structure H8 (E:Yj) (L:List Int) (bd:List ZU) (t:Xm) (w:XT) (vals:List Int):Prop where
 CS:0≤w.at_
 h0:0≤w.height
 k0:0≤w.keep
 k1:w.keep≤1
 fit:w.height+w.keep≤vals.length
 ty:Rv E L bd t w.at_.toNat (vals.take w.height.toNat++vals.drop (vals.length-w.keep.toNat))
theorem ahy (k:Int):(kl k).length≤1:=by unfold kl;split <;> simp
theorem GL.EJ (G:GL E L bd t k q w) {a r:List Int} (hst:∃r',(Zz E L bd (Z0 t) k).stack=a++r') (hb:q.base≤a.length) (hv:KV (a++(r++kl (Zh q))) vals):H8 E L bd t w vals:=by
 rw [←lma] at hv
 obtain ⟨x,y,rfl,h1,h2⟩:=hv.split
 have hy:=h2.len
 have hx:=h1.len
 rw [lba] at hx
 have Rf:=ahy (Zh q)
 have eh:w.height.toNat=q.base:=by have:=G.h;omega
 have ek:w.keep.toNat=y.length:=by have:=G.kp;omega
 have G_h:=G.h
 have anT:=G.kp
 refine ⟨G.CS,by omega,by omega,by omega,by rw [lba];omega,?_⟩
 rw [eh,ek,lba,lKa,List.drop_left,lya qo]
 refine G.ty _ _ ?_ h2
 obtain ⟨r',hr'⟩:=hst
 have h3:=h1.take q.base
 rw [lya hb] at h3
 rw [hr',lya hb];exact h3
theorem Lw {Es:List Int} {sh:Nat→Bool × List Int} {K0 m:Int} {j:Nat} (h:(Zq bd k).op[j]?=some m):(Ur Es bd sh K0 k).getD j jz=jmp Es bd sh K0 m:=by
 unfold Ur
 rw [lea,lva,h];rfl
theorem PY (S:Ve E L bd t Es Ls) (P:SP (Zz E L bd (Z0 t) k) o p s u) (hL:Live p) (hk:k<bd.length) {n:Int} (hn:(YV (Zz E L bd (Z0 t) k) n).1.bad=0) :
  GL E L bd t k (YV (Zz E L bd (Z0 t) k) n).2 (Ww (Ur Es bd (Yu E L bd t) t.out.length k) n)∧(YV (Zz E L bd (Z0 t) k) n).2.base≤s.length∧Zh (YV (Zz E L bd (Z0 t) k) n).2≠0:=by
 have hal:=P.along hn
 obtain ⟨_,b2,b3⟩:=Tw hn
 have hlen:=(S.at_ (k:=k) qo).len
 have hne:0<(Zz E L bd (Z0 t) k).Zp.length:=by rw [P.Zp];simp
 have hi:(Zz E L bd (Z0 t) k).Zp.length-1-n.toNat<(Zz E L bd (Z0 t) k).Zp.length:=by omega
 have hq:=laa hi
 obtain ⟨c1,c2⟩:=P.below _ (lbb hi)
 obtain ⟨m,d1,d2⟩:=Ve.goto S hk hq (c2 hL)
 rw [b3] at hal ⊢
 simp only at hal ⊢
 have e:(Zz E L bd (Z0 t) k).Zp.getD ((Zz E L bd (Z0 t) k).Zp.length-1-n.toNat) pz=(Zz E L bd (Z0 t) k).Zp[(Zz E L bd (Z0 t) k).Zp.length-1-n.toNat]:=by
  rw [lea,hq];rfl
 rw [e] at hal ⊢
 refine ⟨?_,c1,hal⟩
 unfold Ww
 rw [P7,←hlen,Lw d1]
 exact d2
theorem aiH (h:x.op=12):Valid.Y2 E L c x=U6 (UG c x.a):=by unfold Valid.Y2 ZC;simp [h]
theorem aiI (h:x.op=13):Valid.Y2 E L c x=Wb c x.a:=by unfold Valid.Y2 ZC;simp [h]
theorem aiJ (h:x.op=14):Valid.Y2 E L c x=U6 (XW c x.a x.to):=by unfold Valid.Y2 ZC;simp [h]
theorem aiK (h:x.op=15):Valid.Y2 E L c x=U6 (Zj c (c.Zp.getD 0 pz).kind).1:=by unfold Valid.Y2 ZC;simp [h]
theorem aeV (h:x.op=11):Valid.Y2 E L c x=TA c:=by unfold Valid.Y2 ZC;simp [h]
theorem ahz (h:x.op=5):Valid.Y2 E L c x=Vo c:=by unfold Valid.Y2 ZC;simp [h]
theorem akN (h:x.op=4):Valid.Y2 E L c x=Wc (Zj c 127).1 4 x.a:=by unfold Valid.Y2 ZC;simp [h]
theorem aiL (h:x.op=2∨x.op=3):Valid.Y2 E L c x=Wc c x.op x.a:=by
 unfold Valid.Y2 ZC
 rw [if_neg qo,if_pos qo,if_neg qo,if_pos h]
theorem akO (h:x.op=1):Valid.Y2 E L c x=c:=by unfold Valid.Y2;simp [h]
theorem aeW (h:x.op=16∨x.op=17):Valid.Y2 E L c x=Wx E c x:=by
 unfold Valid.Y2
 rw [if_neg qo,if_neg qo,if_pos qo]
theorem aeX (h:x.op=26):Valid.Y2 E L c x=(Zj c 0).1:=by unfold Valid.Y2;simp [h]
theorem aeY (h:x.op=27):Valid.Y2 E L c x=Xl c:=by unfold Valid.Y2;simp [h]
theorem acO (h:32≤x.op∧x.op≤36):Valid.Y2 E L c x=YH E L c x:=by
 unfold Valid.Y2
 rw [if_neg qo,if_neg qo,if_neg qo,if_neg qo,if_neg qo,if_pos qo]
theorem acP (h:36<x.op):Valid.Y2 E L c x=W3 E c x:=by
 unfold Valid.Y2
 rw [if_neg qo,if_neg qo,if_neg qo,if_neg qo,if_neg qo,if_neg qo]
abbrev IV (E:Yj) (L Es Ls:List Int) (bd:List ZU) (t:Xm) (k:Nat) (x:ZU):List XT:=Lb Es Ls bd (Yu E L bd t) t.out.length k x
theorem T7 {sh:Nat→Bool × List Int} {K0:Int} (h:(sh k).1=false):Lb Es Ls bd sh K0 k x=W7 Es Ls (Ur Es bd sh K0 k) sh k x:=by
 unfold Lb;rw [if_neg (by rw [h];decide)]
theorem ahA (S:Ve E L bd t Es Ls) (hx:bd[k]?=some x) (ho:x.op=12) (hT:Rv E L bd t k vals):∃w,IV E L Es Ls bd t k x=[w]∧H8 E L bd t w vals:=by
 have hlt:=(lca.1 hx).1
 obtain ⟨h1,_,_⟩:=(S.at_ (k:=k) qo).step S.hc S.hr S.K hx
 obtain ⟨hl,_,o,p,s,u,P,hL,hv⟩:=hT.live hx qo
 rw [aiH ho] at h1
 have h3:(UG (Zz E L bd (Z0 t) k) x.a).bad=0:=h1
 have h0:=LP h3
 obtain ⟨g1,g2,g3⟩:=PY S P hL hlt h0
 unfold UG at h3
 rw [if_pos h0,P.out h0] at h3
 obtain ⟨u',_,hu⟩:=KF P g3 h3
 refine ⟨Ww (Ur Es bd (Yu E L bd t) t.out.length k) x.a,?_,?_⟩
 ·show Lb _ _ _ _ _ _ _=_
  rw [T7 hl];unfold W7;rw [if_pos (.inl ho)]
 ·rw [hu hL] at hv
  exact g1.EJ ⟨u,P.stk⟩ g2 hv
theorem aeZ (S:Ve E L bd t Es Ls) (hx:bd[k]?=some x) (ho:x.op=15) (hT:Rv E L bd t k vals):∃w,IV E L Es Ls bd t k x=[w]∧H8 E L bd t w vals:=by
 have hlt:=(lca.1 hx).1
 obtain ⟨h1,_,_⟩:=(S.at_ (k:=k) qo).step S.hc S.hr S.K hx
 obtain ⟨hl,_,o,p,s,u,P,hL,hv⟩:=hT.live hx qo
 rw [aiK ho] at h1
 have h3:(Zj (Zz E L bd (Z0 t) k) ((Zz E L bd (Z0 t) k).Zp.getD 0 pz).kind).1.bad=0:=h1
 have hne:0<(Zz E L bd (Z0 t) k).Zp.length:=by rw [P.Zp];simp
 have hq:=laa hne
 obtain ⟨c1,c2⟩:=P.below _ (lbb hne)
 obtain ⟨m,d1,d2⟩:=Ve.goto S hlt hq (c2 hL)
 have e:(Zz E L bd (Z0 t) k).Zp.getD 0 pz=(Zz E L bd (Z0 t) k).Zp[0]:=by rw [lea,hq];rfl
 rw [e] at h3
 have T3:=P.kinds _ (lbb hne)
 obtain ⟨u',_,hu⟩:=KF P T3 h3
 obtain ⟨m',z,q1,q2,q3⟩:=(S.lk (k:=k) qo).all 0 _ hq
 have hop:(Zz E L bd (Z0 t) k).Zp[0].op=2:=by
  rw [(QH S.hc hlt).2] at q2
  rw [←q3.op];exact (Option.some.inj q2).symm
 have hal:Zh (Zz E L bd (Z0 t) k).Zp[0]=(Zz E L bd (Z0 t) k).Zp[0].kind:=by unfold Zh;rw [if_neg qo]
 refine ⟨(Ur Es bd (Yu E L bd t) t.out.length k).getD 0 jz,?_,?_⟩
 ·show Lb _ _ _ _ _ _ _=_
  rw [T7 hl];unfold W7;rw [if_neg qo,if_neg qo,if_pos ho]
 ·rw [Lw d1]
  rw [hu hL,←hal] at hv
  exact d2.EJ ⟨u,P.stk⟩ c1 hv
theorem acQ (S:Ve E L bd t Es Ls) (hx:bd[k]?=some x) (ho:x.op=13) (hT:Rv E L bd t k vals):∃w v0 v,IV E L Es Ls bd t k x=[w]∧vals=v0++[v]∧H8 E L bd t w v0∧(k+1<bd.length→Rv E L bd t (k+1) v0):=by
 have hlt:=(lca.1 hx).1
 obtain ⟨h1,h2,A2⟩:=(S.at_ (k:=k) qo).step S.hc S.hr S.K hx
 obtain ⟨hl,_,o,p,s,u,P,hL,hv⟩:=hT.live hx qo
 rw [aiI ho] at h1 h2
 have h0:(YV (Zz E L bd (Z0 t) k) x.a).1.bad=0:=by
  unfold Wb at h1
  simp only at h1
  by_cases h0:(YV (Zz E L bd (Z0 t) k) x.a).1.bad=0
  ·exact h0
  ·rw [if_neg h0] at h1;exact h1
 obtain ⟨g1,g2,g3⟩:=PY S P hL hlt h0
 unfold Wb at h1 h2
 simp only at h1 h2
 rw [if_pos h0,P.out h0] at h1 h2
 rw [VE] at h1
 obtain ⟨u1,P1,_,Rl⟩:=P.pop (k:=127) (by decide) (WW h1)
 obtain ⟨u2,P2,D7⟩:=KF P1 g3 h1
 obtain ⟨u3,P3,CQ⟩:=P2.push fun _=>g3
 have e1:=(Rl hL).1
 have e2:=D7 hL
 rw [e1,←lma] at hv
 obtain ⟨v0,v,rfl,Tp,LV⟩:=hv.QI
 rw [e2] at Tp
 refine ⟨Ww (Ur Es bd (Yu E L bd t) t.out.length k) x.a,v0,v,?_,rfl,g1.EJ ⟨u,P.stk⟩ g2 Tp,fun Rf=>?_⟩
 ·show Lb _ _ _ _ _ _ _=_
  rw [T7 hl];unfold W7;rw [if_pos (.inr ho)]
 ·rw [←h2] at P3
  refine ⟨Rf,o,p,s,u3,P3,hL.2,.inl ⟨hL.1,?_⟩⟩
  have:u3=u2++kl (Zh (YV (Zz E L bd (Z0 t) k) x.a).2):=by
   rw [CQ];unfold kl;split <;> simp
  rw [this];exact Tp
theorem ae0 (S:Ve E L bd t Es Ls) (hx:bd[k]?=some x) (ho:x.op=14) (hT:Rv E L bd t k vals):∃v0 v,vals=v0++[v]∧(IV E L Es Ls bd t k x).length=x.to.length+1∧∀w∈IV E L Es Ls bd t k x,H8 E L bd t w v0:=by
 have hlt:=(lca.1 hx).1
 obtain ⟨h1,h2,A2⟩:=(S.at_ (k:=k) qo).step S.hc S.hr S.K hx
 obtain ⟨hl,_,o,p,s,u,P,hL,hv⟩:=hT.live hx qo
 rw [aiJ ho] at h1
 have h3:(XW (Zz E L bd (Z0 t) k) x.a x.to).bad=0:=h1
 have key:∀(kk:Int) (l:List Int) (b:Bool),(XD kk l (Zz E L bd (Z0 t) k,b)).1.bad=0→(XD kk l (Zz E L bd (Z0 t) k,b)).2=true→b=true∧∀n∈l,(YV (Zz E L bd (Z0 t) k) n).1.bad=0∧Zh (YV (Zz E L bd (Z0 t) k) n).2=kk:=by
  intro kk l
  induction l with
  | nil=>intro b _ h;exact ⟨h,nofun⟩
  | cons n r ih =>
   intro b hb ht
   rw [XD] at hb ht
   have h0:=SJ kk r _ hb
   simp only at h0 hb ht
   rw [P.out h0] at hb ht
   obtain ⟨i1,i2⟩:=ih _ hb ht
   simp only [Bool.and_eq_true,decide_eq_true_eq] at i1
   refine ⟨i1.2,fun y hy=>?_⟩
   rcases lbc.1 hy with rfl|hy
   ·exact ⟨h0,i1.1⟩
   ·exact i2 y hy
 unfold XW at h3
 simp only at h3
 by_cases h0:(XD (Zh (YV (Zz E L bd (Z0 t) k) x.a).2) x.to ((YV (Zz E L bd (Z0 t) k) x.a).1,true)).1.bad≠0
 ·rw [if_pos h0] at h3;exact absurd h3 h0
 ·rw [if_neg h0] at h3
  have I4:=Decidable.of_not_not h0
  have e:=OG _ x.to _ I4
  simp only at e
  have ha:(YV (Zz E L bd (Z0 t) k) x.a).1.bad=0:=by rw [←e];exact I4
  rw [P.out ha] at h3 I4 e
  rw [e] at h3
  by_cases hs:(XD (Zh (YV (Zz E L bd (Z0 t) k) x.a).2) x.to (Zz E L bd (Z0 t) k,true)).2=true
  ·rw [if_pos hs] at h3
   have hall:=(key _ _ _ I4 hs).2
   obtain ⟨g1,g2,g3⟩:=PY S P hL hlt ha
   obtain ⟨u1,P1,_,Rl⟩:=P.pop (k:=127) (by decide) (WW h3)
   obtain ⟨u2,P2,D7⟩:=KF P1 g3 h3
   have e1:=(Rl hL).1
   have e2:=D7 hL
   rw [e1,←lma] at hv
   obtain ⟨v0,v,rfl,Tp,LV⟩:=hv.QI
   rw [e2] at Tp
   have ew:IV E L Es Ls bd t k x=x.to.map (Ww (Ur Es bd (Yu E L bd t) t.out.length k))++[Ww (Ur Es bd (Yu E L bd t) t.out.length k) x.a]:=by
    show Lb _ _ _ _ _ _ _=_
    rw [T7 hl];unfold W7;rw [if_neg qo,if_pos ho]
   refine ⟨v0,v,rfl,by rw [ew];simp,fun w hw=>?_⟩
   rw [ew] at hw
   rcases lFa.1 hw with hw|hw
   ·obtain ⟨n,hn,rfl⟩:=lnb.1 hw
    obtain ⟨n1,n2⟩:=hall n hn
    obtain ⟨j1,j2,j3⟩:=PY S P hL hlt n1
    exact j1.EJ ⟨u,P.stk⟩ j2 (by rw [n2];exact Tp)
   ·rw [lta.1 hw];exact g1.EJ ⟨u,P.stk⟩ g2 Tp
  ·rw [if_neg hs] at h3
   exact (Yi (by decide) (WW (WW h3))).elim
theorem acR (S:Ve E L bd t Es Ls) (hx:bd[k]?=some x) (ho:x.op=5) (hT:Rv E L bd t k vals):∃w,IV E L Es Ls bd t k x=[w]∧H8 E L bd t w vals:=by
 have hlt:=(lca.1 hx).1
 obtain ⟨h1,h2,A2⟩:=(S.at_ (k:=k) qo).step S.hc S.hr S.K hx
 obtain ⟨hl,_,o,p,s,u,P,hL,hv⟩:=hT.live hx qo
 rw [ahz ho] at h1
 obtain ⟨m,d1,d2⟩:=Ve.goto S hlt (SH P) hL.2
 have hlen:=(S.at_ (k:=k) qo).len
 obtain ⟨p',z,q1,hp4,_⟩:=S.LJ hx ho
 have hop:p.op=4:=by
  obtain ⟨is,hn⟩:=TL S.hc hx
  obtain ⟨m',z',r1,r2,r3⟩:=(S.lk (k:=k) qo).all _ p (SH P)
  rcases Yg hn with ⟨h,_⟩|⟨_,h4,_⟩|⟨h,_⟩|⟨h,_⟩
  ·omega
  ·have DQ:(Zq bd k).op.length-1=o.length:=by rw [←hlen,P.Zp];simp
   rw [DQ,lea,r2] at h4
   rw [←r3.op];exact h4
  ·omega
  ·exact absurd ho h.2.2.2.1
 have hc:(Y0 (Zz E L bd (Z0 t) k)).bad=0:=by
  unfold Vo at h1
  simp only at h1
  split at h1 <;> exact h1
 have hu:=(abI P hc).2 hL
 have hal:Zh p=p.kind:=by unfold Zh;rw [if_neg qo]
 have hw0:Ww (Ur Es bd (Yu E L bd t) t.out.length k) 0=jmp Es bd (Yu E L bd t) t.out.length m:=by
  unfold Ww
  rw [P7,←hlen,P.Zp,lba,show o.length+[p].length-1-(0:Int).toNat=o.length by simp]
  exact Lw d1
 refine ⟨Ww (Ur Es bd (Yu E L bd t) t.out.length k) 0,?_,?_⟩
 ·show Lb _ _ _ _ _ _ _=_
  rw [T7 hl];unfold W7;rw [if_neg qo,if_neg qo,if_neg qo,if_pos ho]
 ·rw [hw0]
  refine d2.EJ (r:=[]) ⟨u,P.stk⟩ (by rw [P.base];exact lra _) ?_
  rw [lTa,hal,←hu];exact hv
theorem ahB (S:Ve E L bd t Es Ls) (hx:bd[k]?=some x) (ho:x.op=4) (hT:Rv E L bd t k vals):∃w v0 v,IV E L Es Ls bd t k x=[w]∧vals=v0++[v]∧H8 E L bd t w v0∧(k+1<bd.length→Rv E L bd t (k+1) v0):=by
 have hlt:=(lca.1 hx).1
 obtain ⟨h1,h2,A2⟩:=(S.at_ (k:=k) qo).step S.hc S.hr S.K hx
 obtain ⟨hl,_,o,p,s,u,P,hL,hv⟩:=hT.live hx qo
 rw [akN ho] at h1 h2
 have h3:(Zj (Zz E L bd (Z0 t) k) 127).1.bad=0:=h1
 obtain ⟨u1,P1,_,Rl⟩:=P.pop (k:=127) (by decide) h3
 have e1:=(Rl hL).1
 rw [e1,←lma] at hv
 obtain ⟨v0,v,rfl,Tp,LV⟩:=hv.QI
 have hst:(Yu E L bd t k).2=(s++u1)++[127]:=by
  show (MM _).2=_
  rw [(Xr P).2 hl,P.stk,e1,(Rl hL).2.2 (by decide),lma]
 have Dh:((Yu E L bd t k).2.length:Int)-1=v0.length:=by
  rw [hst,Tp.len,lba,lBa];omega
 have hki:x.a≠0:=by
  have hb:YR x.op=2:=if_pos (.inr (.inr ho))
  have:=(UP ((Zb S.hc).2.1 k x hlt hx).1).1
  rw [hb] at this
  unfold Ze at this
  rw [if_neg (by decide),if_pos rfl] at this
  omega
 obtain ⟨e,y,c1,c2,c3,c4,c5,c6⟩:=S.closed hx (.inr (.inr ho))
 have hel:=(lca.1 c3).1
 have hg:hgt E L bd t k x=(v0.length:Int):=by
  unfold hgt
  rw [if_pos ho,P.stk,e1,Tp.len]
  simp only [List.length_append,List.length_singleton];omega
 have hsk:(Zz E L bd (Z0 t) k).stack=(s++u1)++[127]:=by rw [P.stk,e1,(Rl hL).2.2 (by decide),lma]
 refine ⟨⟨if 0≤gd Ls k then gd Ls k+1 else gd Es k,0,((Yu E L bd t k).2.length:Int)-1⟩,v0,v,?_,rfl,?_,fun Rf=>?_⟩
 ·show Lb _ _ _ _ _ _ _=_
  rw [T7 hl];unfold W7;rw [if_neg qo,if_neg qo,if_neg qo,if_neg qo,if_pos ho]
 ·rw [Dh]
  have ahC:∀(n:Nat),(∃y',bd[n]?=some y')→tp (Zq bd n)=k→k<n→∃o' p' s' u',SP (Zz E L bd (Z0 t) n) o' p' s' u'∧p'.under=false∧s'=s++u1∧Lk E L bd t n k (Zk.tl (Zq bd n)) p':=by
   rintro n ⟨y',hy'⟩ Gs hkn
   have Ku:=(lca.1 hy').1
   have Ae:=S.at_ (k:=n) qo
   obtain ⟨o',p',s',u',P'⟩:=Ae.sx (Ae.ne S.hc Ku)
   have hl':=Ae.len
   rw [P'.Zp,lba,lBa] at hl'
   have O9:(Zq bd n).op[o'.length]?=some (k:Int):=by
    rw [←Gs];unfold tp
    rw [←hl',lKa,lea,laa qo];rfl
   obtain ⟨f1,f2⟩:=(Pf.every S n (ldb Ku)).all _ p' k (SH P') O9
   have IW:=f2.2 hl
   obtain ⟨m',z',g1,g2,g3⟩:=(S.lk (k:=n) qo).all _ p' (SH P')
   rw [O9] at g1
   obtain rfl:=Option.some.inj g1
   obtain ⟨_,x',k1,k2,_,_,k3⟩:=g3.at_ k rfl
   obtain rfl:x=x':=by rw [hx] at k1;exact Option.some.inj k1
   have k4:=(k3 IW).2
   rw [hg] at k4
   have hz:z'=Zk.tl (Zq bd n):=by
    unfold Zk.tl
    rw [←hl',lKa,lea,g2];rfl
   refine ⟨o',p',s',u',P',IW,?_,hz ▸ g3⟩
   have e2:s'=(Zz E L bd (Z0 t) n).stack.take p'.base:=by rw [P'.base,P'.stk,lJb]
   rw [e2,f1,hsk,lya (by have:=Tp.len;omega),lxa (by have:=Tp.len;omega)]
  have fin:∀(a:Nat),Rv E L bd t a v0→H8 E L bd t ⟨a,0,v0.length⟩ v0:=fun a h=>by
   refine ⟨by simp only;omega,by simp only;omega,by simp only;omega,by simp only;omega,by simp only;omega,?_⟩
   simp only [Int.toNat_natCast]
   rw [lHb,show (0:Int).toNat=0 from rfl,Nat.sub_zero,List.drop_length,lua];exact h
  rcases c6 with ⟨n1,n2⟩|⟨h,y2,n1,n2,n3,n4,n5,n6⟩
  ·rw [n1,if_neg (by decide),c1]
   refine fin e ?_
   obtain ⟨o',p',s',u',P',IW,hs',hlk⟩:=ahC e ⟨y,c3⟩ c5 c2
   refine ⟨hel,o',p',s',u',P',IW,.inr ⟨y,c3,c4,?_⟩⟩
   have hop:p'.op=4:=by
    obtain ⟨_,x',k1,_,_,k5,_⟩:=hlk.at_ k rfl
    obtain rfl:x=x':=by rw [hx] at k1;exact Option.some.inj k1
    rcases k5 with r|r
    ·omega
    ·exact absurd (hlk.op.trans r.1) n2
   obtain ⟨q1,_,_⟩:=(S.at_ (k:=e) qo).step S.hc S.hr S.K c3
   rw [aeV c4] at q1
   have am3:=(P'.end_ q1).2.1 hop
   rw [am3,hs',show kl 64=[] from rfl,lua];exact Tp
  ·rw [n1,if_pos qo]
   have DB:h+1<bd.length:=by omega
   have:=fin (h+1) ?_
   ·simpa using this
   ·obtain ⟨o',p',s',u',P',IW,hs',hlk⟩:=ahC h ⟨y2,n4⟩ n6 n2
    obtain ⟨q1,q2,_⟩:=(S.at_ (k:=h) qo).step S.hc S.hr S.K n4
    rw [ahz n5] at q1 q2
    obtain ⟨P2,_⟩:=P'.Q9 q1
    rw [←q2] at P2
    exact ⟨DB,o',_,s',[],P2,IW,.inl ⟨rfl,by rw [lua,hs'];exact Tp⟩⟩
 ·have P2:=P1.Xo 4 hki
  rw [←h2] at P2
  refine ⟨Rf,_,_,_,_,P2,?_,.inl ⟨rfl,by rw [lua];exact Tp⟩⟩
  show (p.dead || p.under)=false
  rw [hL.1,hL.2];rfl
theorem aiM (S:Ve E L bd t Es Ls) (hx:bd[k]?=some x) (ho:x.op=2∨x.op=3) (Rf:k+1<bd.length) (hT:Rv E L bd t k vals):Rv E L bd t (k+1) vals:=by
 have hlt:=(lca.1 hx).1
 obtain ⟨h1,h2,A2⟩:=(S.at_ (k:=k) qo).step S.hc S.hr S.K hx
 obtain ⟨hl,_,o,p,s,u,P,hL,hv⟩:=hT.live hx qo
 rw [aiL ho] at h1 h2
 have hki:x.a≠0:=by
  have hb:YR x.op=2:=if_pos qo
  have:=(UP ((Zb S.hc).2.1 k x hlt hx).1).1
  rw [hb] at this
  unfold Ze at this
  rw [if_neg (by decide),if_pos rfl] at this
  omega
 have P2:=P.Xo x.op hki
 rw [←h2] at P2
 refine ⟨Rf,_,_,_,_,P2,?_,.inl ⟨rfl,by rw [lua];exact hv⟩⟩
 show (p.dead || p.under)=false
 rw [hL.1,hL.2];rfl
theorem aiN (S:Ve E L bd t Es Ls) (hx:bd[k]?=some x) (ho:x.op=1) (Rf:k+1<bd.length) (hT:Rv E L bd t k vals):Rv E L bd t (k+1) vals:=by
 have hlt:=(lca.1 hx).1
 obtain ⟨h1,h2,A2⟩:=(S.at_ (k:=k) qo).step S.hc S.hr S.K hx
 obtain ⟨hl,_,o,p,s,u,P,hL,hv⟩:=hT.live hx qo
 rw [akO ho] at h2
 rw [←h2] at P
 exact ⟨Rf,o,p,s,u,P,hL.2,.inl ⟨hL.1,hv⟩⟩
theorem aiO (S:Ve E L bd t Es Ls) (hx:bd[k]?=some x) (ho:x.op=11) (hT:Rv E L bd t k vals):(k+1=bd.length→KV t.out vals)∧(k+1<bd.length→Rv E L bd t (k+1) vals):=by
 have hlt:=(lca.1 hx).1
 have A:=S.at_ (k:=k) qo
 obtain ⟨h1,h2,A2⟩:=A.step S.hc S.hr S.K hx
 rw [aeV ho] at h1 h2
 obtain ⟨_,o,p,s,u,P,hu,hv⟩:=hT
 have hv:KV (s++kl p.kind) vals:=by
  rcases hv with ⟨h3,h4⟩|⟨_,_,_,h4⟩
  ·have hc:(Y0 (Zz E L bd (Z0 t) k)).bad=0:=by
    unfold TA at h1
    simp only at h1
    by_cases hq:(if (WS (Zz E L bd (Z0 t) k)).op=4∧(WS (Zz E L bd (Z0 t) k)).kind≠64 then YO (Y0 (Zz E L bd (Z0 t) k)) 10 else Y0 (Zz E L bd (Z0 t) k)).bad=0
    ·split at hq
     ·exact (Yi (by decide) hq).elim
     ·exact hq
    ·rw [if_neg hq] at h1;exact absurd h1 hq
   rw [←(abI P hc).2 ⟨h3,hu⟩];exact h4
  ·exact h4
 obtain ⟨_,_,q1,q2⟩:=P.end_ h1
 have hlen:=A.len
 have hp:=(X6 bd k).pos (Xk S.hc hlt)
 obtain ⟨is,hn⟩:=TL S.hc hx
 have hB:Zq bd (k+1)=⟨(Zq bd k).op.take ((Zq bd k).op.length-1),(Zq bd k).last.take ((Zq bd k).op.length-1),decide ((Zq bd k).op.length-1=0)⟩:=by
  rcases Yg hn with ⟨h,_⟩|⟨h,_⟩|⟨_,e,_⟩|⟨h,_⟩
  ·omega
  ·omega
  ·exact e
  ·exact absurd ho h.2.2.2.2
 rw [P.Zp,lba,lBa] at hlen
 refine ⟨fun Rf=>?_,fun Rf=>?_⟩
 ·have UL:=(Zb S.hc).2.2
  rw [←Rf,hB] at UL
  have ER:o=[]:=lqa (by have:=of_decide_eq_true UL;omega)
  subst ER
  obtain ⟨rfl,_⟩:=SP.ahx P
  obtain ⟨m',z',r3,r4,r5⟩:=(S.lk (k:=k) qo).all 0 p (SH P)
  rw [(QH S.hc hlt).1] at r3
  obtain rfl:=Option.some.inj r3
  have T3:=(r5.root rfl).1
  rw [lTa,T3] at hv
  have:kl (t.out.getD 0 64)=t.out:=by
   have h1:=S.tl
   cases h:t.out with
   | nil=>rfl
   | cons a r =>
    rw [h] at h1
    have:r=[]:=lqa (by simp at h1;exact lEb.2 h1)
    subst this
    exact if_neg (S.tk a (by rw [h];exact .head _)).n64
  rw [←this];exact hv
 ·have UL:=Xk S.hc Rf
  rw [hB] at UL
  have ER:o≠[]:=fun h=>by
   rw [h] at hlen
   have:=of_decide_eq_false UL
   simp at hlen;omega
  rcases lgb o with rfl|⟨o1,z,rfl⟩
  ·exact absurd rfl ER
  ·rw [lab0] at *
   obtain ⟨s1,u1,rfl,S2⟩:=q2 o1 z rfl
   rw [←h2] at S2
   have hlz:=SP.und P hu
   refine ⟨Rf,o1,z,s1,_,S2,hlz.2,.inl ⟨hlz.1,?_⟩⟩
   rw [←lma];exact hv
theorem NI (hc:Yp bd=0) (hx:bd[k]?=some x) (h11:x.op≠11):k+1<bd.length:=by
 have hlt:=(lca.1 hx).1
 refine Decidable.by_contra fun hn=>?_
 have e:k+1=bd.length:=by omega
 have UL:=(Zb hc).2.2
 rw [←e] at UL
 obtain ⟨is,hn⟩:=TL hc hx
 rcases Yg hn with ⟨_,e⟩|⟨_,_,e,_⟩|⟨h,_⟩|⟨_,e⟩
 ·exact k_V
 ·exact k_V
 ·exact h11 h
 ·exact k_V
end
end Rn
namespace Rn
open Go YZ Go.RowKit
open YS Zk XV YQ Valid
structure KS (c:Ck):Prop where
 st:∀k∈c.stack,k=0∨Kd k
 op:∀p∈c.Zp,p.kind=64∨p.kind=0∨Kd p.kind
section
variable {c:Ck} {E:Yj} {L:List Int} {x:ZU}
theorem VD {α:Type} {l:List α} {i:Nat} {z:α} {P:α→Prop} (h:∀y∈l,P y) (hz:P z):P (l.getD i z):=by
 rw [lea]
 cases hi:l[i]? with
 | none=>exact hz
 | some y=>exact h y (lha hi)
theorem KS.fail (h:KS c) (e:Int):KS (YO c e):=by unfold YO;split <;> exact ⟨h.st,h.op⟩
theorem KS.push (h:KS c) {k:Int} (hk:k=64∨k=0∨Kd k):KS (XN c k):=by
 unfold XN
 split
 ·rename_i U2
  refine ⟨fun y hy=>?_,h.op⟩
  rcases lFa.1 hy with hy|hy
  ·exact h.st y hy
  ·rw [lta.1 hy];exact hk.resolve_left U2
 ·exact h
theorem KS.top (h:KS c):(WS c).kind=64∨(WS c).kind=0∨Kd (WS c).kind:=by
 unfold WS;exact VD (P:=fun p:ZK=>p.kind=64∨p.kind=0∨Kd p.kind) h.op (.inr (.inl rfl))
theorem KS.take (h:KS c) (n:Nat):KS { c with stack:=c.stack.take n }:=⟨fun y hy=>h.st y (lrb hy),h.op⟩
theorem KS.pop (h:KS c) (k:Int):KS (Zj c k).1∧((Zj c k).2=k∨(Zj c k).2=0∨Kd (Zj c k).2):=by
 unfold Zj
 split
 ·rename_i U2;exact ⟨h,.inl U2.symm⟩
 ·split
  ·simp only
   split
   ·exact ⟨h,.inl (by first|rfl|trivial)⟩
   ·exact ⟨h.fail 10,.inl (by first|rfl|trivial)⟩
  ·have hk:c.stack.getD (c.stack.length-1) 0=0∨Kd (c.stack.getD (c.stack.length-1) 0):=VD (P:=fun k=>k=0∨Kd k) h.st (.inl rfl)
   simp only
   split
   ·exact ⟨h.take _,.inl (by first|rfl|trivial)⟩
   ·split
    ·exact ⟨(h.take _).fail 10,.inr hk⟩
    ·exact ⟨h.take _,.inr hk⟩
theorem KS.Wp:∀(l:List Int) {c:Ck},KS c→KS (Xw c l)
 | [],_,h=>h
 | k::r,c,h=>((KS.Wp r h).pop k).1
theorem KS.TO:∀(l:List Int) {c:Ck},KS c→(∀k∈l,Kd k)→KS (W4 c l)
 | [],_,h,_=>h
 | k::r,c,h,hk=>KS.TO r (h.push (.inr (.inr (hk k (.head _))))) fun y hy=>hk y (.tail _ hy)
theorem KS.die (h:KS c):KS (U6 c):=by
 refine ⟨fun y hy=>h.st y (lrb hy),fun p hp=>?_⟩
 rcases List.mem_or_eq_of_mem_set hp with hp|rfl
 ·exact h.op p hp
 ·exact h.top
theorem KS.out (h:KS c) (n:Int):KS (YV c n).1∧((YV c n).2.kind=64∨(YV c n).2.kind=0∨Kd (YV c n).2.kind):=by
 unfold YV
 split
 ·exact ⟨h.fail 8,.inr (.inl rfl)⟩
 ·exact ⟨h,VD (P:=fun p:ZK=>p.kind=64∨p.kind=0∨Kd p.kind) h.op (.inr (.inl rfl))⟩
theorem ae1 {p:ZK} (h:p.kind=64∨p.kind=0∨Kd p.kind):Zh p=64∨Zh p=0∨Kd (Zh p):=by
 unfold Zh;split
 ·exact .inl rfl
 ·exact h
theorem KS.Xo (h:KS c) (o:Int) {k:Int} (hk:k=64∨k=0∨Kd k):KS (Wc c o k):=by
 refine ⟨h.st,fun p hp=>?_⟩
 rcases lFa.1 hp with hp|hp
 ·exact h.op p hp
 ·rw [lta.1 hp];exact hk
theorem KS.close (h:KS c):KS (Y0 c):=by
 unfold Y0
 have:=(h.pop (WS c).kind).1
 split
 ·exact this.fail 10
 ·exact this
theorem KS.sub {o:List ZK} (h:KS c) (ho:∀p∈o,p∈c.Zp):KS { c with Zp:=o }:=⟨h.st,fun p hp=>h.op p (ho p hp)⟩
theorem KS.Q9 (h:KS c):KS (Vo c):=by
 unfold Vo
 simp only
 split
 ·refine ⟨h.close.st,fun p hp=>?_⟩
  rcases lFa.1 hp with hp|hp
  ·exact h.close.op p (lrb hp)
  ·rw [lta.1 hp];exact h.top
 ·exact h.close
theorem KS.end_ (h:KS c):KS (TA c):=by
 have h2:KS (if (WS c).op=4∧(WS c).kind≠64 then YO (Y0 c) 10 else Y0 c):=by
  split
  ·exact h.close.fail 10
  ·exact h.close
 have key:∀(c2:Ck) (k:Int),KS c2→(k=64∨k=0∨Kd k)→KS (if c2.bad=0 then XN { c2 with Zp:=c2.Zp.take (c2.Zp.length-1) } k else c2):=fun c2 k h2 hk=>by
  split
  ·exact (h2.sub fun p hp=>lrb hp).push hk
  ·exact h2
 exact key _ _ h2 h.top
theorem KS.ways (k:Int):∀(l:List Int) (s:Ck × Bool),KS s.1→KS (XD k l s).1
 | [],_,h=>h
 | n::r,s,h=>KS.ways k r _ (h.out n).1
theorem KS.table (h:KS c) (a:Int) (l:List Int):KS (XW c a l):=by
 unfold XW
 have h1:=KS.ways (Zh (YV c a).2) l ((YV c a).1,true) (h.out a).1
 simp only
 split
 ·exact h1
 ·refine (KS.pop (KS.pop ?_ _).1 _).1
  split
  ·exact h1
  ·exact h1.fail 10
theorem KS.am4 (h:KS c) (a:Int):KS (Wb c a):=by
 unfold Wb
 simp only
 split
 ·exact (((h.out a).1.pop 127).1.pop _).1.push (ae1 (h.out a).2)
 ·exact (h.out a).1
theorem KS.choose (h:KS c):KS (Xl c):=by
 unfold Xl
 simp only
 have h1:=(h.pop 127).1
 obtain ⟨h2,k2⟩:=h1.pop 0
 have k2:(Zj (Zj c 127).1 0).2=64∨(Zj (Zj c 127).1 0).2=0∨Kd (Zj (Zj c 127).1 0).2:=by
  rcases k2 with h|h
  ·exact .inr (.inl h)
  ·exact .inr h
 obtain ⟨h3,k3⟩:=h2.pop (Zj (Zj c 127).1 0).2
 refine h3.push ?_
 rcases k3 with h|h
 ·rw [h];exact k2
 ·exact .inr h
theorem KS.one (h:KS c) (K:Ju E L) (hx:WK x=0):KS (Valid.Y2 E L c x):=by
 unfold Valid.Y2
 by_cases h1:x.op=1
 ·rw [if_pos h1];exact h
 ·rw [if_neg h1]
  by_cases KK:x.op≤15
  ·rw [if_pos KK]
   have hk:x.op=2∨x.op=3∨x.op=4→x.a=64∨x.a=0∨Kd x.a:=fun ho=>by
    have hb:YR x.op=2:=if_pos ho
    have:=(UP hx).1
    rw [hb] at this
    unfold Ze at this
    rw [if_neg (by decide),if_pos rfl] at this
    rcases this with h|h|h
    ·exact .inl h
    ·exact .inr (.inr (.inl h))
    ·exact .inr (.inr (.inr h))
   unfold ZC
   repeat' split
   ·exact h.die
   ·exact h.Xo _ (hk qo)
   ·exact (h.pop 127).1.Xo _ (hk qo)
   ·exact h.Q9
   ·exact h.end_
   ·refine KS.die ?_
    unfold UG
    split
    ·exact ((h.out _).1.pop _).1
    ·exact (h.out _).1
   ·exact h.am4 _
   ·exact (h.pop _).1.die
   ·exact (h.table _ _).die
   ·exact h
  ·rw [if_neg KK]
   repeat' split
   ·unfold Wx
    split
    ·split
     ·exact h.fail 8
     ·rename_i t ht
      refine KS.TO _ (KS.Wp _ h) (K.out t ?_)
      unfold Xx at ht
      obtain ⟨k,_,hk⟩:=lfb.1 ht
      exact lha hk
    ·split
     ·exact h.fail 8
     ·simp only
      refine KS.TO _ (KS.Wp _ (h.pop 127).1) ?_
      exact VD (P:=fun t:Xm=>∀k∈t.out,Kd k) K.out (nofun)
   ·exact (h.pop 0).1
   ·exact h.choose
   ·unfold YH
    have hl:∀i,L.getD i 0=64∨L.getD i 0=0∨Kd (L.getD i 0):=fun i=>VD (P:=fun k=>k=64∨k=0∨Kd k) (fun k hk=>.inr (.inr (K.loc k hk))) (.inr (.inl rfl))
    split
    ·split
     ·exact h.fail 8
     ·simp only
      have h2:KS (if x.op≠32 then (Zj c (L.getD x.a.toNat 0)).1 else c):=by
       split
       ·exact (h.pop _).1
       ·exact h
      split
      ·exact h2.push (hl _)
      ·exact h2
    ·split
     ·exact h.fail 8
     ·simp only
      split
      ·refine h.push ?_
       exact VD (P:=fun g:Int × Bool × Int=>g.1=64∨g.1=0∨Kd g.1) (fun g hg=>.inr (.inr (K.Zg g hg))) (.inr (.inl rfl))
      ·refine (KS.pop ?_ _).1
       split
       ·exact h
       ·exact h.fail 10
   ·unfold W3
    repeat' split
    ·exact h.fail 8
    ·exact h.fail 9
    ·exact KS.TO _ (KS.Wp _ h) (LN x.op).2
end
section
variable {o:List ZK} {p:ZK} {s u:List Int} {E:Yj} {L Es Ls vals:List Int} {bd:List ZU} {k:Nat} {x:ZU} {t:Xm}
theorem ae2 (S:Ve E L bd t Es Ls):∀k,k≤bd.length→KS (Zz E L bd (Z0 t) k)
 | 0,_=>by
  refine ⟨fun y hy=>(by cases hy),fun p hp=>?_⟩
  rw [lta.1 (show p∈[(⟨2,t.out.getD 0 64,0,false,false⟩:ZK)] from hp)]
  exact VD (P:=fun k=>k=64∨k=0∨Kd k) (fun k hk=>.inr (.inr (S.tk k hk))) (.inl rfl)
 | k+1,hk=>by
  have hx:bd[k]?=some bd[k]:=laa qo
  rw [Ry hx (S.at_ (k:=k) qo).bad]
  exact (ae2 S k qo).one S.K ((Zb S.hc).2.1 k _ qo hx).1
theorem agI (S:Ve E L bd t Es Ls) (hk:k≤bd.length) (P:SP (Zz E L bd (Z0 t) k) o p s u) (hL:Live p):∀y∈s++u,Kd y:=by
 intro y hy
 have h0:y≠0:=fun h=>by
  subst h
  rcases lFa.1 hy with h|h
  ·exact P.lv.zero hL.2 h
  ·exact P.z hL.1 hL.2 h
 exact ((ae2 S k hk).st y (by rw [P.stk];exact hy)).resolve_left h0
end
theorem EI {P:Int→Prop} (h:∃r,P r∧(-1000≤r∧r≤1000)):-1000≤Classical.choose h∧Classical.choose h≤1000:=(Classical.choose_spec h).2
theorem aiP (n:Int):-1000≤XG.MJ n∧XG.MJ n≤1000:=by unfold XG.MJ;split <;> first|exact EI _|omega
theorem aiQ (n:Int):-1000≤XG.MH n∧XG.MH n≤1000:=by unfold XG.MH;split <;> first|exact EI _|omega
theorem aiR (n:Int):-1000≤XG.MG n∧XG.MG n≤1000:=by unfold XG.MG;split <;> first|exact EI _|omega
theorem aiS (n:Int):-1000≤XG.ME n∧XG.ME n≤1000:=by unfold XG.ME;split <;> first|exact EI _|omega
theorem aiT (n:Int):-1000≤XG.MD n∧XG.MD n≤1000:=by unfold XG.MD;split <;> first|exact EI _|omega
theorem aiU (n:Int):-1000≤XG.MC n∧XG.MC n≤1000:=by unfold XG.MC;split <;> first|exact EI _|omega
theorem agJ {op a:Int} (ho:(X7 op).2.2=true) (h1:(X7 op).1.length=1):(XG.Vj op a).2=0∧Vk (X7 op).2.1 (XG.Vj op a).1:=by
 have b32:=aiP (a % 4294967296)
 have b64:=aiQ (a % 18446744073709551616)
 have c32:=aiR (a % 4294967296)
 have c64:=aiS (a % 18446744073709551616)
 have p32:=aiT (a % 4294967296)
 have p64:=aiU (a % 18446744073709551616)
 have w8:=XM .i8 a
 have w16:=XM .i16 a
 have Fq:=XM .i32 a
 rw [show IntKind.min .i8=-128 from rfl,show IntKind.max .i8=127 from rfl] at w8
 rw [show IntKind.min .i16=-32768 from rfl,show IntKind.max .i16=32767 from rfl] at w16
 rw [show IntKind.min .i32=-2147483648 from rfl,show IntKind.max .i32=2147483647 from rfl] at Fq
 have IX:∀b:Bool,0≤XG.KP b∧XG.KP b≤1:=fun b=>by cases b <;> decide
 have fin:∀{k n:Int},-2147483648≤n∧n≤2147483647→Vk k n:=fun {k n} h=>⟨by unfold WU;omega,fun _=>h⟩
 unfold X7 at *
 unfold XG.Vj
 by_cases g1:op=69∨op=80
 ·rw [if_pos g1]
  rcases g1 with g|g
  ·rw [if_pos g];have:=IX (decide (ZO .i32 a=0));exact ⟨rfl,fin k_u⟩
  ·rw [if_neg qo,if_pos g];have:=IX (decide (a=0));exact ⟨rfl,fin k_u⟩
 rw [if_neg g1] at ho h1 ⊢
 rw [if_neg qo,if_neg qo]
 by_cases g2:69<op∧op≤90
 ·rw [if_pos g2] at h1;simp at h1
 rw [if_neg g2] at ho h1 ⊢
 by_cases g3:(103≤op∧op≤105)∨(121≤op∧op≤123)
 ·rw [if_pos g3]
  repeat' split
  all_goals first|exact ⟨rfl,fin k_u⟩|(exfalso;omega)
 rw [if_neg g3] at ho h1 ⊢
 rw [if_neg qo,if_neg qo,if_neg qo,if_neg qo,if_neg qo,if_neg qo]
 by_cases g4:106≤op∧op≤138
 ·rw [if_pos g4] at h1;simp at h1
 rw [if_neg g4] at ho h1 ⊢
 by_cases g5:op=167
 ·rw [if_pos g5,if_neg qo,if_neg qo,if_pos qo]
  refine ⟨rfl,fin ?_⟩
  simp only
  rw [Sv qo];exact Fq
 rw [if_neg g5] at ho h1 ⊢
 by_cases g6:op=172∨op=173
 ·rw [if_pos g6,if_neg qo,if_neg qo]
  rcases g6 with g|g
  ·rw [if_pos qo]
   simp only
   rw [Sv qo]
   exact ⟨by first|rfl|trivial,fin Fq⟩
  ·rw [if_neg qo,if_pos g]
   exact ⟨rfl,.wide (by unfold WU;simp only;omega)⟩
 rw [if_neg g6] at ho h1 ⊢
 by_cases g7:192≤op∧op≤196
 ·rw [if_pos g7]
  by_cases g8:op=192∨op=194
  ·rw [if_pos g8]
   simp only
   rw [Sv qo]
   exact ⟨by first|rfl|trivial,fin qo⟩
  ·rw [if_neg g8]
   by_cases g9:op=193∨op=195
   ·rw [if_pos g9]
    simp only
    rw [Sv qo]
    exact ⟨by first|rfl|trivial,fin qo⟩
   ·rw [if_neg g9,if_pos qo]
    simp only
    rw [Sv qo]
    exact ⟨by first|rfl|trivial,fin Fq⟩
 ·rw [if_neg g7] at ho;cases ho
theorem akP {w:IntKind} {k a b c d:Int}:(XG.V7 w k a b c d).2=0∨(XG.V7 w k a b c d).2=21∨(XG.V7 w k a b c d).2=22:=by
 unfold XG.V7
 repeat' split
 all_goals first|exact .inl rfl|exact .inr (.inl rfl)|exact .inr (.inr rfl)
theorem akQ (w:IntKind) (k a b c d:Int):WU (XG.V7 w k a b c d).1:=by
 have h0:WU 0:=⟨by omega,by omega⟩
 unfold XG.V7
 repeat' split
 all_goals first|exact h0|exact XM .i64 _
theorem ahD (k a b c d:Int):0≤XG.VJ k a b c d∧XG.VJ k a b c d≤1:=by
 have IX:∀b:Bool,0≤XG.KP b∧XG.KP b≤1:=fun b=>by cases b <;> decide
 unfold XG.VJ
 repeat' split
 all_goals exact IX _
theorem acS {op a b:Int} (ho:(X7 op).2.2=true) (h1:(X7 op).1.length≠1):((XG.Vl op a b).2=0∨(XG.Vl op a b).2=21∨(XG.Vl op a b).2=22)∧Vk (X7 op).2.1 (XG.Vl op a b).1∧(70≤op∧op≤79∨81≤op∧op≤90∨106≤op∧op≤138∧¬(121≤op∧op≤123))∧(X7 op).1.length=2:=by
 have fin:∀{k n:Int},-2147483648≤n∧n≤2147483647→Vk k n:=fun {k n} h=>⟨by unfold WU;omega,fun _=>h⟩
 have Fq:∀z,-2147483648≤ZO .i64 (ZO .i32 z)∧ZO .i64 (ZO .i32 z)≤2147483647:=fun z=>by
  have:=XM .i32 z
  rw [show IntKind.min .i32=-2147483648 from rfl,show IntKind.max .i32=2147483647 from rfl] at this
  rw [Sv qo];exact this
 have hn:70≤op∧op≤79∨81≤op∧op≤90∨106≤op∧op≤138∧¬(121≤op∧op≤123):=by
  unfold X7 at ho h1
  by_cases g1:op=69∨op=80
  ·rw [if_pos g1] at h1;simp at h1
  rw [if_neg g1] at ho h1
  by_cases g2:69<op∧op≤90
  ·omega
  rw [if_neg g2] at ho h1
  by_cases g3:(103≤op∧op≤105)∨(121≤op∧op≤123)
  ·rw [if_pos g3] at h1;simp at h1
  rw [if_neg g3] at ho h1
  by_cases g4:106≤op∧op≤138
  ·omega
  rw [if_neg g4] at ho h1
  by_cases g5:op=167
  ·rw [if_pos g5] at h1;simp at h1
  rw [if_neg g5] at ho h1
  by_cases g6:op=172∨op=173
  ·rw [if_pos g6] at h1;simp at h1
  rw [if_neg g6] at ho h1
  by_cases g7:192≤op∧op≤196
  ·rw [if_pos g7] at h1;simp at h1
  ·rw [if_neg g7] at ho;cases ho
 have hk:(X7 op).2.1=(if op≤90 then 127 else kd op 121)∧(X7 op).1.length=2:=by
  unfold X7
  rw [if_neg qo]
  by_cases g2:69<op∧op≤90
  ·rw [if_pos g2,if_pos qo];exact ⟨rfl,rfl⟩
  ·rw [if_neg g2,if_neg qo,if_pos qo,if_neg qo];exact ⟨rfl,rfl⟩
 refine ⟨?_,?_,?_,hk.2⟩
 ·unfold XG.Vl
  repeat' split
  all_goals first|exact .inl rfl|exact akP|(exfalso;omega)
 ·rw [hk.1]
  unfold XG.Vl
  by_cases q1:70≤op∧op≤79
  ·rw [if_pos q1];exact fin (by have:=ahD (op-70) (ZO .i32 a) (ZO .i32 b) (a % 4294967296) (b % 4294967296);simp only;omega)
  rw [if_neg q1]
  by_cases q2:81≤op∧op≤90
  ·rw [if_pos q2];exact fin (by have:=ahD (op-81) a b (a % 18446744073709551616) (b % 18446744073709551616);simp only;omega)
  rw [if_neg q2]
  by_cases q3:109≤op∧op≤112
  ·rw [if_pos q3];exact fin (Fq _)
  rw [if_neg q3]
  by_cases q4:127≤op∧op≤130
  ·rw [if_pos q4,if_neg qo]
   unfold kd
   rw [if_neg qo]
   exact .wide (akQ ..)
  rw [if_neg q4]
  by_cases q5:106≤op∧op≤120
  ·rw [if_pos q5];exact fin (Fq _)
  rw [if_neg q5]
  by_cases q6:124≤op∧op≤138
  ·rw [if_pos q6,if_neg qo]
   unfold kd
   rw [if_neg qo]
   exact .wide (XM .i64 _)
  ·omega
 ·exact hn
end Rn
namespace Rn
open Go YZ Go.RowKit
open YS Zk XV YQ Valid
structure VC (m:Yf) (I:Sr):Prop where
 mod:I.mem.length % 256=0
 lo:m.pages≤((I.mem.length / 256:Nat):Int)
 hi:((I.mem.length / 256:Nat):Int)≤m.most
 most:m.most≤8
 tl:(I.Zr.length:Int)=m.table
 Zr:∀n∈I.Zr,-1≤n∧n<(m.ZB.length:Int)+m.funcs.length
 gl:I.Zg.length=m.globals.length
 Zg:∀(i:Nat) (g:Int × Bool × Int) (v:Int),m.globals[i]?=some g→I.Zg[i]?=some v→Vk g.1 v∧(g.2.1=false→v=g.2.2)
def Vd (o:Int):Nat:=if o=26∨o=33∨o=34∨o=36 then 1 else if o=27 then 3 else if 36<o then (XE o).1.length else 0
structure H7 (x:ZU) (I:Sr) (loc stk:List Int):Prop where
 IU:∀v∈stk,WU v
 GK:∀v∈loc,WU v
 H6:∀v∈I.Zg,WU v
 need:Vd x.op≤stk.length
 op:x.op=26∨x.op=27∨(32≤x.op∧x.op≤36)∨(36<x.op∧(XE x.op).2.2=true)
 loc:32≤x.op→x.op≤34→0≤x.a∧x.a<loc.length
 Zg:x.op=35∨x.op=36→0≤x.a∧x.a<I.Zg.length
 off:0<wid x.op→0≤x.b∧x.b≤4294967295
theorem RY (o:Int):YS.wd o=wid o:=by unfold YS.wd wid;rfl
theorem Jo {z:Int} (hz:WU z) {n:Nat}:WU (Xe .i64 z (n:Int))∧(32≤n→n≤63→-2147483648≤Xe .i64 z (n:Int)∧Xe .i64 z (n:Int)≤2147483647):=by
 unfold WU at *
 have e:Xe .i64 z (n:Int)=z / 2 ^ (min n 64):=by
  unfold Xe
  rw [lka]
  exact Int.fdiv_eq_ediv_of_nonneg _ (Int.le_of_lt (Int.pow_pos (by decide)))
 rw [e]
 have hp:(0:Int)<2 ^ (min n 64):=Int.pow_pos (by decide)
 have h1:=Int.emod_add_mul_ediv z (2 ^ (min n 64))
 have h2:=Int.emod_nonneg z (Int.ne_of_gt hp)
 have h3:=Int.emod_lt_of_pos z hp
 have hb:∀B:Int,0<B→-B≤z→z<B→-B≤z / 2 ^ (min n 64)∧z / 2 ^ (min n 64)<B:=fun B hB l1 l2=>by
  refine ⟨?_,?_⟩
  ·refine (Int.le_ediv_iff_mul_le hp).2 ?_
   have:-B * 2 ^ (min n 64)≤-B * 1:=by
    rw [Int.neg_mul,Int.neg_mul]
    refine Int.neg_le_neg (lec qo qo)
   omega
  ·refine (Int.ediv_lt_iff_lt_mul hp).2 ?_
   have:B * 1≤B * 2 ^ (min n 64):=lec qo qo
   omega
 refine ⟨?_,fun hn hn2=>?_⟩
 ·have:=hb 9223372036854775808 (by decide) qo qo;omega
 ·have hm:(4294967296:Int)≤2 ^ (min n 64):=by
   have:(2:Int) ^ 32≤2 ^ (min n 64):=by
    have h:=lUa (n:=2) (by decide) (show 32≤min n 64 by omega)
    have h':((2 ^ 32:Nat):Int)≤((2 ^ (min n 64):Nat):Int):=by exact_mod_cast h
    simpa using h'
   simpa using this
  refine ⟨?_,?_⟩
  ·refine (Int.le_ediv_iff_mul_le hp).2 ?_
   have:(2147483648:Int) * 4294967296≤2147483648 * 2 ^ (min n 64):=lec hm (by decide)
   omega
  ·have:z / 2 ^ (min n 64)<2147483648:=by
    refine (Int.ediv_lt_iff_lt_mul hp).2 ?_
    have:(2147483648:Int) * 4294967296≤2147483648 * 2 ^ (min n 64):=lec hm (by decide)
    omega
   omega
theorem aiV {op:Int} (hw:0<wid op) (hop:op<54) (l:List UInt8) (hl:l.length≤(wid op).toNat):Vk (Ud op) (Mem.Hy op (Mem.KQ l)):=by
 have hlt:=Mem.L2 l
 have hle:256 ^ l.length≤256 ^ (wid op).toNat:=lUa (by decide) hl
 unfold Mem.Hy
 by_cases hs:Mem.Gq op
 ·rw [if_pos hs,RY]
  unfold Mem.FL
  have U2:WU (ZO .i64 (Ws .u64 (Mem.KQ l:Nat) (64-8 * wid op))):=XM .i64 _
  have T0:wid op=1∨wid op=2∨wid op=4∨(wid op=8∧op=41):=by
   unfold Mem.Gq at hs
   unfold wid
   rcases hs with h|h|h|h|h|h|h <;> subst h <;> decide
  rcases T0 with h|h|h|⟨h,h41⟩
  ·rw [h];obtain ⟨a,b⟩:=Jo U2 (n:=56);rw [h] at a b;exact ⟨a,fun _=>b (by decide) (by decide)⟩
  ·rw [h];obtain ⟨a,b⟩:=Jo U2 (n:=48);rw [h] at a b;exact ⟨a,fun _=>b (by decide) (by decide)⟩
  ·rw [h];obtain ⟨a,b⟩:=Jo U2 (n:=32);rw [h] at a b;exact ⟨a,fun _=>b (by decide) (by decide)⟩
  ·rw [h];obtain ⟨a,b⟩:=Jo U2 (n:=0);rw [h] at a
   refine ⟨a,fun hk=>?_⟩
   subst h41
   exact absurd hk (by decide)
 ·rw [if_neg hs]
  refine ⟨XM .i64 _,fun hk=>?_⟩
  unfold Ud at hk
  unfold Mem.Gq at hs
  split at hk
  ·rename_i ho
   have T0:(wid op).toNat≤2:=by
    unfold wid
    rcases ho with h|h|h|h|h|h|h|h <;> subst h <;> first|decide|(exfalso;omega)
   have:256 ^ (wid op).toNat≤256 ^ 2:=lUa (by decide) T0
   rw [Sv qo];omega
  ·cases hk
section
variable {m:Yf} {I:Sr} {E:Yj} {L Es Ls vals loc:List Int} {bd:List ZU} {k:Nat} {x:ZU} {t:Xm}
theorem VC.H6 (h:VC m I):∀v∈I.Zg,WU v:=fun v hv=>by
 obtain ⟨i,hi,rfl⟩:=lFb.1 hv
 exact (h.Zg i _ _ (laa (by rw [←h.gl];exact hi)) (laa hi)).1.1
theorem RX {l:List Int} {i:Nat} {v:Int} (h:l[i]?=some v):l.getD i 0=v:=by rw [lea,h];rfl
theorem VC.set (h:VC m I) {i:Nat} {g:Int × Bool × Int} {v:Int} (hg:m.globals[i]?=some g) (hm:g.2.1=true) (hv:Vk g.1 v):VC m { I with Zg:=I.Zg.set i v }:=by
 refine ⟨h.mod,h.lo,h.hi,h.most,h.tl,h.Zr,by simp only [List.length_set];exact h.gl,fun j g' v' h1 h2=>?_⟩
 simp only [List.getElem?_set] at h2
 by_cases e:i=j
 ·subst e
  rw [if_pos rfl] at h2
  rw [hg] at h1
  obtain rfl:=Option.some.inj h1
  split at h2
  ·obtain rfl:=Option.some.inj h2
   exact ⟨hv,fun h=>by rw [hm] at h;cases h⟩
  ·cases h2
 ·rw [if_neg e] at h2;exact h.Zg j g' v' h1 h2
theorem VC.mem' (h:VC m I) {mm:List UInt8} (hl:mm.length=I.mem.length):VC m { I with mem:=mm } :=
 ⟨by simp only [hl];exact h.mod,by simp only [hl];exact h.lo,by simp only [hl];exact h.hi,h.most,h.tl,h.Zr,h.gl,h.Zg⟩
structure aiW (m:Yf) (E:Yj) (L:List Int) (bd:List ZU) (t:Xm) (k:Nat) (d:D8):Prop where
 ins:VC m d.ins
 loc:KV L d.loc
 e:d.e=0∨(21≤d.e∧d.e≤23)
 stk:d.e=0→Rv E L bd t (k+1) d.stk
theorem acT {o:Int} (h:(XE o).2.2=true) (hw:¬0<wid o) (h3:o≠63) (h4:o≠64) (h5:o≠65) (h6:o≠66):(X7 o).2.2=true∧(XE o).1=(X7 o).1∧(XE o).2.1=[(X7 o).2.1]:=by
 by_cases hn:(X7 o).2.2=true
 ·unfold XE;rw [if_pos hn];exact ⟨hn,rfl,rfl⟩
 ·unfold XE at h
  rw [if_neg hn,if_neg qo,if_neg hw,if_neg h3,if_neg h4,if_neg h5,if_neg h6] at h;cases h
theorem Lu {o:Int} (h:(X7 o).2.2=true):69≤o:=by
 refine Decidable.by_contra fun hn=>?_
 unfold X7 at h
 rw [if_neg qo,if_neg qo,if_neg qo,if_neg qo,if_neg qo,if_neg qo,if_neg qo] at h
 cases h
theorem RW {o:Int} (h:0<wid o):40≤o∧o≤62:=by
 refine Decidable.by_contra fun hn=>?_
 unfold wid at h
 rw [if_neg qo,if_neg qo,if_neg qo,if_neg qo] at h
 omega
theorem acU {o:Int} (hw:0<wid o):XE o=if o<54 then ([127],[Ud o],true) else ([127,Ud o],[],true):=by
 have:=RW hw
 unfold XE
 rw [if_neg (fun h=>by have:=Lu h;omega)]
 by_cases h:o<54
 ·rw [if_pos ⟨hw,h⟩,if_pos h]
 ·rw [if_neg qo,if_pos hw,if_neg h]
theorem agK {o:Int} (ho:36<o) (h:YR o≠0):(XE o).2.2=true:=by
 unfold XE
 by_cases hn:(X7 o).2.2=true
 ·rw [if_pos hn]
 ·rw [if_neg hn]
  by_cases hw:0<wid o
  ·by_cases DA:o<54
   ·rw [if_pos ⟨hw,DA⟩]
   ·rw [if_neg qo,if_pos hw]
  ·rw [if_neg qo,if_neg hw]
   unfold YR at h
   rw [if_neg qo,if_neg qo,if_neg qo,if_neg qo,if_neg hw] at h
   by_cases h3:o=63
   ·rw [if_pos h3]
   ·rw [if_neg h3]
    by_cases h4:o=64
    ·rw [if_pos h4]
    ·rw [if_neg h4]
     by_cases h5:o=65
     ·rw [if_pos h5]
     ·rw [if_neg h5]
      by_cases h6:o=66
      ·rw [if_pos h6]
      ·rw [if_neg qo,if_neg h5,if_neg h6,if_neg qo,if_neg hn] at h
       exact absurd rfl h
theorem O8 {s u:List Int} {a b:Int} (h:KV (s++(u++[a,b])) vals):∃v0 v1 v2,vals=v0++[v1]++[v2]∧KV (s++u) v0∧Vk a v1∧Vk b v2:=by
 rw [show s++(u++[a,b])=(s++u++[a])++[b] by simp] at h
 obtain ⟨x,v2,rfl,h1,h2⟩:=h.QI
 obtain ⟨v0,v1,rfl,h3,h4⟩:=h1.QI
 exact ⟨v0,v1,v2,rfl,h3,h4,h2⟩
theorem VB {s u:List Int} {a:Int} (h:KV (s++(u++[a])) vals):∃v0 v1,vals=v0++[v1]∧KV (s++u) v0∧Vk a v1:=by
 rw [←lma] at h
 obtain ⟨v0,v1,rfl,h1,h2⟩:=h.QI
 exact ⟨v0,v1,rfl,h1,h2⟩
theorem QG {v0:List Int} {a:Int}:low (v0++[a]) 1=v0:=by rw [Q6,KI]
theorem Fp {v0:List Int} {a b:Int}:low (v0++[a]++[b]) 2=v0:=by rw [Q6,Q6,KI]
theorem akR {v0:List Int} {a b c:Int}:low (v0++[a]++[b]++[c]) 3=v0:=by rw [Q6,Q6,Q6,KI]
theorem akS {v0:List Int} {a b:Int}:top (v0++[a]++[b]) 1=a:=by rw [Ib qs,UO]
theorem ahE (S:Ve E L bd t Es Ls) (hE:E=ZF m) (hx:bd[k]?=some x) (ho:18≤x.op) (hT:Rv E L bd t k vals) (hL:KV L loc) (hI:VC m I) (hA:WU x.a):H7 x I loc vals∧aiW m E L bd t k (VY m.most x I loc vals):=by
 have hlt:=(lca.1 hx).1
 have Rf:=NI S.hc hx qo
 obtain ⟨h1,h2,A2⟩:=(S.at_ (k:=k) qo).step S.hc S.hr S.K hx
 obtain ⟨hl,_,o,p,s,u,P,HZ,hv⟩:=hT.live hx qo
 have OU:=((Zb S.hc).2.1 k x hlt hx).1
 have LL:=(UP OU).1
 have hb0:YR x.op≠0:=fun hz=>by
  unfold WK at OU
  rw [if_pos hz] at OU;cases OU
 have T3:=agI S (ldb hlt) P HZ
 have ty:∀{u' vs:List Int},SP (Valid.Y2 E L (Zz E L bd (Z0 t) k) x) o p s u'→KV (s++u') vs→Rv E L bd t (k+1) vs:=fun {u' vs} h hv=>by
  rw [←h2] at h
  exact ⟨Rf,o,p,s,u',h,HZ.2,.inl ⟨HZ.1,hv⟩⟩
 have H6:=hI.H6
 have GK:=hL.i64
 have IU:=hv.i64
 by_cases Nk:x.op=26
 ·rw [aeX Nk] at h1
  have ty:=@ty
  rw [aeX Nk] at ty
  obtain ⟨u1,P1,_,Rl⟩:=P.pop (k:=0) (by decide) h1
  rw [(Rl HZ).1] at hv
  obtain ⟨v0,v1,rfl,Tp,LV⟩:=VB hv
  refine ⟨⟨IU,GK,H6,by rw [Nk];simp [Vd],.inl Nk,by omega,by omega,fun h=>by rw [Nk] at h;exact absurd h (by decide)⟩,?_⟩
  have hd:VY m.most x I loc (v0++[v1])=⟨I,loc,v0,0⟩:=by unfold VY;rw [if_pos Nk,QG]
  rw [hd]
  exact ⟨hI,hL,.inl rfl,fun _=>ty P1 Tp⟩
 by_cases M3:x.op=27
 ·rw [aeY M3] at h1
  have ty:=@ty
  rw [aeY M3] at ty
  unfold Xl at h1 ty
  simp only at h1 ty
  rw [VE] at h1
  have b1:=WW h1
  have b2:=WW b1
  obtain ⟨u1,P1,_,Rl⟩:=P.pop (by decide) b2
  obtain ⟨u2,P2,_,D7⟩:=P1.pop (by decide) b1
  obtain ⟨e1,_,e1'⟩:=Rl HZ
  obtain ⟨e2,e2',_⟩:=D7 HZ
  have hk2:Kd (Zj (Zj (Zz E L bd (Z0 t) k) 127).1 0).2:=T3 _ (by rw [e1,e2];simp)
  obtain ⟨u3,P3,_,CQ⟩:=P2.pop hk2.n64 h1
  obtain ⟨e3,e3',am5⟩:=CQ HZ
  obtain ⟨u4,P4,IT⟩:=P3.push fun _=>e3'
  have e5:=am5 hk2.n0
  rw [e5] at IT e3
  rw [if_neg hk2.n64] at IT
  rw [e1,e2,e3] at hv
  generalize (Zj (Zj (Zz E L bd (Z0 t) k) 127).1 0).2=k2 at *
  rw [show s++(u3++[k2]++[k2]++[(Zj (Zz E L bd (Z0 t) k) 127).2])=(s++(u3++[k2,k2]))++[(Zj (Zz E L bd (Z0 t) k) 127).2] by simp] at hv
  obtain ⟨vx,v3,rfl,hvx,hv3⟩:=hv.QI
  obtain ⟨v0,v1,v2,rfl,Tp,LV,ID⟩:=O8 hvx
  refine ⟨⟨IU,GK,H6,by rw [M3];simp [Vd],.inr (.inl M3),by omega,by omega,fun h=>by rw [M3] at h;exact absurd h (by decide)⟩,?_⟩
  have hd:VY m.most x I loc (v0++[v1]++[v2]++[v3])=⟨I,loc,if v3=0 then v0++[v2] else v0++[v1],0⟩:=by
   unfold VY;rw [if_neg Nk,if_pos M3,UO,akR,Ib qs,UO,Q6,Q6,KI]
  rw [hd]
  refine ⟨hI,hL,.inl rfl,fun _=>ty P4 ?_⟩
  rw [IT,←lma]
  simp only
  split
  ·exact Tp.snoc ID
  ·exact Tp.snoc LV
 by_cases M4:x.op≤36
 ·have Kn:32≤x.op:=by
   refine Decidable.by_contra fun hn=>hb0 ?_
   have hw:¬0<wid x.op:=fun h=>by have:=RW h;omega
   have hnm:¬(X7 x.op).2.2=true:=fun h=>by have:=Lu h;omega
   unfold YR
   rw [if_neg qo,if_neg qo,if_neg qo,if_neg qo,if_neg hw,if_neg qo,if_neg qo,if_neg qo,if_neg qo,if_neg hnm]
  have ha:=MN OU (.inr (.inr ⟨Kn,M4⟩))
  have hw:¬0<wid x.op:=fun h=>by have:=RW h;omega
  rw [acO ⟨Kn,M4⟩] at h1
  have ty:=@ty
  rw [acO ⟨Kn,M4⟩] at ty
  unfold YH at h1 ty
  by_cases Gn:x.op<35
  ·rw [if_pos Gn] at h1 ty
   by_cases hn:(L.length:Int)≤x.a
   ·rw [if_pos hn] at h1;exact (Yi (by decide) h1).elim
   ·rw [if_neg hn] at h1 ty
    simp only at h1 ty
    have DQ:=hL.len
    have hi:x.a.toNat<L.length:=by omega
    have hkk:L[x.a.toNat]?=some (L.getD x.a.toNat 0):=by rw [lea,laa hi];rfl
    have hk:=S.K.loc _ (Vn (z:=0) hi)
    obtain ⟨lv,hlv,hlk⟩:=hL.at_ hkk
    generalize L.getD x.a.toNat 0=kk at *
    by_cases HY:x.op=32
    ·rw [if_neg (show ¬x.op≠32 by omega),if_pos (show x.op≠33 by omega)] at h1 ty
     obtain ⟨u4,P4,IT⟩:=P.push (k:=kk) fun _=>hk.n0
     rw [if_neg hk.n64] at IT
     refine ⟨⟨IU,GK,H6,by rw [HY];simp [Vd],.inr (.inr (.inl ⟨Kn,M4⟩)),fun _ _=>⟨ha,by omega⟩,by omega,fun h=>absurd h hw⟩,?_⟩
     have hd:VY m.most x I loc vals=⟨I,loc,vals++[lv],0⟩:=by unfold VY;rw [if_neg Nk,if_neg M3,if_pos HY,RX hlv]
     rw [hd]
     refine ⟨hI,hL,.inl rfl,fun _=>ty P4 ?_⟩
     rw [IT,←lma];exact hv.snoc hlk
    ·rw [if_pos (show x.op≠32 from HY)] at h1 ty
     by_cases Dz:x.op=33
     ·rw [if_neg (show ¬x.op≠33 by omega)] at h1 ty
      obtain ⟨u1,P1,_,Rl⟩:=P.pop hk.n64 h1
      obtain ⟨e1,_,e2⟩:=Rl HZ
      rw [e1,e2 hk.n0] at hv
      obtain ⟨v0,v1,rfl,Tp,LV⟩:=VB hv
      refine ⟨⟨IU,GK,H6,by rw [Dz];simp [Vd],.inr (.inr (.inl ⟨Kn,M4⟩)),fun _ _=>⟨ha,by omega⟩,by omega,fun h=>absurd h hw⟩,?_⟩
      have hd:VY m.most x I loc (v0++[v1])=⟨I,loc.set x.a.toNat v1,v0,0⟩:=by unfold VY;rw [if_neg Nk,if_neg M3,if_neg HY,if_pos Dz,UO,QG]
      rw [hd]
      exact ⟨hI,hL.set hkk LV,.inl rfl,fun _=>ty P1 Tp⟩
     ·have h34:x.op=34:=by omega
      rw [if_pos (show x.op≠33 from Dz)] at h1 ty
      rw [VE] at h1
      obtain ⟨u1,P1,_,Rl⟩:=P.pop hk.n64 h1
      obtain ⟨e1,_,e2⟩:=Rl HZ
      obtain ⟨u4,P4,IT⟩:=P1.push (k:=kk) fun _=>hk.n0
      rw [if_neg hk.n64] at IT
      rw [e1,e2 hk.n0] at hv
      have hv':=hv
      obtain ⟨v0,v1,rfl,Tp,LV⟩:=VB hv
      refine ⟨⟨IU,GK,H6,by rw [h34];simp [Vd],.inr (.inr (.inl ⟨Kn,M4⟩)),fun _ _=>⟨ha,by omega⟩,by omega,fun h=>absurd h hw⟩,?_⟩
      have hd:VY m.most x I loc (v0++[v1])=⟨I,loc.set x.a.toNat v1,v0++[v1],0⟩:=by unfold VY;rw [if_neg Nk,if_neg M3,if_neg HY,if_neg Dz,if_pos h34,UO]
      rw [hd]
      exact ⟨hI,hL.set hkk LV,.inl rfl,fun _=>ty P4 (by rw [IT];exact hv')⟩
  ·rw [if_neg Gn] at h1 ty
   by_cases hn:(E.globals.length:Int)≤x.a
   ·rw [if_pos hn] at h1;exact (Yi (by decide) h1).elim
   ·rw [if_neg hn] at h1 ty
    simp only at h1 ty
    have CP:=hI.gl
    have hge:E.globals=m.globals:=by rw [hE];rfl
    have hi:x.a.toNat<E.globals.length:=by omega
    have hkk:m.globals[x.a.toNat]?=some (E.globals.getD x.a.toNat (0,false,0)):=by rw [←hge,lea,laa hi];rfl
    have hk:=S.K.Zg _ (Vn (z:=(0,false,0)) hi)
    have hgi:x.a.toNat<I.Zg.length:=by rw [CP,←hge];exact hi
    have hgv:I.Zg[x.a.toNat]?=some I.Zg[x.a.toNat]:=laa hgi
    have am6:=(hI.Zg _ _ _ hkk hgv).1
    generalize E.globals.getD x.a.toNat (0,false,0)=gg at *
    by_cases HX:x.op=35
    ·rw [if_pos HX] at h1 ty
     obtain ⟨u4,P4,IT⟩:=P.push (k:=gg.1) fun _=>hk.n0
     rw [if_neg hk.n64] at IT
     refine ⟨⟨IU,GK,H6,by rw [HX];simp [Vd],.inr (.inr (.inl ⟨Kn,M4⟩)),by omega,fun _=>⟨ha,by omega⟩,fun h=>absurd h hw⟩,?_⟩
     have hd:VY m.most x I loc vals=⟨I,loc,vals++[I.Zg[x.a.toNat]],0⟩:=by
      unfold VY;rw [if_neg Nk,if_neg M3,if_neg qo,if_neg qo,if_neg qo,if_pos HX,RX hgv]
     rw [hd]
     refine ⟨hI,hL,.inl rfl,fun _=>ty P4 ?_⟩
     rw [IT,←lma];exact hv.snoc am6
    ·have akT:x.op=36:=by omega
     rw [if_neg HX] at h1 ty
     by_cases hm:gg.2.1=true
     ·rw [if_pos hm] at h1 ty
      obtain ⟨u1,P1,_,Rl⟩:=P.pop hk.n64 h1
      obtain ⟨e1,_,e2⟩:=Rl HZ
      rw [e1,e2 hk.n0] at hv
      obtain ⟨v0,v1,rfl,Tp,LV⟩:=VB hv
      refine ⟨⟨IU,GK,H6,by rw [akT];simp [Vd],.inr (.inr (.inl ⟨Kn,M4⟩)),by omega,fun _=>⟨ha,by omega⟩,fun h=>absurd h hw⟩,?_⟩
      have hd:VY m.most x I loc (v0++[v1])=⟨{ I with Zg:=I.Zg.set x.a.toNat v1 },loc,v0,0⟩:=by
       unfold VY;rw [if_neg Nk,if_neg M3,if_neg qo,if_neg qo,if_neg qo,if_neg HX,if_pos akT,UO,QG]
      rw [hd]
      exact ⟨hI.set hkk hm LV,hL,.inl rfl,fun _=>ty P1 Tp⟩
     ·rw [if_neg hm] at h1
      exact (Yi (by decide) (WW h1)).elim
 have Ts:=agK qo hb0
 rw [acP qo] at h1
 have ty:=@ty
 rw [acP qo] at ty
 obtain ⟨u1,P1,Rl⟩:=P.W3 h1
 rw [Rl HZ] at hv
 have hoff:0<wid x.op→0≤x.b∧x.b≤4294967295:=fun hw=>by
  have Hr:=RW hw
  have hb6:YR x.op=6:=by unfold YR;rw [if_neg qo,if_neg qo,if_neg qo,if_neg qo,if_pos hw]
  rw [hb6] at LL
  unfold Ze at LL
  rw [if_neg (by decide),if_neg (by decide),if_neg (by decide),if_pos rfl] at LL
  exact LL.2
 have akU:Vd x.op≤vals.length:=by
  unfold Vd
  rw [if_neg qo,if_neg qo,if_pos qo,hv.len]
  simp only [List.length_append];omega
 refine ⟨⟨IU,GK,H6,akU,.inr (.inr (.inr ⟨by omega,Ts⟩)),by omega,by omega,hoff⟩,?_⟩
 have hd0:VY m.most x I loc vals=if x.op=65∨x.op=66 then ⟨I,loc,vals++[x.a],0⟩ else if x.op=63 then ⟨I,loc,vals++[((I.mem.length / 256:Nat):Int)],0⟩
  else if x.op=64 then
   if m.most-((I.mem.length / 256:Nat):Int)<top vals 0 % 4294967296 then ⟨I,loc,low vals 1++[-1],0⟩
   else ⟨{ I with mem:=I.mem++List.replicate (256 * (top vals 0 % 4294967296).toNat) 0 },loc,low vals 1++[((I.mem.length / 256:Nat):Int)],0⟩
  else if 0<wid x.op then
   if 54≤x.op then
    if PM (top vals 1) x.b+wid x.op≤I.mem.length then ⟨{ I with mem:=Mem.ow I.mem (PM (top vals 1) x.b).toNat (Mem.J8 (wid x.op).toNat (top vals 0)) },loc,low vals 2,0⟩
    else ⟨I,loc,low vals 2,23⟩
   else if PM (top vals 0) x.b+wid x.op≤I.mem.length then ⟨I,loc,low vals 1++[Mem.Hy x.op (Mem.KQ ((I.mem.drop (PM (top vals 0) x.b).toNat).take (wid x.op).toNat))],0⟩
   else ⟨I,loc,low vals 1++[0],23⟩
  else if (XE x.op).1.length=1 then ⟨I,loc,low vals 1++[(XG.Vj x.op (top vals 0)).1],(XG.Vj x.op (top vals 0)).2⟩
  else ⟨I,loc,low vals 2++[(XG.Vl x.op (top vals 1) (top vals 0)).1],(XG.Vl x.op (top vals 1) (top vals 0)).2⟩:=by
  unfold VY
  rw [if_neg Nk,if_neg M3,if_neg qo,if_neg qo,if_neg qo,if_neg qo,if_neg qo]
 rw [hd0]
 clear hd0
 have pages:=hI.most
 have hhi:=hI.hi
 by_cases c1:x.op=65∨x.op=66
 ·rw [if_pos c1]
  have hp:XE x.op=([],[if x.op=65 then 127 else 126],true)∧Vk (if x.op=65 then 127 else 126) x.a:=by
   rcases c1 with h|h
   ·rw [h]
    refine ⟨by decide,?_⟩
    have Hw:YR x.op=8:=by rw [h];decide
    rw [Hw] at LL
    unfold Ze at LL
    rw [if_neg (by decide),if_neg (by decide),if_pos rfl] at LL
    rw [if_pos rfl];exact .low LL
   ·rw [h]
    refine ⟨by decide,?_⟩
    rw [if_neg (by decide)];exact .wide hA
  rw [hp.1] at hv P1
  rw [lua] at hv
  refine ⟨hI,hL,.inl rfl,fun _=>ty P1 ?_⟩
  rw [←lma]
  exact hv.snoc hp.2
 rw [if_neg c1]
 by_cases c2:x.op=63
 ·rw [if_pos c2]
  rw [c2,show XE 63=([],[127],true) by decide,lua] at hv
  refine ⟨hI,hL,.inl rfl,fun _=>ty P1 ?_⟩
  rw [c2,show XE 63=([],[127],true) by decide,←lma]
  exact hv.snoc (.low qo)
 rw [if_neg c2]
 by_cases c3:x.op=64
 ·rw [if_pos c3]
  rw [c3,show XE 64=([127],[127],true) by decide] at hv
  obtain ⟨v0,v1,rfl,Tp,LV⟩:=VB hv
  rw [UO,QG]
  have Dy:∀n,-2147483648≤n∧n≤2147483647→Rv E L bd t (k+1) (v0++[n]):=fun n hn=>by
   refine ty P1 ?_
   rw [c3,show XE 64=([127],[127],true) by decide,←lma]
   exact Tp.snoc (.low hn)
  by_cases c4:m.most-((I.mem.length / 256:Nat):Int)<v1 % 4294967296
  ·rw [if_pos c4];exact ⟨hI,hL,.inl rfl,fun _=>Dy _ qo⟩
  ·rw [if_neg c4]
   refine ⟨⟨?_,?_,?_,hI.most,hI.tl,hI.Zr,hI.gl,hI.Zg⟩,hL,.inl rfl,fun _=>Dy _ qo⟩
   ·simp only [List.length_append,List.length_replicate];have:=hI.mod;omega
   ·simp only [List.length_append,List.length_replicate];have:=hI.lo;omega
   ·simp only [List.length_append,List.length_replicate];have:=hI.mod;omega
 rw [if_neg c3]
 by_cases c4:0<wid x.op
 ·rw [if_pos c4]
  have hp:=acU c4
  by_cases c5:54≤x.op
  ·rw [if_pos c5]
   rw [if_neg qo] at hp
   rw [hp] at hv
   obtain ⟨v0,v1,v2,rfl,Tp,LV,ID⟩:=O8 hv
   rw [UO,akS,Fp]
   have Dy:Rv E L bd t (k+1) v0:=ty P1 (by rw [hp,lua];exact Tp)
   by_cases c6:PM v1 x.b+wid x.op≤I.mem.length
   ·rw [if_pos c6]
    have ho:=hoff c4
    have anU:0≤PM v1 x.b:=by unfold PM;omega
    exact ⟨hI.mem' (Mem.Ka (by rw [Mem.L3];omega)),hL,.inl rfl,fun _=>Dy⟩
   ·rw [if_neg c6];exact ⟨hI,hL,.inr ⟨show (21:Int)≤23 by decide,show (23:Int)≤23 by decide⟩,fun h=>by cases h⟩
  ·rw [if_neg c5]
   rw [if_pos qo] at hp
   rw [hp] at hv
   obtain ⟨v0,v1,rfl,Tp,LV⟩:=VB hv
   rw [UO,QG]
   by_cases c6:PM v1 x.b+wid x.op≤I.mem.length
   ·rw [if_pos c6]
    refine ⟨hI,hL,.inl rfl,fun _=>ty P1 ?_⟩
    rw [hp,←lma]
    exact Tp.snoc (aiV c4 qo _ (by rw [lla];omega))
   ·rw [if_neg c6];exact ⟨hI,hL,.inr ⟨show (21:Int)≤23 by decide,show (23:Int)≤23 by decide⟩,fun h=>by cases h⟩
 rw [if_neg c4]
 obtain ⟨n1,n2,n3⟩:=acT Ts c4 c2 c3 qo qo
 by_cases c5:(XE x.op).1.length=1
 ·rw [if_pos c5]
  rw [n2] at c5 hv
  obtain ⟨a,ha⟩:∃a,(X7 x.op).1=[a]:=by
   match h:(X7 x.op).1,c5 with
   | [a],_=>exact ⟨a,rfl⟩
  rw [ha] at hv
  obtain ⟨v0,v1,rfl,Tp,LV⟩:=VB hv
  rw [UO,QG]
  obtain ⟨r1,r2⟩:=agJ (a:=v1) n1 c5
  refine ⟨hI,hL,.inl r1,fun _=>ty P1 ?_⟩
  rw [n3,←lma]
  exact Tp.snoc r2
 ·rw [if_neg c5]
  rw [n2] at c5 hv
  obtain ⟨r1,r2,r3,r4⟩:=acS (a:=top vals 1) (b:=top vals 0) n1 c5
  obtain ⟨a,b,ha⟩:∃a b,(X7 x.op).1=[a,b]:=by
   match h:(X7 x.op).1,r4 with
   | [a,b],_=>exact ⟨a,b,rfl⟩
  rw [ha] at hv
  obtain ⟨v0,v1,v2,rfl,Tp,LV,ID⟩:=O8 hv
  rw [UO,akS] at r1 r2 ⊢
  rw [Fp]
  refine ⟨hI,hL,?_,fun _=>ty P1 ?_⟩
  ·rcases r1 with h|h|h
   ·exact .inl h
   ·exact .inr k_u
   ·exact .inr k_u
  ·rw [n3,←lma]
   exact Tp.snoc r2
end
end Rn
namespace Rn
open Go YZ Go.RowKit
open YS Zk XV YQ Valid
structure FOk (m:Yf) (f:Qh):Prop where
 ty:0≤f.ty∧f.ty<m.types.length
 snd:∃Es Ls,Ve (ZF m) (WV m f) f.body (Rw m f) Es Ls
 a64:∀x∈f.body,0≤x.op∧WU x.a
 loc:f.loc.length≤16
structure SG (m:Yf):Prop where
 fn:∀f∈m.funcs,FOk m f
 imp:∀x∈m.ZB,0≤x.2∧x.2<m.types.length
 sig:∀t∈m.types,t.Zc.length≤4∧t.out.length≤1
 most:m.most≤8
 nf:m.funcs.length≤16
 ni:m.ZB.length≤16
 Zr:m.table≤16
structure JK (m:Yf) (c:YE):Prop where
 f0:0≤c.fn
 f1:c.fn<m.funcs.length
 a0:0≤c.at_
 loc:KV (WV m (W2 m c.fn)) c.loc
abbrev Fo (m:Yf) (c:YE) (k:Nat):Bool × List Int:=Yu (ZF m) (WV m (W2 m c.fn)) (W2 m c.fn).body (Rw m (W2 m c.fn)) k
structure Sw (m:Yf) (c:YE):Prop where
 fr:JK m c
 ty:Rv (ZF m) (WV m (W2 m c.fn)) (W2 m c.fn).body (Rw m (W2 m c.fn)) c.at_.toNat c.stk
structure MA (m:Yf) (c:YE) (n:Int):Prop where
 fr:JK m c
 lt:c.at_.toNat<(W2 m c.fn).body.length
 ex:∃(k:Nat) (x:ZU),c.at_=(k:Int)+1∧(W2 m c.fn).body[k]?=some x∧((x.op=16∧x.a=n)∨(x.op=17∧(YD m n).Zc=(m.types.getD x.a.toNat sz).Zc∧(YD m n).out=(m.types.getD x.a.toNat sz).out))
 live:(Fo m c c.at_.toNat).1=false
 stk:∃r,(Fo m c c.at_.toNat).2=r++(YD m n).out∧KV r c.stk
def Mz (m:Yf) (l:List YE) (i:Nat) (n:Int):Int:=match l[i+1]? with
 | some v=>Y3 m+v.fn
 | none=>n
def XC (m:Yf) (l:List YE) (n:Int):Prop:=∀(i:Nat) (c:YE),l[i]?=some c→MA m c (Mz m l i n)
theorem XC.nil {m:Yf} {n:Int}:XC m [] n:=fun i c h=>by simp at h
theorem XC.snoc {m:Yf} {l:List YE} {c:YE} {n:Int}:XC m (l++[c]) n↔XC m l (Y3 m+c.fn)∧MA m c n:=by
 have e1:∀i,i<l.length→Mz m (l++[c]) i n=Mz m l i (Y3 m+c.fn):=fun i hi=>by
  unfold Mz
  by_cases h:i+1<l.length
  ·rw [loa h,laa h]
  ·rw [lsa qo,show i+1-l.length=0 by omega,lSa (show l.length≤i+1 by omega)];rfl
 have e2:Mz m (l++[c]) l.length n=n:=by
  unfold Mz
  rw [lSa qs]
 constructor
 ·intro h
  refine ⟨fun i d hi=>?_,?_⟩
  ·have hl:=(lca.1 hi).1
   have:=h i d (by rw [loa hl];exact hi)
   rw [e1 i hl] at this;exact this
  ·have:=h l.length c (by rw [lsa (lra _),lqb];rfl)
   rw [e2] at this;exact this
 ·rintro ⟨h1,h2⟩ i d hi
  rw [lVa] at hi
  split at hi
  ·rename_i hl;rw [e1 i hl];exact h1 i d hi
  ·have h0:i-l.length=0:=by
    have:=(lca.1 hi).1
    simp at this;omega
   rw [h0] at hi
   obtain rfl:=Option.some.inj hi
   obtain rfl:i=l.length:=by omega
   rw [e2];exact h2
structure Ty (m:Yf) (S:MS):Prop where
 ins:VC m S.ins
 le:S.calls.length≤40
 h0:0≤S.host∧S.host≤Y3 m
 cs:(S.host=0∧S.calls=[])∨(S.host=0∧∃up c,S.calls=up++[c]∧XC m up (Y3 m+c.fn)∧Sw m c)∨(0<S.host∧S.calls≠[]∧XC m S.calls (S.host-1))
section
variable {m:Yf} {S S' T:MS} {I:Sr} {Es Ls:List Int} {c c':YE} {up:List YE} {ev:Ev} {n:Int}
theorem QF (h0:0≤n) (h1:n<m.funcs.length):W2 m n∈m.funcs:=by unfold W2;exact Vn qo
theorem Lt (P:SG m) {f:Qh} (hf:f∈m.funcs):Rw m f∈m.types∧m.types[f.ty.toNat]?=some (Rw m f):=by
 have:=(P.fn f hf).ty
 have hi:f.ty.toNat<m.types.length:=by omega
 unfold Rw
 rw [lea,laa hi]
 exact ⟨lbb hi,rfl⟩
theorem PX (P:SG m) (h0:0≤n) (h1:n<m.funcs.length):Xx (ZF m) (Y3 m+n)=some (Rw m (W2 m n))∧YD m (Y3 m+n)=Rw m (W2 m n):=by
 have e:Xx (ZF m) (Y3 m+n)=some (Rw m (W2 m n)):=by
  unfold Xx QO
  have Gm:(ZF m).ZB.length=m.ZB.length:=lia0 ..
  unfold Y3
  rw [if_neg qo,Gm,if_neg qo]
  have e2:(ZF m).M5[((m.ZB.length:Int)+n).toNat-m.ZB.length]?=some (W2 m n).ty:=by
   show (m.funcs.map (·.ty))[_]?=_
   rw [lva,show ((m.ZB.length:Int)+n).toNat-m.ZB.length=n.toNat by omega,laa qo]
   unfold W2
   rw [lea,laa qo];rfl
  rw [e2]
  exact (Lt P (QF h0 h1)).2
 exact ⟨e,by unfold YD;rw [e];rfl⟩
theorem OI (P:SG m) (h0:0≤n) (h1:n<Y3 m):∃t,Xx (ZF m) n=some t∧YD m n=t∧t∈m.types:=by
 unfold Y3 at h1
 have Gm:(ZF m).ZB.length=m.ZB.length:=lia0 ..
 have hi:n.toNat<m.ZB.length:=by omega
 have hm:=P.imp _ (lbb hi)
 have e:Xx (ZF m) n=some m.types[m.ZB[n.toNat].2.toNat]:=by
  unfold Xx QO
  rw [if_neg qo,Gm,if_pos h1]
  have:(ZF m).ZB[n.toNat]?=some m.ZB[n.toNat].2:=by
   show (m.ZB.map (·.2))[_]?=_
   rw [lva,laa hi];rfl
  rw [this]
  exact laa (show m.ZB[n.toNat].2.toNat<m.types.length by omega)
 exact ⟨_,e,by unfold YD;rw [e];rfl,lbb _⟩
theorem acV (P:SG m) (h0:0≤n) (h1:n<Y3 m+m.funcs.length):∃t,Xx (ZF m) n=some t∧YD m n=t∧t∈m.types:=by
 by_cases h:n<Y3 m
 ·exact OI P h0 h
 ·obtain ⟨e1,e2⟩:=PX P (n:=n-Y3 m) qo qo
  rw [show Y3 m+(n-Y3 m)=n by omega] at e1 e2
  exact ⟨_,e1,e2,(Lt P (QF qo qo)).1⟩
theorem JK.f (h:JK m c) (P:SG m):FOk m (W2 m c.fn):=P.fn _ (QF h.f0 h.f1)
theorem akV {k:Nat} (hk:c.at_=k) {x:ZU} (hx:(W2 m c.fn).body[k]?=some x):YU m c=x:=by
 unfold YU;rw [hk,lka,VZ hx]
theorem Sw.at_ (h:Sw m c):∃k:Nat,c.at_=k∧k<(W2 m c.fn).body.length∧(W2 m c.fn).body[k]?=some (YU m c):=by
 have h0:=h.fr.a0
 obtain ⟨k,hk⟩:=lHa h0
 have hl:=h.ty.lt
 rw [hk,lka] at hl
 refine ⟨k,hk,hl,?_⟩
 rw [akV hk (laa hl)]
 exact laa hl
theorem HW {k:Nat} (hk:c.at_=k) (S:Ve (ZF m) (WV m (W2 m c.fn)) (W2 m c.fn).body (Rw m (W2 m c.fn)) Es Ls) (hx:(W2 m c.fn).body[k]?=some (YU m c)) :
  IV (ZF m) (WV m (W2 m c.fn)) Es Ls (W2 m c.fn).body (Rw m (W2 m c.fn)) k (YU m c)=UN m c:=by
 unfold UN KG
 rw [hk,lka,VZ hx]
 exact acN S hx
theorem PW (F:JK m c) {w:XT} {vals:List Int} (hs:c.stk=vals) (h:H8 (ZF m) (WV m (W2 m c.fn)) (W2 m c.fn).body (Rw m (W2 m c.fn)) w vals):Sw m (Td c w) :=
 ⟨⟨F.f0,F.f1,h.CS,F.loc⟩,by subst hs;exact h.ty⟩
theorem PV (F:JK m c) {k:Nat} (hk:c.at_=k) {vals loc:List Int} (hl:KV (WV m (W2 m c.fn)) loc) (h:Rv (ZF m) (WV m (W2 m c.fn)) (W2 m c.fn).body (Rw m (W2 m c.fn)) (k+1) vals):Sw m ⟨c.fn,c.at_+1,loc,vals⟩ :=
 ⟨⟨F.f0,F.f1,by have:=F.a0;simp only;omega,hl⟩,by
  have e:(c.at_+1).toNat=k+1:=by rw [hk];omega
  simp only [e];exact h⟩
def Jm (m:Yf) (S':MS):Ev→Prop
 | .free=>Ty m S'∧S'.host=0∧S'.calls≠[]
 | .on=>Ty m S'∧S'.host=0∧S'.calls≠[]
 | .over vals=>Ty m S'∧S'.host=0∧S'.calls=[]∧(∀v∈vals,WU v)∧vals.length≤1
 | .WH e=>Ty m S'∧S'.host=0∧S'.calls=[]∧20≤e∧e≤26
 | .host f vals=>Ty m S'∧S'.calls≠[]∧S'.host=f+1∧0≤f∧f<Y3 m∧(∀v∈vals,WU v)∧vals.length≤4
theorem UE (hI:VC m I) (hn:up.length≤39) (hW:XC m up (Y3 m+c.fn)) (hT:Sw m c):Ty m ⟨I,up++[c],0⟩∧(0:Int)=0∧up++[c]≠[] :=
 ⟨⟨hI,by simp only [List.length_append,List.length_singleton];omega,⟨lcc _,by unfold Y3;simp only;omega⟩,.inr (.inl ⟨rfl,up,c,rfl,hW,hT⟩)⟩,rfl,by simp⟩
theorem acW (hI:VC m I):Ty m ⟨I,[],0⟩∧(0:Int)=0∧([]:List YE)=[] :=
 ⟨⟨hI,by simp,⟨lcc _,by unfold Y3;simp only;omega⟩,.inl ⟨rfl,rfl⟩⟩,rfl,rfl⟩
theorem PU (hI:VC m I) {e:Int} (he:20≤e∧e≤26):Jm m ⟨I,[],0⟩ (.WH e):=⟨(acW hI).1,rfl,rfl,he.1,he.2⟩
theorem ae3 (P:SG m) {f:Int} (h0:0≤f) (h1:f<m.funcs.length) {args:List Int} (ha:KV (Rw m (W2 m f)).Zc args):Sw m ⟨f,0,args++List.replicate (W2 m f).loc.length 0,[]⟩:=by
 obtain ⟨Es,Ls,S⟩:=(P.fn _ (QF h0 h1)).snd
 refine ⟨⟨h0,h1,lcc _,?_⟩,?_⟩
 ·exact ha.app (.ahw _)
 ·have hpos:0<(W2 m f).body.length:=lIb.2 (OJ S.hc)
  refine Rv.Lz (S.at_ (k:=0) qo) S.hc hpos ?_ ?_
  ·unfold Yu;rw [show (0:Int).toNat=0 from rfl,abB]
  ·unfold Yu;rw [show (0:Int).toNat=0 from rfl,abB];exact .nil
theorem acX (P:SG m) (hI:VC m I) (hn:up.length≤39) (hW:XC m up (Y3 m+c.fn)) (hT:Sw m c) (ho:(YU m c).op=16∨(YU m c).op=17) :
  Jm m (Sy m I up (XH c) (YU m c)).1 (Sy m I up (XH c) (YU m c)).2∧((YU m c).op=17→(∃v0 v,c.stk=v0++[v])∧0≤(YU m c).a∧(YU m c).a<m.types.length) ∧
  ((YW m I.Zr (YU m c) c.stk).2.2=0→0≤(YW m I.Zr (YU m c) c.stk).1∧(YW m I.Zr (YU m c) c.stk).1<Y3 m+m.funcs.length∧(YD m (YW m I.Zr (YU m c) c.stk).1).Zc.length≤(YW m I.Zr (YU m c) c.stk).2.1.length):=by
 obtain ⟨k,hk,hlt,hx⟩:=hT.at_
 obtain ⟨Es,Ls,S⟩:=(hT.fr.f P).snd
 have hty:=hT.ty
 rw [hk,lka] at hty
 have Rf:=NI S.hc hx qo
 obtain ⟨h1,h2,A2⟩:=(S.at_ (k:=k) qo).step S.hc S.hr S.K hx
 obtain ⟨hl,_,o,p,s,u,Q,hL,hv⟩:=hty.live hx qo
 rw [aeW ho] at h1 h2
 have OU:=((Zb S.hc).2.1 k _ hlt hx).1
 have ha:=MN OU qo
 have go:∀(f:Int) (t:Xm) (u1 v0 args:List Int),0≤f→f<Y3 m+m.funcs.length→YD m f=t→t∈m.types→SP (Zz (ZF m) (WV m (W2 m c.fn)) (W2 m c.fn).body (Z0 (Rw m (W2 m c.fn))) (k+1)) o p s (u1++t.out) →
   KV (s++u1) v0→KV t.Zc args→(((YU m c).op=16∧(YU m c).a=f)∨((YU m c).op=17∧(YD m f).Zc=(m.types.getD (YU m c).a.toNat sz).Zc∧(YD m f).out=(m.types.getD (YU m c).a.toNat sz).out)) →
   YW m I.Zr (YU m c) c.stk=(f,v0++args,0)→Jm m (Sy m I up (XH c) (YU m c)).1 (Sy m I up (XH c) (YU m c)).2:=by
  intro f t u1 v0 args CO EH HV Nb hS Tp Hq akW NH
  have hcs:(XH c).stk=c.stk:=rfl
  unfold Sy
  simp only [hcs,NH]
  rw [if_neg (by decide)]
  have Ku:(v0++args).length-(YD m f).Zc.length=v0.length:=by rw [HV,lba,Hq.len];omega
  rw [Ku,lJb,List.drop_left]
  by_cases c1:Y3 m≤f∧up.length+1=40
  ·rw [if_pos c1];exact PU hI ⟨by decide,by decide⟩
  rw [if_neg c1]
  have hsh:Fo m { XH c with stk:=v0 } (c.at_+1).toNat=(false,s++(u1++t.out)):=by
   have e:(c.at_+1).toNat=k+1:=by rw [hk];omega
   rw [e]
   show MM (Zz (ZF m) (WV m (W2 m c.fn)) (W2 m c.fn).body (Z0 (Rw m (W2 m c.fn))) (k+1))=_
   unfold MM
   rw [hS.top,if_neg (by rw [hL.1,hL.2];decide),hS.stk]
  have hWc:MA m { XH c with stk:=v0 } f:=by
   refine ⟨⟨hT.fr.f0,hT.fr.f1,by have:=hT.fr.a0;show 0≤c.at_+1;omega,hT.fr.loc⟩,?_,⟨k,YU m c,(by show c.at_+1=_;rw [hk]),hx,akW⟩,?_,?_⟩
   ·show (c.at_+1).toNat<_
    rw [hk];have:(W2 m ({ XH c with stk:=v0 }:YE).fn).body=(W2 m c.fn).body:=rfl
    rw [this];omega
   ·show (Fo m { XH c with stk:=v0 } (c.at_+1).toNat).1=false
    rw [hsh]
   ·show ∃r,(Fo m { XH c with stk:=v0 } (c.at_+1).toNat).2=_∧_
    rw [hsh,HV]
    exact ⟨s++u1,by simp,Tp⟩
  have D6:XC m up (Y3 m+({ XH c with stk:=v0 }:YE).fn):=hW
  by_cases c2:f<Y3 m
  ·rw [if_pos c2]
   refine ⟨⟨hI,by simp only [List.length_append,List.length_singleton];omega,⟨by simp only;omega,by simp only;omega⟩,.inr (.inr ⟨by simp only;omega,by simp,?_⟩)⟩,by simp,rfl,CO,c2,Hq.i64,by rw [Hq.len];exact (P.sig t Nb).1⟩
   simp only
   rw [show f+1-1=f by omega]
   exact XC.snoc.2 ⟨D6,hWc⟩
  ·rw [if_neg c2]
   have hown:Rw m (W2 m (f-Y3 m))=t:=by
    rw [←HV]
    have:=(PX P (n:=f-Y3 m) qo qo).2
    rw [show Y3 m+(f-Y3 m)=f by omega] at this
    exact this.symm
   have hle:up.length+1≤39:=by
    refine Decidable.by_contra fun h=>c1 ⟨by omega,by omega⟩
   refine UE hI (by simp only [List.length_append,List.length_singleton];omega) ?_ (ae3 P qo qo (by rw [hown];exact Hq))
   rw [show Y3 m+(⟨f-Y3 m,0,args++List.replicate (W2 m (f-Y3 m)).loc.length 0,[]⟩:YE).fn=f by simp only;omega]
   exact XC.snoc.2 ⟨D6,hWc⟩
 by_cases I6:(YU m c).op=16
 ·have NH:YW m I.Zr (YU m c) c.stk=((YU m c).a,c.stk,0):=by unfold YW;rw [if_pos I6]
  unfold Wx at h1 h2
  rw [if_pos I6] at h1 h2
  cases ht:Xx (ZF m) (YU m c).a with
  | none=>rw [ht] at h1;exact (Yi (c:=Zz (ZF m) (WV m (W2 m c.fn)) (W2 m c.fn).body (Z0 (Rw m (W2 m c.fn))) k) (e:=8) (by decide) h1).elim
  | some t =>
   rw [ht] at h1 h2
   simp only at h1 h2
   rw [Ua] at h1
   have Nb:t∈m.types:=by
    unfold Xx at ht
    obtain ⟨k,_,hk⟩:=lfb.1 ht
    exact lha hk
   have EH:(YU m c).a<Y3 m+m.funcs.length:=by
    unfold Xx QO at ht
    rw [if_neg qo] at ht
    have Gm:(ZF m).ZB.length=m.ZB.length:=lia0 ..
    have hlf:(ZF m).M5.length=m.funcs.length:=lia0 ..
    unfold Y3
    by_cases hq:(YU m c).a<(ZF m).ZB.length
    ·omega
    ·rw [if_neg hq] at ht
     cases hz:(ZF m).M5[(YU m c).a.toNat-(ZF m).ZB.length]? with
     | none=>rw [hz] at ht;cases ht
     | some z=>have:=(lca.1 hz).1;omega
   have HV:YD m (YU m c).a=t:=by unfold YD;rw [ht];rfl
   obtain ⟨u1,Q1,Rl⟩:=Q.Wp t.Zc (S.K.Zc t Nb) h1
   have Q2:=SP.TO t.out Q1 (S.K.out t Nb)
   rw [←h2] at Q2
   rw [Rl hL,←lma] at hv
   obtain ⟨v0,args,P0,Tp,Hq⟩:=hv.split
   refine ⟨go (YU m c).a t u1 v0 args ha EH HV Nb Q2 Tp Hq (.inl ⟨I6,rfl⟩) (by rw [NH,P0]),fun h=>by omega,fun _=>?_⟩
   rw [NH]
   refine ⟨ha,EH,?_⟩
   simp only
   rw [HV,P0,lba,Hq.len];omega
 ·have Km:(YU m c).op=17:=by omega
  unfold Wx at h1 h2
  rw [if_neg I6] at h1 h2
  by_cases hc:(ZF m).table=0∨((ZF m).types.length:Int)≤(YU m c).a
  ·rw [if_pos hc] at h1;exact (Yi (by decide) h1).elim
  ·rw [if_neg hc] at h1 h2
   simp only at h1 h2
   rw [Ua] at h1
   obtain ⟨u0,Q0,_,hu0⟩:=Q.pop (k:=127) (by decide) (abx h1)
   have Nb:(ZF m).types.getD (YU m c).a.toNat ⟨[],[]⟩∈m.types:=Vn (show (YU m c).a.toNat<m.types.length by
    have:(ZF m).types.length=m.types.length:=rfl
    omega)
   have het:(ZF m).types.getD (YU m c).a.toNat ⟨[],[]⟩=m.types.getD (YU m c).a.toNat sz:=rfl
   rw [het] at h1 h2 Nb
   obtain ⟨u1,Q1,Rl⟩:=Q0.Wp _ (S.K.Zc _ Nb) h1
   have Q2:=SP.TO _ Q1 (S.K.out _ Nb)
   rw [←h2] at Q2
   rw [(hu0 hL).1] at hv
   obtain ⟨w0,wv,P0,hw0,hwv⟩:=VB hv
   rw [Rl hL,←lma] at hw0
   obtain ⟨v0,args,rfl,Tp,Hq⟩:=hw0.split
   refine ⟨?_,fun _=>⟨⟨_,_,P0⟩,ha,by
    have:(ZF m).types.length=m.types.length:=rfl
    omega⟩,?_⟩
   ·by_cases c1:(I.Zr.length:Int)≤top c.stk 0 % 4294967296∨I.Zr.getD (top c.stk 0 % 4294967296).toNat 0<0
    ·have NH:YW m I.Zr (YU m c) c.stk=(0,low c.stk 1,24):=by unfold YW;rw [if_neg I6,if_pos c1]
     have hcs:(XH c).stk=c.stk:=rfl
     unfold Sy
     simp only [hcs,NH]
     rw [if_pos (by decide)]
     exact PU hI ⟨by decide,by decide⟩
    ·by_cases c2:(YD m (I.Zr.getD (top c.stk 0 % 4294967296).toNat 0)).Zc≠(m.types.getD (YU m c).a.toNat sz).Zc∨(YD m (I.Zr.getD (top c.stk 0 % 4294967296).toNat 0)).out≠(m.types.getD (YU m c).a.toNat sz).out
     ·have NH:YW m I.Zr (YU m c) c.stk=(0,low c.stk 1,25):=by unfold YW;rw [if_neg I6,if_neg c1,if_pos c2]
      have hcs:(XH c).stk=c.stk:=rfl
      unfold Sy
      simp only [hcs,NH]
      rw [if_pos (by decide)]
      exact PU hI ⟨by decide,by decide⟩
     ·have NH:YW m I.Zr (YU m c) c.stk=(I.Zr.getD (top c.stk 0 % 4294967296).toNat 0,low c.stk 1,0):=by unfold YW;rw [if_neg I6,if_neg c1,if_neg c2]
      have Rk:low c.stk 1=v0++args:=by rw [P0,QG]
      rw [Rk] at NH
      have O9:0≤top c.stk 0 % 4294967296:=by omega
      have hmem:I.Zr.getD (top c.stk 0 % 4294967296).toNat 0∈I.Zr:=Vn qo
      have hb:=(hI.Zr _ hmem).2
      have e1:(YD m (I.Zr.getD (top c.stk 0 % 4294967296).toNat 0)).Zc=(m.types.getD (YU m c).a.toNat sz).Zc:=Decidable.by_contra fun h=>c2 (.inl h)
      have e2:(YD m (I.Zr.getD (top c.stk 0 % 4294967296).toNat 0)).out=(m.types.getD (YU m c).a.toNat sz).out:=Decidable.by_contra fun h=>c2 (.inr h)
      generalize I.Zr.getD (top c.stk 0 % 4294967296).toNat 0=f at *
      obtain ⟨t,_,HV,_⟩:=acV P (n:=f) qo (by unfold Y3;omega)
      have:YD m f=m.types.getD (YU m c).a.toNat sz:=by
       cases h3:YD m f with
       | mk a b =>
        rw [h3] at e1 e2
        cases h4:m.types.getD (YU m c).a.toNat sz with
        | mk a' b'=>rw [h4] at e1 e2;rw [show a=a' from e1,show b=b' from e2]
      exact go f _ u1 v0 args qo (by unfold Y3;omega) this Nb Q2 Tp Hq (.inr ⟨Km,e1,e2⟩) NH
   ·intro he
    unfold YW at he ⊢
    rw [if_neg I6] at he ⊢
    by_cases c1:(I.Zr.length:Int)≤top c.stk 0 % 4294967296∨I.Zr.getD (top c.stk 0 % 4294967296).toNat 0<0
    ·rw [if_pos c1] at he;cases he
    ·rw [if_neg c1] at he ⊢
     by_cases c2:(YD m (I.Zr.getD (top c.stk 0 % 4294967296).toNat 0)).Zc≠(m.types.getD (YU m c).a.toNat sz).Zc∨(YD m (I.Zr.getD (top c.stk 0 % 4294967296).toNat 0)).out≠(m.types.getD (YU m c).a.toNat sz).out
     ·rw [if_pos c2] at he;cases he
     ·rw [if_neg c2]
      have hmem:I.Zr.getD (top c.stk 0 % 4294967296).toNat 0∈I.Zr:=Vn qo
      have hb:=(hI.Zr _ hmem).2
      have e1:(YD m (I.Zr.getD (top c.stk 0 % 4294967296).toNat 0)).Zc=(m.types.getD (YU m c).a.toNat sz).Zc:=Decidable.by_contra fun h=>c2 (.inl h)
      refine ⟨by simp only;omega,by simp only;unfold Y3;omega,?_⟩
      simp only
      rw [e1,P0,QG,lba,Hq.len];omega
theorem abK {u:YE} {vals:List Int}:addTop (up++[u]) vals=up++[{ u with stk:=u.stk++vals }]:=by
 unfold addTop
 rw [List.getLast?_concat,List.dropLast_concat]
theorem acY (P:SG m) (h:MA m c n) {vals:List Int} (hv:KV (YD m n).out vals):Sw m { c with stk:=c.stk++vals }:=by
 obtain ⟨Es,Ls,S⟩:=(h.fr.f P).snd
 obtain ⟨r,h1,h2⟩:=h.stk
 refine ⟨⟨h.fr.f0,h.fr.f1,h.fr.a0,h.fr.loc⟩,Rv.Lz (S.at_ (ldb h.lt)) S.hc h.lt h.live ?_⟩
 show KV (Fo m c c.at_.toNat).2 _
 rw [h1];exact h2.app hv
theorem TK (P:SG m) (T:Ty m S) (h0:S.host=0) (h:Jq m S S' ev):Jm m S' ev:=by
 obtain ⟨up,c,hc,he⟩:=h
 have hI:=T.ins
 have hle:=T.le
 rw [hc,lba,lBa] at hle
 have hcs:XC m up (Y3 m+c.fn)∧Sw m c:=by
  rcases T.cs with ⟨_,h2⟩|⟨_,up',c',h2,h3⟩|⟨h2,_⟩
  ·rw [hc] at h2;simp at h2
  ·obtain ⟨rfl,h4⟩:=List.append_inj' (hc.symm.trans h2) rfl
   obtain rfl:=lWb.1 h4
   exact h3
  ·omega
 obtain ⟨hW,hT⟩:=hcs
 have e1:S'=(T8 m S.ins up c).1:=congrArg Prod.fst he
 have e2:ev=(T8 m S.ins up c).2:=congrArg Prod.snd he
 rw [e1,e2]
 clear e1 e2 he
 obtain ⟨k,hk,hlt,hx⟩:=hT.at_
 obtain ⟨Es,Ls,Q⟩:=(hT.fr.f P).snd
 have hty:=hT.ty
 rw [hk,lka] at hty
 have hto:=HW hk Q hx
 have hF:=hT.fr
 have OS:=hF.loc
 unfold T8
 by_cases h11:(YU m c).op=11
 ·simp only [h11,if_true]
  obtain ⟨g1,g2⟩:=aiO Q hx h11 hty
  by_cases hl:c.at_+1=(W2 m c.fn).body.length
  ·rw [if_pos hl]
   have hv:=g1 qo
   by_cases hu:up=[]
   ·rw [if_pos hu]
    exact ⟨(acW hI).1,rfl,rfl,hv.i64,by rw [hv.len];exact (P.sig _ (Lt P (QF hF.f0 hF.f1)).1).2⟩
   ·rw [if_neg hu]
    rcases lgb up with rfl|⟨up',u,rfl⟩
    ·exact absurd rfl hu
    ·rw [lab0] at *
     rw [abK]
     obtain ⟨w1,w2⟩:=XC.snoc.1 hW
     simp only [List.length_append,List.length_singleton] at hle
     have ht:=acY P w2 (vals:=c.stk) (by rw [(PX P hF.f0 hF.f1).2];exact hv)
     exact UE hI qo w1 ht
  ·rw [if_neg hl]
   exact UE hI qo hW (PV hF hk OS (g2 qo))
 simp only [h11,if_false]
 by_cases h5:(YU m c).op=5
 ·simp only [h5,if_true]
  obtain ⟨w,g1,g2⟩:=acR Q hx h5 hty
  rw [hto] at g1
  rw [g1]
  exact UE hI qo hW (PW hF rfl g2)
 simp only [h5,if_false]
 have Rf:=NI Q.hc hx h11
 unfold LB
 simp only
 by_cases a0:(YU m c).op=0
 ·rw [if_pos a0];exact PU hI ⟨by decide,by decide⟩
 rw [if_neg a0]
 by_cases a1:(YU m c).op=1∨(YU m c).op=2∨(YU m c).op=3
 ·rw [if_pos a1]
  have:Rv (ZF m) (WV m (W2 m c.fn)) (W2 m c.fn).body (Rw m (W2 m c.fn)) (k+1) c.stk:=by
   rcases a1 with h|h
   ·exact aiN Q hx h Rf hty
   ·exact aiM Q hx h Rf hty
  exact UE hI qo hW (PV hF hk OS this)
 rw [if_neg a1]
 by_cases a4:(YU m c).op=4
 ·rw [if_pos a4]
  obtain ⟨w,v0,v,g1,g2,g3,g4⟩:=ahB Q hx a4 hty
  rw [hto] at g1
  rw [g1,g2,UO]
  have hp:Ss (XH c)=⟨c.fn,c.at_+1,c.loc,v0⟩:=by unfold Ss XH;simp only;rw [g2,QG]
  rw [hp]
  split
  ·exact UE hI qo hW (PW (c:=⟨c.fn,c.at_+1,c.loc,v0⟩) ⟨hF.f0,hF.f1,by have:=hF.a0;simp only;omega,OS⟩ rfl g3)
  ·exact UE hI qo hW (PV hF hk OS (g4 Rf))
 rw [if_neg a4]
 by_cases a12:(YU m c).op=12∨(YU m c).op=15
 ·rw [if_pos a12]
  have:∃w,IV (ZF m) (WV m (W2 m c.fn)) Es Ls (W2 m c.fn).body (Rw m (W2 m c.fn)) k (YU m c)=[w]∧H8 (ZF m) (WV m (W2 m c.fn)) (W2 m c.fn).body (Rw m (W2 m c.fn)) w c.stk:=by
   rcases a12 with h|h
   ·exact ahA Q hx h hty
   ·exact aeZ Q hx h hty
  obtain ⟨w,g1,g2⟩:=this
  rw [hto] at g1
  rw [g1]
  exact UE hI qo hW (PW (c:=XH c) ⟨hF.f0,hF.f1,by have:=hF.a0;show 0≤c.at_+1;omega,OS⟩ rfl g2)
 rw [if_neg a12]
 by_cases Ld:(YU m c).op=13
 ·rw [if_pos Ld]
  obtain ⟨w,v0,v,g1,g2,g3,g4⟩:=acQ Q hx Ld hty
  rw [hto] at g1
  rw [g1,g2,UO]
  have hp:Ss (XH c)=⟨c.fn,c.at_+1,c.loc,v0⟩:=by unfold Ss XH;simp only;rw [g2,QG]
  rw [hp]
  split
  ·exact UE hI qo hW (PV hF hk OS (g4 Rf))
  ·exact UE hI qo hW (PW (c:=⟨c.fn,c.at_+1,c.loc,v0⟩) ⟨hF.f0,hF.f1,by have:=hF.a0;simp only;omega,OS⟩ rfl g3)
 rw [if_neg Ld]
 by_cases Lc:(YU m c).op=14
 ·rw [if_pos Lc]
  obtain ⟨v0,v,g1,g2,g3⟩:=ae0 Q hx Lc hty
  rw [hto] at g2 g3
  rw [g1,UO]
  have hp:Ss (XH c)=⟨c.fn,c.at_+1,c.loc,v0⟩:=by unfold Ss XH;simp only;rw [g1,QG]
  rw [hp]
  have hi:(min (v % 4294967296) ((UN m c).length-1)).toNat<(UN m c).length:=by omega
  have hw:RZ (UN m c) (min (v % 4294967296) ((UN m c).length-1)).toNat∈UN m c:=Vn hi
  exact UE hI qo hW (PW (c:=⟨c.fn,c.at_+1,c.loc,v0⟩) ⟨hF.f0,hF.f1,by have:=hF.a0;simp only;omega,OS⟩ rfl (g3 _ hw))
 rw [if_neg Lc]
 by_cases HU:(YU m c).op=16∨(YU m c).op=17
 ·rw [if_pos HU];exact (acX P hI qo hW hT HU).1
 rw [if_neg HU]
 have hb:=((Zb Q.hc).2.1 k _ hlt hx).1
 have D5:18≤(YU m c).op:=by
  have h0:YR (YU m c).op≠0:=fun hz=>by
   unfold WK at hb
   rw [if_pos hz] at hb;cases hb
  refine Decidable.by_contra fun hn=>h0 ?_
  have hw:¬0<wid (YU m c).op:=fun h=>by have:=RW h;omega
  have hnm:¬(X7 (YU m c).op).2.2=true:=fun h=>by have:=Lu h;omega
  have hneg:=((hF.f P).a64 _ (lha hx)).1
  unfold YR
  rw [if_neg qo,if_neg qo,if_neg qo,if_neg qo,if_neg hw,if_neg qo,if_neg qo,if_neg qo,if_neg qo,if_neg hnm]
 obtain ⟨d1,d2⟩:=ahE Q rfl hx D5 hty OS hI ((hF.f P).a64 _ (lha hx)).2
 by_cases he:(VY m.most (YU m c) S.ins c.loc c.stk).e≠0
 ·rw [if_pos he]
  exact PU d2.ins (by have:=d2.e;omega)
 ·rw [if_neg he]
  exact UE d2.ins qo hW (PV hF hk d2.loc (d2.stk (Decidable.of_not_not he)))
end
end Rn
end Go.Proofs.YtakpnepblgfknaaGreatDoor
