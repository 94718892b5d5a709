/- Texts of this claim, one behind the other. -/
import Derived.Tactics
import Derived.Below
import Derived.ScopeJumps
import Derived.Laws.Slices
import Derived.Laws.Small
import Derived.Laws.StructEq
import Derived.Laws.Pointers
import Derived.Laws.Cover3
import Derived.Laws.Strings
import Derived.Laws.BytesString
import Derived.Laws.Build
import Derived.Laws.OwnMore
import Derived.Laws.MakeOwn
import Derived.Laws.CopyOwn
import Derived.Laws.BytesArg
import Derived.KernelRfl
import Derived.OrdersHeld
import Derived.Laws.CopyRow
import Derived.Laws.AppendOwn
import Derived.ArgAppend
set_option linter.unusedVariables false
set_option linter.unusedSimpArgs false
set_option linter.defProp false
namespace Go.Proofs.YtakpnepblgfknaaGreatDoor
theorem qo {P:Prop} (h:P:=by omega):P:=h
theorem qa {P:Prop} (h:P:=by assumption):P:=h
theorem qs {P:Prop} (h:P:=by simp):P:=h
theorem k_a {P:Prop} (h:P:=by (simp only [List.length_append,List.length_set,List.length_cons,List.length_nil];omega)):P:=h
theorem k_b {P:Prop} (h:P:=by repeat first|exact ZT|refine ZL rfl ?_|refine Zo rfl (by first|omega|(simp only;omega)|(simp;omega)|(simp;done)) ?_):P:=h
theorem k_c {P:Prop} (h:P:=by first|omega|(simp only;omega)|(simp;omega)):P:=h
theorem k_d {P:Prop} (h:P:=by first|omega|(simp only;omega)|(simp;omega)|(simp;done)):P:=h
theorem k_e {P:Prop} (h:P:=by (subst_vars;unfold VJ;(repeat first|rw [if_pos qo]|rw [if_neg qo]);(try simp only [Y6,XS,Ya,YY]);(try rfl))):P:=h
theorem k_f {P:Prop} (h:P:=by (unfold V7;(repeat first|rw [if_pos (by first|omega|exact ⟨by assumption,by assumption,by assumption⟩)]|rw [if_neg (by first|omega|exact fun k=>absurd k.2.2 qa)]))):P:=h
theorem k_g {P:Prop} (h:P:=by (unfold UC;dsimp only;(repeat first|rw [if_pos (by first|omega|assumption)]|rw [if_neg (by first|omega|(intro hq;exact hq qa))]);(try rfl);done)):P:=h
theorem k_h {P:Prop} (h:P:=by (unfold UB;dsimp only;(repeat first|rw [if_pos (by first|omega|assumption)]|rw [if_neg (by first|omega|(intro hq;exact hq qa))]);(try rfl);done)):P:=h
theorem k_i {P:Prop} (h:P:=by kernel_rfl):P:=h
theorem k_j {P:Prop} (h:P:=by first|omega|exact ⟨by assumption,by assumption,by assumption⟩):P:=h
theorem k_k {P:Prop} (h:P:=by exact Yn.more qa qo):P:=h
theorem k_l {P:Prop} (h:P:=by (unfold Vj;(repeat first|rw [if_pos qo]|rw [if_neg qo]);(try simp only [Y6] at *);subst_vars;(try rfl);done)):P:=h
theorem k_m {P:Prop} (h:P:=by simp only [List.all_cons,List.all_nil,H.one 4 rfl,H.one 5 rfl,H.one 6 rfl,H.one 7 rfl,H.one 9 rfl,H.one 10 rfl,ZZ.one WO,ZZ.one ZI,ZZ.one Zy,hvs,hvl,ZZ.one ZW,ZZ.one hw];rfl):P:=h
theorem k_n {P:Prop} (h:P:=by first|omega|(intro hq;exact hq qa)):P:=h
theorem k_o {P:Prop} (h:P:=by simp only [List.all_cons,List.all_nil,H.one 4 rfl,H.one 5 rfl,H.one 6 rfl,H.one 8 rfl,ZZ.one Uw,ZZ.one Wt,ZZ.one WO,ZZ.one ZI,ZZ.one Zy,hvs,hvl,ZZ.one ZW,ZZ.one hw];rfl):P:=h
theorem k_p {P:Prop} (h:P:=by (subst_vars;first|omega|(rw [lba,lja];omega))):P:=h
theorem k_q {P:Prop} (h:P:=by first|omega|exact fun k=>absurd k.2.2 qa):P:=h
theorem k_r {P:Prop} (h:P:=by simp only [List.all_cons,List.all_nil,H.one 2 rfl,H.one 3 rfl,H.one 4 rfl,H.one 5 rfl,ZZ.one Ym,ZZ.one hx];rfl):P:=h
theorem k_s {P:Prop} (h:P:=by (rw [T0] at *;omega)):P:=h
theorem k_t {P:Prop} (h:P:=by (unfold Vj;(repeat first|rw [if_pos qo]|rw [if_neg qo]);done)):P:=h
theorem k_u {P:Prop} (h:P:=by simp only;omega):P:=h
theorem k_v {P:Prop} (h:P:=by rw [hn];simp;assumption):P:=h
theorem k_w {P:Prop} (h:P:=by rw [Yy];unfold execOp;rw [ho]):P:=h
theorem k_x {P:Prop} (h:P:=by (first|omega|(simp only [List.length_append,List.length_set,List.length_cons,List.length_nil];omega)|(simp;omega)|(simp;done))):P:=h
theorem k_y {P:Prop} (h:P:=by first|omega|assumption):P:=h
theorem k_z {P:Prop} (h:P:=by repeat first|rw [if_pos qo]|rw [if_neg qo]|(subst_vars;rfl)):P:=h
theorem k_A {P:Prop} (h:P:=by simp only [List.all_cons,List.all_nil,H.one 2 rfl,H.one 3 rfl,ZZ.one Yl,ZZ.one Nr,ZZ.one Kz,ZZ.one PN,ZZ.one L0,ZZ.one YX,ZZ.one YG,ZZ.one Hj,ZZ.one Zy];rfl):P:=h
theorem k_B {P:Prop} (h:P:=by simp only [List.all_cons,List.all_nil,H.one 4 rfl,H.one 5 rfl,ZZ.one X4,ZZ.one X5,ZZ.one ZP,ZZ.one ht];rfl):P:=h
theorem k_C {P:Prop} (h:P:=by simp only [List.all_cons,List.all_nil,H.one 4 rfl,H.one 5 rfl,H.one 6 rfl,H.one 8 rfl,ZZ.one hw];rfl):P:=h
theorem k_D {P:Prop} (h:P:=by simp only [Bool.and_true,H.one 1 rfl,H.one 2 rfl,H.one 6 rfl,hvs,ZZ.one ZW,ZZ.one Zt,ZZ.one ZP,hvl]):P:=h
theorem k_E {P:Prop} (h:P:=by exact Ht (by decide) (by decide) qa):P:=h
theorem k_F {P:Prop} (h:P:=by rw [hn];assumption):P:=h
theorem k_G {P:Prop} (h:P:=by simp only [List.all_cons,List.all_nil,H.one 2 rfl,ZZ.one Ym,ZZ.one Im,ZZ.one hs,ZZ.one hL,ZZ.one he,ZZ.one hb];rfl):P:=h
theorem k_H {P:Prop} (h:P:=by simpa [IntKind.min,IntKind.signed,IntKind.bits] using h.1):P:=h
theorem k_I {P:Prop} (h:P:=by simpa [IntKind.max,IntKind.signed,IntKind.bits] using h.2):P:=h
theorem k_J {P:Prop} (h:P:=by simp only [List.all_cons,List.all_nil,ZZ.one X4,ZZ.one X5,ZZ.one XY,ZZ.one ZW,ZZ.one Zt,ZZ.one ZP];rfl):P:=h
theorem k_K {P:Prop} (h:P:=by exact congrArg Value.bool (rfl)):P:=h
theorem k_L {P:Prop} (h:P:=by unfold execOp;rw [ho]):P:=h
theorem k_M {P:Prop} (h:P:=by rw [←hargs];exact h):P:=h
theorem k_N {P:Prop} (h:P:=by exact ⟨rfl,rfl,rfl,rfl,fun _=>rfl⟩):P:=h
theorem k_O {P:Prop} (h:P:=by exact hok.KM hp (by simp only [List.length_take];omega)):P:=h
theorem k_P {P:Prop} (h:P:=by (constructor <;> omega)):P:=h
theorem k_Q {P:Prop} (h:P:=by exact h.elim):P:=h
theorem k_R {P:Prop} (h:P:=by unfold execOp;rw [ho];simp only [resolve,hc,pure_bind,invoke,builtin]):P:=h
theorem k_S {P:Prop} (h:P:=by simp only [Bool.and_true,H.one 2 rfl,H.one 3 rfl,Vw.one V2,ZZ.one ht]):P:=h
theorem k_T {P:Prop} (h:P:=by unfold UM;omega):P:=h
theorem k_U {P:Prop} (h:P:=by (simp only [List.length_take];omega)):P:=h
theorem k_V {P:Prop} (h:P:=by rw [e] at UL;cases UL):P:=h
theorem k_W {P:Prop} (h:P:=by simp only [List.length_take];omega):P:=h
def laa:=@List.getElem?_eq_getElem
def lba:=@List.length_append
def lca:=@List.getElem?_eq_some_iff
def lda:=@List.length_cons
def lea:=@List.getD_eq_getElem?_getD
def lfa:=@List.length_set
def lga:=@List.length_nil
def lha:=@List.mem_of_getElem?
def lia0:=@List.length_map
def lja:=@List.length_replicate
def lka:=@Int.toNat_natCast
def lla:=@List.length_take
def lma:=@List.append_assoc
def lna:=@List.all_cons
def loa:=@List.getElem?_append_left
def lpa:=@List.all_nil
def lqa:=@List.eq_nil_of_length_eq_zero
def lra:=@Nat.le_refl
def lsa:=@List.getElem?_append_right
def lta:=@List.mem_singleton
def lua:=@List.append_nil
def lva:=@List.getElem?_map
def lwa:=@List.drop_eq_getElem_cons
def lxa:=@List.take_of_length_le
def lya:=@List.take_append_of_le_length
def lza:=@Array.getElem?_eq_some_iff
def lAa:=@List.getElem?_take
def lBa:=@List.length_singleton
def lCa:=@Array.getD_eq_getD_getElem?
def lDa:=@List.drop_of_length_le
def lEa:=@Nat.lt_or_ge
def lFa:=@List.mem_append
def lGa:=@Nat.le_trans
def lHa:=@Int.eq_ofNat_of_zero_le
def lIa:=@List.length_drop
def lJa:=@List.ext_getElem?
def lKa:=@Nat.add_sub_cancel
def lLa:=@Nat.mul_le_mul_right
def lMa:=@List.flatMap_append
def lNa:=@List.getElem?_drop
def lOa:=@List.cons_append
def lPa:=@List.getElem?_set
def lQa:=@List.flatMap_cons
def lRa:=@Nat.zero_le
def lSa:=@List.getElem?_eq_none
def lTa:=@List.nil_append
def lUa:=@Nat.pow_le_pow_right
def lVa:=@List.getElem?_append
def lWa:=@Option.map_some
def lXa:=@List.map_append
def lYa:=@Array.getElem?_toList
def lZa:=@List.take_append_drop
def lab0:=@List.concat_eq_append
def lbb:=@List.getElem_mem
def lcb:=@List.drop_succ_cons
def ldb:=@Nat.le_of_lt
def leb:=@List.mem_append_left
def lfb:=@Option.bind_eq_some_iff
def lgb:=@List.eq_nil_or_concat
def lhb:=@List.drop_zero
def lib:=@Array.getElem?_eq_getElem
def ljb:=@List.map_cons
def lkb:=@List.all_eq_true
def llb:=@Nat.le_of_ble_eq_true
def lmb:=@Nat.eq_of_beq_eq_true
def lnb:=@List.mem_map
def lob:=@Nat.min_eq_left
def lpb:=@Nat.succ_mul
def lqb:=@Nat.sub_self
def lrb:=@List.mem_of_mem_take
def lsb0:=@List.set_cons_zero
def ltb:=@List.set_cons_succ
def lub0:=@List.drop_drop
def lvb:=@List.getElem?_set_ne
def lwb:=@Nat.zero_add
def lxb:=@List.mem_cons_self
def lyb:=@List.getElem?_set_self
def lzb:=@List.drop_append_of_le_length
def lAb:=@Nat.le_succ
def lBb:=@List.take_add_one
def lCb:=@Nat.testBit_two_pow_sub_one
def lDb:=@List.mem_filterMap
def lEb:=@List.length_eq_zero_iff
def lFb:=@List.mem_iff_getElem
def lGb:=@List.mem_cons_of_mem
def lHb:=@List.take_length
def lIb:=@List.length_pos_iff
def lJb:=@List.take_left
def lKb:=@Nat.two_pow_pos
def lLb:=@List.mem_append_right
def lMb:=@Nat.add_mul
def lNb:=@List.drop_append
def lOb:=@Array.toList_map
def lPb:=@Nat.testBit_or
def lQb:=@List.replicate_succ
def lRb:=@Option.bind_some
def lSb:=@Nat.succ_le_succ
def lTb:=@Nat.zero_mul
def lUb:=@Nat.eq_zero_or_pos
def lVb:=@Nat.add_assoc
def lWb:=@List.singleton_inj
def lXb:=@List.singleton_append
def lYb:=@Int.mul_le_mul_of_nonneg_right
def lZb:=@Nat.testBit_two_pow
def lac:=@Nat.mul_one
def lbc:=@List.mem_cons
def lcc:=@Int.le_refl
def ldc:=@Nat.le_of_not_lt
def lec:=@Int.mul_le_mul_of_nonneg_left
def lfc:=@List.take_zero
def lgc:=@List.drop_take
namespace YZ
open Go
def gt:List Value→Nat→Value
 | [],_=>undef
 | v::_,0=>v
 | _::r,n+1=>gt r n
def Gc (l:List Value):Nat→(Value→Prop)→Prop :=
 List.rec (motive:=fun _=>Nat→(Value→Prop)→Prop) (fun _ k=>k undef) (fun v _ ih n k=>Nat.rec (motive:=fun _=>Prop) (k v) (fun m _=>ih m k) n) l
def JF (l:List Value):Nat→Value→(List Value→Prop)→Prop :=
 List.rec (motive:=fun _=>Nat→Value→(List Value→Prop)→Prop) (fun _ _ k=>k []) (fun x r ih n v k=>Nat.rec (motive:=fun _=>Prop) (k (v::r)) (fun m _=>ih m v (fun r'=>k (x::r'))) n) l
theorem afC (n:Nat) (v:Value) (k:List Value→Prop):JF [] n v k=k []:=rfl
theorem adw (x:Value) (r:List Value) (n:Nat) (v:Value) (k:List Value→Prop):JF (x::r) (n+1) v k=JF r n v (fun r'=>k (x::r')):=rfl
def ev (ρ:List Value):Operand→Value
 | .tmp t=>gt ρ t
 | .const v=>v
 | .global g=>.pointer (some ⟨g,0,none⟩)
 | .func f=>.func (.func f) #[] #[]
def VW (ρ:List Value):Operand→(Value→Prop)→Prop
 | .tmp t,k=>Gc ρ t k
 | .const v,k=>k v
 | .global g,k=>k (.pointer (some ⟨g,0,none⟩))
 | .func f,k=>k (.func (.func f) #[] #[])
def TZ (ρ:List Value) (l:List Operand):(List Value→Prop)→Prop :=
 List.rec (motive:=fun _=>(List Value→Prop)→Prop) (fun k=>k []) (fun x _ ih k=>VW ρ x fun v=>ih fun vs=>k (v::vs)) l
theorem ac3 (ρ:List Value) (x:Operand) (r:List Operand) (k:List Value→Prop):TZ ρ (x::r) k=VW ρ x fun v=>TZ ρ r fun vs=>k (v::vs):=rfl
def W8 (ρ:List Value) (d:Option Nat) (v:Value) (k:List Value→Prop):Prop :=
 match d with
 | none=>k ρ
 | some d=>JF ρ d v k
theorem PL (ρ:List Value) (n:Nat) (k:Value→Prop):Gc ρ n k=k (gt ρ n):=by
 induction ρ generalizing n with
 | nil=>rfl
 | cons v r ih=>cases n with
  | zero=>rfl
  | succ n=>exact ih n
theorem TH (ρ:List Value) (n:Nat) (v:Value) (k:List Value→Prop):JF ρ n v k=k (ρ.set n v):=by
 induction ρ generalizing n k with
 | nil=>simp [afC]
 | cons x r ih=>cases n with
  | zero=>rfl
  | succ n=>simp [adw,ih]
theorem Ta (ρ:List Value) (x:Operand) (k:Value→Prop):VW ρ x k=k (ev ρ x):=by
 cases x <;> simp [VW,ev,PL]
theorem Mu (ρ:List Value) (xs:List Operand) (k:List Value→Prop):TZ ρ xs k=k (xs.map (ev ρ)):=by
 induction xs generalizing k with
 | nil=>rfl
 | cons x r ih=>simp [ac3,Ta,ih]
def put (ρ:List Value) (d:Option Nat) (v:Value):List Value :=
 match d with
 | none=>ρ
 | some d=>ρ.set d v
theorem Yh (ρ:List Value) (d:Option Nat) (v:Value) (k:List Value→Prop):W8 ρ d v k=k (put ρ d v):=by
 cases d <;> simp [W8,put,TH]
theorem QA (ρ:List Value) (n:Nat):gt ρ n=ρ.toArray.getD n undef:=by
 induction ρ generalizing n with
 | nil=>simp [gt]
 | cons v r ih=>cases n with
  | zero=>simp [gt]
  | succ n=>simp [gt,ih]
theorem Yy (ρ:List Value):(⟨ρ.toArray,[]⟩:Act).eval=ev ρ:=by
 funext x;cases x <;> simp [Act.eval,ev,QA]
theorem put_eq (ρ:List Value) (d:Option Nat) (v:Value):(⟨ρ.toArray,[]⟩:Act).put d v=⟨(put ρ d v).toArray,[]⟩:=by
 cases d <;> simp [Act.put,put]
def TY (k:IntKind) (x y:Int):Int:=k.wrap (BitVec.ofInt k.bits x &&& BitVec.ofInt k.bits y).toNat
def So (k:IntKind) (x y:Int):Int:=k.wrap (BitVec.ofInt k.bits x ||| BitVec.ofInt k.bits y).toNat
def Q3 (k:IntKind) (x y:Int):Int:=k.wrap (BitVec.ofInt k.bits x ^^^ BitVec.ofInt k.bits y).toNat
def RP (k:IntKind) (x y:Int):Int:=k.wrap (BitVec.ofInt k.bits x &&& ~~~(BitVec.ofInt k.bits y)).toNat
def Ws (k:IntKind) (x y:Int):Int:=k.wrap (x * 2 ^ min y.toNat k.bits)
def Xe (k:IntKind) (x y:Int):Int:=x.fdiv (2 ^ min y.toNat k.bits)
def ZO (k:IntKind) (x:Int):Int:=k.wrap x
def TG (k:IntKind) (x y:Int):Int:=k.wrap (x.tdiv y)
def S9 (x y:Int):Int:=x.tmod y
theorem adx:∃f:Int→Int→Bool,∀x y,f x y=decide (x<y):=⟨_,fun _ _=>rfl⟩
theorem ady:∃f:Int→Int→Bool,∀x y,f x y=decide (x≤y):=⟨_,fun _ _=>rfl⟩
theorem adz:∃f:Int→Int→Bool,∀x y,f x y=(x == y):=⟨_,fun _ _=>rfl⟩
theorem adA:∃f:Int→Int→Bool,∀x y,f x y=(x != y):=⟨_,fun _ _=>rfl⟩
noncomputable def HG:Int→Int→Bool:=Classical.choose adx
noncomputable def Kx:Int→Int→Bool:=Classical.choose ady
noncomputable def Mt:Int→Int→Bool:=Classical.choose adz
noncomputable def GC:Int→Int→Bool:=Classical.choose adA
theorem S8 (x y:Int):HG x y=decide (x<y):=Classical.choose_spec adx x y
theorem S7 (x y:Int):Kx x y=decide (x≤y):=Classical.choose_spec ady x y
theorem S6 (x y:Int):Mt x y=(x == y):=Classical.choose_spec adz x y
theorem S5 (x y:Int):GC x y=(x != y):=Classical.choose_spec adA x y
attribute [irreducible] TY So Q3 RP Ws Xe ZO TG S9 HG Kx Mt GC
def Dm:IntKind→IntKind→Bool
 | .i8,.i8|.i16,.i16|.i32,.i32|.i64,.i64|.u8,.u8|.u16,.u16|.u32,.u32|.u64,.u64=>true
 | _,_=>false
theorem adB {k k':IntKind} (h:Dm k k'=true):k=k':=by cases k <;> cases k' <;> first|rfl|cases h
inductive Zi (P:Program) (m:Sem Value) (w:World) (K:Value→World→Prop):Prop
 | mk (v:Value) (w':World) (h:m.run P w=.ok v w') (k:K v w')
inductive JE (P:Program) (m:Sem Unit) (w:World) (K:World→Prop):Prop
 | mk (w':World) (h:m.run P w=.ok () w') (k:K w')
structure Fc (P:Program) (f:FuncId) (args:Array Value) (w:World) (R:Value→World→Prop):Prop where
 afD:(callFunc f args).run P w=.ok (.enter f args) w
 calls:Calls P f args w fun e w'=>∃v,e=.returned v∧R v w'
inductive Z7 (P:Program) (f:FuncId) (args:Array Value) (w:World) (K:Value→World→Prop):Prop
 | mk (h:Fc P f args w K)
inductive La (P:Program) (recv:Value) (name:String) (args:Array Value) (w:World) (K:Value→World→Prop):Prop
 | mk (f:FuncId) (r:Value) (w1:World) (t:TypeId) (v:Value) (hr:recv=.iface t v)
   (hm:(method (P.types.size+Made.depth) t v name).run P w=.ok (f,r) w1) (h:Fc P f (#[r]++args) w1 K)
def Ow (b:Bool) (k:Bool→Prop):Prop:=match b with
 | true=>k true
 | false=>k false
theorem To (b:Bool) (k:Bool→Prop):Ow b k=k b:=by cases b <;> rfl
theorem br {b:Bool} {X Y:Prop} (t:b=true→X) (f:b=false→Y):Ow.match_1 (fun _=>Prop) b (fun _=>X) (fun _=>Y):=by
 cases b
 ·exact f rfl
 ·exact t rfl
theorem VA {b:Bool} {X Y:Prop} (h:b=true) (t:X):Ow.match_1 (fun _=>Prop) b (fun _=>X) (fun _=>Y):=by subst h;exact t
theorem XB {b:Bool} {X Y:Prop} (h:b=false) (f:Y):Ow.match_1 (fun _=>Prop) b (fun _=>X) (fun _=>Y):=by subst h;exact f
inductive Vz (b:Int) (K:Prop):Prop
 | mk (h:b≠0) (k:K)
inductive YN (b:Int) (K:Prop):Prop
 | mk (h:0≤b) (k:K)
inductive W6 (e:Int) (K:Int→Prop):Prop
 | mk (m:Int) (h:e=m) (k:K m)
theorem W6.keep {e:Int} {K:Int→Prop} (k:K e):W6 e K:=⟨e,rfl,k⟩
theorem W6.imp {e:Int} {K K':Int→Prop} (h:W6 e K) (hk:∀m,K m→K' m):W6 e K':=by obtain ⟨m,e,k⟩:=h;exact ⟨m,e,hk _ k⟩
def SY (op:BinOp) (k:IntKind) (a b:Int) (K:Value→Prop):Prop :=
 match op with
 | .add=>W6 (ZO k (a+b)) fun n=>K (.int k n)
 | .sub=>W6 (ZO k (a-b)) fun n=>K (.int k n)
 | .mul=>W6 (ZO k (a * b)) fun n=>K (.int k n)
 | .quo=>Vz b (W6 (TG k a b) fun n=>K (.int k n))
 | .rem=>Vz b (W6 (S9 a b) fun n=>K (.int k n))
 | .and=>W6 (TY k a b) fun n=>K (.int k n)
 | .or=>W6 (So k a b) fun n=>K (.int k n)
 | .xor=>W6 (Q3 k a b) fun n=>K (.int k n)
 | .andNot=>W6 (RP k a b) fun n=>K (.int k n)
 | .eql=>K (.bool (Mt a b))
 | .neq=>K (.bool (GC a b))
 | .lss=>K (.bool (HG a b))
 | .leq=>K (.bool (Kx a b))
 | .gtr=>K (.bool (HG b a))
 | .geq=>K (.bool (Kx b a))
 | _=>False
def Jj (P:Program) (op:BinOp) (t:TypeId) (x y:Operand) (a b:Value) (w:World) (K:Value→World→Prop):Prop :=
 match a with
 | .int k a=>match b with
  | .int k' b=>match op with
   | .shl=>YN b (W6 (Ws k a b) fun n=>K (.int k n) w)
   | .shr=>YN b (W6 (Xe k a b) fun n=>K (.int k n) w)
   | op=>match Dm k k' with
    | true=>SY op k a b fun v=>K v w
    | false=>False
  | b=>Zi P (do eqGuard op t x y (.int k a) b;binOp op t (.int k a) b) w K
 | a=>Zi P (do eqGuard op t x y a b;binOp op t a b) w K
def K9 (l:List Value):List Value→(List Value→Prop)→Prop :=
 List.rec (motive:=fun _=>List Value→(List Value→Prop)→Prop) (fun ys k=>k ys) (fun x _ ih ys k=>ih ys fun zs=>k (x::zs)) l
theorem ac4 (x:Value) (xs ys:List Value) (k:List Value→Prop):K9 (x::xs) ys k=K9 xs ys fun zs=>k (x::zs):=rfl
theorem OR (xs ys:List Value) (k:List Value→Prop):K9 xs ys k=k (xs++ys):=by
 induction xs generalizing k with
 | nil=>rfl
 | cons x xs ih=>simp [ac4,ih]
def Qz (P:Program) (f:Value) (args:List Value) (w:World) (K:Value→World→Prop):Prop :=
 match f with
 | .func fn first captured=>match fn with
  | .func id=>K9 args captured.toList fun a=>K9 first.toList a fun a=>Z7 P id a.toArray w K
  | _=>False
 | _=>False
def K8 (l:List Value):Nat→(Value→Prop)→Prop :=
 List.rec (motive:=fun _=>Nat→(Value→Prop)→Prop) (fun _ _=>False) (fun v _ ih n k=>Nat.rec (motive:=fun _=>Prop) (k v) (fun m _=>ih m k) n) l
theorem OQ {l:List Value} {n:Nat} {k:Value→Prop} (h:K8 l n k):∃v,l[n]?=some v∧k v:=by
 induction l generalizing n with
 | nil=>exact h.elim
 | cons x r ih=>cases n with
  | zero=>exact ⟨x,rfl,h⟩
  | succ n=>simpa using ih (n:=n) h
theorem adC {l:List Value} {n:Nat} {k k':Value→Prop} (h:K8 l n k) (hk:∀v,k v→k' v):K8 l n k':=by
 induction l generalizing n with
 | nil=>exact h.elim
 | cons x r ih=>cases n with
  | zero=>exact hk _ h
  | succ n=>exact ih (n:=n) h
def EA (P:Program) (op:UnOp) (a:Value) (w:World) (K:Value→World→Prop):Prop :=
 match op with
 | .not=>match a with
  | .bool b=>K (.bool (!b)) w
  | _=>False
 | .neg=>match a with
  | .int k n=>W6 (ZO k (0-n)) fun m=>K (.int k m) w
  | _=>False
 | op=>Zi P (Op.unary op a) w K
def aju (P:Program) (src dst:TypeId) (a:Value) (w:World) (K:Value→World→Prop):Prop :=
 Zi P (convert src dst a) w K
def Ji (v:Value) (w:World) (K:Value→World→Prop):Prop :=
 match v with
 | .pointer p=>match p with
  | some a=>K (.pointer (some a)) w
  | none=>False
 | .func fn a b=>match fn with
  | .func f=>K (.func (.func f) a b) w
  | _=>False
 | .iface t x=>K (.iface t x) w
 | _=>False
def PK (ρ:List Value) (l:List (Nat × Operand)):(List (Nat × Value)→Prop)→Prop :=
 List.rec (motive:=fun _=>(List (Nat × Value)→Prop)→Prop) (fun k=>k []) (fun p _ ih k=>match p with
  | (i,x)=>VW ρ x fun v=>ih fun vs=>k ((i,v)::vs)) l
theorem aaY (ρ:List Value) (i:Nat) (x:Operand) (r:List (Nat × Operand)) (k:List (Nat × Value)→Prop):PK ρ ((i,x)::r) k=VW ρ x fun v=>PK ρ r fun vs=>k ((i,v)::vs):=rfl
theorem PJ (ρ:List Value) (xs:List (Nat × Operand)) (k:List (Nat × Value)→Prop) :
  PK ρ xs k=k (xs.map fun (i,x)=>(i,ev ρ x)):=by
 induction xs generalizing k with
 | nil=>rfl
 | cons x r ih=>obtain ⟨i,x⟩:=x;simp [aaY,Ta,ih]
def Ms (ρ:List Value):Option Operand→(Option Value→Prop)→Prop
 | none,k=>k none
 | some x,k=>VW ρ x fun v=>k (some v)
theorem Mr (ρ:List Value) (x:Option Operand) (k:Option Value→Prop):Ms ρ x k=k (x.map (ev ρ)):=by
 cases x <;> simp [Ms,Ta]
def IP (v:Value) (i:Nat) (w:World) (K:Value→World→Prop):Prop :=
 match v with
 | .tuple vs=>K8 vs.toList i fun v=>K v w
 | _=>False
def K7 (P:Program) (o:Oper) (ρ:List Value) (w:World) (K:Value→World→Prop):Prop :=
 match o.op with
 | .move x=>VW ρ x fun v=>K v w
 | .assign x=>VW ρ x fun v=>K v w
 | .pick c a b=>VW ρ c fun c=>match c with
  | .bool c=>Ow c fun c=>match c with
   | true=>VW ρ a fun v=>K v w
   | false=>VW ρ b fun v=>K v w
  | _=>False
 | .alloc t=>Zi P (Instr.alloc t true (.tuple #[])) w K
 | .box t x=>VW ρ x fun v=>Zi P (Instr.box t v) w K
 | .build t parts=>PK ρ parts.toList fun vs=>Zi P (Instr.build t vs.toArray) w K
 | .buildSlice t n parts=>PK ρ parts.toList fun vs=>Zi P (Instr.buildSlice t n vs.toArray) w K
 | .load t x=>VW ρ x fun a=>Zi P (Instr.loadAt t a) w K
 | .store t x y=>VW ρ x fun a=>VW ρ y fun v=>JE P (Instr.storeAt t a v) w (K undef)
 | .nilCheck x=>VW ρ x fun v=>Ji v w K
 | .binOp op t x y _=>VW ρ x fun a=>VW ρ y fun b=>Jj P op t x y a b w K
 | .unOp op _ x=>VW ρ x fun a=>EA P op a w K
 | .convert s d x=>VW ρ x fun a=>aju P s d a w K
 | .makeInterface t x=>VW ρ x fun a=>Zi P (Instr.makeInterface t a) w K
 | .makeFunc fn first captured=>TZ ρ first.toList fun fs=>TZ ρ captured.toList fun cs=>K (.func fn fs.toArray cs.toArray) w
 | .makeSlice t l c=>VW ρ l fun l=>VW ρ c fun c=>Zi P (Instr.makeSlice t l c) w K
 | .slice t x lo hi mx=>VW ρ x fun a=>Ms ρ lo fun lo=>Ms ρ hi fun hi=>Ms ρ mx fun mx=>Zi P (Instr.sliceAt t a lo hi mx) w K
 | .fieldAddr t x f=>VW ρ x fun a=>Zi P (Instr.fieldAt t a f) w K
 | .field t x f=>VW ρ x fun a=>Zi P (Instr.field t a f) w K
 | .indexAddr t x i=>VW ρ x fun a=>VW ρ i fun i=>Zi P (Instr.indexAt t a i) w K
 | .index t x i=>VW ρ x fun a=>VW ρ i fun i=>Zi P (Instr.index t a i) w K
 | .extract x i=>VW ρ x fun v=>IP v i w K
 | .typeAssert x t u ok=>VW ρ x fun a=>Zi P (Instr.typeAssert a t u ok) w K
 | .call c=>match c.callee with
  | .value f=>VW ρ f fun f=>TZ ρ c.args.toList fun vs=>Qz P f vs w K
  | .builtin .append=>TZ ρ c.args.toList fun vs=>Zi P (Builtin.append_ c.argTypes o.type vs.toArray) w K
  | .builtin .len=>TZ ρ c.args.toList fun vs=>Zi P (Builtin.len_ c.argTypes o.type vs.toArray) w K
  | .builtin .copy=>TZ ρ c.args.toList fun vs=>Zi P (Builtin.copy_ c.argTypes o.type vs.toArray) w K
  | .builtin .max=>TZ ρ c.args.toList fun vs=>Zi P (Builtin.max_ c.argTypes o.type vs.toArray) w K
  | .builtin .min=>TZ ρ c.args.toList fun vs=>Zi P (Builtin.min_ c.argTypes o.type vs.toArray) w K
  | .builtin .cap=>TZ ρ c.args.toList fun vs=>Zi P (Builtin.cap_ c.argTypes o.type vs.toArray) w K
  | .builtin .clear=>TZ ρ c.args.toList fun vs=>Zi P (Builtin.clear_ c.argTypes o.type vs.toArray) w K
  | .builtin .delete=>TZ ρ c.args.toList fun vs=>Zi P (Builtin.delete_ c.argTypes o.type vs.toArray) w K
  | .builtin .unsafeSliceData=>TZ ρ c.args.toList fun vs=>Zi P (Builtin.unsafeSliceData_ c.argTypes o.type vs.toArray) w K
  | .builtin .unsafeString=>TZ ρ c.args.toList fun vs=>Zi P (Builtin.unsafeString_ c.argTypes o.type vs.toArray) w K
  | .invoke r name=>VW ρ r fun r=>TZ ρ c.args.toList fun vs=>La P r name vs.toArray w K
  | _=>False
 | .makeMap t r=>Ms ρ r fun r=>Zi P (Instr.makeMap t r) w K
 | .lookup t x i ok=>VW ρ x fun a=>VW ρ i fun i=>Zi P (Instr.lookup t a i ok) w K
 | .mapUpdate t m k x=>VW ρ m fun m=>VW ρ k fun k=>VW ρ x fun x=>JE P (Instr.mapUpdate t m k x) w (K undef)
 | .range t x=>VW ρ x fun a=>Zi P (Instr.range t a) w K
 | .next it st=>VW ρ it fun a=>Zi P (Instr.next a st o.type) w K
 | .entry it=>VW ρ it fun a=>Zi P (Instr.entry a) w K
 | _=>False
theorem Zi.imp {P:Program} {m:Sem Value} {w:World} {K K':Value→World→Prop} (h:Zi P m w K) (hk:∀v w',K v w'→K' v w'):Zi P m w K':=by
 obtain ⟨v,w',h,k⟩:=h;exact ⟨v,w',h,hk _ _ k⟩
theorem JE.imp {P:Program} {m:Sem Unit} {w:World} {K K':World→Prop} (h:JE P m w K) (hk:∀w',K w'→K' w'):JE P m w K':=by
 obtain ⟨w',h,k⟩:=h;exact ⟨w',h,hk _ k⟩
theorem Fc.imp {P:Program} {f:FuncId} {args:Array Value} {w:World} {R R':Value→World→Prop} (h:Fc P f args w R) (hk:∀v w',R v w'→R' v w'):Fc P f args w R' :=
 ⟨h.afD,h.calls.mono fun _ _ ⟨v,he,hr⟩=>⟨v,he,hk _ _ hr⟩⟩
theorem Z7.imp {P:Program} {f:FuncId} {args:Array Value} {w:World} {R R':Value→World→Prop} (h:Z7 P f args w R) (hk:∀v w',R v w'→R' v w'):Z7 P f args w R':=by
 obtain ⟨h⟩:=h;exact ⟨h.imp hk⟩
theorem La.imp {P:Program} {r:Value} {n:String} {args:Array Value} {w:World} {R R':Value→World→Prop} (h:La P r n args w R) (hk:∀v w',R v w'→R' v w'):La P r n args w R':=by
 obtain ⟨f,r,w1,t,v,hr,hm,h⟩:=h;exact ⟨f,r,w1,t,v,hr,hm,h.imp hk⟩
theorem abP {op:BinOp} {k:IntKind} {a b:Int} {K K':Value→Prop} (h:SY op k a b K) (hk:∀v,K v→K' v):SY op k a b K':=by
 cases op <;> simp only [SY] at h⊢<;> first|exact hk _ h|exact h.imp fun m=>hk _|(obtain ⟨h,k⟩:=h;exact ⟨h,k.imp fun m=>hk _⟩)|exact h
theorem adD {P:Program} {op:BinOp} {t:TypeId} {x y:Operand} {a b:Value} {w:World} {K K':Value→World→Prop}
  (h:Jj P op t x y a b w K) (hk:∀v w',K v w'→K' v w'):Jj P op t x y a b w K':=by
 unfold Jj at h ⊢
 split at h
 ·split at h
  ·split at h
   ·obtain ⟨h,k⟩:=h;exact ⟨h,k.imp fun m=>hk _ _⟩
   ·obtain ⟨h,k⟩:=h;exact ⟨h,k.imp fun m=>hk _ _⟩
   ·split at h
    ·exact abP h fun v=>hk v w
    ·exact h
  ·exact h.imp hk
 ·exact h.imp hk
theorem afE {P:Program} {op:UnOp} {a:Value} {w:World} {K K':Value→World→Prop}
  (h:EA P op a w K) (hk:∀v w',K v w'→K' v w'):EA P op a w K':=by
 unfold EA at h ⊢
 split at h
 ·split at h
  ·exact hk _ _ h
  ·exact h
 ·split at h
  ·exact h.imp fun m=>hk _ _
  ·exact h
 ·exact h.imp hk
theorem adE {a:Value} {w:World} {K K':Value→World→Prop}
  (h:Ji a w K) (hk:∀v w',K v w'→K' v w'):Ji a w K':=by
 unfold Ji at h ⊢
 split at h
 ·split at h
  ·exact hk _ _ h
  ·exact h
 ·split at h
  ·exact hk _ _ h
  ·exact h
 ·exact hk _ _ h
 ·exact h
theorem adF {a:Value} {i:Nat} {w:World} {K K':Value→World→Prop}
  (h:IP a i w K) (hk:∀v w',K v w'→K' v w'):IP a i w K':=by
 unfold IP at h ⊢
 split at h
 ·exact adC h fun v=>hk v w
 ·exact h
theorem aaZ {P:Program} {f:Value} {vs:List Value} {w:World} {K K':Value→World→Prop}
  (h:Qz P f vs w K) (hk:∀v w',K v w'→K' v w'):Qz P f vs w K':=by
 unfold Qz at h ⊢
 simp only [OR] at h ⊢
 split at h
 ·split at h
  ·exact h.imp hk
  ·exact h
 ·exact h
theorem Mq {P:Program} {o:Oper} {ρ:List Value} {w:World} {K K':Value→World→Prop}
  (h:K7 P o ρ w K) (hk:∀v w',K v w'→K' v w'):K7 P o ρ w K':=by
 unfold K7 at h ⊢
 simp only [Ta,Mu,PJ,Mr,To] at h ⊢
 split at h <;> first
  | exact h.imp hk
  | exact hk _ _ h
  | exact adD h hk
  | exact afE h hk
  | exact Zi.imp h hk
  | exact adE h hk
  | exact adF h hk
  | exact h.imp fun w'=>hk _ w'
  | exact h
  | (split at h <;> first|exact aaZ h hk|exact Zi.imp h hk|exact La.imp h hk|exact h|(split at h <;> exact hk _ _ h))
theorem Y5 {P:Program} {o:Oper} {a:Act} {m:Sem Value} {w:World} {next:Act→World→Prop} {Q:Exit→Act→World→Prop}
  (he:execOp a.eval o=(do pure (.value (←m)))) (h:Zi P m w fun v w'=>next (a.put o.dst v) w'):o.wp P a w next Q:=by
 obtain ⟨v,w',hm,k⟩:=h
 simp only [Oper.wp,he,Sem.run_bind,hm,Result.andThen_ok,Sem.run_pure,Oper.upon]
 exact k
theorem Vy {P:Program} {o:Oper} {a:Act} {v:Value} {w w':World} {next:Act→World→Prop} {Q:Exit→Act→World→Prop}
  (he:(execOp a.eval o).run P w=.ok (.value v) w') (h:next (a.put o.dst v) w'):o.wp P a w next Q:=by
 simp only [Oper.wp,he,Oper.upon]
 exact h
theorem ac5 {P:Program} {o:Oper} {a:Act} {f:FuncId} {args:Array Value} {w:World} {next:Act→World→Prop} {Q:Exit→Act→World→Prop}
  (he:(execOp a.eval o).run P w=(callFunc f args).run P w) (h:Fc P f args w fun v w'=>next (a.put o.dst v) w'):o.wp P a w next Q:=by
 obtain ⟨h1,h2⟩:=h
 simp only [Oper.wp,he,h1,Oper.upon]
 refine h2.mono ?_
 rintro e w' ⟨v,rfl,hr⟩
 exact hr
theorem aaR {P:Program} {op:BinOp} {k:IntKind} {t:TypeId} {x y:Operand} {a b:Int} {w:World} {K:Value→Prop} (alO:op≠.shl) (alP:op≠.shr)
  (h:SY op k a b K):Zi P (do eqGuard op t x y (.int k a) (.int k b);binOp op t (.int k a) (.int k b)) w fun v w'=>w'=w∧K v:=by
 have hg:(eqGuard op t x y (.int k a) (.int k b)).run P w=.ok () w:=by
  unfold eqGuard;split <;> rfl
 cases op <;> simp only [SY] at h <;> first
  | (obtain ⟨hb,_,rfl,h⟩:=h;refine ⟨_,w,?_,rfl,h⟩;simp only [Sem.run_bind,hg,Result.andThen_ok];simp [binOp,Op.intDiv,hb,TG,S9])
  | (obtain ⟨_,rfl,h⟩:=h;refine ⟨_,w,?_,rfl,h⟩;simp only [Sem.run_bind,hg,Result.andThen_ok];simp [binOp,Op.intArith,Op.intBits,Op.intCmp,ZO,TY,So,Q3,RP,S6,S5,S8,S7])
  | (refine ⟨_,w,?_,rfl,h⟩;simp only [Sem.run_bind,hg,Result.andThen_ok];simp [binOp,Op.intArith,Op.intBits,Op.intCmp,ZO,TY,So,Q3,RP,S6,S5,S8,S7])
  | contradiction
  | exact h.elim
theorem abQ {P:Program} {op:BinOp} {t:TypeId} {x y:Operand} {a b:Value} {w:World} {K:Value→World→Prop}
  (h:Jj P op t x y a b w K):Zi P (do eqGuard op t x y a b;binOp op t a b) w K:=by
 unfold Jj at h
 split at h
 ·split at h
  ·split at h
   ·obtain ⟨hb,_,rfl,h⟩:=h
    refine ⟨_,w,?_,h⟩
    simp only [eqGuard,Sem.run_bind];simp [binOp,Op.shift,Ws,Int.not_lt.2 hb]
   ·obtain ⟨hb,_,rfl,h⟩:=h
    refine ⟨_,w,?_,h⟩
    simp only [eqGuard,Sem.run_bind];simp [binOp,Op.shift,Xe,Int.not_lt.2 hb]
   ·rename_i Rf hk2
    split at h
    ·rename_i hk
     obtain rfl:=adB hk
     exact (aaR (fun e=>Rf e) (fun e=>hk2 e) h).imp fun v w' ⟨e,k⟩=>e ▸ k
    ·exact k_Q
  ·exact h
 ·exact h
theorem Uv {P:Program} {o:Oper} {ρ:List Value} {w:World} {K:Value→World→Prop} {next:Act→World→Prop} {Q:Exit→Act→World→Prop}
  (h:K7 P o ρ w K) (hn:∀v w',K v w'→next ((⟨ρ.toArray,[]⟩:Act).put o.dst v) w'):o.wp P ⟨ρ.toArray,[]⟩ w next Q:=by
 have h:=Mq h hn
 clear hn
 unfold K7 at h
 simp only [Ta,Mu,PJ,Mr,To] at h
 split at h
 case h_1 x ho=>exact Vy (v:=ev ρ x) (w':=w) (by rw [Yy];unfold execOp;rw [ho];rfl) h
 case h_2 x ho=>exact Vy (v:=ev ρ x) (w':=w) (by rw [Yy];unfold execOp;rw [ho];rfl) h
 case h_3 c a b ho =>
  split at h
  ·rename_i cb hc
   split at h
   ·exact Vy (v:=ev ρ a) (w':=w) (by rw [Yy];unfold execOp;rw [ho];simp [hc,asBool]) h
   ·exact Vy (v:=ev ρ b) (w':=w) (by rw [Yy];unfold execOp;rw [ho];simp [hc,asBool]) h
  ·exact k_Q
 case h_4 t ho=>exact Y5 k_L h
 case h_5 t x ho=>exact Y5 k_w h
 case h_6 t ps ho =>
  refine Y5 (m:=Instr.build t ((ps.toList.map fun (i,x)=>(i,ev ρ x)).toArray)) (by rw [Yy];unfold execOp;rw [ho];simp [←Array.toList_map]) h
 case h_7 t n ps ho =>
  refine Y5 (m:=Instr.buildSlice t n ((ps.toList.map fun (i,x)=>(i,ev ρ x)).toArray)) (by rw [Yy];unfold execOp;rw [ho];simp [←Array.toList_map]) h
 case h_8 t x ho=>exact Y5 k_w h
 case h_9 t x y ho =>
  obtain ⟨w',hm,k⟩:=h
  have he:(execOp (⟨ρ.toArray,[]⟩:Act).eval o).run P w=.ok .skip w':=by
   rw [Yy];unfold execOp;rw [ho];simp only [Sem.run_bind,hm,Result.andThen_ok,Sem.run_pure]
  simp only [Oper.wp,he,Oper.upon]
  exact k
 case h_10 x ho =>
  have he:∀u,Ji (ev ρ x) w u→∃v,(execOp (ev ρ) o).run P w=.ok (.value v) w∧u v w:=by
   intro u hu
   unfold Ji at hu
   unfold execOp
   rw [ho]
   simp only
   split at hu
   ·rename_i p hp
    split at hu
    ·exact ⟨_,by rw [hp];rfl,hu⟩
    ·exact hu.elim
   ·rename_i fn a b hp
    split at hu
    ·exact ⟨_,by rw [hp];rfl,hu⟩
    ·exact hu.elim
   ·rename_i t v hp
    exact ⟨_,by rw [hp];rfl,hu⟩
   ·exact hu.elim
  obtain ⟨v,h1,h2⟩:=he _ h
  exact Vy (by rw [Yy];exact h1) h2
 case h_11 op t x y yt ho=>exact Y5 k_w (abQ h)
 case h_12 op t x ho =>
  unfold EA at h
  split at h
  ·split at h
   ·rename_i b hb
    refine Vy (v:=.bool (!b)) (w':=w) ?_ h
    rw [Yy];unfold execOp;rw [ho];simp [hb,Op.unary]
   ·exact k_Q
  ·split at h
   ·rename_i k n hb
    obtain ⟨_,rfl,h⟩:=h
    refine Vy (v:=.int k (ZO k (0-n))) (w':=w) ?_ h
    rw [Yy];unfold execOp;rw [ho];simp [hb,Op.unary,Op.intArith,ZO]
   ·exact k_Q
  ·exact Y5 k_w h
 case h_13 s d x ho=>exact Y5 k_w h
 case h_14 t x ho=>exact Y5 k_w h
 case h_15 fn fs cs ho =>
  refine Vy (w':=w) ?_ h
  rw [Yy];unfold execOp;rw [ho];simp [Instr.makeFunc,←Array.toList_map]
 case h_16 t l c ho=>exact Y5 k_w h
 case h_17 t x lo hi mx ho=>exact Y5 k_w h
 case h_18 t x f ho=>exact Y5 k_w h
 case h_19 t x f ho=>exact Y5 k_w h
 case h_20 t x i ho=>exact Y5 k_w h
 case h_21 t x i ho=>exact Y5 k_w h
 case h_22 x i ho =>
  unfold IP at h
  split at h
  ·rename_i vs hv
   obtain ⟨u,hu,h⟩:=OQ h
   refine Vy (v:=u) (w':=w) ?_ h
   rw [Yy];unfold execOp;rw [ho]
   simp only [Array.getElem?_toList] at hu
   simp [hv,Instr.extract,hu]
  ·exact k_Q
 case h_23 x t u ok ho=>exact Y5 k_w h
 case h_24 c ho =>
  have hargs:∀(xs:Array Operand),(xs.toList.map (ev ρ)).toArray=xs.map (ev ρ):=fun xs=>by simp [←Array.toList_map]
  split at h
  ·rename_i f hf
   unfold Qz at h
   simp only [OR] at h
   split at h
   ·rename_i fn fst cap hv
    split at h
    ·rename_i id
     obtain ⟨h⟩:=h
     refine ac5 (f:=id) ?_ h
     have he:(fst.toList++(List.map (ev ρ) c.args.toList++cap.toList)).toArray=fst++Array.map (ev ρ) c.args++cap:=by
      apply Array.ext';simp
     rw [Yy];unfold execOp;rw [ho]
     simp only [resolve,hf,hv,Deferred.ofValue,Sem.run_bind,Sem.run_pure,Result.andThen_ok,invoke,he]
    ·exact k_Q
   ·exact k_Q
  ·rename_i hc
   refine Y5 (m:=Builtin.append_ c.argTypes o.type (c.args.map (ev ρ))) ?_ k_M
   rw [Yy];unfold execOp;rw [ho];simp only [resolve,hc,pure_bind,invoke,builtin]
  ·rename_i hc
   refine Y5 (m:=Builtin.len_ c.argTypes o.type (c.args.map (ev ρ))) ?_ k_M
   rw [Yy];unfold execOp;rw [ho];simp only [resolve,hc,pure_bind,invoke,builtin]
  ·rename_i hc
   refine Y5 (m:=Builtin.copy_ c.argTypes o.type (c.args.map (ev ρ))) ?_ k_M
   rw [Yy];unfold execOp;rw [ho];simp only [resolve,hc,pure_bind,invoke,builtin]
  ·rename_i hc
   refine Y5 (m:=Builtin.max_ c.argTypes o.type (c.args.map (ev ρ))) ?_ k_M
   rw [Yy];unfold execOp;rw [ho];simp only [resolve,hc,pure_bind,invoke,builtin]
  ·rename_i hc
   refine Y5 (m:=Builtin.min_ c.argTypes o.type (c.args.map (ev ρ))) ?_ k_M
   rw [Yy];unfold execOp;rw [ho];simp only [resolve,hc,pure_bind,invoke,builtin]
  ·rename_i hc
   refine Y5 (m:=Builtin.cap_ c.argTypes o.type (c.args.map (ev ρ))) ?_ k_M
   rw [Yy];unfold execOp;rw [ho];simp only [resolve,hc,pure_bind,invoke,builtin]
  ·rename_i hc
   refine Y5 (m:=Builtin.clear_ c.argTypes o.type (c.args.map (ev ρ))) ?_ k_M
   rw [Yy];unfold execOp;rw [ho];simp only [resolve,hc,pure_bind,invoke,builtin]
  ·rename_i hc
   refine Y5 (m:=Builtin.delete_ c.argTypes o.type (c.args.map (ev ρ))) ?_ k_M
   rw [Yy];unfold execOp;rw [ho];simp only [resolve,hc,pure_bind,invoke,builtin]
  ·rename_i hc
   refine Y5 (m:=Builtin.unsafeSliceData_ c.argTypes o.type (c.args.map (ev ρ))) ?_ k_M
   rw [Yy];unfold execOp;rw [ho];simp only [resolve,hc,pure_bind,invoke,builtin]
  ·rename_i hc
   refine Y5 (m:=Builtin.unsafeString_ c.argTypes o.type (c.args.map (ev ρ))) ?_ k_M
   rw [Yy];unfold execOp;rw [ho];simp only [resolve,hc,pure_bind,invoke,builtin]
  ·rename_i r name hc
   obtain ⟨f,rv,w1,t,v,hr,hm,h⟩:=h
   obtain ⟨h1,h2⟩:=h
   have he:(execOp (⟨ρ.toArray,[]⟩:Act).eval o).run P w=.ok (.enter f (#[rv]++(c.args.toList.map (ev ρ)).toArray)) w1:=by
    rw [Yy];unfold execOp;rw [ho]
    simp only [resolve,hc,pure_bind,invoke,hr]
    have e1:(#[Value.iface t v]++Array.map (ev ρ) c.args)[0]?=some (.iface t v):=by
     rw [Array.getElem?_append_left (Nat.zero_lt_one)];rfl
    have e2:(#[Value.iface t v]++Array.map (ev ρ) c.args).extract 1 (#[Value.iface t v]++Array.map (ev ρ) c.args).size=Array.map (ev ρ) c.args:=by
     apply Array.ext';simp [List.take_of_length_le]
    simp only [e1,e2,callMethod]
    have e3:∀(k:FuncId × Value→Sem Next),(do let __do_lift ←program;let x ←method (__do_lift.types.size+Made.depth) t v name;k x:Sem Next).run P w=(k (f,rv)).run P w1:=by
     intro k
     show (method (P.types.size+Made.depth) t v name >>= fun x=>k x).run P w=_
     rw [Sem.run_bind,hm];rfl
    rw [hargs] at h1 ⊢
    exact (e3 _).trans h1
   simp only [Oper.wp,he,Oper.upon]
   refine h2.mono ?_
   rintro e w' ⟨v,rfl,hr⟩
   exact hr
  ·exact k_Q
 case h_25 t r ho=>exact Y5 k_w h
 case h_26 t x i ok ho=>exact Y5 k_w h
 case h_27 t m k x ho =>
  obtain ⟨w',hm,k⟩:=h
  have he:(execOp (⟨ρ.toArray,[]⟩:Act).eval o).run P w=.ok .skip w':=by
   rw [Yy];unfold execOp;rw [ho];simp only [Sem.run_bind,hm,Result.andThen_ok,Sem.run_pure]
  simp only [Oper.wp,he,Oper.upon]
  exact k
 case h_28 t x ho=>exact Y5 k_w h
 case h_29 it st ho=>exact Y5 k_w h
 case h_30 it ho=>exact Y5 k_w h
 case h_31=>exact h.elim
def X8 (ops:List Oper) (g:Option (Nat × Bool)) (ρ:List Value) (k:Bool→List Value→Prop):Prop :=
 match g with
 | none=>k true ρ
 | some (j,want)=>match ops[j]? with
  | none=>False
  | some oj=>match oj.dst with
   | none=>False
   | some d=>Gc ρ d fun v=>match v with
    | .bool b=>Ow b fun b=>JF ρ d (.bool b) fun ρ=>match b with
     | true=>match want with
      | true=>k true ρ
      | false=>k false ρ
     | false=>match want with
      | true=>k false ρ
      | false=>k true ρ
    | .tuple _=>k false ρ
    | _=>False
def Ng (P:Program) (ops:List Oper) (K:List Value→World→Prop) (l:List Oper):List Value→World→Prop :=
 List.rec (motive:=fun _=>List Value→World→Prop) K (fun o _ ih ρ w=>X8 ops o.guard ρ fun b ρ=>match b with
  | true=>K7 P o ρ w fun v w=>W8 ρ o.dst v fun ρ=>ih ρ w
  | false=>W8 ρ o.dst undef fun ρ=>ih ρ w) l
theorem adG (P:Program) (ops:List Oper) (K:List Value→World→Prop) (ρ:List Value) (w:World):Ng P ops K [] ρ w=K ρ w:=rfl
theorem PI (P:Program) (ops:List Oper) (K:List Value→World→Prop) (o:Oper) (r:List Oper) (ρ:List Value) (w:World):Ng P ops K (o::r) ρ w=X8 ops o.guard ρ fun b ρ=>match b with
  | true=>K7 P o ρ w fun v w=>W8 ρ o.dst v fun ρ=>Ng P ops K r ρ w
  | false=>W8 ρ o.dst undef fun ρ=>Ng P ops K r ρ w:=rfl
def Vx (next:List Value→World→Prop) (Q:Exit→List Value→World→Prop) (e:Exit) (ρ:List Value) (w:World):Prop :=
 match e with
 | .normal=>next ρ w
 | e=>Q e ρ w
def TF (id:Nat) (Q:Exit→List Value→World→Prop) (e:Exit) (ρ:List Value) (w:World):Prop :=
 match e with
 | .exit id'=>match id' == id with
  | true=>Q .normal ρ w
  | false=>Q (.exit id') ρ w
 | e=>Q e ρ w
def RO (Q:Exit→List Value→World→Prop) (e:Exit) (ρ:List Value) (w:World):Prop :=
 match e with
 | .goto _=>False
 | e=>Q e ρ w
def Qy (l:Nat) (J:List Value→World→Prop) (Q:Exit→List Value→World→Prop) (e:Exit) (ρ:List Value) (w:World):Prop :=
 match e with
 | .goto l'=>l'=l∧J ρ w
 | e=>Q e ρ w
abbrev Kw:=(Exit→List Value→World→Prop)→List Value→World→Prop
inductive YP (P:Program) (c:Code) (B:Kw) (Q:Exit→List Value→World→Prop) (ρ:List Value) (w:World):Prop
 | mk (I:List Value→World→Prop) (μ:List Value→World→Nat) (h0:I ρ w)
   (round:∀ρ w,I ρ w→B (Vx (fun ρ' w'=>I ρ' w'∧μ ρ' w'<μ ρ w) Q) ρ w)
inductive Ov (P:Program) (x y:Code) (B C:Kw) (b:Bool) (Q:Exit→List Value→World→Prop) (ρ:List Value) (w:World):Prop
 | mk (t:b=true→B Q ρ w) (f:b=false→C Q ρ w)
inductive Hi (P:Program) (c:Code) (B:Kw) (id:Nat) (Q:Exit→List Value→World→Prop) (ρ:List Value) (w:World):Prop
 | mk (h:B (TF id Q) ρ w)
theorem cT {P:Program} {x y:Code} {B C:Kw} {b:Bool} {Q:Exit→List Value→World→Prop} {ρ:List Value} {w:World} (h:b=true) (k:B Q ρ w):Ov P x y B C b Q ρ w :=
 ⟨fun _=>k,fun e=>(by rw [h] at e;cases e)⟩
theorem cF {P:Program} {x y:Code} {B C:Kw} {b:Bool} {Q:Exit→List Value→World→Prop} {ρ:List Value} {w:World} (h:b=false) (k:C Q ρ w):Ov P x y B C b Q ρ w :=
 ⟨fun e=>(by rw [h] at e;cases e),fun _=>k⟩
theorem cI {P:Program} {x y:Code} {B C:Kw} {b:Bool} {Q:Exit→List Value→World→Prop} {ρ:List Value} {w:World} (t:b=true→B Q ρ w) (f:b=false→C Q ρ w):Ov P x y B C b Q ρ w:=⟨t,f⟩
theorem bk {P:Program} {c:Code} {B:Kw} {id:Nat} {Q:Exit→List Value→World→Prop} {ρ:List Value} {w:World} (h:B (TF id Q) ρ w):Hi P c B id Q ρ w:=⟨h⟩
def YC (ops:List Oper):List Nat:=ops.filterMap fun o=>o.dst
def agree (ds:List Nat) (ρ ρ':List Value):Prop:=ρ'.length=ρ.length∧∀i,i∉ds→ρ'[i]?=ρ[i]?
def VT:Code→List Nat
 | .seq x y=>VT x++VT y
 | .cond _ x y=>VT x++VT y
 | .block _ c=>VT c
 | .loop c=>VT c
 | .scope c=>VT c
 | .region _ ops _=>YC ops.toList
 | _=>[]
theorem aa0 {l:Nat}:∀{c rest:Code},findLabel c l=some rest→∀i,i∈VT rest→i∈VT c:=by
 intro c
 induction c with
 | seq x y K6 K5 =>
  intro rest h i hi
  unfold findLabel at h
  cases hx:findLabel x l with
  | some r =>
   rw [hx] at h
   obtain rfl:=Option.some.inj h
   rcases lFa.1 hi with hi|hi
   ·exact leb _ (K6 hx i hi)
   ·exact lLb _ hi
  | none=>rw [hx] at h;exact lLb _ (K5 h i hi)
 | label l' =>
  intro rest h i hi
  unfold findLabel at h
  split at h
  ·obtain rfl:=Option.some.inj h;cases hi
  ·cases h
 | _=>intro rest h;simp [findLabel] at h
def lift (Q:Exit→List Value→World→Prop) (e:Exit) (a:Act) (w:World):Prop:=a.defers=[]∧Q e a.tmps.toList w
structure alQ (P:Program) (c:Code) (M:Kw):Prop where
 sound:∀{Q:Exit→List Value→World→Prop} {ρ:List Value} {w:World},M Q ρ w→c.wp P (lift Q) ⟨ρ.toArray,[]⟩ w
 imp:∀{Q Q':Exit→List Value→World→Prop} {ρ:List Value} {w:World},M Q ρ w→(∀e ρ w,Q e ρ w→Q' e ρ w)→M Q' ρ w
 frame:∀{Q:Exit→List Value→World→Prop} {ρ:List Value} {w:World},M Q ρ w→M (fun e ρ' w'=>Q e ρ' w'∧agree (VT c) ρ ρ') ρ w
inductive adH (P:Program) (c:Code) (B:Kw) (Q:Exit→List Value→World→Prop) (ρ:List Value) (w:World):Prop
 | Sn (h:B (RO Q) ρ w)
 | jumps (l:Nat) (rest:Code) (M:Kw) (hM:alQ P rest M) (J:List Value→World→Prop) (μ:List Value→World→Nat) (hf:findLabel c l=some rest) (first:B (Qy l J Q) ρ w)
   (pass:∀ρ w,J ρ w→M (Qy l (fun ρ' w'=>J ρ' w'∧μ ρ' w'<μ ρ w) Q) ρ w)
inductive Ou (P:Program) (id:Nat) (ops:Array Oper) (K:List Value→World→Prop) (ρ:List Value) (w:World):Prop
 | mk (h:(Code.region id ops true).wp P (fun e a w'=>e=.normal∧a.defers=[]∧agree (YC ops.toList) ρ a.tmps.toList∧K a.tmps.toList w') ⟨ρ.toArray,[]⟩ w)
def Np (P:Program) (c:Code):Kw :=
 Code.rec (motive:=fun _=>Kw)
  (fun Q ρ w=>Q .normal ρ w)
  (fun id ops draw Q ρ w=>match draw with
   | false=>Ng P ops.toList (Q .normal) ops.toList ρ w
   | true=>Ou P id ops (Q .normal) ρ w)
  (fun _ _ K6 K5 Q ρ w=>K6 (Vx (K5 Q) Q) ρ w)
  (fun c x y K6 K5 Q ρ w=>VW ρ c fun v=>match v with
   | .bool b=>Ov P x y K6 K5 b Q ρ w
   | _=>False)
  (fun id c ih Q ρ w=>match c with
   | .loop _=>ih (TF id Q) ρ w
   | c=>Hi P c ih id Q ρ w)
  (fun c ih Q ρ w=>YP P c ih Q ρ w)
  (fun _ _ _ _ _ _ _ _ _=>False)
  (fun id Q ρ w=>Q (.exit id) ρ w)
  (fun c ih Q ρ w=>adH P c ih Q ρ w)
  (fun _ Q ρ w=>Q .normal ρ w)
  (fun l Q ρ w=>Q (.goto l) ρ w)
  (fun Q ρ w=>Q .ret ρ w)
  (fun _ _ _ _=>False) c
section
variable (P:Program) (Q:Exit→List Value→World→Prop) (ρ:List Value) (w:World)
theorem Mo (x y:Code):Np P (.seq x y) Q ρ w=Np P x (Vx (Np P y Q) Q) ρ w:=rfl
theorem Ot (c:Operand) (x y:Code):Np P (.cond c x y) Q ρ w=VW ρ c fun v=>match v with
   | .bool b=>Ov P x y (Np P x) (Np P y) b Q ρ w
   | _=>False:=rfl
theorem PG (id:Nat) (c:Code):Np P (.block id c) Q ρ w↔Np P c (TF id Q) ρ w:=by
 have h:Hi P c (Np P c) id Q ρ w↔Np P c (TF id Q) ρ w:=⟨fun ⟨h⟩=>h,fun h=>⟨h⟩⟩
 cases c <;> first|exact h|exact Iff.rfl
end
theorem PF {P:Program} {Q:Exit→List Value→World→Prop} {ρ:List Value} {w:World} (c:Code):Np P (.scope c) Q ρ w=adH P c (Np P c) Q ρ w:=rfl
theorem aa1 {Q Q':Exit→List Value→World→Prop} (hq:∀e ρ w,Q e ρ w→Q' e ρ w):∀e ρ w,RO Q e ρ w→RO Q' e ρ w:=fun e ρ w h=>by
 cases e <;> simp only [RO] at h⊢<;> exact hq _ _ _ h
theorem aaw {l:Nat} {J J':List Value→World→Prop} {Q Q':Exit→List Value→World→Prop} (hj:∀ρ w,J ρ w→J' ρ w) (hq:∀e ρ w,Q e ρ w→Q' e ρ w):∀e ρ w,Qy l J Q e ρ w→Qy l J' Q' e ρ w:=fun e ρ w h=>by
 cases e <;> simp only [Qy] at h⊢<;> first|exact ⟨h.1,hj _ _ h.2⟩|exact hq _ _ _ h
theorem PE {P:Program} {x y:Code} {B C:Kw} {b:Bool} {Q:Exit→List Value→World→Prop} {ρ:List Value} {w:World}:Ov P x y B C b Q ρ w↔if b then B Q ρ w else C Q ρ w:=by
 constructor
 ·rintro ⟨t,f⟩;cases b
  ·exact f rfl
  ·exact t rfl
 ·intro h;cases b
  ·exact cF rfl h
  ·exact cT rfl h
theorem aan {ops:List Oper} {g:Option (Nat × Bool)} {ρ:List Value} {k k':Bool→List Value→Prop} (h:X8 ops g ρ k) (hk:∀b ρ,k b ρ→k' b ρ):X8 ops g ρ k':=by
 unfold X8 at h ⊢
 split at h
 ·exact hk _ _ h
 ·simp only [PL,TH,To] at h ⊢
  split at h
  ·exact k_Q
  ·split at h
   ·exact k_Q
   ·split at h
    ·split at h <;> (split at h <;> exact hk _ _ h)
    ·exact hk _ _ h
    ·exact k_Q
theorem adI {P:Program} {ops:List Oper} {K K':List Value→World→Prop} (hk:∀ρ w,K ρ w→K' ρ w) (l:List Oper) :
  ∀{ρ:List Value} {w:World},Ng P ops K l ρ w→Ng P ops K' l ρ w:=by
 induction l with
 | nil=>exact fun h=>hk _ _ h
 | cons o r ih =>
  intro ρ w h
  simp only [PI] at h ⊢
  refine aan h fun b ρ h=>?_
  cases b
  ·simp only [Yh] at h ⊢;exact ih h
  ·simp only [Yh] at h ⊢;exact Mq h fun v w h=>ih h
theorem VN {P:Program} (c:Code):∀{Q Q':Exit→List Value→World→Prop} {ρ:List Value} {w:World},Np P c Q ρ w→(∀e ρ w,Q e ρ w→Q' e ρ w)→Np P c Q' ρ w:=by
 induction c with
 | skip=>exact fun h hq=>hq _ _ _ h
 | label l=>exact fun h hq=>hq _ _ _ h
 | exit i=>exact fun h hq=>hq _ _ _ h
 | ret=>exact fun h hq=>hq _ _ _ h
 | seq x y K6 K5 =>
  intro Q Q' ρ w h hq
  simp only [Mo] at h ⊢
  refine K6 h fun e ρ w he=>?_
  cases e <;> simp only [Vx] at he⊢<;> first|exact K5 he hq|exact hq _ _ _ he
 | cond c x y K6 K5 =>
  intro Q Q' ρ w h hq
  simp only [Ot,Ta,PE] at h ⊢
  split at h
  ·split at h
   ·rw [if_pos qa];exact K6 h hq
   ·rw [if_neg qa];exact K5 h hq
  ·exact k_Q
 | block id c ih =>
  intro Q Q' ρ w h hq
  rw [PG] at h ⊢
  refine ih h fun e ρ w he=>?_
  cases e <;> simp only [TF] at he⊢<;> first|exact hq _ _ _ he|(split at he <;> exact hq _ _ _ he)
 | region id ops draw =>
  intro Q Q' ρ w h hq
  cases draw
  ·exact adI (fun ρ w=>hq .normal ρ w) _ h
  ·obtain ⟨h⟩:=h
   exact ⟨Code.wp_mono (fun e a w ⟨h1,h2,h3,h4⟩=>⟨h1,h2,h3,hq _ _ _ h4⟩) h⟩
 | loop c ih =>
  intro Q Q' ρ w h hq
  obtain ⟨I,μ,h0,hr⟩:=h
  refine ⟨I,μ,h0,fun ρ w hI=>ih (hr ρ w hI) fun e ρ w he=>?_⟩
  cases e <;> simp only [Vx] at he⊢<;> first|exact hq _ _ _ he|exact he
 | rangeFunc=>exact fun h=>h.elim
 | scope c ih =>
  intro Q Q' ρ w h hq
  rw [PF] at h ⊢
  cases h with
  | Sn h=>exact .Sn (ih h (aa1 hq))
  | jumps l rest M hM J μ hf first pass=>exact .jumps l rest M hM J μ hf (ih first (aaw (fun _ _ h=>h) hq)) fun ρ w hJ=>hM.imp (pass ρ w hJ) (aaw (fun _ _ h=>h) hq)
 | goto=>exact fun h hq=>hq _ _ _ h
 | refuse=>exact fun h=>h.elim
theorem OP {a:Act} (h:a.defers=[]):a=⟨a.tmps.toList.toArray,[]⟩:=by
 cases a;simp only at h;subst h;simp
theorem X0 {ops:Array Oper} {o:Oper} {ρ:List Value} {k:Bool→List Value→Prop} (h:X8 ops.toList o.guard ρ k) :
  ∃b,Region.wanted o (yielded ops ρ.toArray)=b∧k b ρ:=by
 unfold X8 at h
 split at h
 ·rename_i hg;exact ⟨true,by simp [Region.wanted,hg],h⟩
 ·rename_i j want hg
  simp only [PL,TH,To] at h
  split at h
  ·exact k_Q
  ·rename_i oj hj
   split at h
   ·exact k_Q
   ·rename_i d hd
    split at h
    ·rename_i b hb
     have WY:ρ.set d (.bool b)=ρ:=by
      apply lJa
      intro i
      rw [lPa]
      split
      ·rename_i e;subst e
       by_cases hl:d<ρ.length
       ·rw [if_pos hl]
        rw [QA] at hb
        simp only [Array.getD_eq_getD_getElem?,List.getElem?_toArray] at hb
        rw [laa hl] at hb ⊢
        simp only [Option.getD_some] at hb
        rw [hb]
       ·rw [if_neg hl]
        rw [lSa (ldc hl)]
      ·rfl
     have hy:yielded ops ρ.toArray j=some b:=by
      have hl:d<ρ.length:=by
       rcases lEa d ρ.length with hl|hl
       ·exact hl
       ·rw [QA] at hb
        simp [Array.getD_eq_getD_getElem?,List.getElem?_eq_none hl,undef] at hb
      rw [QA] at hb
      simp only [Array.getD_eq_getD_getElem?,List.getElem?_toArray,List.getElem?_eq_getElem hl,Option.getD_some] at hb
      simp only [Array.getElem?_toList] at hj
      simp [yielded,hj,hd,List.getElem?_eq_getElem hl,hb]
     rw [WY] at h
     cases b <;> cases want <;> simp only at h <;> exact ⟨_,by simp [Region.wanted,hg,hy],h⟩
    ·rename_i vs hb
     refine ⟨false,?_,h⟩
     have hy:yielded ops ρ.toArray j=none:=by
      simp only [Array.getElem?_toList] at hj
      rw [QA] at hb
      simp only [yielded,hj,Option.bind_some,hd]
      cases hl:ρ[d]? with
      | none=>simp [hl]
      | some v =>
       simp [Array.getD_eq_getD_getElem?,hl] at hb
       simp [hl,hb]
     simp [Region.wanted,hg,hy]
    ·exact k_Q
theorem abR {P:Program} {ops:Array Oper} {Q:Exit→List Value→World→Prop} (l:List Oper) :
  ∀{ρ:List Value} {w:World},Ng P ops.toList (Q .normal) l ρ w→wpList P ops (lift Q) l ⟨ρ.toArray,[]⟩ w:=by
 induction l with
 | nil=>exact fun h=>⟨rfl,by simpa [adG] using h⟩
 | cons o r ih =>
  intro ρ w h
  simp only [PI,Yh] at h
  obtain ⟨b,hb,h⟩:=X0 h
  unfold wpList
  cases b
  ·rw [if_neg (by simp [hb]),put_eq]
   exact ih h
  ·rw [if_pos hb]
   exact .inl (Uv h fun v w' h=>by rw [put_eq];exact ih h)
theorem ac6 {P:Program} (c:Code):∀{Q:Exit→List Value→World→Prop} {ρ:List Value} {w:World},Np P c Q ρ w→c.wp P (lift Q) ⟨ρ.toArray,[]⟩ w:=by
 induction c with
 | skip=>exact fun h=>wp_skip ⟨rfl,h⟩
 | label l=>exact fun h=>wp_label ⟨rfl,h⟩
 | exit i=>exact fun h=>wp_exit ⟨rfl,h⟩
 | ret=>exact fun h=>wp_ret ⟨rfl,h⟩
 | seq x y K6 K5 =>
  intro Q ρ w h
  simp only [Mo] at h
  refine wp_seq (wp_mono (K6 h) ?_)
  rintro e a w ⟨hd,he⟩
  cases e <;> simp only [Vx] at he <;> simp only [Exit.then]
  ·rw [OP hd];exact K5 he
  all_goals exact ⟨hd,he⟩
 | cond c x y K6 K5 =>
  intro Q ρ w h
  simp only [Ot,Ta,PE] at h
  split at h
  ·rename_i b hb
   refine wp_cond (t:=b) (by rw [Yy];exact hb) ?_
   split at h
   ·rw [if_pos qa];exact K6 h
   ·rw [if_neg qa];exact K5 h
  ·exact k_Q
 | block id c ih =>
  intro Q ρ w h
  rw [PG] at h
  refine wp_block (wp_mono (ih h) ?_)
  rintro e a w ⟨hd,he⟩
  cases e <;> simp only [TF] at he <;> simp only [Exit.inBlock]
  case exit id' =>
   by_cases hi:id'=id
   ·subst hi;simp only [beq_self_eq_true] at he;rw [if_pos rfl];exact ⟨hd,he⟩
   ·have:(id' == id)=false:=by simpa using hi
    simp only [this] at he;rw [if_neg hi];exact ⟨hd,he⟩
  all_goals exact ⟨hd,he⟩
 | region id ops draw =>
  intro Q ρ w h
  cases draw
  ·exact wp_region_list (abR _ h)
  ·obtain ⟨h⟩:=h
   exact wp_mono h fun e a w ⟨h1,h2,_,h4⟩=>by subst h1;exact ⟨h2,h4⟩
 | loop c ih =>
  intro Q ρ w h
  obtain ⟨I,μ,h0,hr⟩:=h
  refine wp_loop (fun a w=>a.defers=[]∧I a.tmps.toList w) (fun a w=>μ a.tmps.toList w) ⟨rfl,h0⟩ ?_
  rintro a w ⟨hd,hI⟩
  rw [OP hd]
  refine wp_mono (ih (hr _ _ hI)) ?_
  rintro e a' w' ⟨hd',he⟩
  cases e <;> simp only [Vx] at he <;> simp only [Exit.then]
  ·exact ⟨⟨hd',he.1⟩,he.2⟩
  all_goals exact ⟨hd',he⟩
 | rangeFunc=>exact fun h=>h.elim
 | scope c ih =>
  intro Q ρ w h
  rw [PF] at h
  cases h with
  | Sn h =>
   refine wp_scope_straight (wp_mono (ih h) ?_)
   rintro e a w ⟨hd,he⟩
   cases e <;> simp only [RO] at he <;> exact ⟨hd,he⟩
  | jumps l rest M hM J μ hf first pass =>
   refine wp_scope_jumps l (fun a w=>a.defers=[]∧J a.tmps.toList w) (fun a w=>μ a.tmps.toList w) hf (wp_mono (ih first) ?_) ?_
   ·rintro e a w ⟨hd,he⟩
    cases e <;> simp only [Qy] at he <;> first|exact ⟨he.1,hd,he.2⟩|exact ⟨hd,he⟩
   ·rintro a w ⟨hd,hJ⟩
    rw [OP hd]
    refine wp_mono (hM.sound (pass _ _ hJ)) ?_
    rintro e a' w' ⟨hd',he⟩
    cases e <;> simp only [Qy] at he <;> first|exact ⟨he.1,⟨hd',he.2.1⟩,he.2.2⟩|exact ⟨hd',he⟩
 | goto=>exact fun h=>wp_goto ⟨rfl,h⟩
 | refuse=>exact fun h=>h.elim
theorem agree.refl (ds:List Nat) (ρ:List Value):agree ds ρ ρ:=⟨rfl,fun _ _=>rfl⟩
theorem agree.trans {ds:List Nat} {a b c:List Value} (h:agree ds a b) (k:agree ds b c):agree ds a c :=
 ⟨k.1.trans h.1,fun i hi=>(k.2 i hi).trans (h.2 i hi)⟩
theorem agree.mono {ds ds':List Nat} {a b:List Value} (h:agree ds a b) (hs:∀i,i∈ds→i∈ds'):agree ds' a b :=
 ⟨h.1,fun i hi=>h.2 i fun hh=>hi (hs i hh)⟩
theorem agree.put {ds:List Nat} {a b:List Value} (h:agree ds a b) (d:Option Nat) (hd:∀i,d=some i→i∈ds) (v:Value):agree ds a (put b d v):=by
 cases d with
 | none=>exact h
 | some d =>
  refine ⟨by simp [YZ.put,h.1],fun i hi=>?_⟩
  have:d≠i:=fun e=>hi (e ▸ hd d rfl)
  simp only [YZ.put,List.getElem?_set,if_neg this]
  exact h.2 i hi
theorem aaS {ops:List Oper} {g:Option (Nat × Bool)} {ρ:List Value} {k:Bool→List Value→Prop} (h:X8 ops g ρ k) :
  X8 ops g ρ fun b ρ'=>k b ρ'∧agree (YC ops) ρ ρ':=by
 unfold X8 at h ⊢
 split at h
 ·exact ⟨h,agree.refl _ _⟩
 ·simp only [PL,TH,To] at h ⊢
  split at h
  ·exact k_Q
  ·rename_i oj hj
   split at h
   ·exact k_Q
   ·rename_i d hd
    have hmem:d∈YC ops:=by
     unfold YC
     exact lDb.2 ⟨oj,lha hj,hd⟩
    split at h
    ·rename_i b hb
     split at h <;> (split at h <;> exact ⟨h,(agree.refl _ _).put (some d) (fun i e=>by cases e;exact hmem) _⟩)
    ·exact ⟨h,agree.refl _ _⟩
    ·exact k_Q
theorem abS {P:Program} {ops:List Oper} {K:List Value→World→Prop} (l:List Oper) (hl:∀o,o∈l→o∈ops) :
  ∀{ρ0 ρ:List Value} {w:World},agree (YC ops) ρ0 ρ→Ng P ops K l ρ w→Ng P ops (fun ρ' w'=>K ρ' w'∧agree (YC ops) ρ0 ρ') l ρ w:=by
 induction l with
 | nil=>exact fun ha h=>⟨h,ha⟩
 | cons o r ih =>
  intro ρ0 ρ w ha h
  simp only [PI] at h ⊢
  refine aan (aaS h) fun b ρ1 ⟨h,DS⟩=>?_
  have hmem:∀i,o.dst=some i→i∈YC ops:=fun i e=>by
   unfold YC
   exact lDb.2 ⟨o,hl o (lxb ..),e⟩
  have Jh:=fun {ρ:List Value} {w:World}=>@ih (fun o ho=>hl o (lGb _ ho)) ρ0 ρ w
  cases b
  ·simp only [Yh] at h ⊢
   exact Jh ((ha.trans DS).put _ hmem _) h
  ·simp only [Yh] at h ⊢
   exact Mq h fun v w h=>Jh ((ha.trans DS).put _ hmem _) h
theorem RN {P:Program} (c:Code):∀{Q:Exit→List Value→World→Prop} {ρ:List Value} {w:World},Np P c Q ρ w →
  Np P c (fun e ρ' w'=>Q e ρ' w'∧agree (VT c) ρ ρ') ρ w:=by
 induction c with
 | skip=>exact fun h=>⟨h,agree.refl _ _⟩
 | label l=>exact fun h=>⟨h,agree.refl _ _⟩
 | exit i=>exact fun h=>⟨h,agree.refl _ _⟩
 | ret=>exact fun h=>⟨h,agree.refl _ _⟩
 | seq x y K6 K5 =>
  intro Q ρ w h
  simp only [Mo] at h ⊢
  refine VN x (K6 h) fun e ρ1 w1 ⟨he,ha⟩=>?_
  have ha':agree (VT (.seq x y)) ρ ρ1:=ha.mono fun i hi=>leb _ hi
  cases e <;> simp only [Vx] at he ⊢
  ·exact VN y (K5 he) fun e ρ2 w2 ⟨h2,h3⟩=>⟨h2,ha'.trans (h3.mono fun i hi=>lLb _ hi)⟩
  all_goals exact ⟨he,ha'⟩
 | cond c x y K6 K5 =>
  intro Q ρ w h
  simp only [Ot,Ta,PE] at h ⊢
  split at h
  ·split at h
   ·rw [if_pos qa]
    exact VN x (K6 h) fun e ρ2 w2 ⟨h2,h3⟩=>⟨h2,h3.mono fun i hi=>leb _ hi⟩
   ·rw [if_neg qa]
    exact VN y (K5 h) fun e ρ2 w2 ⟨h2,h3⟩=>⟨h2,h3.mono fun i hi=>lLb _ hi⟩
  ·exact k_Q
 | block id c ih =>
  intro Q ρ w h
  rw [PG] at h ⊢
  refine VN c (ih h) fun e ρ1 w1 ⟨he,ha⟩=>?_
  cases e <;> simp only [TF] at he ⊢
  case exit i=>split at he <;> exact ⟨he,ha⟩
  all_goals exact ⟨he,ha⟩
 | region id ops draw =>
  intro Q ρ w h
  cases draw
  ·exact abS _ (fun _ h=>h) (agree.refl _ _) h
  ·obtain ⟨h⟩:=h
   exact ⟨Code.wp_mono (fun e a w ⟨h1,h2,h3,h4⟩=>⟨h1,h2,h3,h4,h3⟩) h⟩
 | loop c ih =>
  intro Q ρ w h
  obtain ⟨I,μ,h0,hr⟩:=h
  refine ⟨fun ρ' w'=>I ρ' w'∧agree (VT c) ρ ρ',μ,⟨h0,agree.refl _ _⟩,fun ρ1 w1 ⟨hI,ha⟩=>VN c (ih (hr ρ1 w1 hI)) fun e ρ2 w2 ⟨he,HF⟩=>?_⟩
  cases e <;> simp only [Vx] at he ⊢
  ·exact ⟨⟨he.1,ha.trans HF⟩,he.2⟩
  all_goals exact ⟨he,ha.trans HF⟩
 | rangeFunc=>exact fun h=>h.elim
 | scope c ih =>
  intro Q ρ w h
  rw [PF] at h ⊢
  cases h with
  | Sn h=>exact .Sn (VN c (ih h) fun e ρ1 w1 ⟨he,ha⟩=>by cases e <;> simp only [RO] at he⊢<;> exact ⟨he,ha⟩)
  | jumps l rest M hM J μ hf first pass =>
   refine .jumps l rest M hM (fun ρ' w'=>J ρ' w'∧agree (VT c) ρ ρ') μ hf (VN c (ih first) fun e ρ1 w1 ⟨he,ha⟩=>?_) fun ρ1 w1 ⟨hJ,ha⟩=>hM.imp (hM.frame (pass ρ1 w1 hJ)) fun e ρ2 w2 ⟨he,HF⟩=>?_
   ·cases e <;> simp only [Qy] at he⊢<;> first|exact ⟨he.1,he.2,ha⟩|exact ⟨he,ha⟩
   ·have ha3:agree (VT c) ρ ρ2:=ha.trans (HF.mono fun i hi=>aa0 hf i hi)
    cases e <;> simp only [Qy] at he⊢<;> first|exact ⟨he.1,⟨he.2.1,ha3⟩,he.2.2⟩|exact ⟨he,ha3⟩
 | goto=>exact fun h=>⟨h,agree.refl _ _⟩
 | refuse=>exact fun h=>h.elim
def Fb (l:List Nat) (f:Nat→Value):List Value→(List Value→Prop)→Prop :=
 List.rec (motive:=fun _=>List Value→(List Value→Prop)→Prop) (fun ρ k=>k ρ) (fun d _ ih ρ k=>JF ρ d (f d) fun ρ=>ih ρ k) l
theorem adJ (d:Nat) (ds:List Nat) (f:Nat→Value) (ρ:List Value) (k:List Value→Prop):Fb (d::ds) f ρ k=JF ρ d (f d) fun ρ=>Fb ds f ρ k:=rfl
def Fa (l:List (Nat × Value)):List Value→(List Value→Prop)→Prop :=
 List.rec (motive:=fun _=>List Value→(List Value→Prop)→Prop) (fun ρ k=>k ρ) (fun p _ ih ρ k=>match p with
  | (i,v)=>JF ρ i v fun ρ=>ih ρ k) l
theorem adK (i:Nat) (v:Value) (r:List (Nat × Value)) (ρ:List Value) (k:List Value→Prop):Fa ((i,v)::r) ρ k=JF ρ i v fun ρ=>Fa r ρ k:=rfl
def mt:List (Nat × Value)→List Value→Prop
 | [],_=>True
 | (i,v)::r,ρ=>gt ρ i=v∧mt r ρ
theorem ZT {ρ:List Value}:mt [] ρ:=trivial
theorem ZL {i:Nat} {v:Value} {r:List (Nat × Value)} {ρ:List Value} (h:gt ρ i=v) (k:mt r ρ):mt ((i,v)::r) ρ:=⟨h,k⟩
theorem Zo {i:Nat} {k:IntKind} {a b:Int} {r:List (Nat × Value)} {ρ:List Value} (hg:gt ρ i=.int k a) (h:a=b) (t:mt r ρ):mt ((i,.int k b)::r) ρ:=⟨by rw [hg,h],t⟩
theorem int_eq {k:IntKind} {a b:Int} (h:a=b):Value.int k a=.int k b:=by rw [h]
theorem RM {ρ':List Value} (ds:List Nat) {k:List Value→Prop}:∀{ρ1:List Value},agree ds ρ1 ρ'→Fb ds (gt ρ') ρ1 k→k ρ':=by
 induction ds with
 | nil =>
  intro ρ1 ha h
  have:ρ'=ρ1:=lJa fun i=>ha.2 i qs
  rw [this];exact h
 | cons d ds ih =>
  intro ρ1 ha h
  simp only [adJ,TH] at h
  refine ih ?_ h
  refine ⟨by simpa using ha.1,fun i hi=>?_⟩
  rw [lPa]
  split
  ·rename_i e;subst e
   split
   ·rename_i hl
    have hl':d<ρ'.length:=by rw [ha.1];exact hl
    rw [QA]
    simp [Array.getD_eq_getD_getElem?,List.getElem?_eq_getElem hl']
   ·rename_i hl
    rw [lSa (by rw [ha.1];exact ldc hl)]
  ·rename_i hne
   exact ha.2 i fun hm=>by cases hm <;> contradiction
theorem Mn {ρ:List Value} (sl:List (Nat × Value)) {k:List Value→Prop} (hm:mt sl ρ) (h:Fa sl ρ k):k ρ:=by
 induction sl with
 | nil=>exact h
 | cons p r ih =>
  obtain ⟨i,v⟩:=p
  obtain ⟨hv,hm⟩:=hm
  simp only [adK,TH] at h
  have:ρ.set i v=ρ:=by
   apply lJa
   intro j
   rw [lPa]
   split
   ·rename_i e;subst e
    split
    ·rename_i hl
     rw [QA] at hv
     simp only [Array.getD_eq_getD_getElem?,List.getElem?_toArray,List.getElem?_eq_getElem hl,Option.getD_some] at hv
     rw [laa hl,hv]
    ·rename_i hl
     rw [lSa (ldc hl)]
   ·rfl
  rw [this] at h
  exact ih hm h
inductive WN {α:Type} (sl:α→List (Nat × Value)) (inv:α→World→Prop) (p:α→Prop) (ρ:List Value) (w:World):Prop
 | mk (y:α) (hm:mt (sl y) ρ) (hi:inv y w) (hp:p y)
inductive Jn {α:Type} (sl:α→List (Nat × Value)) (inv:α→World→Prop) (ρ:List Value) (w:World):Prop
 | mk (y:α) (hm:mt (sl y) ρ) (hi:inv y w)
theorem YP.rule {P:Program} {c:Code} {B:Kw} {Q:Exit→List Value→World→Prop} {ρ:List Value} {w:World} {α:Type} (x0:α) (sl:α→List (Nat × Value)) (inv:α→World→Prop) (μ:α→Nat)
  (hm:mt (sl x0) ρ) (h0:inv x0 w)
  (round:∀x (f:Nat→Value) w',inv x w'→Fb (VT c) f ρ fun ρ=>Fa (sl x) ρ fun ρ =>
   B (Vx (fun ρ' w''=>WN sl inv (fun y=>μ y<μ x) ρ' w'') Q) ρ w') (hB:B=Np P c:=by rfl):YP P c B Q ρ w:=by
 subst hB
 classical
 have hex:∀(p:Nat→Prop),(∃n,p n)→∃n,p n∧∀m,p m→n≤m:=fun p ⟨n,hn⟩=>by
  induction n using Nat.strongRecOn with
  | _ n ih =>
   by_cases h:∃m,m<n∧p m
   ·obtain ⟨m,hm,hp⟩:=h;exact ih m hm hp
   ·exact ⟨n,hn,fun m hp=>ldc fun hl=>h ⟨m,hl,hp⟩⟩
 let p:List Value→World→Nat→Prop:=fun ρ' w' n=>∃x,μ x=n∧mt (sl x) ρ'∧inv x w'
 let M:List Value→World→Nat:=fun ρ' w'=>if h:∃n,p ρ' w' n then Classical.choose (hex _ h) else 0
 have hM:∀ρ' w',(∃n,p ρ' w' n)→p ρ' w' (M ρ' w')∧∀m,p ρ' w' m→M ρ' w'≤m:=fun ρ' w' h=>by
  simp only [M,dif_pos h]
  exact Classical.choose_spec (hex _ h)
 refine ⟨fun ρ' w'=>(∃n,p ρ' w' n)∧agree (VT c) ρ ρ',M,⟨⟨_,x0,rfl,hm,h0⟩,agree.refl _ _⟩,?_⟩
 rintro ρ1 w1 ⟨hp,ha⟩
 obtain ⟨⟨x,hx,IN,Gb⟩,-⟩:=hM ρ1 w1 hp
 have hb:=round x (gt ρ1) w1 Gb
 have hb:=Mn _ IN (RM _ ha hb)
 refine VN c (RN c hb) ?_
 rintro e ρ2 w2 ⟨he,HF⟩
 cases e <;> simp only [Vx] at he ⊢
 ·obtain ⟨y,Dl,Dk,hlt⟩:=he
  refine ⟨⟨⟨_,y,rfl,Dl,Dk⟩,ha.trans HF⟩,?_⟩
  have:=(hM ρ2 w2 ⟨_,y,rfl,Dl,Dk⟩).2 _ ⟨y,rfl,Dl,Dk⟩
  omega
 all_goals exact he
theorem PD {P:Program} {x y:Code} {B C:Kw} {K:List Value→World→Prop} {Q:Exit→List Value→World→Prop} {ρ:List Value} {w:World} {b:Bool} {α:Type} (sl:α→List (Nat × Value)) (inv:α→World→Prop)
  (hx:b=true→B (Vx (fun ρ' w'=>Jn sl inv ρ' w') Q) ρ w)
  (hy:b=false→C (Vx (fun ρ' w'=>Jn sl inv ρ' w') Q) ρ w)
  (hk:∀a (f:Nat→Value) w',inv a w'→Fb (VT x++VT y) f ρ fun ρ=>Fa (sl a) ρ fun ρ=>K ρ w') (hB:B=Np P x:=by rfl) (hC:C=Np P y:=by rfl) :
  Ov P x y B C b (Vx K Q) ρ w:=by
 subst hB
 subst hC
 refine ⟨fun hb=>?_,fun hb=>?_⟩
 ·refine VN x (RN x (hx hb)) ?_
  rintro e ρ2 w2 ⟨he,ha⟩
  cases e <;> simp only [Vx] at he ⊢
  ·obtain ⟨a,hm,hi⟩:=he
   exact Mn _ hm (RM _ (ha.mono fun i hi=>leb _ hi) (hk a (gt ρ2) w2 hi))
  all_goals exact he
 ·refine VN y (RN y (hy hb)) ?_
  rintro e ρ2 w2 ⟨he,ha⟩
  cases e <;> simp only [Vx] at he ⊢
  ·obtain ⟨a,hm,hi⟩:=he
   exact Mn _ hm (RM _ (ha.mono fun i hi=>lLb _ hi) (hk a (gt ρ2) w2 hi))
  all_goals exact he
theorem aao {P:Program} {c:Code} {B:Kw} {id:Nat} {K:List Value→World→Prop} {Q:Exit→List Value→World→Prop} {ρ:List Value} {w:World} {α:Type} (sl:α→List (Nat × Value)) (inv:α→World→Prop)
  (hx:B (TF id (Vx (fun ρ' w'=>Jn sl inv ρ' w') Q)) ρ w)
  (hk:∀a (f:Nat→Value) w',inv a w'→Fb (VT c) f ρ fun ρ=>Fa (sl a) ρ fun ρ=>K ρ w') (hB:B=Np P c:=by rfl) :
  Hi P c B id (Vx K Q) ρ w:=by
 subst hB
 refine ⟨VN c (RN c hx) ?_⟩
 have key:∀ρ2 w2,Jn sl inv ρ2 w2→agree (VT c) ρ ρ2→K ρ2 w2:=fun ρ2 w2 ⟨a,hm,hi⟩ ha =>
  Mn _ hm (RM _ ha (hk a (gt ρ2) w2 hi))
 rintro e ρ2 w2 ⟨he,ha⟩
 cases e <;> simp only [TF,Vx] at he ⊢
 ·exact key _ _ he ha
 ·split at he
  ·exact key _ _ he ha
  ·exact he
 all_goals exact he
inductive Z6 (R:Value→World→Prop) (v:Value) (w:World):Prop
 | mk (h:R v w)
inductive JD (P:Program) (m:Sem Value) (w:World) (K:Value→Prop):Prop
 | mk (v:Value) (h:m.run P w=.ok v w) (k:K v)
def Hh (n:Nat):List Value→(List Value→Prop)→Prop :=
 Nat.rec (motive:=fun _=>List Value→(List Value→Prop)→Prop) (fun acc k=>k acc) (fun _ ih acc k=>ih (undef::acc) k) n
theorem ac7 (n:Nat) (acc:List Value) (k:List Value→Prop):Hh (n+1) acc k=Hh n (undef::acc) k:=rfl
def K4 (P:Program) (ρ:List Value) (w:World) (l:List ResultVar):(List Value→Prop)→Prop :=
 List.rec (motive:=fun _=>(List Value→Prop)→Prop) (fun k=>k []) (fun x _ ih k=>match x with
  | .tmp t=>Gc ρ t fun v=>ih fun vs=>k (v::vs)
  | .cell a t=>Gc ρ a fun v=>match v with
   | .pointer p=>match p with
    | some a=>JD P (loadVar t a) w fun v=>ih fun vs=>k (v::vs)
    | none=>False
   | _=>False) l
theorem adL (P:Program) (ρ:List Value) (w:World) (t:Nat) (r:List ResultVar) (k:List Value→Prop):K4 P ρ w (.tmp t::r) k=Gc ρ t fun v=>K4 P ρ w r fun vs=>k (v::vs):=rfl
theorem ac8 (P:Program) (ρ:List Value) (w:World) (a:Nat) (t:TypeId) (r:List ResultVar) (k:List Value→Prop):K4 P ρ w (.cell a t::r) k=Gc ρ a fun v=>match v with
   | .pointer p=>match p with
    | some a=>JD P (loadVar t a) w fun v=>K4 P ρ w r fun vs=>k (v::vs)
    | none=>False
   | _=>False:=rfl
def Hg (R:Value→World→Prop) (w:World) (vs:List Value):Prop :=
 match vs with
 | [v]=>Z6 R v w
 | []=>Z6 R (.tuple #[]) w
 | u::v::r=>Z6 R (.tuple (u::v::r).toArray) w
def ahb (P:Program) (rs:List ResultVar) (R:Value→World→Prop) (e:Exit) (ρ:List Value) (w:World):Prop :=
 match e with
 | .normal=>K4 P ρ w rs fun vs=>Hg R w vs
 | .ret=>K4 P ρ w rs fun vs=>Hg R w vs
 | _=>False
def ajv (P:Program) (fn:Func) (c:Code) (args:List Value) (w:World) (R:Value→World→Prop):Prop :=
 Hh (fn.ntmps-args.length) [] fun us=>K9 args us fun ρ=>Np P c (ahb P fn.results.toList R) ρ w
theorem afF (n:Nat) (acc:List Value) (k:List Value→Prop):Hh n acc k=k (List.replicate n undef++acc):=by
 induction n generalizing acc with
 | zero=>rfl
 | succ n ih=>simp only [ac7,ih];congr 1;rw [List.replicate_succ',lma];rfl
def Jg (tmps:Array Value):ResultVar→Sem Value
 | .tmp t=>pure (tmps.getD t undef)
 | .cell a t=>do loadVar t (←asAddr (tmps.getD a undef))
theorem QZ (fn:Func) (tmps:Array Value):results fn tmps=(do let vs ←fn.results.mapM (Jg tmps);pure (if h:vs.size=1 then vs[0] else .tuple vs)):=by
 have:(fun (x:ResultVar)=>(match x with
  | .tmp t=>pure (tmps.getD t undef)
  | .cell a t=>do loadVar t (←asAddr (tmps.getD a undef)):Sem Value))=Jg tmps:=by
  funext x;cases x <;> rfl
 unfold results
 rw [←this]
 rfl
theorem abT {P:Program} {ρ:List Value} {w:World}:∀(rs:List ResultVar) {k:List Value→Prop},K4 P ρ w rs k →
  ∃vs,(rs.mapM (Jg ρ.toArray)).run P w=.ok vs w∧k vs:=by
 intro rs
 induction rs with
 | nil=>exact fun h=>⟨[],by simp,h⟩
 | cons x r ih =>
  intro k h
  cases x with
  | tmp t =>
   simp only [adL,PL] at h
   obtain ⟨vs,h1,h2⟩:=ih h
   exact ⟨gt ρ t::vs,by rw [List.mapM_cons];simp only [Jg,Sem.run_bind,Sem.run_pure,Result.andThen_ok,h1,QA],h2⟩
  | cell a t =>
   simp only [ac8,PL] at h
   split at h
   ·rename_i p hp
    split at h
    ·rename_i ad
     obtain ⟨v,hv,h⟩:=h
     obtain ⟨vs,h1,h2⟩:=ih h
     refine ⟨_,?_,h2⟩
     rw [List.mapM_cons]
     rw [QA] at hp
     simp only [Jg,hp,asAddr,pure_bind,Sem.run_bind,Sem.run_pure,Result.andThen_ok,hv,h1]
    ·exact k_Q
   ·exact k_Q
theorem aa2 {P:Program} {fn:Func} {R:Value→World→Prop} {e:Exit} {a:Act} {w:World} (h:lift (ahb P fn.results.toList R) e a w) :
  bodyPost P fn (fun e w'=>∃v,e=.returned v∧R v w') e a w:=by
 obtain ⟨hd,h⟩:=h
 rw [OP hd]
 have key:(K4 P a.tmps.toList w fn.results.toList fun vs=>Hg R w vs) →
   ∃v,(results fn a.tmps.toList.toArray).run P w=.ok v w∧∃v',Ending.returned v=.returned v'∧R v' w:=by
  intro h
  obtain ⟨vs,h1,h2⟩:=abT _ h
  have hm:(fn.results.mapM (Jg a.tmps.toList.toArray)).run P w=.ok vs.toArray w:=by
   rw [Array.mapM_eq_mapM_toList]
   simp only [Sem.run_map,h1,Result.andThen_ok]
  unfold Hg at h2
  split at h2
  ·rename_i v
   obtain ⟨h2⟩:=h2
   exact ⟨v,by rw [QZ];simp only [Sem.run_bind,hm,Result.andThen_ok];rfl,v,rfl,h2⟩
  ·obtain ⟨h2⟩:=h2
   exact ⟨_,by rw [QZ];simp only [Sem.run_bind,hm,Result.andThen_ok];rfl,_,rfl,h2⟩
  ·rename_i u v r
   obtain ⟨h2⟩:=h2
   refine ⟨.tuple (u::v::r).toArray,?_,_,rfl,h2⟩
   rw [QZ];simp only [Sem.run_bind,hm,Result.andThen_ok,Sem.run_pure]
   rw [dif_neg qs]
 cases e
 case normal=>obtain ⟨v,h1,h2⟩:=key h;exact ⟨rfl,v,h1,h2⟩
 case ret=>obtain ⟨v,h1,h2⟩:=key h;exact ⟨rfl,v,h1,h2⟩
 all_goals exact False.elim h
theorem Fc.of {P:Program} {f:FuncId} {fn:Func} {c:Code} {args:Array Value} {w:World} {R:Value→World→Prop}
  (hf:P.funcs[f]?=some fn) (hb:fn.body=some c) (hn:(fn.name == "runtime.NumGoroutine")=false) (h:ajv P fn c args.toList w R):Fc P f args w R:=by
 refine ⟨?_,?_⟩
 ·simp only [callFunc,Sem.run_bind,program,Sem.run,Result.andThen_ok,hf]
  rw [if_neg (by rw [hn];decide),if_neg (by rw [hb];simp)]
  rfl
 ·refine calls_of_wp hf hb ?_
  unfold ajv at h
  rw [afF,OR,lua] at h
  have:=ac6 c h
  have e:(args.toList++List.replicate (fn.ntmps-args.toList.length) undef).toArray=args++Array.replicate (fn.ntmps-args.size) undef:=by
   apply Array.ext';simp
  rw [e] at this
  exact wp_mono this fun e a w h=>aa2 h
end YZ
namespace YZ
open Go Go.RowKit
variable {P:Program} {w:World} {K:Value→World→Prop}
theorem U0 {k:IntKind} {n:Int} (h0:k.min≤n) (h1:n≤k.max):ZO k n=n:=by
 unfold ZO
 cases k <;> simp [IntKind.wrap,IntKind.min,IntKind.max,IntKind.bits,IntKind.signed] at * <;> omega
theorem Sv {n:Int} (h:-9223372036854775808≤n∧n≤9223372036854775807):ZO .i64 n=n:=U0 k_H k_I
theorem alR {n:Int} (h:-2147483648≤n∧n≤2147483647):ZO .i32 n=n:=U0 k_H k_I
theorem Ga {n:Int} (h:0≤n∧n≤18446744073709551615):ZO .u64 n=n:=U0 k_H k_I
theorem alS {n:Int} (h:0≤n∧n≤4294967295):ZO .u32 n=n:=U0 k_H k_I
theorem wu8 {n:Int} (h:0≤n∧n≤255):ZO .u8 n=n:=U0 k_H k_I
theorem Yx {a b:Int} (h:HG a b=true):a<b:=by rw [S8] at h;simpa using h
theorem Yw {a b:Int} (h:HG a b=false):b≤a:=by rw [S8] at h;simpa using h
theorem Xv {a b:Int} (h:Kx a b=true):a≤b:=by rw [S7] at h;simpa using h
theorem Xu {a b:Int} (h:Kx a b=false):b<a:=by rw [S7] at h;simpa using h
theorem ZR {a b:Int} (h:Mt a b=true):a=b:=by rw [S6] at h;simpa using h
theorem ZQ {a b:Int} (h:Mt a b=false):a≠b:=by rw [S6] at h;simpa using h
theorem Ye {a b:Int} (h:GC a b=true):a≠b:=by rw [S5] at h;simpa using h
theorem Yd {a b:Int} (h:GC a b=false):a=b:=by rw [S5] at h;simpa using h
theorem Ya {a b:Int}:HG a b=decide (a<b):=S8 _ _
theorem YY {a b:Int}:Kx a b=decide (a≤b):=S7 _ _
theorem Y6 {a b:Int}:Mt a b=decide (a=b):=by rw [S6];rw [Bool.eq_iff_iff];simp
theorem XS {a b:Int}:GC a b=!decide (a=b):=by rw [S5];rw [Bool.eq_iff_iff];simp
theorem Zu {s d:TypeId} {k0 k:IntKind} {n:Int} (hs:(P.underlying s).isSome=true) (hd:P.underlying d=some (.int k)) (h:K (.int k (ZO k n)) w) :
  Zi P (convert s d (.int k0 n)) w K:=by
 obtain ⟨ds,hds⟩:=Option.isSome_iff_exists.1 hs
 refine ⟨_,w,?_,h⟩
 unfold convert
 simp only [Sem.run_bind,run_underlying hds,run_underlying hd,Result.andThen_ok,Conv.intToInt]
 unfold ZO;rfl
theorem Vc {s d:TypeId} {k0 k:IntKind} {n:Int} (m:Int) (e:ZO k n=m) (hs:(P.underlying s).isSome=true) (hd:P.underlying d=some (.int k)) (h:K (.int k m) w) :
  Zi P (convert s d (.int k0 n)) w K:=Zu hs hd (e ▸ h)
theorem alT {t:Array TypeId} {ty:TypeId} {k k':IntKind} {a b:Int} (h:K (.int k (min a b)) w):Zi P (Builtin.min_ t ty #[.int k a,.int k' b]) w K:=by
 refine ⟨_,w,?_,h⟩
 have:(if b<a then b else a)=min a b:=by omega
 simp [Builtin.min_,Builtin.min2,this]
def bs (l:List UInt8):ByteArray:=⟨l.toArray⟩
theorem TW (l:List UInt8):(bs l).size=l.length:=by simp [bs,ByteArray.size]
theorem ajw (s:ByteArray):s=bs s.data.toList:=by cases s;simp [bs]
theorem abU (l:List UInt8) (i j:Nat):(bs l).extract i j=bs ((l.take j).drop i):=by
 apply ByteArray.ext
 simp only [bs,ByteArray.data_extract]
 apply Array.ext'
 simp [List.drop_take]
theorem ac9 (a b:List UInt8):bs a++bs b=bs (a++b):=by
 apply ByteArray.ext
 simp [bs]
theorem adM {a b:List UInt8} (h:bs a=bs b):a=b:=by
 have:=congrArg (fun s=>s.data.toList) h;simpa [bs] using this
theorem WB {t ty:TypeId} {s:List UInt8} (ht:P.underlying t=some .string) (h:K (.int .i64 s.length) w):Zi P (Builtin.len_ #[t] ty #[.string (bs s)]) w K :=
 ⟨_,w,run_len_string (P:=P) w t ty (bs s) ht,by rw [TW];exact h⟩
theorem WM {t ty e:TypeId} {a:Option Addr} {n c:Nat} (ht:P.underlying t=some (.slice e)) (h:K (.int .i64 n) w):Zi P (Builtin.len_ #[t] ty #[.slice a n c]) w K :=
 ⟨_,w,by simp [Builtin.len_,run_underlying ht,goInt],h⟩
theorem OO {t:TypeId} {s:List UInt8} {k:IntKind} {i:Int} (ht:P.underlying t=some .string) (j:Nat) (hj:i=j) (hl:j<s.length) (h:K (.int .u8 (s[j].toNat:Int)) w) :
  Zi P (Instr.index t (.string (bs s)) (.int k i)) w K:=by
 subst hj
 refine ⟨_,w,?_,h⟩
 rw [run_index_string (P:=P) w t (bs s) k j ht,dif_pos ⟨by omega,by rw [TW];omega⟩]
 rfl
theorem ajx {t:TypeId} {s:List UInt8} {kl:IntKind} {l:Int} (ht:P.underlying t=some .string) (i:Nat) (hi:l=i) (hl:i≤s.length)
  (k:K (.string (bs (s.drop i))) w):Zi P (Instr.sliceAt t (.string (bs s)) (some (.int kl l)) none none) w K:=by
 subst hi
 refine ⟨_,w,?_,k⟩
 have hb:(bs s).size=s.length:=TW s
 rw [run_sliceAt_string (P:=P) w t _ _ _ _ ht,run_slice_string_l (P:=P) w t _ ht kl i qo qo]
 simp [hb,abU]
theorem alU {t:TypeId} {x y:Operand} {a b:List UInt8} (hl:a.length+b.length≤9223372036854775807) (k:K (.string (bs (a++b))) w) :
  Zi P (do eqGuard .add t x y (.string (bs a)) (.string (bs b));binOp .add t (.string (bs a)) (.string (bs b))) w K:=by
 refine ⟨_,w,?_,k⟩
 simp only [eqGuard_add,pure_bind,binOp_string_add,Op.stringOp]
 rw [if_neg (by simp [TW];omega)]
 simp [ac9]
def TE (v:Value) (k:List Value→Prop):Prop :=
 match v with
 | .agg cs=>k cs.toList
 | v=>k [v]
theorem Wv (v:Value) (k:List Value→Prop):TE v k=k v.cells.toList:=by
 cases v <;> rfl
theorem ajy {t:TypeId} {v:Value} (h:TE v fun cs=>K (.pointer (some ⟨w.heap.size,0,none⟩)) (w.alloc (.cells cs.toArray t))):Zi P (Instr.box t v) w K:=by
 rw [Wv] at h
 exact ⟨_,_,rfl,by simpa using h⟩
theorem afG {t:TypeId} {z:Value} (hz:(P.info? t).bind (fun i=>i.zero)=some z) (h:TE z fun cs=>K (.pointer (some ⟨w.heap.size,0,none⟩)) (w.alloc (.cells cs.toArray t))) :
  Zi P (Instr.alloc t true (.tuple #[])) w K:=by
 rw [Wv] at h
 cases hi:P.info? t with
 | none=>simp [hi] at hz
 | some i =>
  simp only [hi,Option.bind_some] at hz
  refine ⟨_,_,?_,h⟩
  simp [Instr.alloc,zeroValue,typeInfo,hi,hz,newVar,newRow]
def Oq (cs:List Value) (o:Nat) (l:List Value) (k:List Value→Prop):Prop :=
 List.rec (motive:=fun _=>List Value→Nat→Prop) (fun cs _=>k cs) (fun v _ ih cs o=>JF cs o v fun cs=>ih cs (o+1)) l cs o
theorem abV (cs:List Value) (o:Nat) (v:Value) (vs:List Value) (k:List Value→Prop):Oq cs o (v::vs) k=JF cs o v fun cs=>Oq cs (o+1) vs k:=rfl
def Wi:List Value→Nat→List Value→List Value
 | cs,_,[]=>cs
 | cs,o,v::vs=>Wi (cs.set o v) (o+1) vs
theorem Tm (vs:List Value):∀(cs:List Value) (o:Nat) (k:List Value→Prop),Oq cs o vs k=k (Wi cs o vs):=by
 induction vs with
 | nil=>intros;rfl
 | cons v vs ih=>intro cs o k;simp only [abV,Wi,TH,ih]
theorem V8 (vs:List Value):∀(cs:List Value) (o:Nat),(Wi cs o vs).length=cs.length:=by
 induction vs with
 | nil=>intros;rfl
 | cons v vs ih=>intro cs o;simp [Wi,ih]
def JC (b:Bool) (k:Prop):Prop:=match b with
 | true=>k
 | false=>False
theorem Oo {b:Bool} {k:Prop} (h:JC b k):b=true∧k:=by cases b;exact h.elim;exact ⟨rfl,h⟩
def Qx (place:Nat→Option (Nat × Nat)) (l:List (Nat × Value)) (cs:List Value) (k:List Value→Prop):Prop :=
 List.rec (motive:=fun _=>List Value→Prop) k (fun p _ ih cs=>match p with
  | (i,v)=>match place i with
   | none=>False
   | some p=>match p with
    | (o,n)=>TE v fun vs=>JC (Nat.beq vs.length n && Nat.ble (o+n) cs.length) (Oq cs o vs fun cs=>ih cs)) l cs
theorem QY (place:Nat→Option (Nat × Nat)) (i:Nat) (v:Value) (r:List (Nat × Value)) (cs:List Value) (k:List Value→Prop):Qx place ((i,v)::r) cs k=match place i with
   | none=>False
   | some p=>match p with
    | (o,n)=>TE v fun vs=>JC (Nat.beq vs.length n && Nat.ble (o+n) cs.length) (Oq cs o vs fun cs=>Qx place r cs k):=rfl
theorem abW (vs:List Value) (o:Nat):∀(j:Nat) (cs:Array Value),(vs.zipIdx j).foldl (fun cs (c,i)=>cs.setIfInBounds (o+i) c) cs=(Wi cs.toList (o+j) vs).toArray:=by
 induction vs with
 | nil=>intro j cs;simp [Wi]
 | cons v vs ih=>intro j cs;simp only [List.zipIdx_cons,List.foldl_cons,ih,Wi];simp [Nat.add_assoc]
theorem aag {place:Nat→Option (Nat × Nat)} (ps:List (Nat × Value)):∀{cs:List Value} {k:List Value→Prop},Qx place ps cs k →
  ∃cs',Instr.fill place cs.toArray ps=some cs'∧k cs'.toList:=by
 induction ps with
 | nil=>exact fun h=>⟨_,rfl,h⟩
 | cons p r ih =>
  obtain ⟨i,v⟩:=p
  intro cs k h
  simp only [QY,Wv,Tm] at h
  split at h
  ·exact k_Q
  ·rename_i pr hp
   obtain ⟨o,n⟩:=pr
   dsimp only at h
   obtain ⟨hb,h⟩:=Oo h
   simp only [Bool.and_eq_true,Nat.beq_eq,Nat.ble_eq] at hb
   obtain ⟨cs',h1,h2⟩:=ih h
   refine ⟨cs',?_,h2⟩
   have hs:v.cells.size=n:=by simpa using hb.1
   simp only [Instr.fill,hp]
   rw [if_neg (by simp [hs];omega)]
   rw [←h1]
   congr 1
   have:=abW v.cells.toList o 0 cs.toArray
   simp only [Nat.add_zero] at this
   rw [←this,←Array.foldl_toList,Array.toList_zipIdx]
def PC (n:Nat) (z:List Value):(List Value→Prop)→Prop :=
 Nat.rec (motive:=fun _=>(List Value→Prop)→Prop) (fun k=>k []) (fun _ ih k=>ih fun cs=>K9 z cs k) n
theorem aa3 (n:Nat) (z:List Value) (k:List Value→Prop):PC (n+1) z k=PC n z fun cs=>K9 z cs k:=rfl
theorem RK (n:Nat) (z:List Value) (k:List Value→Prop):PC n z k=k (List.replicate n z).flatten:=by
 induction n generalizing k with
 | zero=>rfl
 | succ n ih=>simp only [aa3,ih,OR,List.replicate_succ,List.flatten_cons]
theorem aa4 (n:Nat) (z:Array Value):((Array.range (n * z.size)).map fun i=>z[i % z.size]!)=(List.replicate n z.toList).flatten.toArray:=by
 apply Array.ext'
 simp only [Array.toList_map,Array.toList_range]
 induction n with
 | zero=>simp
 | succ n ih =>
  rw [lpb,List.range_add,lXa,ih,List.replicate_succ',List.flatten_append]
  congr 1
  simp only [List.flatten_cons,List.flatten_nil,List.append_nil,List.map_map]
  apply List.ext_getElem
  ·simp
  ·intro i h1 h2
   simp only [List.length_map,List.length_range] at h1
   simp only [List.getElem_map,List.getElem_range,Function.comp]
   rw [Nat.mul_comm,Nat.mul_add_mod,Nat.mod_eq_of_lt h1]
   simp [h1]
theorem aaT {t e:TypeId} {n sz:Nat} {z:Value} {ps:Array (Nat × Value)} (hu:P.underlying t=some (.slice e)) (hz:(P.info? e).map (fun i=>(i.size,i.zero))=some (sz,some z))
  (hsz:z.cells.size=sz) (hn:n * sz≤16777216)
  (h:PC n z.cells.toList fun zs=>Qx (fun i=>some (i * sz,sz)) ps.toList zs fun cs=>K (.slice (some ⟨w.heap.size,0,none⟩) n n) (w.alloc (.cells cs.toArray e))) :
  Zi P (Instr.buildSlice t n ps) w K:=by
 rw [RK] at h
 cases hi:P.info? e with
 | none=>simp [hi] at hz
 | some i =>
  simp only [hi,Option.map_some,Option.some.injEq,Prod.mk.injEq] at hz
  obtain ⟨h1,h2⟩:=hz
  obtain ⟨cs,hf,k⟩:=aag _ h
  refine ⟨_,_,?_,k⟩
  have hb:¬(16777216<n * sz):=by omega
  by_cases h0:n * sz=0
  ·have:(List.replicate n z.cells.toList).flatten=[]:=by
    apply lqa
    simp [hsz,h0]
   rw [this] at hf
   have hr:Array.range 0=#[]:=rfl
   simp [Instr.buildSlice,hr,run_underlying hu,sizeOf,typeInfo,hi,h1,h0,hf,newRow]
  ·have Kl:=aa4 n z.cells
   rw [hsz] at Kl
   simp [Instr.buildSlice,run_underlying hu,sizeOf,typeInfo,zeroValue,hi,h1,h0,h2,hb,hsz,Kl,hf,newRow]
def Su (w:World) (b:Nat) (cs:List Value) (e:TypeId):Prop:=w.heap[b]?=some (.cells cs.toArray e (0,0))
def At (w:World) (b o:Nat) (vs:List Value):Prop:=∃cs e fz,w.heap[b]?=some (.cells cs e fz)∧∀i v,vs[i]?=some v→cs[o+i]?=some v
structure Jf (w w':World) (cs:List Value) (e:TypeId):Prop where
 Ur:Su w' w.heap.size cs e
 below:Below w.heap.size w w'
 size:w'.heap.size=w.heap.size+1
structure Lg (w w':World) (b:Nat):Prop where
 os:w'.os=w.os
 tape:w'.tape=w.tape
 output:w'.output=w.output
 size:w'.heap.size=w.heap.size
 block:∀k,k≠b→w'.heap[k]?=w.heap[k]?
theorem Jf.mk' (w:World) (cs:List Value) (e:TypeId):Jf w (w.alloc (.cells cs.toArray e)) cs e :=
 ⟨heap_alloc_new w _,(Below.refl _ _).alloc (lra _) _,by simp⟩
theorem Lg.below {B:Nat} {w0 w w':World} {b:Nat} (h:Lg w w' b) (hb:Below B w0 w) (hB:B≤b):Below B w0 w' :=
 ⟨h.os.trans hb.os,h.tape.trans hb.tape,h.output.trans hb.output,by rw [h.size];exact hb.size,fun k hk=>(h.block k qo).trans (hb.block k hk)⟩
theorem Su.at {w:World} {b:Nat} {cs:List Value} {e:TypeId} (h:Su w b cs e):At w b 0 cs :=
 ⟨_,_,_,h,fun i v hi=>by simpa using hi⟩
theorem Su.lt {w:World} {b:Nat} {cs:List Value} {e:TypeId} (h:Su w b cs e):b<w.heap.size:=(lza.1 h).1
theorem At.lt {w:World} {b o:Nat} {vs:List Value} (h:At w b o vs):b<w.heap.size:=by
 obtain ⟨_,_,_,h,_⟩:=h;exact (lza.1 h).1
theorem Su.keep {w w':World} {b:Nat} {cs:List Value} {e:TypeId} (h:Su w b cs e) (hk:w'.heap[b]?=w.heap[b]?):Su w' b cs e:=hk.trans h
theorem Su.below {B:Nat} {w w':World} {b:Nat} {cs:List Value} {e:TypeId} (h:Su w b cs e) (hb:Below B w w') (hB:b<B):Su w' b cs e:=h.keep (hb.block b hB)
theorem At.keep {w w':World} {b o:Nat} {vs:List Value} (h:At w b o vs) (hk:w'.heap[b]?=w.heap[b]?):At w' b o vs:=by
 obtain ⟨cs,e,fz,h1,h2⟩:=h;exact ⟨cs,e,fz,hk.trans h1,h2⟩
theorem At.below {B:Nat} {w w':World} {b o:Nat} {vs:List Value} (h:At w b o vs) (hb:Below B w w') (hB:b<B):At w' b o vs:=h.keep (hb.block b hB)
theorem At.sub {w:World} {b o:Nat} {vs:List Value} (h:At w b o vs) (i n:Nat):At w b (o+i) ((vs.drop i).take n):=by
 obtain ⟨cs,e,fz,h1,h2⟩:=h
 refine ⟨cs,e,fz,h1,fun j v hj=>?_⟩
 rw [lAa] at hj
 split at hj
 ·rw [lNa] at hj;rw [lVb];exact h2 _ _ hj
 ·cases hj
theorem alV {t:TypeId} {v:Value} (h:TE v fun cs=>∀w',Jf w w' cs t→K (.pointer (some ⟨w.heap.size,0,none⟩)) w'):Zi P (Instr.box t v) w K :=
 ajy (by rw [Wv] at h ⊢;exact h _ (Jf.mk' _ _ _))
theorem ahQ {t:TypeId} {z:Value} (hz:(P.info? t).bind (fun i=>i.zero)=some z) (h:TE z fun cs=>∀w',Jf w w' cs t→K (.pointer (some ⟨w.heap.size,0,none⟩)) w') :
  Zi P (Instr.alloc t true (.tuple #[])) w K :=
 afG hz (by rw [Wv] at h ⊢;exact h _ (Jf.mk' _ _ _))
theorem aax {place:Nat→Option (Nat × Nat)} (ps:List (Nat × Value)):∀{cs:List Value} {k k':List Value→Prop},Qx place ps cs k→(∀cs,k cs→k' cs)→Qx place ps cs k':=by
 induction ps with
 | nil=>exact fun h hk=>hk _ h
 | cons p r ih =>
  obtain ⟨i,v⟩:=p
  intro cs k k' h hk
  simp only [QY,Wv,Tm] at h ⊢
  split at h
  ·exact k_Q
  ·rename_i pr hp
   obtain ⟨o,n⟩:=pr
   dsimp only at h ⊢
   obtain ⟨hb,h⟩:=Oo h
   rw [hb];exact ih h hk
theorem aah {t e:TypeId} {n sz:Nat} {z:Value} {ps:Array (Nat × Value)} (hu:P.underlying t=some (.slice e)) (hz:(P.info? e).map (fun i=>(i.size,i.zero))=some (sz,some z))
  (hsz:z.cells.size=sz) (hn:n * sz≤16777216)
  (h:PC n z.cells.toList fun zs=>Qx (fun i=>some (i * sz,sz)) ps.toList zs fun cs=>∀w',Jf w w' cs e→K (.slice (some ⟨w.heap.size,0,none⟩) n n) w') :
  Zi P (Instr.buildSlice t n ps) w K :=
 aaT hu hz hsz hn (by rw [RK] at h ⊢;exact aax _ h fun cs h=>h _ (Jf.mk' _ _ _))
def On:TypeDesc→Bool
 | .struct _|.array _ _=>true
 | _=>false
theorem Tl {t:TypeId} {d:TypeDesc} (hu:P.underlying t=some d):(isAgg t).run P w=.ok (On d) w:=by
 unfold isAgg
 rw [Sem.run_bind,run_underlying hu w]
 cases d <;> rfl
theorem At.cell {w:World} {b o:Nat} {vs:List Value} (h:At w b o vs) {i:Nat} {v:Value} (hi:vs[i]?=some v):w.cell? ⟨b,o+i,none⟩=some v:=by
 obtain ⟨cs,e,fz,h1,h2⟩:=h
 rw [cell_of_row w b (o+i) cs e fz h1];exact h2 i v hi
theorem ahR {t:TypeId} {d:TypeDesc} {b o:Nat} {v:Value} (hc:w.cell? ⟨b,o,none⟩=some v) (hu:P.underlying t=some d) (hd:On d=false) (k:K v w) :
  Zi P (Instr.loadAt t (.pointer (some ⟨b,o,none⟩))) w K:=by
 refine ⟨v,w,?_,k⟩
 simp [Instr.loadAt,Instr.sureAddr,loadVar,Tl hu,hd,hc]
theorem ajz {t:TypeId} {d:TypeDesc} {b o:Nat} {vs:List Value} (h:At w b o vs) (i:Nat) (hu:P.underlying t=some d) (hd:On d=false) (k:K8 vs i fun v=>K v w) :
  Zi P (Instr.loadAt t (.pointer (some ⟨b,o+i,none⟩))) w K:=by
 obtain ⟨v,hv,k⟩:=OQ k
 exact ahR (h.cell hv) hu hd k
theorem afH {t:TypeId} {d:TypeDesc} {b o:Nat} {vs:List Value} (h:At w b o vs) (hu:P.underlying t=some d) (hd:On d=true) (hs:(P.info? t).map (·.size)=some vs.length) (k:K (.agg vs.toArray) w) :
  Zi P (Instr.loadAt t (.pointer (some ⟨b,o,none⟩))) w K:=by
 refine ⟨_,w,?_,k⟩
 cases hi:P.info? t with
 | none=>simp [hi] at hs
 | some i =>
  have hl:i.size=vs.length:=by simpa [hi] using hs
  have:=run_loadCells_list (P:=P) w ⟨b,o,none⟩ vs (fun j v hv=>by rw [Addr.add_lit];exact h.cell hv)
  simp [Instr.loadAt,Instr.sureAddr,loadVar,Tl hu,hd,sizeOf,typeInfo,hi,hl,this]
def Om (l:List Value):Nat→(List Value→Prop)→Prop :=
 List.rec (motive:=fun _=>Nat→(List Value→Prop)→Prop) (fun _ k=>k []) (fun x r ih n k=>Nat.rec (motive:=fun _=>Prop) (k (x::r)) (fun m _=>ih m k) n) l
theorem abX (x:Value) (r:List Value) (n:Nat) (k:List Value→Prop):Om (x::r) (n+1) k=Om r n k:=rfl
def MV (l:List Value):Nat→(List Value→Prop)→Prop :=
 List.rec (motive:=fun _=>Nat→(List Value→Prop)→Prop) (fun n k=>Nat.rec (motive:=fun _=>Prop) (k []) (fun _ _=>False) n) (fun x _ ih n k=>Nat.rec (motive:=fun _=>Prop) (k []) (fun m _=>ih m fun l=>k (x::l)) n) l
theorem Qw (l:List Value) (n:Nat) (k:List Value→Prop):Om l n k=k (l.drop n):=by
 induction l generalizing n with
 | nil=>cases n <;> rfl
 | cons x r ih=>cases n with
  | zero=>rfl
  | succ n=>simp [abX,ih]
theorem Ol {l:List Value} {n:Nat} {k:List Value→Prop} (h:MV l n k):n≤l.length∧k (l.take n):=by
 induction l generalizing n k with
 | nil=>cases n with
  | zero=>exact ⟨lra _,h⟩
  | succ n=>exact h.elim
 | cons x r ih=>cases n with
  | zero=>exact ⟨lRa _,h⟩
  | succ n=>obtain ⟨h1,h2⟩:=ih (n:=n) h;exact ⟨by simp;omega,by simpa using h2⟩
theorem ahS {t:TypeId} {d:TypeDesc} {b o:Nat} {vs:List Value} (h:At w b o vs) (i:Nat) (hu:P.underlying t=some d) (hd:On d=true)
  (k:Om vs i fun r=>MV r (P.cellsOf t) fun us=>K (.agg us.toArray) w) :
  Zi P (Instr.loadAt t (.pointer (some ⟨b,o+i,none⟩))) w K:=by
 rw [Qw] at k
 obtain ⟨h1,h2⟩:=Ol k
 refine afH (h.sub i (P.cellsOf t)) hu hd ?_ h2
 cases hi:P.info? t with
 | none=>simp [Program.underlying,hi] at hu
 | some j=>simp [Program.cellsOf,hi] at h1 ⊢;omega
theorem afI {t:TypeId} {e:TypeId} {b o:Nat} {cs:List Value} {v:Value} {K:World→Prop} (hb:Su w b cs e) (ho:o<cs.length) (hs:(P.info? t).map (·.size)=some 1) (hv:v.oneCell'=true)
  (k:JF cs o v fun cs'=>∀w',Lg w w' b→Su w' b cs' e→K w'):JE P (Instr.storeAt t (.pointer (some ⟨b,o,none⟩)) v) w K:=by
 rw [TH] at k
 cases hi:P.info? t with
 | none=>simp [hi] at hs
 | some i =>
  have hl:i.size=1:=by simpa [hi] using hs
  have hvc:v.cells=#[v]:=by cases v <;> first|rfl|(simp [Value.oneCell'] at hv)
  have hc:w.cell? ⟨b,o,none⟩=some cs[o]:=by
   rw [cell_of_row w b o _ e (0,0) hb];simp [ho]
  have hf:w.frozen? ⟨b,o,none⟩=false:=frozen_of_row w b o _ e hb
  have hw:Lg w (w.setCell ⟨b,o,none⟩ v) b:=⟨rfl,rfl,rfl,by simp,fun k hk=>heap_setCell_other w _ k v hk⟩
  have Hf:Su (w.setCell ⟨b,o,none⟩ v) b (cs.set o v) e:=by
   unfold Su
   rw [heap_setCell_same w b o _ e v hb];simp
  refine ⟨_,?_,k _ hw Hf⟩
  have hst:(store ⟨b,o,none⟩ v).run P w=.ok () (w.setCell ⟨b,o,none⟩ v):=by
   cases v <;> first|(simp [Value.oneCell'] at hv;done)|simp [store,Sem.run,hc,hf]
  simp [Instr.storeAt,Instr.sureAddr,storeVar,sizeOf,typeInfo,hi,hl,hvc,storeCells,Addr.add_zero',hst]
theorem aco {t:TypeId} {e:TypeId} {b o:Nat} {cs:List Value} {v:Value} {K:World→Prop} (hb:Su w b cs e) (ho:o<cs.length) (hs:(P.info? t).map (·.size)=some 1) (hv:v.oneCell'=true)
  (k:∀w',Lg w w' b→Su w' b (cs.set o v) e→K w'):JE P (Instr.storeAt t (.pointer (some ⟨b,o,none⟩)) v) w K :=
 afI hb ho hs hv (by rw [TH];exact k)
theorem alW {t e:TypeId} {b o len cap:Nat} {ki:IntKind} {i:Int} (sz j p:Nat) (hj:i=j) (hl:j<len) (hp:o+j * sz=p) (ht:P.underlying t=some (.slice e)) (hs:(P.info? e).map (fun i=>i.size)=some sz)
  (k:K (.pointer (some ⟨b,p,none⟩)) w):Zi P (Instr.indexAt t (.slice (some ⟨b,o,none⟩) len cap) (.int ki i)) w K:=by
 subst hj;subst hp
 refine ⟨_,w,?_,k⟩
 cases hi':P.info? e with
 | none=>simp [hi'] at hs
 | some i' =>
  simp only [hi',Option.map_some,Option.some.injEq] at hs
  simp [Instr.indexAt,asIntOf,run_underlying ht,sizeOf,typeInfo,hi',hs,Addr.add_lit,hl]
theorem Lg.trans {w w' w'':World} {b:Nat} (h:Lg w w' b) (k:Lg w' w'' b):Lg w w'' b :=
 ⟨k.os.trans h.os,k.tape.trans h.tape,k.output.trans h.output,k.size.trans h.size,fun i hi=>(k.block i hi).trans (h.block i hi)⟩
theorem Lg.refl (w:World) (b:Nat):Lg w w b:=⟨rfl,rfl,rfl,rfl,fun _ _=>rfl⟩
def F9 (l:List Field):Nat→(TypeId→Nat→Prop)→Prop :=
 List.rec (motive:=fun _=>Nat→(TypeId→Nat→Prop)→Prop) (fun _ _=>False) (fun f _ ih n k=>Nat.rec (motive:=fun _=>Prop) (match f with
  | ⟨_,ty,off,_,_,_,_⟩=>k ty off) (fun m _=>ih m k) n) l
theorem acp {l:List Field} {i:Nat} {k:TypeId→Nat→Prop} (h:F9 l i k):∃f,l[i]?=some f∧k f.type f.offset:=by
 induction l generalizing i with
 | nil=>exact h.elim
 | cons f r ih=>cases i with
  | zero=>exact ⟨f,rfl,h⟩
  | succ i=>simpa using ih (i:=i) h
theorem Z9 {s:TypeId} {fs:Array Field} {i b o:Nat} (hu:P.underlying s=some (.struct fs)) (h:F9 fs.toList i fun ty off=>JC (Nat.ble 1 (P.cellsOf ty)) (K (.pointer (some ⟨b,o+off,none⟩)) w)) :
  Zi P (Instr.fieldAt s (.pointer (some ⟨b,o,none⟩)) i) w K:=by
 obtain ⟨f,hf,h⟩:=acp h
 obtain ⟨h1,h2⟩:=Oo h
 refine ⟨_,w,?_,h2⟩
 simp only [Array.getElem?_toList] at hf
 have h1:1≤P.cellsOf f.type:=by simpa using h1
 cases hi:P.info? f.type with
 | none=>simp [Program.cellsOf,hi] at h1
 | some j =>
  have:j.size≠0:=by simp [Program.cellsOf,hi] at h1;omega
  simp [Instr.fieldAt,run_underlying hu,hf,Instr.sureAddr,fieldPlace,sizeOf,typeInfo,hi,this,Addr.add_lit]
def IM (P:Program) (ty:TypeId) (cs:List Value) (off:Nat) (k:Value→Prop):Prop :=
 match P.underlying ty with
 | some d=>match On d with
  | true=>Om cs off fun r=>MV r (P.cellsOf ty) fun vs=>k (.agg vs.toArray)
  | false=>K8 cs off k
 | none=>False
theorem aa5 {ty:TypeId} {cs:List Value} {off:Nat} {k:Value→Prop} (h:IM P ty cs off k):∃v,(part ty cs.toArray off).run P w=.ok v w∧k v:=by
 unfold IM at h
 split at h
 ·rename_i d hu
  split at h
  ·rename_i hd
   rw [Qw] at h
   obtain ⟨h1,h2⟩:=Ol h
   refine ⟨_,?_,h2⟩
   cases hi:P.info? ty with
   | none=>simp [Program.underlying,hi] at hu
   | some i =>
    simp [part,Tl hu,hd,sizeOf,typeInfo,hi,Program.cellsOf]
  ·rename_i hd
   obtain ⟨v,hv,h⟩:=OQ h
   exact ⟨v,by simp [part,Tl hu,hd,hv],h⟩
 ·exact k_Q
theorem TD {s:TypeId} {fs:Array Field} {i:Nat} {cs:Array Value} (hu:P.underlying s=some (.struct fs)) (h:F9 fs.toList i fun ty off=>IM P ty cs.toList off fun v=>K v w) :
  Zi P (Instr.field s (.agg cs) i) w K:=by
 obtain ⟨f,hf,h⟩:=acp h
 obtain ⟨v,hv,h⟩:=aa5 (w:=w) h
 refine ⟨v,w,?_,h⟩
 simp only [Array.getElem?_toList] at hf
 simp only [Array.toArray_toList] at hv
 simp [Instr.field,run_underlying hu,hf,asAgg,hv]
def ON (P:Program) (l:List Field):(List (Nat × Nat)→Prop)→Prop :=
 List.rec (motive:=fun _=>(List (Nat × Nat)→Prop)→Prop) (fun k=>k []) (fun f _ ih k=>match f with
  | ⟨_,ty,off,_,_,_,_⟩=>ih fun l=>k ((off,P.cellsOf ty)::l)) l
theorem aaU (f:Field) (r:List Field) (k:List (Nat × Nat)→Prop):ON P (f::r) k=ON P r fun l=>k ((f.offset,P.cellsOf f.type)::l):=by cases f;rfl
theorem abY (l:List Field) (k:List (Nat × Nat)→Prop):ON P l k=k (l.map fun f=>(f.offset,P.cellsOf f.type)):=by
 induction l generalizing k with
 | nil=>rfl
 | cons f r ih=>simp [aaU,ih]
theorem aa6 {α β:Type} {g:α→Sem β} {h:α→β}:∀(l:List α),(∀a,a∈l→(g a).run P w=.ok (h a) w)→(l.mapM g).run P w=.ok (l.map h) w
 | [],_=>by simp
 | a::r,hl=>by
  rw [List.mapM_cons]
  simp only [Sem.run_bind,hl a (List.mem_cons_self ..),Result.andThen_ok,aa6 r fun b hb=>hl b (List.mem_cons_of_mem _ hb),Sem.run_pure,List.map_cons]
theorem abZ {t:TypeId} (h:(P.info? t).isSome=true):(sizeOf t).run P w=.ok (P.cellsOf t) w:=by
 obtain ⟨j,hj⟩:=Option.isSome_iff_exists.1 h
 simp [sizeOf,typeInfo,hj,Program.cellsOf]
theorem Zf {t:TypeId} {fs:Array Field} {z:Value} {ps:Array (Nat × Value)} (hu:P.underlying t=some (.struct fs)) (hz:(P.info? t).bind (fun i=>i.zero)=some z)
  (hf:fs.toList.all (fun f=>(P.info? f.type).isSome)=true)
  (h:ON P fs.toList fun pl=>TE z fun zs=>Qx (fun i=>pl[i]?) ps.toList zs fun cs=>K (.agg cs.toArray) w):Zi P (Instr.build t ps) w K:=by
 rw [abY,Wv] at h
 obtain ⟨cs,h1,h2⟩:=aag _ h
 refine ⟨_,w,?_,h2⟩
 cases hi:P.info? t with
 | none=>simp [hi] at hz
 | some i =>
  simp only [hi,Option.bind_some] at hz
  have hm:(fs.mapM (m:=Sem) fun f=>do pure (f.offset,←sizeOf f.type)).run P w=.ok (fs.toList.map fun f=>(f.offset,P.cellsOf f.type)).toArray w:=by
   rw [Array.mapM_eq_mapM_toList]
   rw [Sem.run_map,aa6 (h:=fun f=>(f.offset,P.cellsOf f.type)) _ (fun f hm=>?_)]
   ·rfl
   ·have:=lkb.1 hf f hm
    simp only [Sem.run_bind,abZ this,Result.andThen_ok,Sem.run_pure]
  have hzv:(zeroValue t).run P w=.ok z w:=by simp [zeroValue,typeInfo,hi,hz]
  simp only [Array.toArray_toList] at h1
  unfold Instr.build
  simp only [Sem.run_bind,hzv,Result.andThen_ok,run_underlying hu,hm,List.getElem?_toArray,h1,Sem.run_pure,Array.toArray_toList]
end YZ
namespace YZ
open Go Go.RowKit
variable {P:Program} {w:World} {K:Value→World→Prop}
theorem adN {lo:Nat} {w w':World} {e:TypeId} {sz:Nat} {v:Value} {n:Nat} {xs:List Value} (h:w.ownsRow lo e sz v n xs) (hb:∀k,v.ownBlock=some k→w'.heap[k]?=w.heap[k]?):w'.ownsRow lo e sz v n xs:=by
 refine ⟨h.1,?_⟩
 rcases h.2 with hn|⟨g,cap,cur,rfl,DR,hgg,rest⟩
 ·exact .inl hn
 ·refine .inr ⟨g,cap,cur,rfl,DR,?_,rest⟩
  rw [hb g rfl];exact hgg
theorem adO {lo lo':Nat} {w:World} {e:TypeId} {sz:Nat} {v:Value} {n:Nat} {xs:List Value} (h:w.ownsRow lo e sz v n xs) (hl:lo'≤lo):w.ownsRow lo' e sz v n xs:=by
 refine ⟨h.1,?_⟩
 rcases h.2 with hn|⟨g,cap,cur,rfl,DR,rest⟩
 ·exact .inl hn
 ·exact .inr ⟨g,cap,cur,rfl,lGa hl DR,rest⟩
theorem Jf.own {w w':World} {cs:List Value} {e:TypeId} (h:Jf w w' cs e) (n sz:Nat) (hn:cs.length=n * sz) (hm:n≤140737488355328):w'.ownsRow w.heap.size e sz (.slice (some ⟨w.heap.size,0,none⟩) n n) n cs :=
 ⟨hn,.inr ⟨w.heap.size,n,cs.toArray,rfl,lra _,h.Ur,lra _,by simp [maxLen];omega,by simpa using hn,lxa (by simp [hn])⟩⟩
abbrev Hv:=Nat→Obj→Prop
def Rg (w:World) (lo hi:Nat):Hv:=fun b o=>lo≤b∧b<hi∧w.heap[b]?=some o
def K3 (H H':Hv):Prop:=∀b o,H b o→H' b o
theorem K3.refl (H:Hv):K3 H H:=fun _ _ h=>h
theorem Rg.mono {w w':World} {lo hi lo' hi':Nat} (hlo:lo'≤lo) (hhi:hi≤hi') (hs:∀b,lo≤b→b<hi→w'.heap[b]?=w.heap[b]?):K3 (Rg w lo hi) (Rg w' lo' hi') :=
 fun b o ⟨h1,h2,h3⟩=>⟨lGa hlo h1,Nat.lt_of_lt_of_le h2 hhi,(hs b h1 h2).trans h3⟩
theorem Rg.below {w w':World} {lo hi B:Nat} (hb:Below B w w') (h:hi≤B):K3 (Rg w lo hi) (Rg w' lo hi):=Rg.mono (lra _) (lra _) fun b _ h2=>hb.block b (Nat.lt_of_lt_of_le h2 h)
def GB (H:Hv) (b o:Nat) (vs:List Value):Prop:=∃cs e fz,H b (.cells cs e fz)∧∀i v,vs[i]?=some v→cs[o+i]?=some v
theorem GB.at {w:World} {lo hi b o:Nat} {vs:List Value} (h:GB (Rg w lo hi) b o vs):At w b o vs:=by
 obtain ⟨cs,e,fz,⟨_,_,h1⟩,h2⟩:=h;exact ⟨cs,e,fz,h1,h2⟩
theorem GB.mono {H H':Hv} {b o:Nat} {vs:List Value} (h:GB H b o vs) (hh:K3 H H'):GB H' b o vs:=by
 obtain ⟨cs,e,fz,h1,h2⟩:=h;exact ⟨cs,e,fz,hh _ _ h1,h2⟩
section
variable {α:Type}
def He (R:Hv→List Value→α→Prop) (sz:Nat) (H:Hv) (cells:List Value) (xs:List α):Prop :=
 cells.length=xs.length * sz∧∀i x,xs[i]?=some x→R H ((cells.drop (i * sz)).take sz) x
def VS (R:Hv→List Value→α→Prop) (sz:Nat) (H:Hv) (v:Value) (xs:List α):Prop :=
 ∃a cap,v=.slice a xs.length cap∧(xs.length≤cap∧cap≤9223372036854775807)∧(a=none→xs=[]∧cap=0) ∧
  (xs≠[]→∃b o news,a=some ⟨b,o,none⟩∧GB H b o news∧He R sz H news xs)
def F8 (R:Hv→List Value→α→Prop):Prop:=∀H H' vs x,K3 H H'→R H vs x→R H' vs x
theorem He.mono {R:Hv→List Value→α→Prop} {sz:Nat} {H H':Hv} {cells:List Value} {xs:List α} (hR:F8 R) (h:He R sz H cells xs) (hh:K3 H H'):He R sz H' cells xs :=
 ⟨h.1,fun i x hx=>hR _ _ _ _ hh (h.2 i x hx)⟩
theorem VS.mono {R:Hv→List Value→α→Prop} {sz:Nat} {H H':Hv} {v:Value} {xs:List α} (hR:F8 R) (h:VS R sz H v xs) (hh:K3 H H'):VS R sz H' v xs:=by
 obtain ⟨a,cap,h1,h2,h3,h4⟩:=h
 exact ⟨a,cap,h1,h2,h3,fun hx=>let ⟨b,o,news,e,k1,k2⟩:=h4 hx;⟨b,o,news,e,k1.mono hh,k2.mono hR hh⟩⟩
theorem VS.len {R:Hv→List Value→α→Prop} {sz:Nat} {H:Hv} {v:Value} {xs:List α} (h:VS R sz H v xs):xs.length≤9223372036854775807:=by
 obtain ⟨a,cap,h1,h2,h3,h4⟩:=h;omega
theorem VS.nil (R:Hv→List Value→α→Prop) (sz:Nat) (H:Hv):VS R sz H (.slice none 0 0) [] :=
 ⟨none,0,rfl,by simp,fun _=>⟨rfl,rfl⟩,fun h=>absurd rfl h⟩
theorem ajA {R:Hv→List Value→α→Prop} {sz:Nat} {H:Hv} {t ty e:TypeId} {v:Value} {xs:List α} (h:VS R sz H v xs) (ht:P.underlying t=some (.slice e)) (k:K (.int .i64 xs.length) w) :
  Zi P (Builtin.len_ #[t] ty #[v]) w K:=by
 obtain ⟨a,cap,rfl,h2,h3,h4⟩:=h
 exact WM ht k
end
end YZ
namespace YZ
open Go
theorem afJ (k:IntKind) (x:Int) (n:Nat) (hn:n≤k.bits):Xe k x n=x / 2 ^ n:=by
 unfold Xe
 rw [lka,lob hn]
 rw [Int.fdiv_eq_ediv_of_nonneg _ (by exact_mod_cast lRa (2 ^ n))]
theorem UZ (n:Nat) (x:Int):((BitVec.ofInt n x).toNat:Int)=x % 2 ^ n:=by
 rw [BitVec.toNat_ofInt]
 have h:0≤x % ((2 ^ n:Nat):Int):=Int.emod_nonneg _ (by exact_mod_cast Nat.ne_of_gt (lKb n))
 rw [Int.toNat_of_nonneg h]
 norm_cast
theorem aay (k:IntKind) (x:Int) (n:Nat) (hn:n<k.bits):TY k x (2 ^ n-1)=x % 2 ^ n:=by
 unfold TY
 have h1:(BitVec.ofInt k.bits (2 ^ n-1)).toNat=2 ^ n-1:=by
  have h2:=UZ k.bits (2 ^ n-1)
  have h3:((2:Int) ^ n-1) % 2 ^ k.bits=2 ^ n-1:=by
   have a:(0:Int)<2 ^ n:=by exact_mod_cast lKb n
   have b:(2:Int) ^ n≤2 ^ k.bits:=by exact_mod_cast lUa (by decide) (ldb hn)
   exact Int.emod_eq_of_lt qo qo
  rw [h3] at h2
  have h4:((2 ^ n-1:Nat):Int)=2 ^ n-1:=by
   rw [Int.ofNat_sub (Nat.one_le_two_pow)];norm_cast
  omega
 rw [BitVec.toNat_and,h1,Nat.and_two_pow_sub_one_eq_mod]
 have h5:(((BitVec.ofInt k.bits x).toNat % 2 ^ n:Nat):Int)=x % 2 ^ n:=by
  rw [Int.natCast_emod,UZ]
  have:((2 ^ n:Nat):Int)=2 ^ n:=by norm_cast
  rw [this]
  exact Int.emod_emod_of_dvd x (by exact_mod_cast Nat.pow_dvd_pow 2 (ldb hn))
 rw [h5]
 have a:(0:Int)<2 ^ n:=by exact_mod_cast lKb n
 have h6:=Int.emod_nonneg x (Int.ne_of_gt a)
 have h7:=Int.emod_lt_of_pos x a
 have h8:(2:Int) ^ n≤2 ^ (k.bits-1):=by exact_mod_cast lUa (by decide) qo
 have h9:=U0 (k:=k) (n:=x % 2 ^ n) (by
   unfold IntKind.min;split
   ·have:(0:Int)<2 ^ (k.bits-1):=by exact_mod_cast lKb _
    omega
   ·exact h6) (by
   unfold IntKind.max
   have:(2:Int) ^ (k.bits-1)≤2 ^ k.bits:=by exact_mod_cast lUa (by decide) qo
   split <;> omega)
 unfold ZO at h9
 exact h9
theorem afK (k:IntKind) (a b:Nat) (n:Nat) (ha:a<2 ^ n) (hb:2 ^ n ∣ b) (hk:(a:Int)+b≤k.max):So k a b=a+b:=by
 unfold So
 have alX:k.max<2 ^ k.bits:=by cases k <;> decide
 have ea:(BitVec.ofInt k.bits (a:Int)).toNat=a:=by
  have:=UZ k.bits a
  rw [Int.emod_eq_of_lt qo qo] at this
  omega
 have eb:(BitVec.ofInt k.bits (b:Int)).toNat=b:=by
  have:=UZ k.bits b
  rw [Int.emod_eq_of_lt qo qo] at this
  omega
 obtain ⟨c,rfl⟩:=hb
 rw [BitVec.toNat_or,ea,eb,Nat.or_comm,←Nat.two_pow_add_eq_or_of_lt ha]
 have:=U0 (k:=k) (n:=((2 ^ n * c+a:Nat):Int)) (by
  have:k.min≤0:=by cases k <;> decide
  omega) qo
 unfold ZO at this
 rw [this]
 omega
theorem afL (k:IntKind) (x:Int) (n:Nat) (hn:n≤k.bits):Ws k x n=ZO k (x * 2 ^ n):=by
 unfold Ws ZO
 rw [lka,lob hn]
theorem Mm (k:IntKind) (x:Int):TY k x 127=x % 128:=aay k x 7 (by cases k <;> decide)
theorem XM (k:IntKind) (n:Int):k.min≤ZO k n∧ZO k n≤k.max:=by
 unfold ZO
 cases k <;> simp [IntKind.wrap,IntKind.min,IntKind.max,IntKind.bits,IntKind.signed] <;> omega
end YZ
namespace XV
open Go YZ
def Xt (n:Nat):List UInt8:=if h:n<128 then [UInt8.ofNat n] else UInt8.ofNat (n % 128+128)::Xt (n / 128)
termination_by n
decreasing_by omega
def VK (n:Int):List UInt8:=if h:-64≤n∧n<64 then [UInt8.ofNat (n % 128).toNat] else UInt8.ofNat ((n % 128).toNat+128)::VK (n / 128)
termination_by n.natAbs
decreasing_by omega
theorem RJ {n:Nat} (h:n<128):Xt n=[UInt8.ofNat n]:=by rw [Xt,dif_pos h]
theorem Qv {n:Nat} (h:128≤n):Xt n=UInt8.ofNat (n % 128+128)::Xt (n / 128):=by rw [Xt,dif_neg qo]
theorem TV {n:Int} (h:-64≤n∧n<64):VK n=[UInt8.ofNat (n % 128).toNat]:=by rw [VK,dif_pos h]
theorem Sm {n:Int} (h:¬(-64≤n∧n<64)):VK n=UInt8.ofNat ((n % 128).toNat+128)::VK (n / 128):=by rw [VK,dif_neg h]
theorem adP (n:Nat):0<(Xt n).length:=by
 by_cases h:n<128
 ·rw [RJ h];simp
 ·rw [Qv qo];simp
theorem adQ (n:Int):0<(VK n).length:=by
 by_cases h:-64≤n∧n<64
 ·rw [TV h];simp
 ·rw [Sm h];simp
theorem Ok (k:Nat):∀n,n<128 ^ (k+1)→(Xt n).length≤k+1:=by
 induction k with
 | zero=>intro n h;rw [RJ qo];simp
 | succ k ih =>
  intro n h
  by_cases h1:n<128
  ·rw [RJ h1];simp
  ·rw [Qv qo,lda]
   have:=ih (n / 128) (by rw [Nat.pow_succ] at h;omega)
   omega
theorem Oj (k:Nat):∀n:Int,-(64 * 128 ^ k:Nat)≤n→n<(64 * 128 ^ k:Nat)→(VK n).length≤k+1:=by
 induction k with
 | zero=>intro n h h';rw [TV qo];simp
 | succ k ih =>
  intro n h h'
  by_cases h1:-64≤n∧n<64
  ·rw [TV h1];simp
  ·rw [Sm h1,lda]
   have e:64 * 128 ^ (k+1)=128 * (64 * 128 ^ k):=by rw [Nat.pow_succ];omega
   rw [e] at h h'
   have:=ih (n / 128) qo qo
   omega
theorem Wh {n:Nat} (h:n<256):(UInt8.ofNat n).toNat=n:=by simp [UInt8.toNat_ofNat'];omega
def Kv (bits:Nat):List UInt8→Nat→Nat→Nat × Nat × Nat
 | [],_,_=>(0,0,3)
 | c::r,i,acc =>
  if bits<7 * i+7∧c.toNat / 2 ^ (bits-7 * i)≠0 then (0,0,4)
  else if c.toNat<128 then (acc+c.toNat % 128 * 2 ^ (7 * i),i+1,0)
  else Kv bits r (i+1) (acc+c.toNat % 128 * 2 ^ (7 * i))
def Nf (c:Nat):Int:=if c % 128<64 then (c % 128:Nat) else (c % 128:Nat)-128
def G9 (bits i c:Nat):Prop:=bits<7 * i+7∧(128≤c∨Nf c < -((2 ^ (bits-7 * i-1):Nat):Int)∨((2 ^ (bits-7 * i-1):Nat):Int)≤Nf c)
instance (bits i c:Nat):Decidable (G9 bits i c):=by unfold G9;exact inferInstance
def Ml (bits:Nat):List UInt8→Nat→Nat→Int × Nat × Nat
 | [],_,_=>(0,0,3)
 | c::r,i,acc =>
  if G9 bits i c.toNat then (0,0,4)
  else if c.toNat<128 then (acc+Nf c.toNat * (2 ^ (7 * i):Nat),i+1,0)
  else Ml bits r (i+1) (acc+c.toNat % 128 * 2 ^ (7 * i))
theorem Uu (i:Nat):2 ^ (7 * (i+1))=128 * 2 ^ (7 * i):=by rw [Nat.mul_succ,Nat.pow_add];omega
theorem adR (bits:Nat) (more:List UInt8):∀(m i acc:Nat),7 * i<bits→m<2 ^ (bits-7 * i) →
  Kv bits (Xt m++more) i acc=(acc+m * 2 ^ (7 * i),i+(Xt m).length,0):=by
 intro m
 induction m using Nat.strongRecOn with
 | _ m ih =>
  intro i acc hi hm
  by_cases h:m<128
  ·rw [RJ h,lXb,Kv,Wh qo,if_neg,if_pos h,Nat.mod_eq_of_lt h]
   ·rfl
   ·rintro ⟨_,h2⟩;exact h2 (Nat.div_eq_of_lt hm)
  ·have h8:7 * i+8≤bits:=by
    rcases lEa bits (7 * i+8) with hl|hl
    ·have:(2:Nat) ^ (bits-7 * i)≤2 ^ 7:=lUa (by decide) qo
     omega
    ·exact hl
   rw [Qv qo,lOa,Kv,Wh qo,if_neg qo,if_neg qo]
   have e1:(m % 128+128) % 128=m % 128:=by omega
   rw [e1,ih (m / 128) qo (i+1) _ qo]
   ·rw [Uu,lda]
    have e2:m % 128 * 2 ^ (7 * i)+m / 128 * (128 * 2 ^ (7 * i))=m * 2 ^ (7 * i):=by
     rw [←Nat.mul_assoc,←lMb];congr 1;omega
    refine Prod.ext ?_ (Prod.ext ?_ rfl)
    ·show acc+m % 128 * 2 ^ (7 * i)+m / 128 * (128 * 2 ^ (7 * i))=acc+m * 2 ^ (7 * i)
     omega
    ·show i+1+(Xt (m / 128)).length=i+((Xt (m / 128)).length+1)
     omega
   ·have e3:2 ^ (bits-7 * i)=128 * 2 ^ (bits-7 * (i+1)):=by
     have:bits-7 * i=7+(bits-7 * (i+1)):=by omega
     rw [this,Nat.pow_add]
    rw [e3] at hm
    omega
theorem afM (bits:Nat):∀(m i acc j:Nat),7 * i<bits→m<2 ^ (bits-7 * i)→j<(Xt m).length→Kv bits ((Xt m).take j) i acc=(0,0,3):=by
 intro m
 induction m using Nat.strongRecOn with
 | _ m ih =>
  intro i acc j hi hm hj
  by_cases h:m<128
  ·rw [RJ h] at hj ⊢
   have:j=0:=by simpa using hj
   subst this;rfl
  ·have h8:7 * i+8≤bits:=by
    rcases lEa bits (7 * i+8) with hl|hl
    ·have:(2:Nat) ^ (bits-7 * i)≤2 ^ 7:=lUa (by decide) qo
     omega
    ·exact hl
   rw [Qv qo] at hj ⊢
   cases j with
   | zero=>rfl
   | succ j =>
    rw [List.take_succ_cons,Kv,Wh qo,if_neg qo,if_neg qo]
    have e3:2 ^ (bits-7 * i)=128 * 2 ^ (bits-7 * (i+1)):=by
     have:bits-7 * i=7+(bits-7 * (i+1)):=by omega
     rw [this,Nat.pow_add]
    exact ih (m / 128) qo (i+1) _ j qo (by rw [e3] at hm;omega) (by simpa using hj)
theorem ada (bits:Nat):∀(s:List UInt8) (i acc n k:Nat),acc<2 ^ (7 * i)→Kv bits s i acc=(n,k,0)→n<2 ^ (7 * k)∧i<k∧k≤i+s.length:=by
 intro s
 induction s with
 | nil=>intro i acc n k _ h;simp [Kv] at h
 | cons c r ih =>
  intro i acc n k ha h
  have hb:acc+c.toNat % 128 * 2 ^ (7 * i)<2 ^ (7 * (i+1)):=by
   rw [Uu]
   have h2:(c.toNat % 128+1) * 2 ^ (7 * i)≤128 * 2 ^ (7 * i):=lLa _ qo
   rw [lMb] at h2
   omega
  rw [Kv] at h
  split at h
  ·simp at h
  ·split at h
   ·simp only [Prod.mk.injEq] at h
    obtain ⟨rfl,rfl,_⟩:=h
    exact ⟨hb,by omega,by simp⟩
   ·obtain ⟨h1,h2,h3⟩:=ih (i+1) _ n k hb h
    exact ⟨h1,by omega,by simp;omega⟩
theorem ab0 {n k:Nat} (h:n<2 ^ (7 * k)) (hk:0<k):(Xt n).length≤k:=by
 obtain ⟨j,rfl⟩:∃j,k=j+1:=⟨k-1,by omega⟩
 exact Ok j n (by rw [Nat.pow_mul] at h;exact h)
theorem adS (m:Int) (h:-64≤m∧m<64):Nf (m % 128).toNat=m:=by
 unfold Nf;split <;> omega
theorem aa7 (bits:Nat) (more:List UInt8):∀(k:Nat) (m:Int) (i acc:Nat),m.natAbs≤k→7 * i<bits→-((2 ^ (bits-7 * i-1):Nat):Int)≤m→m<((2 ^ (bits-7 * i-1):Nat):Int) →
  Ml bits (VK m++more) i acc=(acc+m * (2 ^ (7 * i):Nat),i+(VK m).length,0):=by
 intro k
 induction k with
 | zero =>
  intro m i acc hk hi h1 h2
  have:m=0:=by omega
  subst this
  rw [TV qo,lXb,Ml]
  have e:(UInt8.ofNat ((0:Int) % 128).toNat).toNat=0:=rfl
  have hp:=lKb (bits-7 * i-1)
  rw [e,if_neg (by unfold G9;rw [show Nf 0=0 from rfl];omega),if_pos qo]
  simp [Nf]
 | succ k ih =>
  intro m i acc hk hi h1 h2
  by_cases h:-64≤m∧m<64
  ·rw [TV h,lXb,Ml,Wh qo,adS m h,if_neg,if_pos qo]
   ·rfl
   ·rintro ⟨_,h'|h'⟩
    ·omega
    ·rw [adS m h] at h';omega
  ·have h8:7 * i+7<bits:=by
    rcases lEa (7 * i+7) bits with hl|hl
    ·exact hl
    ·have:(2:Nat) ^ (bits-7 * i-1)≤2 ^ 6:=lUa (by decide) qo
     omega
   rw [Sm h,lOa,Ml,Wh qo,if_neg (by rintro ⟨h,_⟩;omega),if_neg qo]
   have e3:2 ^ (bits-7 * i-1)=128 * 2 ^ (bits-7 * (i+1)-1):=by
    have:bits-7 * i-1=7+(bits-7 * (i+1)-1):=by omega
    rw [this,Nat.pow_add]
   rw [e3] at h1 h2
   rw [ih (m / 128) (i+1) _ qo qo qo qo]
   have e1:((m % 128).toNat+128) % 128=(m % 128).toNat:=by omega
   rw [e1,Uu,lda]
   refine Prod.ext ?_ (Prod.ext ?_ rfl)
   ·show ((acc+(m % 128).toNat * 2 ^ (7 * i):Nat):Int)+m / 128 * ((128 * 2 ^ (7 * i):Nat):Int)=acc+m * ((2 ^ (7 * i):Nat):Int)
    generalize 2 ^ (7 * i)=p
    have e4:(((m % 128).toNat * p:Nat):Int)=m % 128 * p:=by
     rw [Int.natCast_mul,Int.toNat_of_nonneg qo]
    have e5:m=m % 128+128 * (m / 128):=by omega
    have e6:m * (p:Int)=m % 128 * p+128 * (m / 128) * p:=by
     rw [←Int.add_mul,←e5]
    rw [Int.natCast_add,e4,e6,Int.natCast_mul,Int.add_assoc]
    congr 2
    rw [←Int.mul_assoc,Int.mul_comm (m / 128)]
    rfl
   ·show i+1+(VK (m / 128)).length=i+((VK (m / 128)).length+1)
    omega
theorem acq (bits:Nat):∀(k:Nat) (m:Int) (i acc j:Nat),m.natAbs≤k→7 * i<bits→-((2 ^ (bits-7 * i-1):Nat):Int)≤m→m<((2 ^ (bits-7 * i-1):Nat):Int)→j<(VK m).length →
  Ml bits ((VK m).take j) i acc=(0,0,3):=by
 intro k
 induction k with
 | zero =>
  intro m i acc j hk hi h1 h2 hj
  have:m=0:=by omega
  subst this
  rw [TV qo] at hj ⊢
  have:j=0:=by simpa using hj
  subst this;rfl
 | succ k ih =>
  intro m i acc j hk hi h1 h2 hj
  by_cases h:-64≤m∧m<64
  ·rw [TV h] at hj ⊢
   have:j=0:=by simpa using hj
   subst this;rfl
  ·have h8:7 * i+7<bits:=by
    rcases lEa (7 * i+7) bits with hl|hl
    ·exact hl
    ·have:(2:Nat) ^ (bits-7 * i-1)≤2 ^ 6:=lUa (by decide) qo
     omega
   rw [Sm h] at hj ⊢
   cases j with
   | zero=>rfl
   | succ j =>
    have e3:2 ^ (bits-7 * i-1)=128 * 2 ^ (bits-7 * (i+1)-1):=by
     have:bits-7 * i-1=7+(bits-7 * (i+1)-1):=by omega
     rw [this,Nat.pow_add]
    rw [e3] at h1 h2
    rw [List.take_succ_cons,Ml,Wh qo,if_neg (by rintro ⟨h,_⟩;omega),if_neg qo]
    exact ih (m / 128) (i+1) _ j qo qo qo qo (by simpa using hj)
theorem adb (bits:Nat):∀(s:List UInt8) (i acc:Nat) (n:Int) (k:Nat),acc<2 ^ (7 * i)→Ml bits s i acc=(n,k,0) →
  -((64 * 2 ^ (7 * (k-1)):Nat):Int)≤n∧n<((64 * 2 ^ (7 * (k-1)):Nat):Int)∧i<k∧k≤i+s.length:=by
 intro s
 induction s with
 | nil=>intro i acc n k _ h;simp [Ml] at h
 | cons c r ih =>
  intro i acc n k ha h
  rw [Ml] at h
  split at h
  ·simp at h
  ·split at h
   ·simp only [Prod.mk.injEq] at h
    obtain ⟨rfl,rfl,_⟩:=h
    have hs:-64≤Nf c.toNat∧Nf c.toNat≤63:=by unfold Nf;split <;> omega
    rw [lKa]
    generalize 2 ^ (7 * i)=p at *
    have a1:-64 * (p:Int)≤Nf c.toNat * p:=lYb hs.1 qo
    have a2:Nf c.toNat * (p:Int)≤63 * p:=lYb hs.2 qo
    refine ⟨?_,?_,by omega,by simp⟩ <;> push_cast <;> omega
   ·have hb:acc+c.toNat % 128 * 2 ^ (7 * i)<2 ^ (7 * (i+1)):=by
     rw [Uu]
     have h2:(c.toNat % 128+1) * 2 ^ (7 * i)≤128 * 2 ^ (7 * i):=lLa _ qo
     rw [lMb] at h2
     omega
    obtain ⟨h1,h2,h3,h4⟩:=ih (i+1) _ n k hb h
    exact ⟨h1,h2,by omega,by simp;omega⟩
theorem ahT (bits:Nat):∀(s:List UInt8) (i acc:Nat),7 * i<bits→bits=32∨bits=64→acc<2 ^ (7 * i)→(Kv bits s i acc).1<2 ^ bits:=by
 intro s
 induction s with
 | nil=>intro i acc _ _ _;exact lKb _
 | cons c r ih =>
  intro i acc hi hb ha
  rw [Kv]
  split
  ·exact lKb _
  ·rename_i hno
   have e:(2:Nat) ^ bits=2 ^ (bits-7 * i) * 2 ^ (7 * i):=by rw [←Nat.pow_add];congr 1;omega
   have h1:c.toNat % 128<2 ^ (bits-7 * i):=by
    by_cases h:bits<7 * i+7
    ·have h2:c.toNat / 2 ^ (bits-7 * i)=0:=Decidable.byContradiction fun h2=>hno ⟨h,h2⟩
     have:=(Nat.div_eq_zero_iff.1 h2).resolve_left (Nat.ne_of_gt (lKb _))
     exact Nat.lt_of_le_of_lt (Nat.mod_le _ _) this
    ·have:(2:Nat) ^ 7≤2 ^ (bits-7 * i):=lUa (by decide) qo
     omega
   have h2:(c.toNat % 128+1) * 2 ^ (7 * i)≤2 ^ (bits-7 * i) * 2 ^ (7 * i):=lLa _ h1
   split
   ·rw [lMb] at h2
    show acc+_<_
    omega
   ·rename_i hc
    have h7:7 * (i+1)<bits:=by
     by_cases h:bits<7 * i+7
     ·exfalso
      apply hno
      refine ⟨h,fun h2=>?_⟩
      have h3:=(Nat.div_eq_zero_iff.1 h2).resolve_left (Nat.ne_of_gt (lKb _))
      have:(2:Nat) ^ (bits-7 * i)≤2 ^ 7:=lUa (by decide) qo
      omega
     ·omega
    refine ih (i+1) _ h7 hb ?_
    rw [Uu]
    have h2:(c.toNat % 128+1) * 2 ^ (7 * i)≤128 * 2 ^ (7 * i):=lLa _ qo
    rw [lMb] at h2
    omega
theorem ahU (bits:Nat):∀(s:List UInt8) (i acc:Nat),7 * i<bits→bits=32∨bits=64→acc<2 ^ (7 * i) →
  -((2 ^ (bits-1):Nat):Int)≤(Ml bits s i acc).1∧(Ml bits s i acc).1<((2 ^ (bits-1):Nat):Int):=by
 intro s
 have hz:=lKb (bits-1)
 induction s with
 | nil=>intro i acc _ _ _;exact ⟨by show _≤(0:Int);omega,by show (0:Int)<_;omega⟩
 | cons c r ih =>
  intro i acc hi hb ha
  rw [Ml]
  split
  ·exact ⟨by show _≤(0:Int);omega,by show (0:Int)<_;omega⟩
  ·rename_i hno
   have e:(2:Nat) ^ (bits-1)=2 ^ (bits-7 * i-1) * 2 ^ (7 * i):=by rw [←Nat.pow_add];congr 1;omega
   have hs:-64≤Nf c.toNat∧Nf c.toNat≤63:=by unfold Nf;split <;> omega
   split
   ·have h1:-((2 ^ (bits-7 * i-1):Nat):Int)≤Nf c.toNat∧Nf c.toNat+1≤((2 ^ (bits-7 * i-1):Nat):Int):=by
     by_cases h:bits<7 * i+7
     ·constructor
      ·apply Decidable.byContradiction;intro hh;exact hno ⟨h,.inr (.inl qo)⟩
      ·apply Decidable.byContradiction;intro hh;exact hno ⟨h,.inr (.inr qo)⟩
     ·have:(2:Nat) ^ 6≤2 ^ (bits-7 * i-1):=lUa (by decide) qo
      omega
    rw [e]
    generalize 2 ^ (bits-7 * i-1)=M at *
    generalize 2 ^ (7 * i)=p at *
    have a1:-(M:Int) * p≤Nf c.toNat * p:=lYb h1.1 qo
    have a2:(Nf c.toNat+1) * p≤(M:Int) * p:=lYb h1.2 qo
    rw [Int.neg_mul] at a1
    rw [Int.add_mul,Int.one_mul] at a2
    rw [Int.natCast_mul]
    show _≤(acc:Int)+Nf c.toNat * p∧(acc:Int)+Nf c.toNat * p<_
    omega
   ·rename_i hc
    have h7:7 * (i+1)<bits:=by
     by_cases h:bits<7 * i+7
     ·exact absurd ⟨h,.inl qo⟩ hno
     ·omega
    refine ih (i+1) _ h7 hb ?_
    rw [Uu]
    have h2:(c.toNat % 128+1) * 2 ^ (7 * i)≤128 * 2 ^ (7 * i):=lLa _ qo
    rw [lMb] at h2
    omega
theorem ab1 {n:Int} {k:Nat} (h1:-((64 * 2 ^ (7 * (k-1)):Nat):Int)≤n) (h2:n<((64 * 2 ^ (7 * (k-1)):Nat):Int)) (hk:0<k):(VK n).length≤k:=by
 obtain ⟨j,rfl⟩:∃j,k=j+1:=⟨k-1,by omega⟩
 rw [lKa,Nat.pow_mul] at h1 h2
 exact Oj j n h1 h2
theorem ajB (m:Int) (more:List UInt8) (h:-9223372036854775808≤m∧m≤9223372036854775807):Ml 64 (VK m++more) 0 0=(m,(VK m).length,0):=by
 have h1:=aa7 64 more m.natAbs m 0 0 (lra _) (by decide) (by simpa using h.1) (by have:=h.2;simp;omega)
 rw [h1];simp
theorem ajC (m:Int) (more:List UInt8) (h:-2147483648≤m∧m≤2147483647):Ml 32 (VK m++more) 0 0=(m,(VK m).length,0):=by
 have h1:=aa7 32 more m.natAbs m 0 0 (lra _) (by decide) (by simpa using h.1) (by have:=h.2;simp;omega)
 rw [h1];simp
theorem ajD (m:Nat) (more:List UInt8) (h:m<2 ^ 32):Kv 32 (Xt m++more) 0 0=(m,(Xt m).length,0):=by
 have h1:=adR 32 more m 0 0 (by decide) (by simpa using h)
 rw [h1];simp
end XV
namespace YZ
open Go Go.RowKit
def Still (w w':World):Prop:=∃d,w'={ w with drawn:=d }
theorem Still.refl (w:World):Still w w:=⟨w.drawn,rfl⟩
theorem Still.trans {a b c:World} (h:Still a b) (k:Still b c):Still a c:=by
 obtain ⟨d,rfl⟩:=h;obtain ⟨e,rfl⟩:=k;exact ⟨e,rfl⟩
theorem Still.drew (w:World):Still w w.drew:=⟨w.drawn+1,rfl⟩
theorem Still.heap {w w':World} (h:Still w w'):w'.heap=w.heap:=by obtain ⟨d,rfl⟩:=h;rfl
theorem Still.below {w w':World} (h:Still w w') (B:Nat):Below B w w':=by obtain ⟨d,rfl⟩:=h;exact ⟨rfl,rfl,rfl,lra _,fun _ _=>rfl⟩
inductive Oi (P:Program) (S:World→Prop) (m:Sem Value) (K:Value→Prop):Prop
 | mk (v:Value) (h:∀w,S w→m.run P w=.ok v w) (k:K v)
theorem Oi.of {P:Program} {S:World→Prop} {m:Sem Value} {K:Value→Prop} (v:Value) (h:∀w,S w→Zi P m w (fun u w'=>v=u∧w=w')) (k:K v):Oi P S m K :=
 ⟨v,fun w hS=>(by obtain ⟨u,w',hm,rfl,rfl⟩:=h w hS;exact hm),k⟩
theorem tk {P:Program} {S:World→Prop} {m:Sem Value} {K:Value→Prop} {v:Value} (h:∀w,S w→Zi P m w (fun u w'=>v=u∧w=w')) (k:K v):Oi P S m K:=Oi.of v h k
def F7 (P:Program) (S:World→Prop) (op:BinOp) (t:TypeId) (x y:Operand) (a b:Value) (K:Value→Prop):Prop :=
 match a with
 | .int k a=>match b with
  | .int k' b=>match op with
   | .shl=>YN b (W6 (Ws k a b) fun n=>K (.int k n))
   | .shr=>YN b (W6 (Xe k a b) fun n=>K (.int k n))
   | op=>match Dm k k' with
    | true=>SY op k a b K
    | false=>False
  | b=>Oi P S (do eqGuard op t x y (.int k a) b;binOp op t (.int k a) b) K
 | a=>Oi P S (do eqGuard op t x y a b;binOp op t a b) K
def unT (P:Program) (S:World→Prop) (op:UnOp) (a:Value) (K:Value→Prop):Prop :=
 match op with
 | .not=>match a with
  | .bool b=>K (.bool (!b))
  | _=>False
 | .neg=>match a with
  | .int k n=>W6 (ZO k (0-n)) fun m=>K (.int k m)
  | _=>False
 | op=>Oi P S (Op.unary op a) K
def ajE (v:Value) (K:Value→Prop):Prop :=
 match v with
 | .pointer p=>match p with
  | some a=>K (.pointer (some a))
  | none=>False
 | .func fn a b=>match fn with
  | .func f=>K (.func (.func f) a b)
  | _=>False
 | .iface t x=>K (.iface t x)
 | _=>False
def ajF (v:Value) (i:Nat) (K:Value→Prop):Prop :=
 match v with
 | .tuple vs=>K8 vs.toList i K
 | _=>False
def I2 (P:Program) (S:World→Prop) (o:Oper) (ρ:List Value) (K:Value→Prop):Prop :=
 match o.op with
 | .move x=>VW ρ x K
 | .assign x=>VW ρ x K
 | .pick c a b=>VW ρ c fun c=>match c with
  | .bool c=>Ow c fun c=>match c with
   | true=>VW ρ a K
   | false=>VW ρ b K
  | _=>False
 | .build t parts=>PK ρ parts.toList fun vs=>Oi P S (Instr.build t vs.toArray) K
 | .load t x=>VW ρ x fun a=>Oi P S (Instr.loadAt t a) K
 | .nilCheck x=>VW ρ x fun v=>ajE v K
 | .binOp op t x y _=>VW ρ x fun a=>VW ρ y fun b=>F7 P S op t x y a b K
 | .unOp op _ x=>VW ρ x fun a=>unT P S op a K
 | .convert s d x=>VW ρ x fun a=>Oi P S (convert s d a) K
 | .makeInterface t x=>VW ρ x fun a=>Oi P S (Instr.makeInterface t a) K
 | .makeFunc fn first captured=>TZ ρ first.toList fun fs=>TZ ρ captured.toList fun cs=>K (.func fn fs.toArray cs.toArray)
 | .slice t x lo hi mx=>VW ρ x fun a=>Ms ρ lo fun lo=>Ms ρ hi fun hi=>Ms ρ mx fun mx=>Oi P S (Instr.sliceAt t a lo hi mx) K
 | .fieldAddr t x f=>VW ρ x fun a=>Oi P S (Instr.fieldAt t a f) K
 | .field t x f=>VW ρ x fun a=>Oi P S (Instr.field t a f) K
 | .indexAddr t x i=>VW ρ x fun a=>VW ρ i fun i=>Oi P S (Instr.indexAt t a i) K
 | .index t x i=>VW ρ x fun a=>VW ρ i fun i=>Oi P S (Instr.index t a i) K
 | .extract x i=>VW ρ x fun v=>ajF v i K
 | .typeAssert x t u ok=>VW ρ x fun a=>Oi P S (Instr.typeAssert a t u ok) K
 | .call c=>match c.callee with
  | .builtin .len=>TZ ρ c.args.toList fun vs=>Oi P S (Builtin.len_ c.argTypes o.type vs.toArray) K
  | .builtin .max=>TZ ρ c.args.toList fun vs=>Oi P S (Builtin.max_ c.argTypes o.type vs.toArray) K
  | .builtin .min=>TZ ρ c.args.toList fun vs=>Oi P S (Builtin.min_ c.argTypes o.type vs.toArray) K
  | _=>False
 | .lookup t x i ok=>VW ρ x fun a=>VW ρ i fun i=>Oi P S (Instr.lookup t a i ok) K
 | _=>False
section
variable {P:Program} {S:World→Prop}
theorem WR {o:Oper} {ρ:List Value} {m:Sem Value} {K:Value→Prop} (he:execOp (ev ρ) o=(do pure (.value (←m)))) (h:Oi P S m K) :
  ∃v,(∀w,S w→(execOp (ev ρ) o).run P w=.ok (.value v) w)∧K v:=by
 obtain ⟨v,hm,k⟩:=h
 exact ⟨v,fun w hS=>by simp only [he,Sem.run_bind,hm w hS,Result.andThen_ok,Sem.run_pure],k⟩
theorem afN {op:BinOp} {k:IntKind} {t:TypeId} {x y:Operand} {a b:Int} {K:Value→Prop} (alO:op≠.shl) (alP:op≠.shr) (h:SY op k a b K) :
  ∃v,(∀w,(do eqGuard op t x y (.int k a) (.int k b);binOp op t (.int k a) (.int k b):Sem Value).run P w=.ok v w)∧K v:=by
 have hg:∀w,(eqGuard op t x y (.int k a) (.int k b)).run P w=.ok () w:=fun w=>by
  unfold eqGuard;split <;> rfl
 cases op <;> simp only [SY] at h <;> first
  | (obtain ⟨hb,_,rfl,h⟩:=h;refine ⟨_,fun w=>?_,h⟩;simp only [Sem.run_bind,hg,Result.andThen_ok];simp [binOp,Op.intDiv,hb,TG,S9];done)
  | (obtain ⟨_,rfl,h⟩:=h;refine ⟨_,fun w=>?_,h⟩;simp only [Sem.run_bind,hg,Result.andThen_ok];simp [binOp,Op.intArith,Op.intBits,Op.intCmp,ZO,TY,So,Q3,RP,S6,S5,S8,S7];done)
  | (refine ⟨_,fun w=>?_,h⟩;simp only [Sem.run_bind,hg,Result.andThen_ok];simp [binOp,Op.intArith,Op.intBits,Op.intCmp,ZO,TY,So,Q3,RP,S6,S5,S8,S7];done)
  | contradiction
  | exact h.elim
theorem ab2 {op:BinOp} {t:TypeId} {x y:Operand} {a b:Value} {K:Value→Prop} (h:F7 P S op t x y a b K):Oi P S (do eqGuard op t x y a b;binOp op t a b) K:=by
 unfold F7 at h
 split at h
 ·split at h
  ·split at h
   ·obtain ⟨hb,_,rfl,h⟩:=h
    refine ⟨_,fun w _=>?_,h⟩
    simp only [eqGuard,Sem.run_bind];simp [binOp,Op.shift,Ws,Int.not_lt.2 hb]
   ·obtain ⟨hb,_,rfl,h⟩:=h
    refine ⟨_,fun w _=>?_,h⟩
    simp only [eqGuard,Sem.run_bind];simp [binOp,Op.shift,Xe,Int.not_lt.2 hb]
   ·rename_i Rf hk2
    split at h
    ·rename_i hk
     obtain rfl:=adB hk
     obtain ⟨v,h1,h2⟩:=afN (P:=P) (t:=t) (x:=x) (y:=y) (fun e=>Rf e) (fun e=>hk2 e) h
     exact ⟨v,fun w _=>h1 w,h2⟩
    ·exact k_Q
  ·exact h
 ·exact h
theorem Tk {o:Oper} {ρ:List Value} {K:Value→Prop} (h:I2 P S o ρ K):∃v,(∀w,S w→(execOp (ev ρ) o).run P w=.ok (.value v) w)∧K v:=by
 unfold I2 at h
 simp only [Ta,Mu,PJ,Mr,To] at h
 split at h
 case h_1 x ho=>exact ⟨_,fun w _=>by unfold execOp;rw [ho];rfl,h⟩
 case h_2 x ho=>exact ⟨_,fun w _=>by unfold execOp;rw [ho];rfl,h⟩
 case h_3 c a b ho =>
  split at h
  ·rename_i cb hc
   split at h
   ·exact ⟨_,fun w _=>by unfold execOp;rw [ho];simp [hc,asBool],h⟩
   ·exact ⟨_,fun w _=>by unfold execOp;rw [ho];simp [hc,asBool],h⟩
  ·exact k_Q
 case h_4 t ps ho =>
  exact WR (m:=Instr.build t ((ps.toList.map fun (i,x)=>(i,ev ρ x)).toArray)) (by unfold execOp;rw [ho];simp [←Array.toList_map]) h
 case h_5 t x ho=>exact WR k_L h
 case h_6 x ho =>
  unfold ajE at h
  split at h
  ·rename_i p hp
   split at h
   ·exact ⟨_,fun w _=>by unfold execOp;rw [ho];simp only [hp];rfl,h⟩
   ·exact k_Q
  ·rename_i fn a b hp
   split at h
   ·exact ⟨_,fun w _=>by unfold execOp;rw [ho];simp only [hp];rfl,h⟩
   ·exact k_Q
  ·rename_i t v hp
   exact ⟨_,fun w _=>by unfold execOp;rw [ho];simp only [hp];rfl,h⟩
  ·exact k_Q
 case h_7 op t x y yt ho=>exact WR k_L (ab2 h)
 case h_8 op t x ho =>
  unfold unT at h
  split at h
  ·split at h
   ·rename_i b hb
    exact ⟨_,fun w _=>by unfold execOp;rw [ho];simp [hb,Op.unary],h⟩
   ·exact k_Q
  ·split at h
   ·rename_i k n hb
    obtain ⟨_,rfl,h⟩:=h
    exact ⟨_,fun w _=>by unfold execOp;rw [ho];simp [hb,Op.unary,Op.intArith,ZO],h⟩
   ·exact k_Q
  ·exact WR k_L h
 case h_9 s d x ho=>exact WR k_L h
 case h_10 t x ho=>exact WR k_L h
 case h_11 fn fs cs ho =>
  exact ⟨_,fun w _=>by unfold execOp;rw [ho];simp [Instr.makeFunc,←Array.toList_map],h⟩
 case h_12 t x lo hi mx ho=>exact WR k_L h
 case h_13 t x f ho=>exact WR k_L h
 case h_14 t x f ho=>exact WR k_L h
 case h_15 t x i ho=>exact WR k_L h
 case h_16 t x i ho=>exact WR k_L h
 case h_17 x i ho =>
  unfold ajF at h
  split at h
  ·rename_i vs hv
   obtain ⟨u,hu,h⟩:=OQ h
   refine ⟨u,fun w _=>?_,h⟩
   unfold execOp;rw [ho]
   simp only [Array.getElem?_toList] at hu
   simp [hv,Instr.extract,hu]
  ·exact k_Q
 case h_18 x t u ok ho=>exact WR k_L h
 case h_19 c ho =>
  have hargs:∀(xs:Array Operand),(xs.toList.map (ev ρ)).toArray=xs.map (ev ρ):=fun xs=>by simp [←Array.toList_map]
  split at h
  ·rename_i hc
   exact WR (m:=Builtin.len_ c.argTypes o.type (c.args.map (ev ρ))) k_R k_M
  ·rename_i hc
   exact WR (m:=Builtin.max_ c.argTypes o.type (c.args.map (ev ρ))) k_R k_M
  ·rename_i hc
   exact WR (m:=Builtin.min_ c.argTypes o.type (c.args.map (ev ρ))) k_R k_M
  ·exact k_Q
 case h_20 t x i ok ho=>exact WR k_L h
 case h_21=>exact h.elim
end
inductive Yt (S:Prop) (K:Prop):Prop
 | mk (h:S) (k:K)
def Qu (P:Program) (ops:List Oper) (S:World→Prop) (K:List Value→World→Prop) (plan:List (Nat × Bool)):List Value→World→Prop :=
 List.rec (motive:=fun _=>List Value→World→Prop) K (fun i _ ih ρ w=>match ops[i.1]? with
  | none=>False
  | some o=>match i.2 with
   | true=>X8 ops o.guard ρ fun b ρ=>match b with
    | true=>I2 P S o ρ fun v=>W8 ρ o.dst v fun ρ=>ih ρ w
    | false=>W8 ρ o.dst undef fun ρ=>ih ρ w
   | false=>X8 ops o.guard ρ fun b ρ=>match b with
    | true=>K7 P o ρ w fun v w'=>Yt (S w') (W8 ρ o.dst v fun ρ=>ih ρ w')
    | false=>W8 ρ o.dst undef fun ρ=>ih ρ w) plan
theorem ab3 (P:Program) (ops:List Oper) (S:World→Prop) (K:List Value→World→Prop) (i:Nat × Bool) (r:List (Nat × Bool)) (ρ:List Value) (w:World) :
  Qu P ops S K (i::r) ρ w=match ops[i.1]? with
  | none=>False
  | some o=>match i.2 with
   | true=>X8 ops o.guard ρ fun b ρ=>match b with
    | true=>I2 P S o ρ fun v=>W8 ρ o.dst v fun ρ=>Qu P ops S K r ρ w
    | false=>W8 ρ o.dst undef fun ρ=>Qu P ops S K r ρ w
   | false=>X8 ops o.guard ρ fun b ρ=>match b with
    | true=>K7 P o ρ w fun v w'=>Yt (S w') (W8 ρ o.dst v fun ρ=>Qu P ops S K r ρ w')
    | false=>W8 ρ o.dst undef fun ρ=>Qu P ops S K r ρ w:=rfl
noncomputable def PB (ops:Array Oper) (plan:List (Nat × Bool)):Array Bool→Bool :=
 List.rec (motive:=fun _=>Array Bool→Bool) (fun listed=>(Region.ready .any ops listed).isEmpty) (fun i _ ih listed=>match ops[i.1]? with
  | none=>false
  | some o=>(match i.2 with
   | true=>Region.free .any ops listed i.1 && (Region.ready .any ops listed).contains i.1
   | false=>Region.ready .any ops listed == [i.1]) && ih (listed.setIfInBounds i.1 true)) plan
theorem Sk (ops:Array Oper) (i:Nat × Bool) (r:List (Nat × Bool)) (listed:Array Bool):PB ops (i::r) listed=match ops[i.1]? with
  | none=>false
  | some o=>(match i.2 with
   | true=>Region.free .any ops listed i.1 && (Region.ready .any ops listed).contains i.1
   | false=>Region.ready .any ops listed == [i.1]) && PB ops r (listed.setIfInBounds i.1 true):=rfl
noncomputable def Sj (ops:Array Oper) (plan:List (Nat × Bool)):Bool:=Region.noSelect ops && plan.length == ops.size && PB ops plan (Array.replicate ops.size false)
theorem QX (ds:List Nat) (ρ:List Value):agree ds ρ ρ:=⟨rfl,fun _ _=>rfl⟩
theorem XO {ds:List Nat} {ρ0 ρ:List Value} (h:agree ds ρ0 ρ) {d:Option Nat} (hd:∀n,d=some n→n∈ds) (v:Value):agree ds ρ0 (put ρ d v):=by
 obtain ⟨h1,h2⟩:=h
 cases d with
 | none=>exact ⟨h1,h2⟩
 | some n =>
  refine ⟨by simp [put,h1],fun i hi=>?_⟩
  have:n≠i:=fun e=>hi (e ▸ hd n rfl)
  simp only [put]
  rw [lvb this]
  exact h2 i hi
section
variable {P:Program} {ops:Array Oper} {S:World→Prop} {K:List Value→World→Prop} {ρ0:List Value}
theorem aa8 (hs:Region.noSelect ops=true) (plan:List (Nat × Bool)):∀(fuel:Nat) (listed:Array Bool) (ρ:List Value) (w:World),plan.length≤fuel→PB ops plan listed=true→S w→agree (YC ops.toList) ρ0 ρ →
  Qu P ops.toList S K plan ρ w→wpAnyH P .any ops (fun e a w'=>e=.normal∧a.defers=[]∧agree (YC ops.toList) ρ0 a.tmps.toList∧K a.tmps.toList w') S fuel listed ⟨ρ.toArray,[]⟩ w:=by
 induction plan with
 | nil =>
  intro fuel listed ρ w _ hok hS hag h
  exact wpAnyH_done (List.isEmpty_iff.1 hok) ⟨rfl,rfl,hag,h⟩ fuel
 | cons ib r ih =>
  obtain ⟨i,ahV⟩:=ib
  intro fuel listed ρ w hfl hok hS hag h
  obtain ⟨f,rfl⟩:∃f,fuel=f+1:=⟨fuel-1,by simp at hfl;omega⟩
  have IL:r.length≤f:=by simpa using hfl
  rw [Sk] at hok
  rw [ab3] at h
  simp only [Array.getElem?_toList] at h
  cases ho:ops[i]? with
  | none=>rw [ho] at hok;cases hok
  | some o =>
   rw [ho] at hok h
   simp only [Bool.and_eq_true] at hok h
   have hmem:∀n,o.dst=some n→n∈YC ops.toList:=fun n hn=>by
    unfold YC
    rw [lDb]
    exact ⟨o,by simpa using Array.mem_of_getElem? ho,hn⟩
   cases hT:ahV with
   | true =>
    rw [hT] at hok h
    simp only [Bool.and_eq_true] at hok
    obtain ⟨⟨hfree,Xq⟩,VR⟩:=hok
    obtain ⟨b,hb,h⟩:=X0 h
    have key:∀v,YieldsIf P ops S o v ⟨ρ.toArray,[]⟩→Qu P ops.toList S K r (put ρ o.dst v) w→wpAnyH P .any ops (fun e a w'=>e=.normal∧a.defers=[]∧agree (YC ops.toList) ρ0 a.tmps.toList∧K a.tmps.toList w') S (f+1) listed ⟨ρ.toArray,[]⟩ w:=fun v hy hk =>
     wpAnyH_take ho hs hfree Xq (fun c a w hq=>by cases hq.1) hy hS (by
      rw [put_eq]
      exact ih f _ _ w IL VR hS (XO hag hmem v) hk)
    cases b
    ·simp only [Yh] at h
     exact key undef (.inr ⟨hb,rfl⟩) h
    ·obtain ⟨v,hv,hk⟩:=Tk h
     rw [Yh] at hk
     exact key v (.inl ⟨hb,fun w hS=>by rw [Yy];exact hv w hS⟩) hk
   | false =>
    rw [hT] at hok h
    simp only [beq_iff_eq] at hok
    obtain ⟨Xq,VR⟩:=hok
    obtain ⟨b,hb,h⟩:=X0 h
    refine wpAnyH_all Xq qs fun j hj=>?_
    obtain rfl:j=i:=by simpa using hj
    unfold wpOp
    rw [ho]
    simp only [hb]
    cases b
    ·simp only [Bool.false_eq_true,if_false,Yh] at h ⊢
     rw [put_eq]
     exact ⟨hS,ih f _ _ w IL VR hS (XO hag hmem _) h⟩
    ·simp only [if_true] at h ⊢
     refine .inl (Uv h fun v w' ⟨GA,hk⟩=>?_)
     rw [Yh] at hk
     rw [put_eq]
     exact ⟨GA,ih f _ _ w' IL VR GA (XO hag hmem v) hk⟩
theorem draw {id:Nat} {w:World} (S:World→Prop) (plan:List (Nat × Bool)) (hm:P.follows .mixedOrders=true) (hc:Sj ops plan=true)
  (h:∀w1,w1=w.drew→S w1∧Qu P ops.toList S K plan ρ0 w1):Ou P id ops K ρ0 w:=by
 simp only [Sj,Bool.and_eq_true,beq_iff_eq] at hc
 obtain ⟨⟨h1,h2⟩,h3⟩:=hc
 obtain ⟨hS,hk⟩:=h _ rfl
 exact ⟨wp_region_held hm (aa8 h1 plan _ _ _ _ (Nat.le_of_eq h2) h3 hS (QX _ _) hk)⟩
end
end YZ
namespace YZ
open Go Go.RowKit
variable {P:Program} {w:World}
theorem PA (vs:List Value):∀(cs:List Value) (o i:Nat),o+vs.length≤cs.length→(Wi cs o vs)[i]?=if o≤i∧i<o+vs.length then vs[i-o]? else cs[i]?:=by
 induction vs with
 | nil=>intro cs o i h;rw [if_neg (by simp only [List.length_nil];omega)];rfl
 | cons v vs ih =>
  intro cs o i h
  simp only [List.length_cons] at h ⊢
  rw [Wi,ih _ _ _ (by rw [lfa];omega)]
  by_cases h2:o=i
  ·subst h2;rw [if_neg qo,if_pos qo,lqb,lyb qo];rfl
  ·rw [lvb h2]
   by_cases h3:o≤i∧i<o+(vs.length+1)
   ·rw [if_pos qo,if_pos h3,show i-o=(i-(o+1))+1 by omega];rfl
   ·rw [if_neg qo,if_neg h3]
theorem UY (vs cs:List Value) (o:Nat) (h:o+vs.length≤cs.length):Wi cs o vs=cs.take o++vs++cs.drop (o+vs.length):=by
 apply lJa
 intro i
 rw [PA vs cs o i h,lma]
 have hl:(cs.take o).length=o:=by rw [lla];omega
 by_cases h1:i<o
 ·rw [if_neg qo,loa qo,lAa,if_pos h1]
 ·rw [lsa qo,hl]
  by_cases h2:i<o+vs.length
  ·rw [if_pos qo,loa qo]
  ·rw [if_neg qo,lsa qo,lNa];congr 1;omega
theorem afO {t:TypeId} {e:TypeId} {b o:Nat} {cs vs:List Value} {K:World→Prop} (hb:Su w b cs e) (hs:(P.info? t).map (·.size)=some vs.length) (ho':Nat.ble (o+vs.length) cs.length=true) (hv:vs.all (·.oneCell')=true)
  (k:Oq cs o vs fun cs'=>∀w',Lg w w' b→Su w' b cs' e→K w'):JE P (Instr.storeAt t (.pointer (some ⟨b,o,none⟩)) (.agg vs.toArray)) w K:=by
 have ho:o+vs.length≤cs.length:=llb ho'
 rw [Tm,UY _ _ _ ho] at k
 cases hi:P.info? t with
 | none=>simp [hi] at hs
 | some i =>
  have hl:i.size=vs.length:=by simpa [hi] using hs
  have hst:=run_storeCells_at (P:=P) b o e vs 0 cs.toArray w hb (by simpa using ho) (fun v hm=>lkb.1 hv v hm)
  simp only [Nat.add_zero] at hst
  have Hf:Su (w.setRow b (cs.take o++vs++cs.drop (o+vs.length)).toArray) b (cs.take o++vs++cs.drop (o+vs.length)) e:=setRow_heap w b _ _ e (0,0) hb
  have hw:Lg w (w.setRow b (cs.take o++vs++cs.drop (o+vs.length)).toArray) b:=by
   refine ⟨rfl,rfl,rfl,by simp [World.setRow],fun j hj=>?_⟩
   unfold World.setRow
   simp only [Array.getElem?_modify]
   rw [if_neg (fun h=>hj h.symm)]
  refine ⟨_,?_,k _ hw Hf⟩
  simp [Instr.storeAt,Instr.sureAddr,storeVar,sizeOf,typeInfo,hi,hl,Value.cells,hst]
theorem bl {a b:Nat} (h:Nat.ble (a+1) b=true):a<b:=llb h
section
variable {w0 w':World} {b b' o:Nat} {cs vs cs':List Value} {e e':TypeId}
end
theorem rdA {t:TypeId} {d:TypeDesc} {b o:Nat} {vs:List Value} {K:Value→Prop} (h:At w b o vs) (hu:P.underlying t=some d) (hd:On d=true) (hs:(P.info? t).map (·.size)=some vs.length) (k:K (.agg vs.toArray)) :
  JD P (loadVar t ⟨b,o,none⟩) w K:=by
 refine ⟨_,?_,k⟩
 cases hi:P.info? t with
 | none=>simp [hi] at hs
 | some i =>
  have hl:i.size=vs.length:=by simpa [hi] using hs
  have:=run_loadCells_list (P:=P) w ⟨b,o,none⟩ vs (fun j v hv=>by rw [Addr.add_lit];exact h.cell hv)
  simp [loadVar,Tl hu,hd,sizeOf,typeInfo,hi,hl,this]
def RE {α:Type} (en:α→List Value) (ok:α→Prop):Hv→List Value→α→Prop:=fun _ cs x=>cs=en x∧ok x
theorem RE.mono' {α:Type} (en:α→List Value) (ok:α→Prop):F8 (RE en ok):=fun _ _ _ _ _ h=>h
end YZ
namespace YZ
open Go Go.RowKit
variable {P:Program} {α:Type}
def Pz (lo:Nat) (w:World) (e:TypeId) (s:Nat) (en:α→List Value) (v:Value) (xs:List α):Prop:=w.ownsRow lo e s v xs.length (xs.flatMap en)∧∀x,(en x).length=s
theorem YI {en:α→List Value} {s:Nat} (h:∀x,(en x).length=s) (xs:List α):(xs.flatMap en).length=xs.length * s:=by
 induction xs with
 | nil=>simp
 | cons x xs ih=>rw [lQa,lba,h,ih,lda,lpb];omega
theorem Tj {en:α→List Value} {s:Nat} (h:∀x,(en x).length=s):∀(xs:List α) (i:Nat) (x:α),xs[i]?=some x→((xs.flatMap en).drop (i * s)).take s=en x:=by
 intro xs
 induction xs with
 | nil=>intro i x hx;simp at hx
 | cons y ys ih =>
  intro i x hx
  cases i with
  | zero =>
   obtain rfl:=Option.some.inj hx
   rw [lQa,lTb,lhb,lya (by rw [h];exact lra _),lxa (by rw [h];exact lra _)]
  | succ i =>
   rw [lQa,lpb,Nat.add_comm,←lub0,lzb (by rw [h];exact lra _),lDa (l:=en y) (by rw [h];exact lra _),lTa]
   exact ih i x (by simpa using hx)
theorem Pz.nil (lo:Nat) (w:World) (e:TypeId) {s:Nat} {en:α→List Value} (h:∀x,(en x).length=s):Pz lo w e s en (.slice none 0 0) []:=⟨World.ownsRow_nil w lo e s,h⟩
structure Gr (w w':World) (v v':Value):Prop where
 g:w.grownBy w' v.ownBlock
 at_:v'.ownBlock=v.ownBlock∨v'.ownBlock=none∨∃k,v'.ownBlock=some k∧w.heap.size≤k
theorem aaV {w:World} {lo:Nat} {t ty e:TypeId} {i:TypeInfo} {z:Value} {s:Nat} (ht:P.underlying t=some (.slice e)) (hi:P.info? e=some i) (hz:i.zero=some z) (hs:i.size=s) (hzs:z.cells.size=s)
  {v:Value} {n:Nat} {xs:List Value} (hown:w.ownsRow lo e s v n xs) {a:Addr} {m c:Nat} {news:List Value} (hl:news.length=m * s) (hnews:∀j u,news[j]?=some u→w.cell? (a.add j)=some u) (h1:∀u∈news,u.oneCell'=true)
  (h63:n+m≤maxLen) (hbytes:(n+m) * i.bytes≤140737488355328) {v':Value} {w':World} (hr:(Builtin.append_ #[t,t] ty #[v,.slice (some a) m c]).run P w=.ok v' w') :
  v'.ownBlock=v.ownBlock∨v'.ownBlock=none∨v'.ownBlock=some w.heap.size:=by
 subst hs
 have hsmall:n+m≤9223372036854775807:=by simp only [maxLen] at h63;omega
 have done:∀{u:Value} {w2:World},(Builtin.append_ #[t,t] ty #[v,.slice (some a) m c]).run P w=.ok u w2→v'=u:=fun h=>by
  rw [hr] at h;injection h
 rcases hown.2 with ⟨rfl,rfl⟩|⟨g,cap,cur,rfl,DR,hg,hnc,SB,hcs,anE⟩
 ·by_cases hm:m=0
  ·subst hm
   have hn:news=[]:=lqa (by simpa using hl)
   subst hn
   have:(Builtin.append_ #[t,t] ty #[.slice none 0 0,.slice (some a) 0 c]).run P w=.ok (.slice none 0 0) w:=by
    simp [Builtin.append_,run_underlying ht,sizeOf,typeInfo,hi,Builtin.lenOf,Builtin.firstCells,loadCells,loadCellsFrom]
   rw [done this];exact .inl rfl
  ·have Gz:=run_append_nil (P:=P) w t ty e i z ht hi hz a m c news hl hnews qo qo (by have hb:=hbytes;simp only [Nat.zero_add] at hb;omega)
   rw [done Gz];exact .inr (.inr rfl)
 ·by_cases hroom:n+m≤cap
  ·have hfit:n * i.size+news.length≤cur.size:=by rw [hl,hcs,←lMb];exact lLa _ hroom
   have Gz:=run_append_room (P:=P) w t ty e i ht hi g n cap cur hg a m c news hl hnews h1 hroom hfit
   rw [done Gz];exact .inl rfl
  ·have holds:∀j u,xs[j]?=some u→w.cell? ((⟨g,0,none⟩:Addr).add j)=some u:=hown.cells (g:=g) rfl
   have Gz:=run_append_grow (P:=P) w t ty e i z ht hi hz ⟨g,0,none⟩ n cap xs hown.1 holds a m c news hl hnews qo qo (growslice_fits qo hbytes)
   rw [done Gz];exact .inr (.inr rfl)
theorem ajG {w:World} {K:Value→World→Prop} {lo:Nat} {t ty e:TypeId} {en:α→List Value} {s:Nat} {v:Value} {xs ys:List α} {m c b o:Nat} (z:Value) (QC:Nat) (hown:Pz lo w e s en v xs) (UA:At w b o (ys.flatMap en)) (hm:ys.length=m)
  (h1:∀y∈ys,((en y).all (·.oneCell'))=true) (hu:P.underlying t=some (.slice e)) (hz:(P.info? e).map (fun i=>(i.zero,i.size,i.bytes))=some (some z,s,QC)) (hzs:z.cells.size=s) (hsz:0<s)
  (hb:(xs.length+m) * QC≤140737488355328) (hml:xs.length+m≤140737488355328) (hlo:lo≤w.heap.size)
  (k:∀v' w',Pz lo w' e s en v' (xs++ys)→Gr w w' v v'→K v' w'):Zi P (Builtin.append_ #[t,t] ty #[v,.slice (some ⟨b,o,none⟩) m c]) w K:=by
 cases hi:P.info? e with
 | none=>simp [hi] at hz
 | some i =>
  simp only [hi,Option.map_some,Option.some.injEq,Prod.mk.injEq] at hz
  obtain ⟨h2,h3,h4⟩:=hz
  subst hm
  have hc:∀j u,(ys.flatMap en)[j]?=some u→w.cell? ((⟨b,o,none⟩:Addr).add j)=some u:=fun j u hj=>by rw [Addr.add_lit];exact UA.cell hj
  have ho:∀u∈ys.flatMap en,u.oneCell'=true:=fun u hu=>by
   obtain ⟨y,hy,hu⟩:=List.mem_flatMap.1 hu
   exact lkb.1 (h1 y hy) u hu
  obtain ⟨v',w',hr,a1,a2,a3⟩:=run_append_own (P:=P) w lo t ty e i z s QC hu hi h2 h3 h4 hzs hsz v xs.length (xs.flatMap en) hown.1 ⟨b,o,none⟩ ys.length c (ys.flatMap en) (YI hown.2 ys) hc ho (by simp [maxLen];omega) hb hlo
  have MU:=aaV hu hi h2 h3 hzs hown.1 (YI hown.2 ys) hc ho (by simp [maxLen];omega) (by rw [h4];exact hb) hr
  refine ⟨v',w',hr,k v' w' ⟨by rw [lba,lMa];exact a1,hown.2⟩ ⟨a2,?_⟩⟩
  rcases MU with h|h|h
  ·exact .inl h
  ·exact .inr (.inl h)
  ·exact .inr (.inr ⟨_,h,lra _⟩)
theorem Pz.keep {lo:Nat} {w w':World} {e:TypeId} {s:Nat} {en:α→List Value} {v:Value} {xs:List α} (h:Pz lo w e s en v xs) (hb:∀k,v.ownBlock=some k→w'.heap[k]?=w.heap[k]?):Pz lo w' e s en v xs:=⟨adN h.1 hb,h.2⟩
theorem Pz.lt {lo:Nat} {w:World} {e:TypeId} {s:Nat} {en:α→List Value} {v:Value} {xs:List α} (h:Pz lo w e s en v xs) {k:Nat} (hk:v.ownBlock=some k):lo≤k∧k<w.heap.size:=h.1.lt k hk
theorem Pz.mono {lo lo':Nat} {w:World} {e:TypeId} {s:Nat} {en:α→List Value} {v:Value} {xs:List α} (h:Pz lo w e s en v xs) (hl:lo'≤lo):Pz lo' w e s en v xs:=⟨adO h.1 hl,h.2⟩
section
variable {lo s:Nat} {w0 w w':World} {e e':TypeId} {en:α→List Value} {v v' u:Value} {xs:List α} {cs:List Value} {b:Nat}
def Dj (u v:Value):Prop:=∀k,u.ownBlock=some k→v.ownBlock≠some k
theorem Dj.symm (h:Dj u v):Dj v u:=fun k hk hu=>h k hu hk
theorem Dj.nil (v:Value):Dj (.slice none 0 0) v:=fun k hk=>by cases hk
theorem Pz.rd {ok:α→Prop} (h:Pz lo w e s en v xs) (hok:∀x∈xs,ok x) (hs0:0<s):VS (RE en ok) s (Rg w lo w.heap.size) v xs:=by
 rcases h.1.2 with ⟨rfl,h0⟩|⟨g,cap,cur,rfl,hlo,hg,hnc,SB,hcs,ht⟩
 ·have:xs=[]:=lqa h0
  subst this;exact VS.nil _ _ _
 ·refine ⟨_,cap,rfl,⟨hnc,by unfold maxLen at SB;omega⟩,nofun,fun _=>⟨g,0,xs.flatMap en,rfl,⟨cur,e,(0,0),⟨hlo,(lza.1 hg).1,hg⟩,fun i x hx=>?_⟩,YI h.2 xs,fun i x hx=>⟨Tj h.2 xs i x hx,hok x (lha hx)⟩⟩⟩
  rw [←ht,lAa] at hx
  split at hx
  ·rw [lwb];simpa using hx
  ·cases hx
theorem Pz.Ur (h:Pz lo w e s en v xs) (hne:xs≠[]):∃g cap cur,v=.slice (some ⟨g,0,none⟩) xs.length cap∧lo≤g∧Su w g cur e∧cur.take (xs.length * s)=xs.flatMap en∧xs.length * s≤cur.length∧xs.length≤cap∧cap≤9223372036854775807∧cur.length=cap * s:=by
 rcases h.1.2 with ⟨rfl,h0⟩|⟨g,cap,cur,rfl,hlo,hg,hnc,SB,hcs,ht⟩
 ·exact absurd (lqa h0) hne
 ·have hle:xs.length * s≤cap * s:=lLa _ hnc
  have Uz:cur.toList.length=cap * s:=by simpa using hcs
  exact ⟨g,cap,cur.toList,rfl,hlo,hg,ht,by rw [Uz];exact hle,hnc,by unfold maxLen at SB;omega,Uz⟩
theorem Pz.ahW {g cap:Nat} {cur:List Value} (hlo:lo≤g) (hb:Su w g cur e) (ht:cur.take (xs.length * s)=xs.flatMap en) (hn:xs.length≤cap) (hc:cap≤9223372036854775807) (hl:cur.length=cap * s) (hs:∀x,(en x).length=s) :
  Pz lo w e s en (.slice (some ⟨g,0,none⟩) xs.length cap) xs :=
 ⟨⟨YI hs xs,.inr ⟨g,cap,cur.toArray,rfl,hlo,hb,hn,by unfold maxLen;omega,by simpa using hl,by simpa using ht⟩⟩,hs⟩
end
section
variable {w:World} {K:Value→World→Prop} {H:Hv} {R:Hv→List Value→α→Prop} {sz:Nat} {t e:TypeId} {v:Value} {xs:List α}
end
abbrev Rd (en:α→List Value) (ok:α→Prop) (s:Nat) (w:World) (v:Value) (xs:List α):Prop:=VS (RE en ok) s (Rg w 0 w.heap.size) v xs
theorem Rd.next {en:α→List Value} {ok:α→Prop} {s:Nat} {w w':World} {v:Value} {xs:List α} (h:Rd en ok s w v xs) (b:Below w.heap.size w w'):Rd en ok s w' v xs :=
 h.mono (RE.mono' en ok) (Rg.mono (lra _) b.size fun k _ hk=>b.block k hk)
theorem VS.wide {en:α→List Value} {ok:α→Prop} {s lo hi:Nat} {w:World} {v:Value} {xs:List α} (h:VS (RE en ok) s (Rg w lo hi) v xs) (hh:hi≤w.heap.size):Rd en ok s w v xs :=
 h.mono (RE.mono' en ok) (Rg.mono (lRa _) hh fun _ _ _=>rfl)
theorem VS.place {en:α→List Value} {ok:α→Prop} {w:World} (s:Nat) {lo hi:Nat} {t e:TypeId} {v:Value} {xs:List α} (h:VS (RE en ok) s (Rg w lo hi) v xs) (j:Nat) (x:α) (hx:xs[j]?=some x)
  (ht:P.underlying t=some (.slice e)) (hs:(P.info? e).map (fun i=>i.size)=some s) :
  ∃b o,At w b o (en x)∧ok x∧lo≤b∧b<hi∧∀{K:Value→World→Prop} {w':World} {i:Int} {ki:IntKind},i=j→K (.pointer (some ⟨b,o,none⟩)) w'→Zi P (Instr.indexAt t v (.int ki i)) w' K:=by
 have hl:=(lca.1 hx).1
 obtain ⟨a,cap,rfl,h2,h3,h4⟩:=h
 obtain ⟨b,o,news,rfl,k1,k2⟩:=h4 (by intro e;subst e;simp at hl)
 obtain ⟨hR,hok⟩:=k2.2 j x hx
 have UA:=(k1.at.sub (j * s) s)
 rw [hR] at UA
 obtain ⟨_,_,_,⟨JB,Mk,_⟩,_⟩:=k1
 refine ⟨b,o+j * s,UA,hok,JB,Mk,fun {K w' i ki} hi k=>?_⟩
 subst hi
 refine ⟨_,w',?_,k⟩
 cases hi':P.info? e with
 | none=>simp [hi'] at hs
 | some i' =>
  simp only [hi',Option.map_some,Option.some.injEq] at hs
  simp [Instr.indexAt,asIntOf,run_underlying ht,sizeOf,typeInfo,hi',hs,Addr.add_lit,hl]
theorem Ut {en:α→List Value} {s:Nat} (h:∀x,(en x).length=s) (xs:List α) (j:Nat) (hj:j≤xs.length):(xs.flatMap en).take (j * s)=(xs.take j).flatMap en:=by
 have e:xs.flatMap en=(xs.take j).flatMap en++(xs.drop j).flatMap en:=by rw [←lMa,lZa]
 have hl:((xs.take j).flatMap en).length=j * s:=by rw [YI h,lla,lob hj]
 rw [e,lya qo,lxa qo]
theorem Ti {en:α→List Value} {s:Nat} (h:∀x,(en x).length=s) (xs:List α) (j:Nat) (hj:j≤xs.length):(xs.flatMap en).drop (j * s)=(xs.drop j).flatMap en:=by
 have e:xs.flatMap en=(xs.take j).flatMap en++(xs.drop j).flatMap en:=by rw [←lMa,lZa]
 have hl:((xs.take j).flatMap en).length=j * s:=by rw [YI h,lla,lob hj]
 rw [e,lzb qo,lDa qo,lTa]
theorem Pz.store {lo s:Nat} {w:World} {e:TypeId} {en:α→List Value} {v:Value} {xs:List α} (h:Pz lo w e s en v xs) (j:Nat) (hj:j<xs.length) :
  ∃g cap cur,v=.slice (some ⟨g,0,none⟩) xs.length cap∧lo≤g∧Su w g cur e∧j * s+s≤cur.length∧∀(w':World) (x:α),Su w' g (Wi cur (j * s) (en x)) e→Pz lo w' e s en v (xs.set j x):=by
 obtain ⟨g,cap,cur,rfl,hlo,hb,ht,hlen,hcap,SB,Uz⟩:=h.Ur (by intro e;subst e;simp at hj)
 have hle:j * s+s≤xs.length * s:=by rw [←lpb];exact lLa _ hj
 refine ⟨g,cap,cur,rfl,hlo,hb,by omega,fun w' x hb'=>?_⟩
 have hxl:(en x).length=s:=h.2 x
 have WY:xs.set j x=xs.take j++x::xs.drop (j+1):=by
  rw [List.set_eq_take_append_cons_drop,if_pos hj]
 have key:(Wi cur (j * s) (en x)).take (xs.length * s)=(xs.set j x).flatMap en:=by
  rw [UY _ _ _ qo,WY,lMa,lQa,←Ut h.2 xs j (ldb hj),←Ti h.2 xs (j+1) hj,←ht,hxl]
  apply lJa
  intro i
  simp only [List.getElem?_take,List.getElem?_append,List.length_append,List.length_take,List.getElem?_drop,List.append_assoc,hxl,Nat.succ_mul]
  rw [show min (j * s) cur.length=j * s by omega,show min (j * s) (min (xs.length * s) cur.length)=j * s by omega]
  by_cases h1:i<xs.length * s
  ·rw [if_pos h1]
   by_cases h2:i<j * s
   ·rw [if_pos h2,if_pos h2,if_pos h2,if_pos h2,if_pos h1]
   ·rw [if_neg h2,if_neg h2]
    by_cases h3:i-j * s<s
    ·rw [if_pos h3,if_pos h3]
    ·rw [if_neg h3,if_neg h3,if_pos qo]
  ·rw [if_neg h1,if_neg qo,if_neg qo,if_neg qo]
 have:=Pz.ahW (lo:=lo) (xs:=xs.set j x) (s:=s) (en:=en) (cap:=cap) hlo hb' (by rw [lfa];exact key) (by rw [lfa];exact hcap) SB (by rw [V8];exact Uz) h.2
 rw [lfa] at this
 exact this
theorem aa9 {P:Program} {w:World} {t:TypeId} {e:TypeId} {b o:Nat} {cs vs:List Value} {K:World→Prop} (hb:Su w b cs e) (hs:(P.info? t).map (·.size)=some vs.length) (ho:o+vs.length≤cs.length) (hv:vs.all (·.oneCell')=true)
  (k:∀w',Lg w w' b→Su w' b (Wi cs o vs) e→K w'):JE P (Instr.storeAt t (.pointer (some ⟨b,o,none⟩)) (.agg vs.toArray)) w K :=
 afO hb hs (Nat.ble_eq_true_of_le ho) hv (by rw [Tm];exact k)
end YZ
namespace YZ
open Go Go.RowKit
structure Ev (w w':World) (fp:Nat→Prop):Prop where
 os:w'.os=w.os
 tape:w'.tape=w.tape
 output:w'.output=w.output
 size:w.heap.size≤w'.heap.size
 block:∀k,k<w.heap.size→¬fp k→w'.heap[k]?=w.heap[k]?
def Fr (w:World) (fp fp':Nat→Prop):Prop:=∀k,fp' k→fp k∨w.heap.size≤k
def Ap (f g:Nat→Prop):Prop:=∀k,f k→¬g k
section
variable {w w' w0 w1:World} {fp fp' f g:Nat→Prop} {b:Nat} {v v':Value} {cs:List Value} {e:TypeId} {α:Type}
theorem Ev.refl (w:World) (fp:Nat→Prop):Ev w w fp:=⟨rfl,rfl,rfl,lra _,fun _ _ _=>rfl⟩
theorem Ev.new (n:Jf w w' cs e) (fp:Nat→Prop):Ev w w' fp:=⟨n.below.os,n.below.tape,n.below.output,n.below.size,fun k hk _=>n.below.block k hk⟩
theorem Ev.HD (u:Lg w w' b) (h:fp b):Ev w w' fp:=⟨u.os,u.tape,u.output,by rw [u.size];exact lra _,fun k _ hk=>u.block k (fun e=>hk (e ▸ h))⟩
theorem Ev.below (n:Below w.heap.size w w') (fp:Nat→Prop):Ev w w' fp:=⟨n.os,n.tape,n.output,n.size,fun k hk _=>n.block k hk⟩
theorem Ev.still (s:Still w w') (fp:Nat→Prop):Ev w w' fp:=by obtain ⟨d,rfl⟩:=s;exact ⟨rfl,rfl,rfl,lra _,fun _ _ _=>rfl⟩
theorem Ev.trans (a:Ev w w1 f) (c:Ev w1 w' g) (hf:∀k,f k→fp k) (hg:∀k,k<w.heap.size→g k→fp k):Ev w w' fp :=
 ⟨c.os.trans a.os,c.tape.trans a.tape,c.output.trans a.output,lGa a.size c.size,fun k hk hn=>(c.block k (Nat.lt_of_lt_of_le hk a.size) (fun h=>hn (hg k hk h))).trans (a.block k hk (fun h=>hn (hf k h)))⟩
theorem Ev.mono (a:Ev w w' f) (hf:∀k,f k→fp k):Ev w w' fp:=⟨a.os,a.tape,a.output,a.size,fun k hk hn=>a.block k hk (fun h=>hn (hf k h))⟩
theorem gE (G:Below w0.heap.size w0 w) (x:Ev w w' fp) (h:∀k,fp k→w0.heap.size≤k):Below w0.heap.size w0 w' :=
 ⟨x.os.trans G.os,x.tape.trans G.tape,x.output.trans G.output,lGa G.size x.size,fun k hk=>(x.block k (Nat.lt_of_lt_of_le hk G.size) (fun hf=>Nat.lt_irrefl _ (Nat.lt_of_lt_of_le hk (h k hf)))).trans (G.block k hk)⟩
theorem Fr.refl (w:World) (fp:Nat→Prop):Fr w fp fp:=fun _ h=>.inl h
theorem Fr.trans (a:Fr w f g) (x:w.heap.size≤w1.heap.size) (c:Fr w1 g fp):Fr w f fp:=fun k hk=>by
 rcases c k hk with h|h
 ·exact a k h
 ·exact .inr (lGa x h)
theorem Fr.low (a:Fr w f g) {lo:Nat} (hf:∀k,f k→lo≤k) (hw:lo≤w.heap.size):∀k,g k→lo≤k:=fun k hk=>by
 rcases a k hk with h|h
 ·exact hf k h
 ·exact lGa hw h
theorem Ap.fr (a:Ap f g) (x:Fr w g fp) (hl:∀k,f k→k<w.heap.size):Ap f fp:=fun k hk hp=>by
 rcases x k hp with h|h
 ·exact a k hk h
 ·have:=hl k hk;omega
theorem Ap.symm (a:Ap f g):Ap g f:=fun k hk hf=>a k hf hk
end
theorem Pz.one {α:Type} {lo s:Nat} {w:World} {e:TypeId} {en:α→List Value} {v:Value} {xs:List α} (h:Pz lo w e s en v xs):v.oneCell'=true:=by
 rcases h.1.2 with ⟨e,_⟩|⟨_,_,_,e,_⟩ <;> rw [e] <;> rfl
theorem Pz.form {α:Type} {lo s:Nat} {w:World} {e:TypeId} {en:α→List Value} {v:Value} {xs:List α} (h:Pz lo w e s en v xs):∃a c,v=.slice a xs.length c:=by
 rcases h.1.2 with ⟨e,h0⟩|⟨g,cap,cur,e,_⟩
 ·exact ⟨_,_,by rw [h0];exact e⟩
 ·exact ⟨_,_,e⟩
section
variable {P:Program} {w:World} {K:Value→World→Prop}
theorem Xp {t e:TypeId} {x y:Operand} {a:Option Addr} {n c:Nat} (ht:P.underlying t=some (.slice e)) (k:K (.bool a.isNone) w) :
  Zi P (do eqGuard .eql t x y (.slice a n c) (.slice none 0 0);binOp .eql t (.slice a n c) (.slice none 0 0)) w K:=by
 refine ⟨_,w,?_,k⟩
 have hg:(eqGuard .eql t x y (.slice a n c) (.slice none 0 0)).run P w=.ok () w:=by unfold eqGuard;rfl
 simp only [Sem.run_bind,hg,Result.andThen_ok]
 simp only [binOp,Sem.run_bind,run_equal_slice_nil (P:=P) w t e a n c ht,Result.andThen_ok,Sem.run_pure]
theorem OM {t e:TypeId} {x y:Operand} {a:Option Addr} (ht:P.underlying t=some (.pointer e)) (k:K (.bool a.isNone) w) :
  Zi P (do eqGuard .eql t x y (.pointer a) (.pointer none);binOp .eql t (.pointer a) (.pointer none)) w K:=by
 refine ⟨_,w,?_,k⟩
 have hg:(eqGuard .eql t x y (.pointer a) (.pointer none)).run P w=.ok () w:=by unfold eqGuard;rfl
 have he:P.pointee t=e:=by simp [Program.pointee,ht]
 simp only [Sem.run_bind,hg,Result.andThen_ok,run_eql_pointer_nil (P:=P) w t a (by rw [he];exact ht)]
end
end YZ
namespace YZ
open Go Go.RowKit
section
variable {P:Program} {w:World} {K:Value→World→Prop}
theorem F6 {t e:TypeId} {a:Option Addr} {n cap l h m sz:Nat} {lo hi mx:Option Value} (ht:P.underlying t=some (.slice e)) (hsz:(P.info? e).map (fun i=>i.size)=some sz)
  (hb:(Instr.sliceBounds true n cap lo hi mx).run P w=.ok (l,h,m) w) (k:K (.slice (if m=l then a else a.map (·.add (l * sz))) (h-l) (m-l)) w):Zi P (Instr.sliceAt t (.slice a n cap) lo hi mx) w K:=by
 refine ⟨_,w,?_,k⟩
 have he:P.elem t=e:=by simp [Program.elem,ht]
 rw [run_sliceAt_slice (P:=P) w t _ _ _ _ (by rw [he];exact ht)]
 cases hi':P.info? e with
 | none=>simp [hi'] at hsz
 | some i' =>
  simp only [hi',Option.map_some,Option.some.injEq] at hsz
  unfold Instr.slice
  simp only [Sem.run_bind,run_underlying ht,Result.andThen_ok,hb]
  simp [sizeOf,typeInfo,hi',hsz]
theorem alY {k:IntKind} {i:Int} {n cap h:Nat} (hi:i=h) (hh:h≤cap):(Instr.sliceBounds true n cap none (some (.int k i)) none).run P w=.ok (0,h,cap) w:=by
 subst hi
 simp [Instr.sliceBounds,run_sliceBound (P:=P) w k (h:Int) cap _ qo qo]
theorem SX {w:World} {g o:Nat} {cur vs:List Value} {e:TypeId} (hb:Su w g cur e) (h:o+vs.length≤cur.length) :
  Lg w (w.setRow g (cur.take o++vs++cur.drop (o+vs.length)).toArray) g∧Su (w.setRow g (cur.take o++vs++cur.drop (o+vs.length)).toArray) g (Wi cur o vs) e:=by
 refine ⟨⟨rfl,rfl,rfl,by simp [World.setRow],fun j hj=>?_⟩,?_⟩
 ·unfold World.setRow
  simp only [Array.getElem?_modify]
  rw [if_neg (fun h=>hj h.symm)]
 ·rw [UY _ _ _ h];exact setRow_heap w g _ _ e (0,0) hb
theorem alZ {t e:TypeId} {g o n cap sz:Nat} {k:IntKind} {i:Int} (h:Nat) (ht:P.underlying t=some (.slice e)) (hsz:(P.info? e).map (fun i=>i.size)=some sz) (hi:i=h) (hh:h≤cap)
  (q:K (.slice (some ⟨g,o,none⟩) h cap) w):Zi P (Instr.sliceAt t (.slice (some ⟨g,o,none⟩) n cap) none (some (.int k i)) none) w K:=by
 refine F6 ht hsz (alY hi hh) ?_
 have:(if cap=0 then some ⟨g,o,none⟩ else (some ⟨g,o,none⟩:Option Addr).map (·.add (0 * sz)))=some ⟨g,o,none⟩:=by
  split
  ·rfl
  ·simp [Addr.add_lit]
 rw [this]
 exact q
end
theorem At.none {w:World} {b o:Nat} {cs:List Value} {e:TypeId} (h:Su w b cs e):At w b o []:=⟨_,_,_,h,fun i v hv=>by simp at hv⟩
end YZ
namespace YZ
open Go Go.RowKit
section
variable {P:Program} {α:Type} {lo s:Nat} {w w' w0:World} {e e':TypeId} {en:α→List Value} {v v' u:Value} {xs ys:List α} {b:Nat} {cs:List Value} {K:Value→World→Prop}
def SA (lo:Nat) (w:World) (e:TypeId) (s:Nat) (en:α→List Value) (v:Value) (xs:List α):Prop :=
 ((v=.slice none 0 0∧xs=[])∨∃g o cap cur,v=.slice (some ⟨g,o,none⟩) xs.length cap∧lo≤g∧Su w g cur e∧o+cap * s≤cur.length∧xs.length≤cap∧cap≤9223372036854775807∧(cur.drop o).take (xs.length * s)=xs.flatMap en)∧∀x,(en x).length=s
theorem SA.nil (lo:Nat) (w:World) (e:TypeId) (h:∀x,(en x).length=s):SA lo w e s en (.slice none 0 0) []:=⟨.inl ⟨rfl,rfl⟩,h⟩
theorem SA.lt (h:SA lo w e s en v xs) {k:Nat} (hk:v.ownBlock=some k):lo≤k∧k<w.heap.size:=by
 rcases h.1 with ⟨rfl,_⟩|⟨g,o,cap,cur,rfl,hlo,hb,_⟩
 ·cases hk
 ·obtain rfl:=Option.some.inj hk;exact ⟨hlo,hb.lt⟩
theorem SA.keep (h:SA lo w e s en v xs) (hb:∀k,v.ownBlock=some k→w'.heap[k]?=w.heap[k]?):SA lo w' e s en v xs:=by
 refine ⟨?_,h.2⟩
 rcases h.1 with h|⟨g,o,cap,cur,rfl,hlo,hk,r⟩
 ·exact .inl h
 ·exact .inr ⟨g,o,cap,cur,rfl,hlo,hk.keep (hb g rfl),r⟩
theorem SA.ev {fp:Nat→Prop} (h:SA lo w e s en v xs) (x:Ev w w' fp) (hn:∀k,v.ownBlock=some k→¬fp k):SA lo w' e s en v xs:=h.keep fun k hk=>x.block k (h.lt hk).2 (hn k hk)
theorem SA.one (h:SA lo w e s en v xs):v.oneCell'=true:=by
 rcases h.1 with ⟨rfl,_⟩|⟨_,_,_,_,rfl,_⟩ <;> rfl
theorem SA.form (h:SA lo w e s en v xs):∃a c,v=.slice a xs.length c:=by
 rcases h.1 with ⟨rfl,rfl⟩|⟨_,_,_,_,rfl,_⟩
 ·exact ⟨_,_,rfl⟩
 ·exact ⟨_,_,rfl⟩
theorem SA.own (h:w.ownsRow lo e s v xs.length (xs.flatMap en)) (hs:∀x,(en x).length=s):SA lo w e s en v xs:=by
 refine ⟨?_,hs⟩
 rcases h.2 with ⟨rfl,h0⟩|⟨g,cap,cur,rfl,hlo,hg,hnc,SB,hcs,ht⟩
 ·exact .inl ⟨rfl,lqa h0⟩
 ·exact .inr ⟨g,0,cap,cur.toList,rfl,hlo,hg,by simp [hcs],hnc,by unfold maxLen at SB;omega,by simpa using ht⟩
theorem ajH {t ty:TypeId} {m c b o:Nat} (z:Value) (QC:Nat) (hown:SA lo w e s en v xs) (UA:At w b o (ys.flatMap en)) (hm:ys.length=m)
  (h1:∀y∈ys,((en y).all (·.oneCell'))=true) (hu:P.underlying t=some (.slice e)) (hz:(P.info? e).map (fun i=>(i.zero,i.size,i.bytes))=some (some z,s,QC)) (hzs:z.cells.size=s) (hsz:0<s)
  (hb:(xs.length+m) * QC≤140737488355328) (hml:xs.length+m≤140737488355328) (hlo:lo≤w.heap.size)
  (k:∀v' w',SA lo w' e s en v' (xs++ys)→Gr w w' v v'→K v' w'):Zi P (Builtin.append_ #[t,t] ty #[v,.slice (some ⟨b,o,none⟩) m c]) w K:=by
 rcases hown.1 with ⟨rfl,rfl⟩|⟨g,of,cap,cur,rfl,Ez,HC,hfit,hnc,SB,ht⟩
 ·refine ajG z QC (Pz.nil lo w e hown.2) UA hm h1 hu hz hzs hsz hb hml hlo fun v' w' hO hG=>k v' w' ?_ hG
  exact SA.own hO.1 hO.2
 ·have OX:(xs.flatMap en).length=xs.length * s:=YI hown.2 xs
  have Ku:(ys.flatMap en).length=m * s:=by rw [←hm];exact YI hown.2 ys
  have ho:∀u∈ys.flatMap en,u.oneCell'=true:=fun u hu=>by
   obtain ⟨y,hy,hu⟩:=List.mem_flatMap.1 hu
   exact lkb.1 (h1 y hy) u hu
  cases hi:P.info? e with
  | none=>simp [hi] at hz
  | some i =>
   simp only [hi,Option.map_some,Option.some.injEq,Prod.mk.injEq] at hz
   obtain ⟨h2,h3,h4⟩:=hz
   subst h3
   by_cases hr:xs.length+m≤cap
   ·have hcap:(xs.length+m) * i.size≤cap * i.size:=lLa _ hr
    rw [lMb] at hcap
    have hst:=run_storeCells_at (P:=P) g (of+xs.length * i.size) e (ys.flatMap en) 0 cur.toArray w HC (by rw [Ku];simp;omega) ho
    simp only [Nat.add_zero] at hst
    have Gy:=run_firstCells_some (P:=P) w i.size m ⟨b,o,none⟩ m c (ys.flatMap en) Ku (fun j u hj=>by rw [Addr.add_lit];exact UA.cell hj)
    obtain ⟨hU,hB⟩:=SX (o:=of+xs.length * i.size) (vs:=ys.flatMap en) HC (by rw [Ku];omega)
    refine ⟨.slice (some ⟨g,of,none⟩) (xs.length+m) cap,_,?_,k _ _ ⟨.inr ⟨g,of,cap,_,by rw [lba,hm],Ez,hB,by rw [V8];exact hfit,by rw [lba,hm];exact hr,SB,?_⟩,hown.2⟩ ⟨⟨hU.os,hU.tape,hU.output,by rw [hU.size];exact lra _,fun k _ hk=>hU.block k (fun e=>hk (by rw [e];rfl))⟩,.inl rfl⟩⟩
    ·simp [Builtin.append_,run_underlying hu,sizeOf,typeInfo,hi,Builtin.lenOf,hr,Gy,Addr.add_lit,hst]
    ·rw [lba,hm,lMa,←ht,UY _ _ _ (by rw [Ku];omega),lma,lzb (by rw [lla];omega),←lma,lgc,
      show of+xs.length * i.size-of=xs.length * i.size by omega,lya (by rw [lba,lla,lIa,Ku,lMb];omega),lxa (by rw [lba,lla,lIa,Ku,lMb];omega)]
   ·have G8:At w g of (xs.flatMap en):=by
     have:=HC.at.sub of (xs.length * i.size);rw [ht,lwb] at this;exact this
    obtain ⟨v',w',hrun,r1,r2⟩:=run_append_arg_grows (P:=P) w t ty e i z i.size QC hu hi h2 rfl h4 hzs hsz ⟨g,of,none⟩ xs.length cap (xs.flatMap en) OX (fun j u hj=>by rw [Addr.add_lit];exact G8.cell hj) ⟨b,o,none⟩ m c (ys.flatMap en) Ku (fun j u hj=>by rw [Addr.add_lit];exact UA.cell hj) qo (by simp [maxLen];omega) hb
    have hO:SA w.heap.size w' e i.size en v' (xs++ys):=SA.own (by rw [lba,hm,lMa];exact r1) hown.2
    refine ⟨v',w',hrun,k v' w' ?_ ⟨⟨r2.os,r2.tape,r2.output,r2.size,fun k hk _=>r2.block k hk qs⟩,?_⟩⟩
    ·refine ⟨?_,hown.2⟩
     rcases hO.1 with h|⟨g',o',c',cu',a1,a2,a3⟩
     ·exact .inl h
     ·exact .inr ⟨g',o',c',cu',a1,lGa hlo a2,a3⟩
    ·rcases hO.1 with ⟨h,_⟩|⟨g',o',c',cu',a1,a2,a3⟩
     ·exact .inr (.inl (by rw [h];rfl))
     ·exact .inr (.inr ⟨g',by rw [a1];rfl,a2⟩)
theorem SA.tail {x:α} {g o n cap:Nat} (h:SA lo w e s en (.slice (some ⟨g,o,none⟩) n cap) (x::xs)):SA lo w e s en (.slice (some ⟨g,if cap=1 then o else o+1 * s,none⟩) (n-1) (cap-1)) xs:=by
 rcases h.1 with ⟨_,h0⟩|⟨g',o',cap',cur,he,hlo,hb,hfit,hnc,SB,hct⟩
 ·cases h0
 ·injection he with h1 h2 h3
  injection h1 with h1
  injection h1 with h1 h4
  subst h1;subst h2;subst h3;subst h4
  simp only [List.length_cons] at hnc hct ⊢
  refine ⟨.inr ⟨g,if cap=1 then o else o+1 * s,cap-1,cur,by rw [lKa],hlo,hb,?_,by omega,by omega,?_⟩,h.2⟩
  ·split
   ·have:cap-1=0:=by omega
    rw [this];omega
   ·have:(cap-1) * s+s=cap * s:=by rw [←lpb];congr 1;omega
    omega
  ·split
   ·have:xs=[]:=lqa qo
    subst this;simp
   ·have e1:=congrArg (List.drop s) hct
    rw [lgc,lub0,lQa,lzb (by rw [h.2];exact lra _),lDa (l:=en x) (by rw [h.2];exact lra _),lTa,lpb,lKa] at e1
    rw [Nat.one_mul];exact e1
theorem SA.head {x:α} (h:SA lo w e s en v (x::xs)):∃g o cap,v=.slice (some ⟨g,o,none⟩) (xs.length+1) cap∧lo≤g∧At w g o (en x):=by
 rcases h.1 with ⟨_,h0⟩|⟨g,o,cap,cur,rfl,hlo,hb,hfit,hnc,SB,hct⟩
 ·cases h0
 ·refine ⟨g,o,cap,rfl,hlo,?_⟩
  have:=hb.at.sub o s
  rw [lwb] at this
  have e1:=congrArg (List.take s) hct
  rw [List.take_take,lda,lob (by rw [lpb];omega),lQa,lya (by rw [h.2];exact lra _)] at e1
  rw [e1,lxa (by rw [h.2];exact lra _)] at this;exact this
end
theorem adT {P:Program} {w:World} {K:Value→World→Prop} {t e:TypeId} {b o n:Nat} {ki:IntKind} {i:Int} (sz j p:Nat) (hj:i=j) (hl:j<n) (hp:o+j * sz=p) (ht:P.underlying t=some (.array n e)) (hs:(P.info? e).map (fun i=>i.size)=some sz)
  (k:K (.pointer (some ⟨b,p,none⟩)) w):Zi P (Instr.indexAt t (.pointer (some ⟨b,o,none⟩)) (.int ki i)) w K:=by
 subst hj;subst hp
 refine ⟨_,w,?_,k⟩
 cases hi':P.info? e with
 | none=>simp [hi'] at hs
 | some i' =>
  simp only [hi',Option.map_some,Option.some.injEq] at hs
  simp [Instr.indexAt,Instr.sureAddr,asIntOf,run_underlying ht,sizeOf,typeInfo,hi',hs,Addr.add_lit,hl]
end YZ
namespace YZ
open Go
def Wg (l:List Nat):Nat:=l.foldr (fun t m=>Nat.lor (Nat.shiftLeft 1 t) m) 0
theorem VI (l:List Nat) (j:Nat):(Wg l).testBit j=true↔j∈l:=by
 induction l with
 | nil=>simp [Wg]
 | cons t r ih =>
  have e:Wg (t::r)=(1 <<< t) ||| Wg r:=rfl
  rw [e,lPb,Bool.or_eq_true,ih,Nat.one_shiftLeft,lZb,lbc]
  simp;constructor
  ·rintro (h|h);exact .inl h.symm;exact .inr h
  ·rintro (h|h);exact .inl h.symm;exact .inr h
structure Rec where
 i:Nat
 take:Bool
 af:Nat
 lk:Nat
 ds:Nat
def UX (o:Oper):Nat:=Wg (o.after.toList.filterMap fun e=>if Region.binds .any e then some e.on else none)
def ahc (ops:Array Oper) (p:Nat × Bool):Option Rec:=(ops[p.1]?).map fun o=>⟨p.1,p.2,UX o,Wg (o.looksAt ops),Wg o.dst.toList⟩
def IK (n:Nat):Bool:=Nat.beq n 0
def Qt (x y:Rec):Bool:=IK (Nat.land x.ds (Nat.lor y.lk y.ds)) && IK (Nat.land y.ds x.lk)
def Kt (m i:Nat):Bool:=Nat.beq (Nat.land (Nat.shiftRight m i) 1) 1
def Uq:List Rec→Nat→Nat→Bool
 | [],listed,all=>Nat.beq listed all
 | r::rest,listed,all=>Nat.beq (Nat.land r.af listed) r.af && !Kt listed r.i &&
   (match r.take with
   | true=>rest.all fun q=>Kt q.af r.i || Qt r q
   | false=>rest.all fun q=>!Nat.beq (Nat.land q.af listed) q.af) && Uq rest (Nat.lor listed (Nat.shiftLeft 1 r.i)) all
def SW (ops:Array Oper):List (Nat × Bool)→Option (List Rec)
 | []=>some []
 | p::r=>match ahc ops p with
  | none=>none
  | some x=>match SW ops r with
   | none=>none
   | some l=>some (x::l)
def Oh (ops:Array Oper) (plan:List (Nat × Bool)):Bool:=Region.noSelect ops && Nat.beq plan.length ops.size && match SW ops plan with
 | none=>false
 | some l=>Uq l 0 (2 ^ ops.size-1)
theorem Up (m i:Nat):Kt m i=m.testBit i:=by
 unfold Kt
 rw [show Nat.land (Nat.shiftRight m i) 1=(m >>> i) &&& 1 from rfl,Nat.and_one_is_mod]
 rw [Nat.testBit,Nat.one_and_eq_mod_two]
 rcases Nat.mod_two_eq_zero_or_one (m >>> i) with h|h <;> rw [h] <;> rfl
theorem Qs {a b:Nat} (h:Nat.beq (Nat.land a b) a=true) (j:Nat) (hj:a.testBit j=true):b.testBit j=true:=by
 have h:=lmb h
 have h2:(a &&& b).testBit j=a.testBit j:=congrArg (fun n=>Nat.testBit n j) h
 rw [Nat.testBit_and,hj] at h2
 simpa using h2
theorem adU {a b:Nat} (h:(!Nat.beq (Nat.land a b) a)=true):∃j,a.testBit j=true∧b.testBit j=false:=by
 apply Classical.byContradiction
 intro hn
 have e:a &&& b=a:=by
  apply Nat.eq_of_testBit_eq
  intro j
  rw [Nat.testBit_and]
  cases ha:a.testBit j
  ·rfl
  ·cases hb:b.testBit j
   ·exact absurd ⟨j,ha,hb⟩ hn
   ·rfl
 rw [show Nat.land a b=a from e] at h
 simp at h
theorem aaz {a b:Nat} (h:IK (Nat.land a b)=true) (j:Nat) (ha:a.testBit j=true):b.testBit j=false:=by
 have h:=lmb h
 have h2:(a &&& b).testBit j=false:=by rw [show a &&& b=0 from h];simp
 rw [Nat.testBit_and,ha] at h2
 simpa using h2
theorem VH (o:Oper) (j:Nat):(UX o).testBit j=true↔∃e∈o.after,Region.binds .any e=true∧e.on=j:=by
 unfold UX
 rw [VI,lDb]
 constructor
 ·rintro ⟨e,he,h⟩
  split at h
  ·exact ⟨e,by simpa using he,by assumption,Option.some.inj h⟩
  ·cases h
 ·rintro ⟨e,he,hb,h⟩
  exact ⟨e,by simpa using he,by rw [if_pos hb,h]⟩
theorem aaa {ops:Array Oper} {x y:Oper} {rx ry:Rec} (hx:rx.lk=Wg (x.looksAt ops)) (hx':rx.ds=Wg x.dst.toList) (hy:ry.lk=Wg (y.looksAt ops)) (hy':ry.ds=Wg y.dst.toList)
  (h:Qt rx ry=true):x.apart ops y=true:=by
 unfold Qt at h
 rw [Bool.and_eq_true] at h
 obtain ⟨h1,h2⟩:=h
 unfold Oper.apart
 rw [Bool.and_eq_true]
 constructor
 ·split
  ·rename_i d hd
   have hb:rx.ds.testBit d=true:=by rw [hx',VI,hd];simp
   have h3:=aaz h1 d hb
   rw [show Nat.lor ry.lk ry.ds=ry.lk ||| ry.ds from rfl,lPb,Bool.or_eq_false_iff] at h3
   obtain ⟨h4,h5⟩:=h3
   rw [Bool.and_eq_true]
   constructor
   ·rw [Bool.not_eq_true',←Bool.not_eq_true,List.contains_iff_mem]
    intro hm
    rw [hy,←Bool.not_eq_true,VI] at h4
    exact h4 hm
   ·rw [bne_iff_ne]
    intro he
    rw [hy',←Bool.not_eq_true,VI,he] at h5
    exact h5 qs
  ·rfl
 ·split
  ·rename_i d hd
   have hb:ry.ds.testBit d=true:=by rw [hy',VI,hd];simp
   have h3:=aaz h2 d hb
   rw [Bool.not_eq_true',←Bool.not_eq_true,List.contains_iff_mem]
   intro hm
   rw [hx,←Bool.not_eq_true,VI] at h3
   exact h3 hm
  ·rfl
theorem aai {ops:Array Oper} {p:Nat × Bool} {r:List (Nat × Bool)} {l:List Rec} (h:SW ops (p::r)=some l) :
  ∃x l' o,l=x::l'∧SW ops r=some l'∧ops[p.1]?=some o∧x=⟨p.1,p.2,UX o,Wg (o.looksAt ops),Wg o.dst.toList⟩:=by
 unfold SW at h
 split at h
 ·cases h
 ·rename_i x hx
  split at h
  ·cases h
  ·rename_i l' hl
   obtain rfl:=Option.some.inj h
   unfold ahc at hx
   cases ho:ops[p.1]? with
   | none=>rw [ho] at hx;cases hx
   | some o=>rw [ho] at hx;exact ⟨x,l',o,rfl,hl,rfl,(Option.some.inj hx).symm⟩
theorem ab4 {ops:Array Oper}:∀{r:List (Nat × Bool)} {l:List Rec},SW ops r=some l→∀q∈l,∃o,ops[q.i]?=some o∧q.af=UX o∧q.lk=Wg (o.looksAt ops)∧q.ds=Wg o.dst.toList:=by
 intro r
 induction r with
 | nil=>intro l h q hq;unfold SW at h;obtain rfl:=Option.some.inj h;cases hq
 | cons p r ih =>
  intro l h q hq
  obtain ⟨x,l',o,rfl,hl,ho,rfl⟩:=aai h
  rcases lbc.1 hq with rfl|hq
  ·exact ⟨o,ho,rfl,rfl,rfl⟩
  ·exact ih hl q hq
theorem ab5:∀(l:List Rec) (m all:Nat),Uq l m all=true→∀j,all.testBit j=true→m.testBit j=true∨∃q∈l,q.i=j:=by
 intro l
 induction l with
 | nil =>
  intro m all h j hj
  unfold Uq at h
  have:=lmb h
  subst this
  exact .inl hj
 | cons r l ih =>
  intro m all h j hj
  unfold Uq at h
  rw [Bool.and_eq_true] at h
  rcases ih _ _ h.2 j hj with h1|⟨q,hq,e⟩
  ·rw [show Nat.lor m (Nat.shiftLeft 1 r.i)=m ||| (1 <<< r.i) from rfl,lPb,Bool.or_eq_true,Nat.one_shiftLeft,lZb] at h1
   rcases h1 with h1|h1
   ·exact .inl h1
   ·exact .inr ⟨r,lxb,by simpa using h1⟩
  ·exact .inr ⟨q,lGb _ hq,e⟩
theorem afP:∀{l:List Rec} {m n j:Nat},n≤j→Uq l m (2 ^ n-1)=true→m.testBit j=true→False:=by
 intro l
 induction l with
 | nil =>
  intro m n j hj h hb
  unfold Uq at h
  have:=lmb h
  rw [this,lCb] at hb
  simp at hb;omega
 | cons r l ih =>
  intro m n j hj h hb
  unfold Uq at h
  rw [Bool.and_eq_true] at h
  refine ih hj h.2 ?_
  rw [show Nat.lor m (Nat.shiftLeft 1 r.i)=m ||| (1 <<< r.i) from rfl,lPb,hb,Bool.true_or]
theorem aba {ops:Array Oper}:∀(plan:List (Nat × Bool)) (l:List Rec) (m:Nat) (listed:Array Bool),SW ops plan=some l→Uq l m (2 ^ ops.size-1)=true→listed.size=ops.size →
  (∀j,j<ops.size→listed.getD j true=m.testBit j)→PB ops plan listed=true:=by
 intro plan
 induction plan with
 | nil =>
  intro l m listed hl hok hsz hm
  unfold SW at hl
  obtain rfl:=Option.some.inj hl
  unfold Uq at hok
  have hok:=lmb hok
  show (Region.ready .any ops listed).isEmpty=true
  rw [List.isEmpty_iff,List.eq_nil_iff_forall_not_mem]
  intro j hj
  obtain ⟨h0,o,ho,_⟩:=mem_ready.1 hj
  have hlt:j<ops.size:=(lza.1 ho).1
  rw [hm j hlt,hok,lCb] at h0
  simp [hlt] at h0
 | cons p plan ih =>
  intro l m listed hl hok hsz hm
  obtain ⟨x,l',o,rfl,hl',ho,rfl⟩:=aai hl
  have al0:=ab5 _ _ _ hok
  unfold Uq at hok
  simp only [Bool.and_eq_true] at hok
  obtain ⟨⟨⟨hr,hun⟩,hk⟩,VR⟩:=hok
  have hlt:p.1<ops.size:=(lza.1 ho).1
  have al1:listed.getD p.1 true=false:=by rw [hm _ hlt,←Up];simpa using hun
  have ahX:∀e∈o.after,Region.binds .any e=true→listed.getD e.on false=true:=fun e he hb=>by
   have h1:=Qs hr e.on ((VH o e.on).2 ⟨e,he,hb,rfl⟩)
   have h3:e.on<ops.size:=by
    rcases lEa e.on ops.size with h|h
    ·exact h
    ·exact (afP h VR (by rw [show Nat.lor m (Nat.shiftLeft 1 p.1)=m ||| (1 <<< p.1) from rfl,lPb,h1,Bool.true_or])).elim
   have h2:=hm e.on h3
   rw [h1] at h2
   simp only [Array.getD_eq_getD_getElem?] at h2 ⊢
   rw [lib qo] at h2 ⊢
   simpa using h2
  have Xq:p.1∈Region.ready .any ops listed:=mem_ready.2 ⟨al1,o,ho,ahX⟩
  have acr:∀j oj,ops[j]?=some oj→j≠p.1→listed.getD j true=false→∃q∈l',q.i=j∧q.af=UX oj∧q.lk=Wg (oj.looksAt ops)∧q.ds=Wg oj.dst.toList:=fun j oj hj hne hu=>by
   have hjl:j<ops.size:=(lza.1 hj).1
   rcases al0 j (by rw [lCb];simpa using hjl) with h1|⟨q,hq,e⟩
   ·rw [hm j hjl,h1] at hu;cases hu
   ·rcases lbc.1 hq with rfl|hq
    ·exact absurd e.symm hne
    ·obtain ⟨o',ho',h1,h2,h3⟩:=ab4 hl' q hq
     rw [e,hj] at ho'
     obtain rfl:=Option.some.inj ho'
     exact ⟨q,hq,e,h1,h2,h3⟩
  rw [Sk,ho]
  simp only [Bool.and_eq_true]
  refine ⟨?_,ih l' _ _ hl' VR (by simpa using hsz) fun j hj=>?_⟩
  ·obtain ⟨i,take⟩:=p
   dsimp only at *
   cases take with
   | true =>
    dsimp only at hk ⊢
    rw [Bool.and_eq_true]
    refine ⟨?_,by simpa using Xq⟩
    unfold Region.free
    rw [ho]
    simp only [List.all_eq_true,List.mem_range]
    intro j hj
    cases hji:(j == i)
    ·cases hlj:listed.getD j true
     ·rw [lib hj]
      simp only [Bool.false_or]
      obtain ⟨q,hq,e,h1,h2,h3⟩:=acr j ops[j] (lib hj) (by simpa using hji) hlj
      have h4:=lkb.1 hk q hq
      rw [Bool.or_eq_true] at h4 ⊢
      rcases h4 with h4|h4
      ·left
       rw [Up,h1,VH] at h4
       obtain ⟨ed,he,hb,G7⟩:=h4
       rw [Array.any_eq_true']
       exact ⟨ed,he,by rw [hb,G7];simp⟩
      ·right
       exact aaa rfl rfl h2 h3 h4
     ·simp
    ·simp
   | false =>
    dsimp only at hk ⊢
    rw [beq_iff_eq]
    have ajI:∀j∈Region.ready .any ops listed,j=i:=fun j hj=>by
     apply Classical.byContradiction
     intro hne
     obtain ⟨h0,oj,Og,hall⟩:=mem_ready.1 hj
     obtain ⟨q,hq,e,h1,h2,h3⟩:=acr j oj Og hne h0
     have h4:=lkb.1 hk q hq
     obtain ⟨b,JB,Mk⟩:=adU h4
     rw [h1,VH] at JB
     obtain ⟨ed,he,hb,G7⟩:=JB
     have h5:=hall ed he hb
     rw [G7] at h5
     have MU:b<ops.size:=by
      rcases lEa b listed.size with h|h
      ·omega
      ·simp [Array.getD_eq_getD_getElem?,Array.getElem?_eq_none h] at h5
     have h6:=hm b MU
     rw [Mk] at h6
     simp only [Array.getD_eq_getD_getElem?] at h5 h6
     rw [lib qo] at h5 h6
     simp at h5 h6
     rw [h5] at h6;cases h6
    have hnd:(Region.ready .any ops listed).Nodup:=by
     unfold Region.ready;exact List.Pairwise.filter _ List.nodup_range
    generalize Region.ready .any ops listed=R at *
    match R,hnd,ajI,Xq with
    | [],_,_,h=>cases h
    | [a],_,hu,_=>rw [hu a lxb]
    | a::b::r,hnd,hu,_ =>
     have h1:=hu a lxb
     have h2:=hu b qs
     rw [List.nodup_cons] at hnd
     exact absurd (by rw [h1,h2];simp) hnd.1
  ·show (listed.setIfInBounds p.1 true).getD j true=(m ||| (1 <<< p.1)).testBit j
   rw [lPb,Nat.one_shiftLeft,lZb,←hm j hj]
   by_cases h:p.1=j
   ·subst h;simp [hsz,hj]
   ·simp [Array.getElem?_setIfInBounds_ne h,h]
theorem aac {ops:Array Oper} {plan:List (Nat × Bool)} (h:Oh ops plan=true):Sj ops plan=true:=by
 unfold Oh at h
 simp only [Bool.and_eq_true] at h
 obtain ⟨⟨h1,h2⟩,h3⟩:=h
 split at h3
 ·cases h3
 ·rename_i l hl
  unfold Sj
  rw [h1,aba plan l 0 _ hl h3 qs (fun j hj=>by simp [hj])]
  simp [Nat.eq_of_beq_eq_true h2]
theorem anF {P:Program} {ops:Array Oper} {K:List Value→World→Prop} {ρ0:List Value} {id:Nat} {w:World} (S:World→Prop) (plan:List (Nat × Bool)) (hm:P.follows .mixedOrders=true) (hc:Oh ops plan=true)
  (h:∀w1,w1=w.drew→S w1∧Qu P ops.toList S K plan ρ0 w1):Ou P id ops K ρ0 w:=draw S plan hm (aac hc) h
end YZ
end Go.Proofs.YtakpnepblgfknaaGreatDoor
