/- Texts of this claim, one behind the other. -/
import Derived.Tactics
import Derived.Below
import Derived.ScopeJumps
import Derived.Laws.Slices
import Derived.Laws.Small
import Derived.Laws.StructEq
import Derived.Laws.Pointers
import Derived.Laws.Cover3
import Derived.Laws.Strings
import Derived.Laws.BytesString
import Derived.Laws.Build
import Derived.Laws.OwnMore
import Derived.Laws.MakeOwn
import Derived.Laws.CopyOwn
import Derived.Laws.BytesArg
import Derived.KernelRfl
import Derived.OrdersHeld
import Derived.Laws.CopyRow
import Derived.Laws.AppendOwn
import Derived.ArgAppend
set_option linter.unusedVariables false
set_option linter.unusedSimpArgs false
set_option linter.defProp false
namespace Go.Proofs.YtakpnepblgfknaaGreatDoor
theorem AH {P:Prop} (h:P:=by omega):P:=h
theorem AG {P:Prop} (h:P:=by assumption):P:=h
theorem AF {P:Prop} (h:P:=by simp):P:=h
theorem AD {α β:Type _} {a:α} {b:β}:a=a∧b=b:=⟨rfl,rfl⟩
abbrev AB (n:Int):Go.Value:=.int .i64 n
abbrev AA (n:Nat):Go.Value:=.pointer (some ⟨n,0,none⟩)
theorem k_a {P:Prop} (h:P:=by repeat first|exact ZX|refine ZM rfl ?_|refine Zx rfl (by first|omega|(simp only;omega)|(simp;omega)|(simp;done)) ?_):P:=h
theorem k_b {P:Prop} (h:P:=by first|omega|(simp only;omega)|(simp;omega)|(simp;done)):P:=h
theorem k_c {P:Prop} (h:P:=by (subst_vars;unfold VB;(repeat first|rw [if_pos AH]|rw [if_neg AH]);(try simp only [Y1,XO,X3,YT]);(try rfl))):P:=h
theorem k_d {P:Prop} (h:P:=by kernel_rfl):P:=h
theorem k_e {P:Prop} (h:P:=by (unfold U7;(repeat first|rw [if_pos AH]|rw [if_neg AH]);(try simp only [Y1] at *);subst_vars;(try rfl);done)):P:=h
theorem k_f {P:Prop} (h:P:=by simp only [List.all_cons,List.all_nil,H.one 4 rfl,H.one 5 rfl,H.one 6 rfl,H.one 7 rfl,H.one 9 rfl,H.one 10 rfl,Z0.one Xq,Z0.one ZH,Z0.one Zv,hvs,hvl,Z0.one ZV,Z0.one hw];rfl):P:=h
theorem k_g {P:Prop} (h:P:=by simp only [List.all_cons,List.all_nil,H.one 4 rfl,H.one 5 rfl,H.one 6 rfl,H.one 8 rfl,Z0.one Uj,Z0.one Wj,Z0.one Xq,Z0.one ZH,Z0.one Zv,hvs,hvl,Z0.one ZV,Z0.one hw];rfl):P:=h
theorem k_h {P:Prop} (h:P:=by (subst_vars;first|omega|(rw [lca,lga];omega))):P:=h
theorem k_i {P:Prop} (h:P:=by simp only [List.all_cons,List.all_nil,H.one 2 rfl,H.one 3 rfl,H.one 4 rfl,H.one 5 rfl,Z0.one Yg,Z0.one hx];rfl):P:=h
theorem k_j {P:Prop} (h:P:=by simp only [List.all_cons,List.all_nil,Z0.one U5,Z0.one UM,Z0.one Oz,Z0.one Qr,Z0.one ZV,Z0.one Zu,Z0.one hcs,Z0.one hg,Z0.one ht];rfl):P:=h
theorem k_k {P:Prop} (h:P:=by exact Xv.more AG AH):P:=h
theorem k_l {P:Prop} (h:P:=by rw [Ys];unfold execOp;rw [ho]):P:=h
theorem k_m {P:Prop} (h:P:=by simp only [List.all_cons,List.all_nil,H.one 2 rfl,H.one 3 rfl,Z0.one Ye,Z0.one MT,Z0.one JZ,Z0.one Pj,Z0.one Lo,Z0.one Yw,Z0.one Yb,Z0.one Gz,Z0.one Zv];rfl):P:=h
theorem k_n {P:Prop} (h:P:=by simp only [List.all_cons,List.all_nil,H.one 4 rfl,H.one 5 rfl,Z0.one Xc,Z0.one Xd,Z0.one ZP,Z0.one ht];rfl):P:=h
theorem k_o {P:Prop} (h:P:=by simp only [List.all_cons,List.all_nil,H.one 4 rfl,H.one 5 rfl,H.one 6 rfl,H.one 8 rfl,Z0.one hw];rfl):P:=h
theorem k_p {P:Prop} (h:P:=by simp only [Bool.and_true,H.one 1 rfl,H.one 2 rfl,H.one 6 rfl,hvs,Z0.one ZV,Z0.one Zu,Z0.one ZP,hvl]):P:=h
theorem k_q {P:Prop} (h:P:=by exact GD (by decide) (by decide) AG):P:=h
theorem k_r {P:Prop} (h:P:=by (simp only [List.length_append,List.length_set,List.length_cons,List.length_nil];omega)):P:=h
theorem k_s {P:Prop} (h:P:=by simp only [List.all_cons,List.all_nil,H.one 2 rfl,Z0.one Yg,Z0.one Hw,Z0.one hs,Z0.one hL,Z0.one he,Z0.one hb];rfl):P:=h
theorem k_t {P:Prop} (h:P:=by first|omega|(simp only;omega)|(simp;omega)):P:=h
theorem k_u {P:Prop} (h:P:=by simp [run_sliceBound (P:=P) w kh (h:Int) cap _ AH AH,run_sliceBound (P:=P) w kl (a:Int) h _ AH AH]):P:=h
theorem k_v {P:Prop} (h:P:=by rw [←hargs];exact h):P:=h
theorem k_w {P:Prop} (h:P:=by exact ⟨rfl,rfl,rfl,rfl,fun _=>rfl⟩):P:=h
theorem k_x {P:Prop} (h:P:=by unfold execOp;rw [ho];simp only [resolve,hc,pure_bind,invoke,builtin]):P:=h
theorem k_y {P:Prop} (h:P:=by simp only [Bool.and_true,H.one 2 rfl,H.one 3 rfl,Vw.one V2,Z0.one ht]):P:=h
def laa:=@List.getElem?_eq_getElem
def lba:=@List.getElem?_eq_some_iff
def lca:=@List.length_append
def lda:=@List.mem_of_getElem?
def lea:=@List.length_map
def lfa:=@List.all_cons
def lga:=@List.length_replicate
def lha:=@List.all_nil
def lia0:=@List.append_assoc
def lja:=@List.getD_eq_getElem?_getD
def lka:=@Int.toNat_natCast
def lla:=@List.length_cons
def lma:=@List.eq_nil_of_length_eq_zero
def lna:=@Nat.le_refl
def loa:=@List.drop_eq_getElem_cons
def lpa:=@List.append_nil
def lqa:=@List.mem_singleton
def lra:=@Nat.lt_or_ge
def lsa:=@Int.eq_ofNat_of_zero_le
def lta:=@List.take_of_length_le
def lua:=@List.length_set
def lva:=@Array.getElem?_eq_some_iff
def lwa:=@List.drop_of_length_le
def lxa:=@List.take_append_of_le_length
def lya:=@List.length_take
def lza:=@Nat.mul_le_mul_right
def lAa:=@List.getElem?_map
def lBa:=@Array.getD_eq_getD_getElem?
def lCa:=@Nat.le_trans
def lDa:=@List.mem_append
def lEa:=@List.ext_getElem?
def lFa:=@List.length_singleton
def lGa:=@List.length_nil
def lHa:=@List.cons_append
def lIa:=@List.flatMap_append
def lJa:=@Nat.zero_le
def lKa:=@List.getElem?_take
def lLa:=@List.getElem?_append
def lMa:=@List.getElem?_set
def lNa:=@List.flatMap_cons
def lOa:=@List.nil_append
def lPa:=@Nat.pow_le_pow_right
def lQa:=@List.map_append
def lRa:=@Array.getElem?_toList
def lSa:=@List.length_drop
def lTa:=@Option.map_some
def lUa:=@List.getElem?_append_left
def lVa:=@Nat.le_of_lt
def lWa:=@List.mem_map
def lXa:=@Option.bind_eq_some_iff
def lYa:=@Nat.add_sub_cancel
def lZa:=@List.eq_nil_or_concat
def lab0:=@List.mem_iff_getElem
def lbb:=@List.set_cons_zero
def lcb:=@Nat.le_of_ble_eq_true
def ldb:=@Nat.eq_of_beq_eq_true
def leb:=@List.take_append_drop
def lfb:=@List.map_cons
def lgb:=@List.drop_succ_cons
def lhb:=@List.drop_drop
def lib:=@Array.getElem?_eq_getElem
def ljb:=@Nat.succ_mul
def lkb:=@List.mem_append_left
def llb:=@List.set_cons_succ
def lmb:=@List.getElem?_drop
def lnb:=@List.drop_zero
def lob:=@List.take_add_one
def lpb:=@List.getElem?_append_right
def lqb:=@List.singleton_inj
def lrb:=@Nat.min_eq_left
def lsb0:=@List.take_left
def ltb:=@List.getElem_mem
def lub0:=@List.drop_append_of_le_length
def lvb:=@Nat.le_succ
def lwb:=@List.concat_eq_append
def lxb:=@List.mem_cons_self
def lyb:=@List.mem_cons_of_mem
def lzb:=@List.all_eq_true
def lAb:=@List.mem_append_right
def lBb:=@List.append_inj'
def lCb:=@Nat.testBit_or
def lDb:=@Nat.testBit_two_pow_sub_one
def lEb:=@Nat.add_mul
def lFb:=@List.replicate_succ
def lGb:=@Option.bind_some
def lHb:=@Nat.succ_le_succ
def lIb:=@List.take_length
def lJb:=@List.drop_append
def lKb:=@Array.toList_map
def lLb:=@Nat.zero_add
def lMb:=@Nat.sub_self
def lNb:=@Nat.eq_zero_or_pos
def lOb:=@List.drop_take
def lPb:=@List.mem_of_mem_take
def lQb:=@Int.mul_le_mul_of_nonneg_right
def lRb:=@Nat.testBit_two_pow
def lSb:=@Nat.add_assoc
def lTb:=@List.length_pos_iff
def lUb:=@Int.mul_le_mul_of_nonneg_left
def lVb:=@List.take_take
namespace YW
open Go
def gt:List Value→Nat→Value
 | [],_=>undef
 | v::_,0=>v
 | _::r,n+1=>gt r n
def EX (l:List Value):Nat→(Value→Prop)→Prop :=
 List.rec (motive:=fun _=>Nat→(Value→Prop)→Prop) (fun _ k=>k undef) (fun v _ ih n k=>Nat.rec (motive:=fun _=>Prop) (k v) (fun m _=>ih m k) n) l
def IY (l:List Value):Nat→Value→(List Value→Prop)→Prop :=
 List.rec (motive:=fun _=>Nat→Value→(List Value→Prop)→Prop) (fun _ _ k=>k []) (fun x r ih n v k=>Nat.rec (motive:=fun _=>Prop) (k (v::r)) (fun m _=>ih m v (fun r'=>k (x::r'))) n) l
theorem afV (n:Nat) (v:Value) (k:List Value→Prop):IY [] n v k=k []:=rfl
theorem adN (x:Value) (r:List Value) (n:Nat) (v:Value) (k:List Value→Prop):IY (x::r) (n+1) v k=IY r n v (fun r'=>k (x::r')):=rfl
def ev (ρ:List Value):Operand→Value
 | .tmp t=>gt ρ t
 | .const v=>v
 | .global g=>.pointer (some ⟨g,0,none⟩)
 | .func f=>.func (.func f) #[] #[]
def VP (ρ:List Value):Operand→(Value→Prop)→Prop
 | .tmp t,k=>EX ρ t k
 | .const v,k=>k v
 | .global g,k=>k (.pointer (some ⟨g,0,none⟩))
 | .func f,k=>k (.func (.func f) #[] #[])
def TK (ρ:List Value) (l:List Operand):(List Value→Prop)→Prop :=
 List.rec (motive:=fun _=>(List Value→Prop)→Prop) (fun k=>k []) (fun x _ ih k=>VP ρ x fun v=>ih fun vs=>k (v::vs)) l
theorem adi (ρ:List Value) (x:Operand) (r:List Operand) (k:List Value→Prop):TK ρ (x::r) k=VP ρ x fun v=>TK ρ r fun vs=>k (v::vs):=rfl
def WU (ρ:List Value) (d:Option Nat) (v:Value) (k:List Value→Prop):Prop :=
 match d with
 | none=>k ρ
 | some d=>IY ρ d v k
theorem Pc (ρ:List Value) (n:Nat) (k:Value→Prop):EX ρ n k=k (gt ρ n):=by
 induction ρ generalizing n with
 | nil=>rfl
 | cons v r ih=>cases n with
  | zero=>rfl
  | succ n=>exact ih n
theorem Tl (ρ:List Value) (n:Nat) (v:Value) (k:List Value→Prop):IY ρ n v k=k (ρ.set n v):=by
 induction ρ generalizing n k with
 | nil=>simp [afV]
 | cons x r ih=>cases n with
  | zero=>rfl
  | succ n=>simp [adN,ih]
theorem SG (ρ:List Value) (x:Operand) (k:Value→Prop):VP ρ x k=k (ev ρ x):=by
 cases x <;> simp [VP,ev,Pc]
theorem LY (ρ:List Value) (xs:List Operand) (k:List Value→Prop):TK ρ xs k=k (xs.map (ev ρ)):=by
 induction xs generalizing k with
 | nil=>rfl
 | cons x r ih=>simp [adi,SG,ih]
def put (ρ:List Value) (d:Option Nat) (v:Value):List Value :=
 match d with
 | none=>ρ
 | some d=>ρ.set d v
theorem Ya (ρ:List Value) (d:Option Nat) (v:Value) (k:List Value→Prop):WU ρ d v k=k (put ρ d v):=by
 cases d <;> simp [WU,put,Tl]
theorem Qg (ρ:List Value) (n:Nat):gt ρ n=ρ.toArray.getD n undef:=by
 induction ρ generalizing n with
 | nil=>simp [gt]
 | cons v r ih=>cases n with
  | zero=>simp [gt]
  | succ n=>simp [gt,ih]
theorem Ys (ρ:List Value):(⟨ρ.toArray,[]⟩:Act).eval=ev ρ:=by
 funext x;cases x <;> simp [Act.eval,ev,Qg]
theorem put_eq (ρ:List Value) (d:Option Nat) (v:Value):(⟨ρ.toArray,[]⟩:Act).put d v=⟨(put ρ d v).toArray,[]⟩:=by
 cases d <;> simp [Act.put,put]
def TJ (k:IntKind) (x y:Int):Int:=k.wrap (BitVec.ofInt k.bits x &&& BitVec.ofInt k.bits y).toNat
def R1 (k:IntKind) (x y:Int):Int:=k.wrap (BitVec.ofInt k.bits x ||| BitVec.ofInt k.bits y).toNat
def QF (k:IntKind) (x y:Int):Int:=k.wrap (BitVec.ofInt k.bits x ^^^ BitVec.ofInt k.bits y).toNat
def Rt (k:IntKind) (x y:Int):Int:=k.wrap (BitVec.ofInt k.bits x &&& ~~~(BitVec.ofInt k.bits y)).toNat
def Wi (k:IntKind) (x y:Int):Int:=k.wrap (x * 2 ^ min y.toNat k.bits)
def W0 (k:IntKind) (x y:Int):Int:=x.fdiv (2 ^ min y.toNat k.bits)
def ZO (k:IntKind) (x:Int):Int:=k.wrap x
def Tk (k:IntKind) (x y:Int):Int:=k.wrap (x.tdiv y)
def SF (x y:Int):Int:=x.tmod y
theorem adO:∃f:Int→Int→Bool,∀x y,f x y=decide (x<y):=⟨_,fun _ _=>rfl⟩
theorem adP:∃f:Int→Int→Bool,∀x y,f x y=decide (x≤y):=⟨_,fun _ _=>rfl⟩
theorem adQ:∃f:Int→Int→Bool,∀x y,f x y=(x == y):=⟨_,fun _ _=>rfl⟩
theorem adR:∃f:Int→Int→Bool,∀x y,f x y=(x != y):=⟨_,fun _ _=>rfl⟩
noncomputable def GR:Int→Int→Bool:=Classical.choose adO
noncomputable def JX:Int→Int→Bool:=Classical.choose adP
noncomputable def LX:Int→Int→Bool:=Classical.choose adQ
noncomputable def FB:Int→Int→Bool:=Classical.choose adR
theorem SE (x y:Int):GR x y=decide (x<y):=Classical.choose_spec adO x y
theorem SD (x y:Int):JX x y=decide (x≤y):=Classical.choose_spec adP x y
theorem SC (x y:Int):LX x y=(x == y):=Classical.choose_spec adQ x y
theorem SB (x y:Int):FB x y=(x != y):=Classical.choose_spec adR x y
attribute [irreducible] TJ R1 QF Rt Wi W0 ZO Tk SF GR JX LX FB
def BF:IntKind→IntKind→Bool
 | .i8,.i8|.i16,.i16|.i32,.i32|.i64,.i64|.u8,.u8|.u16,.u16|.u32,.u32|.u64,.u64=>true
 | _,_=>false
theorem adS {k k':IntKind} (h:BF k k'=true):k=k':=by cases k <;> cases k' <;> first|rfl|cases h
inductive Ze (P:Program) (m:Sem Value) (w:World) (K:Value→World→Prop):Prop
 | mk (v:Value) (w':World) (h:m.run P w=.ok v w') (k:K v w')
inductive IX (P:Program) (m:Sem Unit) (w:World) (K:World→Prop):Prop
 | mk (w':World) (h:m.run P w=.ok () w') (k:K w')
structure Fc (P:Program) (f:FuncId) (args:Array Value) (w:World) (R:Value→World→Prop):Prop where
 afW:(callFunc f args).run P w=.ok (.enter f args) w
 calls:Calls P f args w fun e w'=>∃v,e=.returned v∧R v w'
inductive Z7 (P:Program) (f:FuncId) (args:Array Value) (w:World) (K:Value→World→Prop):Prop
 | mk (h:Fc P f args w K)
inductive KB (P:Program) (recv:Value) (name:String) (args:Array Value) (w:World) (K:Value→World→Prop):Prop
 | mk (f:FuncId) (r:Value) (w1:World) (t:TypeId) (v:Value) (hr:recv=.iface t v)
   (hm:(method (P.types.size+Made.depth) t v name).run P w=.ok (f,r) w1) (h:Fc P f (#[r]++args) w1 K)
def NP (b:Bool) (k:Bool→Prop):Prop:=match b with
 | true=>k true
 | false=>k false
theorem S7 (b:Bool) (k:Bool→Prop):NP b k=k b:=by cases b <;> rfl
theorem br {b:Bool} {X Y:Prop} (t:b=true→X) (f:b=false→Y):NP.match_1 (fun _=>Prop) b (fun _=>X) (fun _=>Y):=by
 cases b
 ·exact f rfl
 ·exact t rfl
theorem VM {b:Bool} {X Y:Prop} (h:b=true) (t:X):NP.match_1 (fun _=>Prop) b (fun _=>X) (fun _=>Y):=by subst h;exact t
theorem X8 {b:Bool} {X Y:Prop} (h:b=false) (f:Y):NP.match_1 (fun _=>Prop) b (fun _=>X) (fun _=>Y):=by subst h;exact f
inductive Wb (b:Int) (K:Prop):Prop
 | mk (h:b≠0) (k:K)
inductive YF (b:Int) (K:Prop):Prop
 | mk (h:0≤b) (k:K)
inductive WT (e:Int) (K:Int→Prop):Prop
 | mk (m:Int) (h:e=m) (k:K m)
theorem WT.keep {e:Int} {K:Int→Prop} (k:K e):WT e K:=⟨e,rfl,k⟩
theorem WT.imp {e:Int} {K K':Int→Prop} (h:WT e K) (hk:∀m,K m→K' m):WT e K':=by obtain ⟨m,e,k⟩:=h;exact ⟨m,e,hk _ k⟩
def SA (op:BinOp) (k:IntKind) (a b:Int) (K:Value→Prop):Prop :=
 match op with
 | .add=>WT (ZO k (a+b)) fun n=>K (.int k n)
 | .sub=>WT (ZO k (a-b)) fun n=>K (.int k n)
 | .mul=>WT (ZO k (a * b)) fun n=>K (.int k n)
 | .quo=>Wb b (WT (Tk k a b) fun n=>K (.int k n))
 | .rem=>Wb b (WT (SF a b) fun n=>K (.int k n))
 | .and=>WT (TJ k a b) fun n=>K (.int k n)
 | .or=>WT (R1 k a b) fun n=>K (.int k n)
 | .xor=>WT (QF k a b) fun n=>K (.int k n)
 | .andNot=>WT (Rt k a b) fun n=>K (.int k n)
 | .eql=>K (.bool (LX a b))
 | .neq=>K (.bool (FB a b))
 | .lss=>K (.bool (GR a b))
 | .leq=>K (.bool (JX a b))
 | .gtr=>K (.bool (GR b a))
 | .geq=>K (.bool (JX b a))
 | _=>False
def Iz (P:Program) (op:BinOp) (t:TypeId) (x y:Operand) (a b:Value) (w:World) (K:Value→World→Prop):Prop :=
 match a with
 | .int k a=>match b with
  | .int k' b=>match op with
   | .shl=>YF b (WT (Wi k a b) fun n=>K (.int k n) w)
   | .shr=>YF b (WT (W0 k a b) fun n=>K (.int k n) w)
   | op=>match BF k k' with
    | true=>SA op k a b fun v=>K v w
    | false=>False
  | b=>Ze P (do eqGuard op t x y (.int k a) b;binOp op t (.int k a) b) w K
 | a=>Ze P (do eqGuard op t x y a b;binOp op t a b) w K
def KA (l:List Value):List Value→(List Value→Prop)→Prop :=
 List.rec (motive:=fun _=>List Value→(List Value→Prop)→Prop) (fun ys k=>k ys) (fun x _ ih ys k=>ih ys fun zs=>k (x::zs)) l
theorem adj (x:Value) (xs ys:List Value) (k:List Value→Prop):KA (x::xs) ys k=KA xs ys fun zs=>k (x::zs):=rfl
theorem Od (xs ys:List Value) (k:List Value→Prop):KA xs ys k=k (xs++ys):=by
 induction xs generalizing k with
 | nil=>rfl
 | cons x xs ih=>simp [adj,ih]
def Qf (P:Program) (f:Value) (args:List Value) (w:World) (K:Value→World→Prop):Prop :=
 match f with
 | .func fn first captured=>match fn with
  | .func id=>KA args captured.toList fun a=>KA first.toList a fun a=>Z7 P id a.toArray w K
  | _=>False
 | _=>False
def Kz (l:List Value):Nat→(Value→Prop)→Prop :=
 List.rec (motive:=fun _=>Nat→(Value→Prop)→Prop) (fun _ _=>False) (fun v _ ih n k=>Nat.rec (motive:=fun _=>Prop) (k v) (fun m _=>ih m k) n) l
theorem Oc {l:List Value} {n:Nat} {k:Value→Prop} (h:Kz l n k):∃v,l[n]?=some v∧k v:=by
 induction l generalizing n with
 | nil=>exact h.elim
 | cons x r ih=>cases n with
  | zero=>exact ⟨x,rfl,h⟩
  | succ n=>simpa using ih (n:=n) h
theorem adT {l:List Value} {n:Nat} {k k':Value→Prop} (h:Kz l n k) (hk:∀v,k v→k' v):Kz l n k':=by
 induction l generalizing n with
 | nil=>exact h.elim
 | cons x r ih=>cases n with
  | zero=>exact hk _ h
  | succ n=>exact ih (n:=n) h
def Di (P:Program) (op:UnOp) (a:Value) (w:World) (K:Value→World→Prop):Prop :=
 match op with
 | .not=>match a with
  | .bool b=>K (.bool (!b)) w
  | _=>False
 | .neg=>match a with
  | .int k n=>WT (ZO k (0-n)) fun m=>K (.int k m) w
  | _=>False
 | op=>Ze P (Op.unary op a) w K
def aj0 (P:Program) (src dst:TypeId) (a:Value) (w:World) (K:Value→World→Prop):Prop :=
 Ze P (convert src dst a) w K
def Iy (v:Value) (w:World) (K:Value→World→Prop):Prop :=
 match v with
 | .pointer p=>match p with
  | some a=>K (.pointer (some a)) w
  | none=>False
 | .func fn a b=>match fn with
  | .func f=>K (.func (.func f) a b) w
  | _=>False
 | .iface t x=>K (.iface t x) w
 | _=>False
def Pb (ρ:List Value) (l:List (Nat × Operand)):(List (Nat × Value)→Prop)→Prop :=
 List.rec (motive:=fun _=>(List (Nat × Value)→Prop)→Prop) (fun k=>k []) (fun p _ ih k=>match p with
  | (i,x)=>VP ρ x fun v=>ih fun vs=>k ((i,v)::vs)) l
theorem aa0 (ρ:List Value) (i:Nat) (x:Operand) (r:List (Nat × Operand)) (k:List (Nat × Value)→Prop):Pb ρ ((i,x)::r) k=VP ρ x fun v=>Pb ρ r fun vs=>k ((i,v)::vs):=rfl
theorem Pa (ρ:List Value) (xs:List (Nat × Operand)) (k:List (Nat × Value)→Prop) :
  Pb ρ xs k=k (xs.map fun (i,x)=>(i,ev ρ x)):=by
 induction xs generalizing k with
 | nil=>rfl
 | cons x r ih=>obtain ⟨i,x⟩:=x;simp [aa0,SG,ih]
def LW (ρ:List Value):Option Operand→(Option Value→Prop)→Prop
 | none,k=>k none
 | some x,k=>VP ρ x fun v=>k (some v)
theorem LV (ρ:List Value) (x:Option Operand) (k:Option Value→Prop):LW ρ x k=k (x.map (ev ρ)):=by
 cases x <;> simp [LW,SG]
def HU (v:Value) (i:Nat) (w:World) (K:Value→World→Prop):Prop :=
 match v with
 | .tuple vs=>Kz vs.toList i fun v=>K v w
 | _=>False
def Ky (P:Program) (o:Oper) (ρ:List Value) (w:World) (K:Value→World→Prop):Prop :=
 match o.op with
 | .move x=>VP ρ x fun v=>K v w
 | .assign x=>VP ρ x fun v=>K v w
 | .pick c a b=>VP ρ c fun c=>match c with
  | .bool c=>NP c fun c=>match c with
   | true=>VP ρ a fun v=>K v w
   | false=>VP ρ b fun v=>K v w
  | _=>False
 | .alloc t=>Ze P (Instr.alloc t true (.tuple #[])) w K
 | .box t x=>VP ρ x fun v=>Ze P (Instr.box t v) w K
 | .build t parts=>Pb ρ parts.toList fun vs=>Ze P (Instr.build t vs.toArray) w K
 | .buildSlice t n parts=>Pb ρ parts.toList fun vs=>Ze P (Instr.buildSlice t n vs.toArray) w K
 | .load t x=>VP ρ x fun a=>Ze P (Instr.loadAt t a) w K
 | .store t x y=>VP ρ x fun a=>VP ρ y fun v=>IX P (Instr.storeAt t a v) w (K undef)
 | .nilCheck x=>VP ρ x fun v=>Iy v w K
 | .binOp op t x y _=>VP ρ x fun a=>VP ρ y fun b=>Iz P op t x y a b w K
 | .unOp op _ x=>VP ρ x fun a=>Di P op a w K
 | .convert s d x=>VP ρ x fun a=>aj0 P s d a w K
 | .makeInterface t x=>VP ρ x fun a=>Ze P (Instr.makeInterface t a) w K
 | .makeFunc fn first captured=>TK ρ first.toList fun fs=>TK ρ captured.toList fun cs=>K (.func fn fs.toArray cs.toArray) w
 | .makeSlice t l c=>VP ρ l fun l=>VP ρ c fun c=>Ze P (Instr.makeSlice t l c) w K
 | .slice t x lo hi mx=>VP ρ x fun a=>LW ρ lo fun lo=>LW ρ hi fun hi=>LW ρ mx fun mx=>Ze P (Instr.sliceAt t a lo hi mx) w K
 | .fieldAddr t x f=>VP ρ x fun a=>Ze P (Instr.fieldAt t a f) w K
 | .field t x f=>VP ρ x fun a=>Ze P (Instr.field t a f) w K
 | .indexAddr t x i=>VP ρ x fun a=>VP ρ i fun i=>Ze P (Instr.indexAt t a i) w K
 | .index t x i=>VP ρ x fun a=>VP ρ i fun i=>Ze P (Instr.index t a i) w K
 | .extract x i=>VP ρ x fun v=>HU v i w K
 | .typeAssert x t u ok=>VP ρ x fun a=>Ze P (Instr.typeAssert a t u ok) w K
 | .call c=>match c.callee with
  | .value f=>VP ρ f fun f=>TK ρ c.args.toList fun vs=>Qf P f vs w K
  | .builtin .append=>TK ρ c.args.toList fun vs=>Ze P (Builtin.append_ c.argTypes o.type vs.toArray) w K
  | .builtin .len=>TK ρ c.args.toList fun vs=>Ze P (Builtin.len_ c.argTypes o.type vs.toArray) w K
  | .builtin .copy=>TK ρ c.args.toList fun vs=>Ze P (Builtin.copy_ c.argTypes o.type vs.toArray) w K
  | .builtin .max=>TK ρ c.args.toList fun vs=>Ze P (Builtin.max_ c.argTypes o.type vs.toArray) w K
  | .builtin .min=>TK ρ c.args.toList fun vs=>Ze P (Builtin.min_ c.argTypes o.type vs.toArray) w K
  | .builtin .cap=>TK ρ c.args.toList fun vs=>Ze P (Builtin.cap_ c.argTypes o.type vs.toArray) w K
  | .builtin .clear=>TK ρ c.args.toList fun vs=>Ze P (Builtin.clear_ c.argTypes o.type vs.toArray) w K
  | .builtin .delete=>TK ρ c.args.toList fun vs=>Ze P (Builtin.delete_ c.argTypes o.type vs.toArray) w K
  | .builtin .unsafeSliceData=>TK ρ c.args.toList fun vs=>Ze P (Builtin.unsafeSliceData_ c.argTypes o.type vs.toArray) w K
  | .builtin .unsafeString=>TK ρ c.args.toList fun vs=>Ze P (Builtin.unsafeString_ c.argTypes o.type vs.toArray) w K
  | .invoke r name=>VP ρ r fun r=>TK ρ c.args.toList fun vs=>KB P r name vs.toArray w K
  | _=>False
 | .makeMap t r=>LW ρ r fun r=>Ze P (Instr.makeMap t r) w K
 | .lookup t x i ok=>VP ρ x fun a=>VP ρ i fun i=>Ze P (Instr.lookup t a i ok) w K
 | .mapUpdate t m k x=>VP ρ m fun m=>VP ρ k fun k=>VP ρ x fun x=>IX P (Instr.mapUpdate t m k x) w (K undef)
 | .range t x=>VP ρ x fun a=>Ze P (Instr.range t a) w K
 | .next it st=>VP ρ it fun a=>Ze P (Instr.next a st o.type) w K
 | .entry it=>VP ρ it fun a=>Ze P (Instr.entry a) w K
 | _=>False
theorem Ze.imp {P:Program} {m:Sem Value} {w:World} {K K':Value→World→Prop} (h:Ze P m w K) (hk:∀v w',K v w'→K' v w'):Ze P m w K':=by
 obtain ⟨v,w',h,k⟩:=h;exact ⟨v,w',h,hk _ _ k⟩
theorem IX.imp {P:Program} {m:Sem Unit} {w:World} {K K':World→Prop} (h:IX P m w K) (hk:∀w',K w'→K' w'):IX P m w K':=by
 obtain ⟨w',h,k⟩:=h;exact ⟨w',h,hk _ k⟩
theorem Fc.imp {P:Program} {f:FuncId} {args:Array Value} {w:World} {R R':Value→World→Prop} (h:Fc P f args w R) (hk:∀v w',R v w'→R' v w'):Fc P f args w R' :=
 ⟨h.afW,h.calls.mono fun _ _ ⟨v,he,hr⟩=>⟨v,he,hk _ _ hr⟩⟩
theorem Z7.imp {P:Program} {f:FuncId} {args:Array Value} {w:World} {R R':Value→World→Prop} (h:Z7 P f args w R) (hk:∀v w',R v w'→R' v w'):Z7 P f args w R':=by
 obtain ⟨h⟩:=h;exact ⟨h.imp hk⟩
theorem KB.imp {P:Program} {r:Value} {n:String} {args:Array Value} {w:World} {R R':Value→World→Prop} (h:KB P r n args w R) (hk:∀v w',R v w'→R' v w'):KB P r n args w R':=by
 obtain ⟨f,r,w1,t,v,hr,hm,h⟩:=h;exact ⟨f,r,w1,t,v,hr,hm,h.imp hk⟩
theorem abR {op:BinOp} {k:IntKind} {a b:Int} {K K':Value→Prop} (h:SA op k a b K) (hk:∀v,K v→K' v):SA op k a b K':=by
 cases op <;> simp only [SA] at h⊢<;> first|exact hk _ h|exact h.imp fun m=>hk _|(obtain ⟨h,k⟩:=h;exact ⟨h,k.imp fun m=>hk _⟩)|exact h
theorem adU {P:Program} {op:BinOp} {t:TypeId} {x y:Operand} {a b:Value} {w:World} {K K':Value→World→Prop}
  (h:Iz P op t x y a b w K) (hk:∀v w',K v w'→K' v w'):Iz P op t x y a b w K':=by
 unfold Iz at h ⊢
 split at h
 ·split at h
  ·split at h
   ·obtain ⟨h,k⟩:=h;exact ⟨h,k.imp fun m=>hk _ _⟩
   ·obtain ⟨h,k⟩:=h;exact ⟨h,k.imp fun m=>hk _ _⟩
   ·split at h
    ·exact abR h fun v=>hk v w
    ·exact h
  ·exact h.imp hk
 ·exact h.imp hk
theorem afX {P:Program} {op:UnOp} {a:Value} {w:World} {K K':Value→World→Prop}
  (h:Di P op a w K) (hk:∀v w',K v w'→K' v w'):Di P op a w K':=by
 unfold Di at h ⊢
 split at h
 ·split at h
  ·grind
  ·exact h
 ·split at h
  ·exact h.imp fun m=>hk _ _
  ·exact h
 ·exact h.imp hk
theorem adV {a:Value} {w:World} {K K':Value→World→Prop}
  (h:Iy a w K) (hk:∀v w',K v w'→K' v w'):Iy a w K':=by
 unfold Iy at h ⊢
 split at h
 ·split at h
  ·grind
  ·exact h
 ·split at h
  ·grind
  ·exact h
 ·grind
 ·exact h
theorem adW {a:Value} {i:Nat} {w:World} {K K':Value→World→Prop}
  (h:HU a i w K) (hk:∀v w',K v w'→K' v w'):HU a i w K':=by
 unfold HU at h ⊢
 split at h
 ·exact adT h fun v=>hk v w
 ·exact h
theorem aa1 {P:Program} {f:Value} {vs:List Value} {w:World} {K K':Value→World→Prop}
  (h:Qf P f vs w K) (hk:∀v w',K v w'→K' v w'):Qf P f vs w K':=by
 unfold Qf at h ⊢
 simp only [Od] at h ⊢
 split at h
 ·split at h
  ·exact h.imp hk
  ·exact h
 ·exact h
theorem LU {P:Program} {o:Oper} {ρ:List Value} {w:World} {K K':Value→World→Prop}
  (h:Ky P o ρ w K) (hk:∀v w',K v w'→K' v w'):Ky P o ρ w K':=by
 unfold Ky at h ⊢
 simp only [SG,LY,Pa,LV,S7] at h ⊢
 split at h <;> first
  | exact h.imp hk
  | exact hk _ _ h
  | exact adU h hk
  | exact afX h hk
  | exact Ze.imp h hk
  | exact adV h hk
  | exact adW h hk
  | exact h.imp fun w'=>hk _ w'
  | exact h
  | (split at h <;> first|exact aa1 h hk|exact Ze.imp h hk|exact KB.imp h hk|exact h|(split at h <;> exact hk _ _ h))
theorem Y0 {P:Program} {o:Oper} {a:Act} {m:Sem Value} {w:World} {next:Act→World→Prop} {Q:Exit→Act→World→Prop}
  (he:execOp a.eval o=(do pure (.value (←m)))) (h:Ze P m w fun v w'=>next (a.put o.dst v) w'):o.wp P a w next Q:=by
 obtain ⟨v,w',hm,k⟩:=h
 simp only [Oper.wp,he,Sem.run_bind,hm,Result.andThen_ok,Sem.run_pure,Oper.upon]
 exact k
theorem Vn {P:Program} {o:Oper} {a:Act} {v:Value} {w w':World} {next:Act→World→Prop} {Q:Exit→Act→World→Prop}
  (he:(execOp a.eval o).run P w=.ok (.value v) w') (h:next (a.put o.dst v) w'):o.wp P a w next Q:=by grind [Oper.wp,Oper.upon]
theorem adk {P:Program} {o:Oper} {a:Act} {f:FuncId} {args:Array Value} {w:World} {next:Act→World→Prop} {Q:Exit→Act→World→Prop}
  (he:(execOp a.eval o).run P w=(callFunc f args).run P w) (h:Fc P f args w fun v w'=>next (a.put o.dst v) w'):o.wp P a w next Q:=by
 obtain ⟨h1,h2⟩:=h
 simp only [Oper.wp,he,h1,Oper.upon]
 refine h2.mono ?_
 rintro e w' ⟨v,rfl,hr⟩
 exact hr
theorem aaT {P:Program} {op:BinOp} {k:IntKind} {t:TypeId} {x y:Operand} {a b:Int} {w:World} {K:Value→Prop} (amq:op≠.shl) (amr:op≠.shr)
  (h:SA op k a b K):Ze P (do eqGuard op t x y (.int k a) (.int k b);binOp op t (.int k a) (.int k b)) w fun v w'=>w'=w∧K v:=by
 have hg:(eqGuard op t x y (.int k a) (.int k b)).run P w=.ok () w:=by simp [eqGuard]
 cases op <;> simp only [SA] at h <;> first
  | (obtain ⟨hb,_,rfl,h⟩:=h;refine ⟨_,w,?_,rfl,h⟩;simp only [Sem.run_bind,hg,Result.andThen_ok];simp [binOp,Op.intDiv,hb,Tk,SF])
  | (obtain ⟨_,rfl,h⟩:=h;refine ⟨_,w,?_,rfl,h⟩;simp only [Sem.run_bind,hg,Result.andThen_ok];simp [binOp,Op.intArith,Op.intBits,Op.intCmp,ZO,TJ,R1,QF,Rt,SC,SB,SE,SD])
  | (refine ⟨_,w,?_,rfl,h⟩;simp only [Sem.run_bind,hg,Result.andThen_ok];simp [binOp,Op.intArith,Op.intBits,Op.intCmp,ZO,TJ,R1,QF,Rt,SC,SB,SE,SD])
  | contradiction
  | exact h.elim
theorem abS {P:Program} {op:BinOp} {t:TypeId} {x y:Operand} {a b:Value} {w:World} {K:Value→World→Prop}
  (h:Iz P op t x y a b w K):Ze P (do eqGuard op t x y a b;binOp op t a b) w K:=by
 unfold Iz at h
 split at h
 ·split at h
  ·split at h
   ·obtain ⟨hb,_,rfl,h⟩:=h
    refine ⟨_,w,?_,h⟩
    simp only [eqGuard,Sem.run_bind];simp [binOp,Op.shift,Wi,Int.not_lt.2 hb]
   ·obtain ⟨hb,_,rfl,h⟩:=h
    refine ⟨_,w,?_,h⟩
    simp only [eqGuard,Sem.run_bind];simp [binOp,Op.shift,W0,Int.not_lt.2 hb]
   ·rename_i Ue hk2
    split at h
    ·rename_i hk
     obtain rfl:=adS hk
     exact (aaT (fun e=>Ue e) (fun e=>hk2 e) h).imp fun v w' ⟨e,k⟩=>e ▸ k
    ·exact h.elim
  ·exact h
 ·exact h
theorem Ui {P:Program} {o:Oper} {ρ:List Value} {w:World} {K:Value→World→Prop} {next:Act→World→Prop} {Q:Exit→Act→World→Prop}
  (h:Ky P o ρ w K) (hn:∀v w',K v w'→next ((⟨ρ.toArray,[]⟩:Act).put o.dst v) w'):o.wp P ⟨ρ.toArray,[]⟩ w next Q:=by
 have h:=LU h hn
 clear hn
 unfold Ky at h
 simp only [SG,LY,Pa,LV,S7] at h
 split at h
 case h_1 x ho=>exact Vn (v:=ev ρ x) (w':=w) (by rw [Ys];unfold execOp;rw [ho];rfl) h
 case h_2 x ho=>exact Vn (v:=ev ρ x) (w':=w) (by rw [Ys];unfold execOp;rw [ho];rfl) h
 case h_3 c a b ho =>
  split at h
  ·rename_i cb hc
   split at h
   ·exact Vn (v:=ev ρ a) (w':=w) (by rw [Ys];unfold execOp;rw [ho];simp [hc,asBool]) h
   ·exact Vn (v:=ev ρ b) (w':=w) (by rw [Ys];unfold execOp;rw [ho];simp [hc,asBool]) h
  ·grind
 case h_4 t ho=>exact Y0 (by grind [execOp]) h
 case h_5 t x ho=>exact Y0 k_l h
 case h_6 t ps ho =>
  refine Y0 (m:=Instr.build t ((ps.toList.map fun (i,x)=>(i,ev ρ x)).toArray)) (by rw [Ys];unfold execOp;rw [ho];simp [←Array.toList_map]) h
 case h_7 t n ps ho =>
  refine Y0 (m:=Instr.buildSlice t n ((ps.toList.map fun (i,x)=>(i,ev ρ x)).toArray)) (by rw [Ys];unfold execOp;rw [ho];simp [←Array.toList_map]) h
 case h_8 t x ho=>exact Y0 k_l h
 case h_9 t x y ho =>
  obtain ⟨w',hm,k⟩:=h
  have he:(execOp (⟨ρ.toArray,[]⟩:Act).eval o).run P w=.ok .skip w':=by
   rw [Ys];unfold execOp;rw [ho];simp only [Sem.run_bind,hm,Result.andThen_ok,Sem.run_pure]
  simp only [Oper.wp,he,Oper.upon]
  exact k
 case h_10 x ho =>
  have he:∀u,Iy (ev ρ x) w u→∃v,(execOp (ev ρ) o).run P w=.ok (.value v) w∧u v w:=by
   intro u hu
   unfold Iy at hu
   unfold execOp
   rw [ho]
   simp only
   split at hu
   ·rename_i p hp
    split at hu
    ·exact ⟨_,by rw [hp];rfl,hu⟩
    ·grind
   ·rename_i fn a b hp
    split at hu
    ·exact ⟨_,by rw [hp];rfl,hu⟩
    ·grind
   ·rename_i t v hp
    exact ⟨_,by rw [hp];rfl,hu⟩
   ·grind
  obtain ⟨v,h1,h2⟩:=he _ h
  exact Vn (by grind [Ys]) h2
 case h_11 op t x y yt ho=>exact Y0 k_l (abS h)
 case h_12 op t x ho =>
  unfold Di at h
  split at h
  ·split at h
   ·rename_i b hb
    refine Vn (v:=.bool (!b)) (w':=w) ?_ h
    rw [Ys];unfold execOp;rw [ho];simp [hb,Op.unary]
   ·grind
  ·split at h
   ·rename_i k n hb
    obtain ⟨_,rfl,h⟩:=h
    refine Vn (v:=.int k (ZO k (0-n))) (w':=w) ?_ h
    rw [Ys];unfold execOp;rw [ho];simp [hb,Op.unary,Op.intArith,ZO]
   ·grind
  ·exact Y0 k_l h
 case h_13 s d x ho=>exact Y0 k_l h
 case h_14 t x ho=>exact Y0 k_l h
 case h_15 fn fs cs ho =>
  refine Vn (w':=w) ?_ h
  rw [Ys];unfold execOp;rw [ho];simp [Instr.makeFunc,←Array.toList_map]
 case h_16 t l c ho=>exact Y0 k_l h
 case h_17 t x lo hi mx ho=>exact Y0 k_l h
 case h_18 t x f ho=>exact Y0 k_l h
 case h_19 t x f ho=>exact Y0 k_l h
 case h_20 t x i ho=>exact Y0 k_l h
 case h_21 t x i ho=>exact Y0 k_l h
 case h_22 x i ho =>
  unfold HU at h
  split at h
  ·rename_i vs hv
   obtain ⟨u,hu,h⟩:=Oc h
   refine Vn (v:=u) (w':=w) ?_ h
   rw [Ys];unfold execOp;rw [ho]
   simp only [Array.getElem?_toList] at hu
   simp [hv,Instr.extract,hu]
  ·grind
 case h_23 x t u ok ho=>exact Y0 k_l h
 case h_24 c ho =>
  have hargs:∀(xs:Array Operand),(xs.toList.map (ev ρ)).toArray=xs.map (ev ρ):=fun xs=>by simp [←Array.toList_map]
  split at h
  ·rename_i f hf
   unfold Qf at h
   simp only [Od] at h
   split at h
   ·rename_i fn fst cap hv
    split at h
    ·rename_i id
     obtain ⟨h⟩:=h
     refine adk (f:=id) ?_ h
     have he:(fst.toList++(List.map (ev ρ) c.args.toList++cap.toList)).toArray=fst++Array.map (ev ρ) c.args++cap:=by simp
     rw [Ys];unfold execOp;rw [ho]
     simp only [resolve,hf,hv,Deferred.ofValue,Sem.run_bind,Sem.run_pure,Result.andThen_ok,invoke,he]
    ·grind
   ·grind
  ·rename_i hc
   refine Y0 (m:=Builtin.append_ c.argTypes o.type (c.args.map (ev ρ))) ?_ k_v
   rw [Ys];unfold execOp;rw [ho];simp only [resolve,hc,pure_bind,invoke,builtin]
  ·rename_i hc
   refine Y0 (m:=Builtin.len_ c.argTypes o.type (c.args.map (ev ρ))) ?_ k_v
   rw [Ys];unfold execOp;rw [ho];simp only [resolve,hc,pure_bind,invoke,builtin]
  ·rename_i hc
   refine Y0 (m:=Builtin.copy_ c.argTypes o.type (c.args.map (ev ρ))) ?_ k_v
   rw [Ys];unfold execOp;rw [ho];simp only [resolve,hc,pure_bind,invoke,builtin]
  ·rename_i hc
   refine Y0 (m:=Builtin.max_ c.argTypes o.type (c.args.map (ev ρ))) ?_ k_v
   rw [Ys];unfold execOp;rw [ho];simp only [resolve,hc,pure_bind,invoke,builtin]
  ·rename_i hc
   refine Y0 (m:=Builtin.min_ c.argTypes o.type (c.args.map (ev ρ))) ?_ k_v
   rw [Ys];unfold execOp;rw [ho];simp only [resolve,hc,pure_bind,invoke,builtin]
  ·rename_i hc
   refine Y0 (m:=Builtin.cap_ c.argTypes o.type (c.args.map (ev ρ))) ?_ k_v
   rw [Ys];unfold execOp;rw [ho];simp only [resolve,hc,pure_bind,invoke,builtin]
  ·rename_i hc
   refine Y0 (m:=Builtin.clear_ c.argTypes o.type (c.args.map (ev ρ))) ?_ k_v
   rw [Ys];unfold execOp;rw [ho];simp only [resolve,hc,pure_bind,invoke,builtin]
  ·rename_i hc
   refine Y0 (m:=Builtin.delete_ c.argTypes o.type (c.args.map (ev ρ))) ?_ k_v
   rw [Ys];unfold execOp;rw [ho];simp only [resolve,hc,pure_bind,invoke,builtin]
  ·rename_i hc
   refine Y0 (m:=Builtin.unsafeSliceData_ c.argTypes o.type (c.args.map (ev ρ))) ?_ k_v
   rw [Ys];unfold execOp;rw [ho];simp only [resolve,hc,pure_bind,invoke,builtin]
  ·rename_i hc
   refine Y0 (m:=Builtin.unsafeString_ c.argTypes o.type (c.args.map (ev ρ))) ?_ k_v
   rw [Ys];unfold execOp;rw [ho];simp only [resolve,hc,pure_bind,invoke,builtin]
  ·rename_i r name hc
   obtain ⟨f,rv,w1,t,v,hr,hm,h⟩:=h
   obtain ⟨h1,h2⟩:=h
   have he:(execOp (⟨ρ.toArray,[]⟩:Act).eval o).run P w=.ok (.enter f (#[rv]++(c.args.toList.map (ev ρ)).toArray)) w1:=by
    rw [Ys];unfold execOp;rw [ho]
    simp only [resolve,hc,pure_bind,invoke,hr]
    have e1:(#[Value.iface t v]++Array.map (ev ρ) c.args)[0]?=some (.iface t v):=by grind
    have e2:(#[Value.iface t v]++Array.map (ev ρ) c.args).extract 1 (#[Value.iface t v]++Array.map (ev ρ) c.args).size=Array.map (ev ρ) c.args:=by simp
    simp only [e1,e2,callMethod]
    have e3:∀(k:FuncId × Value→Sem Next),(do let __do_lift ←program;let x ←method (__do_lift.types.size+Made.depth) t v name;k x:Sem Next).run P w=(k (f,rv)).run P w1:=by
     intro k
     show (method (P.types.size+Made.depth) t v name >>= fun x=>k x).run P w=_
     rw [Sem.run_bind,hm];rfl
    rw [hargs] at h1 ⊢
    exact (e3 _).trans h1
   simp only [Oper.wp,he,Oper.upon]
   refine h2.mono ?_
   rintro e w' ⟨v,rfl,hr⟩
   exact hr
  ·grind
 case h_25 t r ho=>exact Y0 k_l h
 case h_26 t x i ok ho=>exact Y0 k_l h
 case h_27 t m k x ho =>
  obtain ⟨w',hm,k⟩:=h
  have he:(execOp (⟨ρ.toArray,[]⟩:Act).eval o).run P w=.ok .skip w':=by
   rw [Ys];unfold execOp;rw [ho];simp only [Sem.run_bind,hm,Result.andThen_ok,Sem.run_pure]
  simp only [Oper.wp,he,Oper.upon]
  exact k
 case h_28 t x ho=>exact Y0 k_l h
 case h_29 it st ho=>exact Y0 k_l h
 case h_30 it ho=>exact Y0 k_l h
 case h_31=>exact h.elim
def XZ (ops:List Oper) (g:Option (Nat × Bool)) (ρ:List Value) (k:Bool→List Value→Prop):Prop :=
 match g with
 | none=>k true ρ
 | some (j,want)=>match ops[j]? with
  | none=>False
  | some oj=>match oj.dst with
   | none=>False
   | some d=>EX ρ d fun v=>match v with
    | .bool b=>NP b fun b=>IY ρ d (.bool b) fun ρ=>match b with
     | true=>match want with
      | true=>k true ρ
      | false=>k false ρ
     | false=>match want with
      | true=>k false ρ
      | false=>k true ρ
    | .tuple _=>k false ρ
    | _=>False
def MC (P:Program) (ops:List Oper) (K:List Value→World→Prop) (l:List Oper):List Value→World→Prop :=
 List.rec (motive:=fun _=>List Value→World→Prop) K (fun o _ ih ρ w=>XZ ops o.guard ρ fun b ρ=>match b with
  | true=>Ky P o ρ w fun v w=>WU ρ o.dst v fun ρ=>ih ρ w
  | false=>WU ρ o.dst undef fun ρ=>ih ρ w) l
theorem adX (P:Program) (ops:List Oper) (K:List Value→World→Prop) (ρ:List Value) (w:World):MC P ops K [] ρ w=K ρ w:=rfl
theorem O9 (P:Program) (ops:List Oper) (K:List Value→World→Prop) (o:Oper) (r:List Oper) (ρ:List Value) (w:World):MC P ops K (o::r) ρ w=XZ ops o.guard ρ fun b ρ=>match b with
  | true=>Ky P o ρ w fun v w=>WU ρ o.dst v fun ρ=>MC P ops K r ρ w
  | false=>WU ρ o.dst undef fun ρ=>MC P ops K r ρ w:=rfl
def Vm (next:List Value→World→Prop) (Q:Exit→List Value→World→Prop) (e:Exit) (ρ:List Value) (w:World):Prop :=
 match e with
 | .normal=>next ρ w
 | e=>Q e ρ w
def Tj (id:Nat) (Q:Exit→List Value→World→Prop) (e:Exit) (ρ:List Value) (w:World):Prop :=
 match e with
 | .exit id'=>match id' == id with
  | true=>Q .normal ρ w
  | false=>Q (.exit id') ρ w
 | e=>Q e ρ w
def Rs (Q:Exit→List Value→World→Prop) (e:Exit) (ρ:List Value) (w:World):Prop :=
 match e with
 | .goto _=>False
 | e=>Q e ρ w
def Qe (l:Nat) (J:List Value→World→Prop) (Q:Exit→List Value→World→Prop) (e:Exit) (ρ:List Value) (w:World):Prop :=
 match e with
 | .goto l'=>l'=l∧J ρ w
 | e=>Q e ρ w
abbrev JW:=(Exit→List Value→World→Prop)→List Value→World→Prop
inductive Y9 (P:Program) (c:Code) (B:JW) (Q:Exit→List Value→World→Prop) (ρ:List Value) (w:World):Prop
 | mk (I:List Value→World→Prop) (μ:List Value→World→Nat) (h0:I ρ w)
   (round:∀ρ w,I ρ w→B (Vm (fun ρ' w'=>I ρ' w'∧μ ρ' w'<μ ρ w) Q) ρ w)
inductive NO (P:Program) (x y:Code) (B C:JW) (b:Bool) (Q:Exit→List Value→World→Prop) (ρ:List Value) (w:World):Prop
 | mk (t:b=true→B Q ρ w) (f:b=false→C Q ρ w)
inductive Gx (P:Program) (c:Code) (B:JW) (id:Nat) (Q:Exit→List Value→World→Prop) (ρ:List Value) (w:World):Prop
 | mk (h:B (Tj id Q) ρ w)
theorem cT {P:Program} {x y:Code} {B C:JW} {b:Bool} {Q:Exit→List Value→World→Prop} {ρ:List Value} {w:World} (h:b=true) (k:B Q ρ w):NO P x y B C b Q ρ w :=
 ⟨fun _=>k,fun e=>(by grind)⟩
theorem cF {P:Program} {x y:Code} {B C:JW} {b:Bool} {Q:Exit→List Value→World→Prop} {ρ:List Value} {w:World} (h:b=false) (k:C Q ρ w):NO P x y B C b Q ρ w :=
 ⟨fun e=>(by grind),fun _=>k⟩
theorem cI {P:Program} {x y:Code} {B C:JW} {b:Bool} {Q:Exit→List Value→World→Prop} {ρ:List Value} {w:World} (t:b=true→B Q ρ w) (f:b=false→C Q ρ w):NO P x y B C b Q ρ w:=⟨t,f⟩
theorem bk {P:Program} {c:Code} {B:JW} {id:Nat} {Q:Exit→List Value→World→Prop} {ρ:List Value} {w:World} (h:B (Tj id Q) ρ w):Gx P c B id Q ρ w:=⟨h⟩
def Yv (ops:List Oper):List Nat:=ops.filterMap fun o=>o.dst
def agree (ds:List Nat) (ρ ρ':List Value):Prop:=ρ'.length=ρ.length∧∀i,i∉ds→ρ'[i]?=ρ[i]?
def VL:Code→List Nat
 | .seq x y=>VL x++VL y
 | .cond _ x y=>VL x++VL y
 | .block _ c=>VL c
 | .loop c=>VL c
 | .scope c=>VL c
 | .region _ ops _=>Yv ops.toList
 | _=>[]
theorem aa2 {l:Nat}:∀{c rest:Code},findLabel c l=some rest→∀i,i∈VL rest→i∈VL c:=by
 intro c
 induction c with
 | seq x y JP IW =>
  intro rest h i hi
  unfold findLabel at h
  cases hx:findLabel x l with
  | some r =>
   rw [hx] at h
   obtain rfl:=Option.some.inj h
   rcases lDa.1 hi with hi|hi
   ·exact lkb _ (JP hx i hi)
   ·exact lAb _ hi
  | none=>rw [hx] at h;exact lAb _ (IW h i hi)
 | label l' =>
  intro rest h i hi
  unfold findLabel at h
  split at h
  ·obtain rfl:=Option.some.inj h;cases hi
  ·cases h
 | _=>intro rest h;simp [findLabel] at h
def lift (Q:Exit→List Value→World→Prop) (e:Exit) (a:Act) (w:World):Prop:=a.defers=[]∧Q e a.tmps.toList w
structure ams (P:Program) (c:Code) (M:JW):Prop where
 sound:∀{Q:Exit→List Value→World→Prop} {ρ:List Value} {w:World},M Q ρ w→c.wp P (lift Q) ⟨ρ.toArray,[]⟩ w
 imp:∀{Q Q':Exit→List Value→World→Prop} {ρ:List Value} {w:World},M Q ρ w→(∀e ρ w,Q e ρ w→Q' e ρ w)→M Q' ρ w
 frame:∀{Q:Exit→List Value→World→Prop} {ρ:List Value} {w:World},M Q ρ w→M (fun e ρ' w'=>Q e ρ' w'∧agree (VL c) ρ ρ') ρ w
inductive adY (P:Program) (c:Code) (B:JW) (Q:Exit→List Value→World→Prop) (ρ:List Value) (w:World):Prop
 | R0 (h:B (Rs Q) ρ w)
 | jumps (l:Nat) (rest:Code) (M:JW) (hM:ams P rest M) (J:List Value→World→Prop) (μ:List Value→World→Nat) (hf:findLabel c l=some rest) (first:B (Qe l J Q) ρ w)
   (pass:∀ρ w,J ρ w→M (Qe l (fun ρ' w'=>J ρ' w'∧μ ρ' w'<μ ρ w) Q) ρ w)
inductive NN (P:Program) (id:Nat) (ops:Array Oper) (K:List Value→World→Prop) (ρ:List Value) (w:World):Prop
 | mk (h:(Code.region id ops true).wp P (fun e a w'=>e=.normal∧a.defers=[]∧agree (Yv ops.toList) ρ a.tmps.toList∧K a.tmps.toList w') ⟨ρ.toArray,[]⟩ w)
def MO (P:Program) (c:Code):JW :=
 Code.rec (motive:=fun _=>JW)
  (fun Q ρ w=>Q .normal ρ w)
  (fun id ops draw Q ρ w=>match draw with
   | false=>MC P ops.toList (Q .normal) ops.toList ρ w
   | true=>NN P id ops (Q .normal) ρ w)
  (fun _ _ JP IW Q ρ w=>JP (Vm (IW Q) Q) ρ w)
  (fun c x y JP IW Q ρ w=>VP ρ c fun v=>match v with
   | .bool b=>NO P x y JP IW b Q ρ w
   | _=>False)
  (fun id c ih Q ρ w=>match c with
   | .loop _=>ih (Tj id Q) ρ w
   | c=>Gx P c ih id Q ρ w)
  (fun c ih Q ρ w=>Y9 P c ih Q ρ w)
  (fun _ _ _ _ _ _ _ _ _=>False)
  (fun id Q ρ w=>Q (.exit id) ρ w)
  (fun c ih Q ρ w=>adY P c ih Q ρ w)
  (fun _ Q ρ w=>Q .normal ρ w)
  (fun l Q ρ w=>Q (.goto l) ρ w)
  (fun Q ρ w=>Q .ret ρ w)
  (fun _ _ _ _=>False) c
section
variable (P:Program) (Q:Exit→List Value→World→Prop) (ρ:List Value) (w:World)
theorem LS (x y:Code):MO P (.seq x y) Q ρ w=MO P x (Vm (MO P y Q) Q) ρ w:=rfl
theorem NM (c:Operand) (x y:Code):MO P (.cond c x y) Q ρ w=VP ρ c fun v=>match v with
   | .bool b=>NO P x y (MO P x) (MO P y) b Q ρ w
   | _=>False:=rfl
theorem O8 (id:Nat) (c:Code):MO P (.block id c) Q ρ w↔MO P c (Tj id Q) ρ w:=by
 have h:Gx P c (MO P c) id Q ρ w↔MO P c (Tj id Q) ρ w:=⟨fun ⟨h⟩=>h,fun h=>⟨h⟩⟩
 cases c <;> first|exact h|exact Iff.rfl
end
theorem O7 {P:Program} {Q:Exit→List Value→World→Prop} {ρ:List Value} {w:World} (c:Code):MO P (.scope c) Q ρ w=adY P c (MO P c) Q ρ w:=rfl
theorem aa3 {Q Q':Exit→List Value→World→Prop} (hq:∀e ρ w,Q e ρ w→Q' e ρ w):∀e ρ w,Rs Q e ρ w→Rs Q' e ρ w:=fun e ρ w h=>by
 cases e <;> simp only [Rs] at h⊢<;> exact hq _ _ _ h
theorem aay {l:Nat} {J J':List Value→World→Prop} {Q Q':Exit→List Value→World→Prop} (hj:∀ρ w,J ρ w→J' ρ w) (hq:∀e ρ w,Q e ρ w→Q' e ρ w):∀e ρ w,Qe l J Q e ρ w→Qe l J' Q' e ρ w:=fun e ρ w h=>by
 cases e <;> simp only [Qe] at h⊢<;> first|exact ⟨h.1,hj _ _ h.2⟩|exact hq _ _ _ h
theorem O6 {P:Program} {x y:Code} {B C:JW} {b:Bool} {Q:Exit→List Value→World→Prop} {ρ:List Value} {w:World}:NO P x y B C b Q ρ w↔if b then B Q ρ w else C Q ρ w:=by
 constructor
 ·rintro ⟨t,f⟩;cases b
  ·grind
  ·grind
 ·intro h;cases b
  ·exact cF rfl h
  ·exact cT rfl h
theorem aap {ops:List Oper} {g:Option (Nat × Bool)} {ρ:List Value} {k k':Bool→List Value→Prop} (h:XZ ops g ρ k) (hk:∀b ρ,k b ρ→k' b ρ):XZ ops g ρ k':=by
 unfold XZ at h ⊢
 split at h
 ·grind
 ·simp only [Pc,Tl,S7] at h ⊢
  split at h
  ·omega
  ·split at h
   ·omega
   ·split at h
    ·split at h <;> (split at h <;> exact hk _ _ h)
    ·grind
    ·omega
theorem adZ {P:Program} {ops:List Oper} {K K':List Value→World→Prop} (hk:∀ρ w,K ρ w→K' ρ w) (l:List Oper) :
  ∀{ρ:List Value} {w:World},MC P ops K l ρ w→MC P ops K' l ρ w:=by
 induction l with
 | nil=>exact fun h=>hk _ _ h
 | cons o r ih =>
  intro ρ w h
  simp only [O9] at h ⊢
  refine aap h fun b ρ h=>?_
  cases b
  ·simp only [Ya] at h ⊢;exact ih h
  ·simp only [Ya] at h ⊢;exact LU h fun v w h=>ih h
theorem VF {P:Program} (c:Code):∀{Q Q':Exit→List Value→World→Prop} {ρ:List Value} {w:World},MO P c Q ρ w→(∀e ρ w,Q e ρ w→Q' e ρ w)→MO P c Q' ρ w:=by
 induction c with
 | skip=>exact fun h hq=>hq _ _ _ h
 | label l=>exact fun h hq=>hq _ _ _ h
 | exit i=>exact fun h hq=>hq _ _ _ h
 | ret=>exact fun h hq=>hq _ _ _ h
 | seq x y JP IW =>
  intro Q Q' ρ w h hq
  simp only [LS] at h ⊢
  refine JP h fun e ρ w he=>?_
  cases e <;> simp only [Vm] at he⊢<;> first|exact IW he hq|exact hq _ _ _ he
 | cond c x y JP IW =>
  intro Q Q' ρ w h hq
  simp only [NM,SG,O6] at h ⊢
  split at h
  ·grind
  ·omega
 | block id c ih =>
  intro Q Q' ρ w h hq
  rw [O8] at h ⊢
  refine ih h fun e ρ w he=>?_
  cases e <;> simp only [Tj] at he⊢<;> first|exact hq _ _ _ he|(split at he <;> exact hq _ _ _ he)
 | region id ops draw =>
  intro Q Q' ρ w h hq
  cases draw
  ·exact adZ (fun ρ w=>hq .normal ρ w) _ h
  ·obtain ⟨h⟩:=h
   exact ⟨Code.wp_mono (fun e a w ⟨h1,h2,h3,h4⟩=>⟨h1,h2,h3,hq _ _ _ h4⟩) h⟩
 | loop c ih =>
  intro Q Q' ρ w h hq
  obtain ⟨I,μ,h0,hr⟩:=h
  refine ⟨I,μ,h0,fun ρ w hI=>ih (hr ρ w hI) fun e ρ w he=>?_⟩
  cases e <;> simp only [Vm] at he⊢<;> first|exact hq _ _ _ he|exact he
 | rangeFunc=>exact fun h=>h.elim
 | scope c ih =>
  intro Q Q' ρ w h hq
  rw [O7] at h ⊢
  cases h with
  | R0 h=>exact .R0 (ih h (aa3 hq))
  | jumps l rest M hM J μ hf first pass=>exact .jumps l rest M hM J μ hf (ih first (aay (fun _ _ h=>h) hq)) fun ρ w hJ=>hM.imp (pass ρ w hJ) (aay (fun _ _ h=>h) hq)
 | goto=>exact fun h hq=>hq _ _ _ h
 | refuse=>exact fun h=>h.elim
theorem Ob {a:Act} (h:a.defers=[]):a=⟨a.tmps.toList.toArray,[]⟩:=by
 cases a;simp only at h;subst h;simp
theorem XW {ops:Array Oper} {o:Oper} {ρ:List Value} {k:Bool→List Value→Prop} (h:XZ ops.toList o.guard ρ k) :
  ∃b,Region.wanted o (yielded ops ρ.toArray)=b∧k b ρ:=by
 unfold XZ at h
 split at h
 ·grind [Region.wanted]
 ·rename_i j want hg
  simp only [Pc,Tl,S7] at h
  split at h
  ·grind
  ·rename_i oj hj
   split at h
   ·grind
   ·rename_i d hd
    split at h
    ·rename_i b hb
     have WI:ρ.set d (.bool b)=ρ:=by
      apply lEa
      intro i
      rw [lMa]
      split
      ·rename_i e;subst e
       by_cases hl:d<ρ.length
       ·rw [if_pos hl]
        rw [Qg] at hb
        simp only [Array.getD_eq_getD_getElem?,List.getElem?_toArray] at hb
        rw [laa hl] at hb ⊢
        simp only [Option.getD_some] at hb
        rw [hb]
       ·grind
      ·rfl
     have hy:yielded ops ρ.toArray j=some b:=by
      have hl:d<ρ.length:=by grind [Qg,Array.getD_eq_getD_getElem?,List.getElem?_eq_none,undef]
      rw [Qg] at hb
      simp only [Array.getD_eq_getD_getElem?,List.getElem?_toArray,List.getElem?_eq_getElem hl,Option.getD_some] at hb
      simp only [Array.getElem?_toList] at hj
      simp [yielded,hj,hd,List.getElem?_eq_getElem hl,hb]
     rw [WI] at h
     cases b <;> cases want <;> simp only at h <;> exact ⟨_,by simp [Region.wanted,hg,hy],h⟩
    ·rename_i vs hb
     refine ⟨false,?_,h⟩
     have hy:yielded ops ρ.toArray j=none:=by
      simp only [Array.getElem?_toList] at hj
      rw [Qg] at hb
      simp only [yielded,hj,Option.bind_some,hd]
      cases hl:ρ[d]? with
      | none=>simp [hl]
      | some v =>
       simp [Array.getD_eq_getD_getElem?,hl] at hb
       simp [hl,hb]
     simp [Region.wanted,hg,hy]
    ·grind
theorem abT {P:Program} {ops:Array Oper} {Q:Exit→List Value→World→Prop} (l:List Oper) :
  ∀{ρ:List Value} {w:World},MC P ops.toList (Q .normal) l ρ w→wpList P ops (lift Q) l ⟨ρ.toArray,[]⟩ w:=by
 induction l with
 | nil=>exact fun h=>⟨rfl,by simpa [adX] using h⟩
 | cons o r ih =>
  intro ρ w h
  simp only [O9,Ya] at h
  obtain ⟨b,hb,h⟩:=XW h
  unfold wpList
  cases b
  ·rw [if_neg (by simp [hb]),put_eq]
   exact ih h
  ·rw [if_pos hb]
   exact .inl (Ui h fun v w' h=>by rw [put_eq];exact ih h)
theorem adl {P:Program} (c:Code):∀{Q:Exit→List Value→World→Prop} {ρ:List Value} {w:World},MO P c Q ρ w→c.wp P (lift Q) ⟨ρ.toArray,[]⟩ w:=by
 induction c with
 | skip=>exact fun h=>wp_skip ⟨rfl,h⟩
 | label l=>exact fun h=>wp_label ⟨rfl,h⟩
 | exit i=>exact fun h=>wp_exit ⟨rfl,h⟩
 | ret=>exact fun h=>wp_ret ⟨rfl,h⟩
 | seq x y JP IW =>
  intro Q ρ w h
  simp only [LS] at h
  refine wp_seq (wp_mono (JP h) ?_)
  rintro e a w ⟨hd,he⟩
  cases e <;> simp only [Vm] at he <;> simp only [Exit.then]
  ·grind [Ob]
  all_goals exact ⟨hd,he⟩
 | cond c x y JP IW =>
  intro Q ρ w h
  simp only [NM,SG,O6] at h
  split at h
  ·rename_i b hb
   refine wp_cond (t:=b) (by rw [Ys];exact hb) ?_
   split at h
   ·grind
   ·grind
  ·grind
 | block id c ih =>
  intro Q ρ w h
  rw [O8] at h
  refine wp_block (wp_mono (ih h) ?_)
  rintro e a w ⟨hd,he⟩
  cases e <;> simp only [Tj] at he <;> simp only [Exit.inBlock]
  case exit id' =>
   by_cases hi:id'=id
   ·subst hi;simp only [beq_self_eq_true] at he;rw [if_pos rfl];exact ⟨hd,he⟩
   ·have:(id' == id)=false:=by grind
    simp only [this] at he;rw [if_neg hi];exact ⟨hd,he⟩
  all_goals exact ⟨hd,he⟩
 | region id ops draw =>
  intro Q ρ w h
  cases draw
  ·exact wp_region_list (abT _ h)
  ·obtain ⟨h⟩:=h
   exact wp_mono h fun e a w ⟨h1,h2,_,h4⟩=>by subst h1;exact ⟨h2,h4⟩
 | loop c ih =>
  intro Q ρ w h
  obtain ⟨I,μ,h0,hr⟩:=h
  refine wp_loop (fun a w=>a.defers=[]∧I a.tmps.toList w) (fun a w=>μ a.tmps.toList w) ⟨rfl,h0⟩ ?_
  rintro a w ⟨hd,hI⟩
  rw [Ob hd]
  refine wp_mono (ih (hr _ _ hI)) ?_
  rintro e a' w' ⟨hd',he⟩
  cases e <;> simp only [Vm] at he <;> simp only [Exit.then]
  ·grind
  all_goals exact ⟨hd',he⟩
 | rangeFunc=>exact fun h=>h.elim
 | scope c ih =>
  intro Q ρ w h
  rw [O7] at h
  cases h with
  | R0 h =>
   refine wp_scope_straight (wp_mono (ih h) ?_)
   rintro e a w ⟨hd,he⟩
   cases e <;> simp only [Rs] at he <;> exact ⟨hd,he⟩
  | jumps l rest M hM J μ hf first pass =>
   refine wp_scope_jumps l (fun a w=>a.defers=[]∧J a.tmps.toList w) (fun a w=>μ a.tmps.toList w) hf (wp_mono (ih first) ?_) ?_
   ·rintro e a w ⟨hd,he⟩
    cases e <;> simp only [Qe] at he <;> first|exact ⟨he.1,hd,he.2⟩|exact ⟨hd,he⟩
   ·rintro a w ⟨hd,hJ⟩
    rw [Ob hd]
    refine wp_mono (hM.sound (pass _ _ hJ)) ?_
    rintro e a' w' ⟨hd',he⟩
    cases e <;> simp only [Qe] at he <;> first|exact ⟨he.1,⟨hd',he.2.1⟩,he.2.2⟩|exact ⟨hd',he⟩
 | goto=>exact fun h=>wp_goto ⟨rfl,h⟩
 | refuse=>exact fun h=>h.elim
theorem agree.refl (ds:List Nat) (ρ:List Value):agree ds ρ ρ:=⟨rfl,fun _ _=>rfl⟩
theorem agree.trans {ds:List Nat} {a b c:List Value} (h:agree ds a b) (k:agree ds b c):agree ds a c :=
 ⟨k.1.trans h.1,fun i hi=>(k.2 i hi).trans (h.2 i hi)⟩
theorem agree.mono {ds ds':List Nat} {a b:List Value} (h:agree ds a b) (hs:∀i,i∈ds→i∈ds'):agree ds' a b :=
 ⟨h.1,fun i hi=>h.2 i fun hh=>hi (hs i hh)⟩
theorem agree.put {ds:List Nat} {a b:List Value} (h:agree ds a b) (d:Option Nat) (hd:∀i,d=some i→i∈ds) (v:Value):agree ds a (put b d v):=by
 cases d with
 | none=>exact h
 | some d =>
  refine ⟨by simp [YW.put,h.1],fun i hi=>?_⟩
  have:d≠i:=fun e=>hi (e ▸ hd d rfl)
  simp only [YW.put,List.getElem?_set,if_neg this]
  exact h.2 i hi
theorem aaU {ops:List Oper} {g:Option (Nat × Bool)} {ρ:List Value} {k:Bool→List Value→Prop} (h:XZ ops g ρ k) :
  XZ ops g ρ fun b ρ'=>k b ρ'∧agree (Yv ops) ρ ρ':=by
 unfold XZ at h ⊢
 split at h
 ·exact ⟨h,agree.refl _ _⟩
 ·simp only [Pc,Tl,S7] at h ⊢
  split at h
  ·omega
  ·rename_i oj hj
   split at h
   ·omega
   ·rename_i d hd
    have hmem:d∈Yv ops:=by grind [Yv]
    split at h
    ·rename_i b hb
     split at h <;> (split at h <;> exact ⟨h,(agree.refl _ _).put (some d) (fun i e=>by cases e;exact hmem) _⟩)
    ·exact ⟨h,agree.refl _ _⟩
    ·omega
theorem abU {P:Program} {ops:List Oper} {K:List Value→World→Prop} (l:List Oper) (hl:∀o,o∈l→o∈ops) :
  ∀{ρ0 ρ:List Value} {w:World},agree (Yv ops) ρ0 ρ→MC P ops K l ρ w→MC P ops (fun ρ' w'=>K ρ' w'∧agree (Yv ops) ρ0 ρ') l ρ w:=by
 induction l with
 | nil=>exact fun ha h=>⟨h,ha⟩
 | cons o r ih =>
  intro ρ0 ρ w ha h
  simp only [O9] at h ⊢
  refine aap (aaU h) fun b ρ1 ⟨h,EW⟩=>?_
  have hmem:∀i,o.dst=some i→i∈Yv ops:=fun i e=>by grind [Yv]
  have Ix:=fun {ρ:List Value} {w:World}=>@ih (fun o ho=>hl o (lyb _ ho)) ρ0 ρ w
  cases b
  ·simp only [Ya] at h ⊢
   exact Ix ((ha.trans EW).put _ hmem _) h
  ·simp only [Ya] at h ⊢
   exact LU h fun v w h=>Ix ((ha.trans EW).put _ hmem _) h
theorem Rr {P:Program} (c:Code):∀{Q:Exit→List Value→World→Prop} {ρ:List Value} {w:World},MO P c Q ρ w →
  MO P c (fun e ρ' w'=>Q e ρ' w'∧agree (VL c) ρ ρ') ρ w:=by
 induction c with
 | skip=>exact fun h=>⟨h,agree.refl _ _⟩
 | label l=>exact fun h=>⟨h,agree.refl _ _⟩
 | exit i=>exact fun h=>⟨h,agree.refl _ _⟩
 | ret=>exact fun h=>⟨h,agree.refl _ _⟩
 | seq x y JP IW =>
  intro Q ρ w h
  simp only [LS] at h ⊢
  refine VF x (JP h) fun e ρ1 w1 ⟨he,ha⟩=>?_
  have ha':agree (VL (.seq x y)) ρ ρ1:=ha.mono fun i hi=>lkb _ hi
  cases e <;> simp only [Vm] at he ⊢
  ·exact VF y (IW he) fun e ρ2 w2 ⟨h2,h3⟩=>⟨h2,ha'.trans (h3.mono fun i hi=>lAb _ hi)⟩
  all_goals exact ⟨he,ha'⟩
 | cond c x y JP IW =>
  intro Q ρ w h
  simp only [NM,SG,O6] at h ⊢
  split at h
  ·split at h
   ·rw [if_pos AG]
    exact VF x (JP h) fun e ρ2 w2 ⟨h2,h3⟩=>⟨h2,h3.mono fun i hi=>lkb _ hi⟩
   ·rw [if_neg AG]
    exact VF y (IW h) fun e ρ2 w2 ⟨h2,h3⟩=>⟨h2,h3.mono fun i hi=>lAb _ hi⟩
  ·omega
 | block id c ih =>
  intro Q ρ w h
  rw [O8] at h ⊢
  refine VF c (ih h) fun e ρ1 w1 ⟨he,ha⟩=>?_
  cases e <;> simp only [Tj] at he ⊢
  case exit i=>split at he <;> exact ⟨he,ha⟩
  all_goals exact ⟨he,ha⟩
 | region id ops draw =>
  intro Q ρ w h
  cases draw
  ·exact abU _ (fun _ h=>h) (agree.refl _ _) h
  ·obtain ⟨h⟩:=h
   exact ⟨Code.wp_mono (fun e a w ⟨h1,h2,h3,h4⟩=>⟨h1,h2,h3,h4,h3⟩) h⟩
 | loop c ih =>
  intro Q ρ w h
  obtain ⟨I,μ,h0,hr⟩:=h
  refine ⟨fun ρ' w'=>I ρ' w'∧agree (VL c) ρ ρ',μ,⟨h0,agree.refl _ _⟩,fun ρ1 w1 ⟨hI,ha⟩=>VF c (ih (hr ρ1 w1 hI)) fun e ρ2 w2 ⟨he,MB⟩=>?_⟩
  cases e <;> simp only [Vm] at he ⊢
  ·exact ⟨⟨he.1,ha.trans MB⟩,he.2⟩
  all_goals exact ⟨he,ha.trans MB⟩
 | rangeFunc=>exact fun h=>h.elim
 | scope c ih =>
  intro Q ρ w h
  rw [O7] at h ⊢
  cases h with
  | R0 h=>exact .R0 (VF c (ih h) fun e ρ1 w1 ⟨he,ha⟩=>by cases e <;> simp only [Rs] at he⊢<;> exact ⟨he,ha⟩)
  | jumps l rest M hM J μ hf first pass =>
   refine .jumps l rest M hM (fun ρ' w'=>J ρ' w'∧agree (VL c) ρ ρ') μ hf (VF c (ih first) fun e ρ1 w1 ⟨he,ha⟩=>?_) fun ρ1 w1 ⟨hJ,ha⟩=>hM.imp (hM.frame (pass ρ1 w1 hJ)) fun e ρ2 w2 ⟨he,MB⟩=>?_
   ·cases e <;> simp only [Qe] at he⊢<;> first|exact ⟨he.1,he.2,ha⟩|exact ⟨he,ha⟩
   ·have Co:agree (VL c) ρ ρ2:=ha.trans (MB.mono fun i hi=>aa2 hf i hi)
    cases e <;> simp only [Qe] at he⊢<;> first|exact ⟨he.1,⟨he.2.1,Co⟩,he.2.2⟩|exact ⟨he,Co⟩
 | goto=>exact fun h=>⟨h,agree.refl _ _⟩
 | refuse=>exact fun h=>h.elim
def DR (l:List Nat) (f:Nat→Value):List Value→(List Value→Prop)→Prop :=
 List.rec (motive:=fun _=>List Value→(List Value→Prop)→Prop) (fun ρ k=>k ρ) (fun d _ ih ρ k=>IY ρ d (f d) fun ρ=>ih ρ k) l
theorem ad0 (d:Nat) (ds:List Nat) (f:Nat→Value) (ρ:List Value) (k:List Value→Prop):DR (d::ds) f ρ k=IY ρ d (f d) fun ρ=>DR ds f ρ k:=rfl
def DQ (l:List (Nat × Value)):List Value→(List Value→Prop)→Prop :=
 List.rec (motive:=fun _=>List Value→(List Value→Prop)→Prop) (fun ρ k=>k ρ) (fun p _ ih ρ k=>match p with
  | (i,v)=>IY ρ i v fun ρ=>ih ρ k) l
theorem ad1 (i:Nat) (v:Value) (r:List (Nat × Value)) (ρ:List Value) (k:List Value→Prop):DQ ((i,v)::r) ρ k=IY ρ i v fun ρ=>DQ r ρ k:=rfl
def mt:List (Nat × Value)→List Value→Prop
 | [],_=>True
 | (i,v)::r,ρ=>gt ρ i=v∧mt r ρ
theorem ZX {ρ:List Value}:mt [] ρ:=trivial
theorem ZM {i:Nat} {v:Value} {r:List (Nat × Value)} {ρ:List Value} (h:gt ρ i=v) (k:mt r ρ):mt ((i,v)::r) ρ:=⟨h,k⟩
theorem Zx {i:Nat} {k:IntKind} {a b:Int} {r:List (Nat × Value)} {ρ:List Value} (hg:gt ρ i=.int k a) (h:a=b) (t:mt r ρ):mt ((i,.int k b)::r) ρ:=⟨by rw [hg,h],t⟩
theorem int_eq {k:IntKind} {a b:Int} (h:a=b):Value.int k a=.int k b:=by rw [h]
theorem Rq {ρ':List Value} (ds:List Nat) {k:List Value→Prop}:∀{ρ1:List Value},agree ds ρ1 ρ'→DR ds (gt ρ') ρ1 k→k ρ':=by
 induction ds with
 | nil =>
  intro ρ1 ha h
  have:ρ'=ρ1:=lEa fun i=>ha.2 i AF
  rw [this];exact h
 | cons d ds ih =>
  intro ρ1 ha h
  simp only [ad0,Tl] at h
  refine ih ?_ h
  refine ⟨by simpa using ha.1,fun i hi=>?_⟩
  rw [lMa]
  split
  ·rename_i e;subst e
   split
   ·rename_i hl
    have hl':d<ρ'.length:=by rw [ha.1];exact hl
    rw [Qg]
    simp [Array.getD_eq_getD_getElem?,List.getElem?_eq_getElem hl']
   ·rename_i hl
    rw [List.getElem?_eq_none (by rw [ha.1];exact Nat.le_of_not_lt hl)]
  ·rename_i hne
   exact ha.2 i fun hm=>by cases hm <;> contradiction
theorem LR {ρ:List Value} (sl:List (Nat × Value)) {k:List Value→Prop} (hm:mt sl ρ) (h:DQ sl ρ k):k ρ:=by
 induction sl with
 | nil=>exact h
 | cons p r ih =>
  obtain ⟨i,v⟩:=p
  obtain ⟨hv,hm⟩:=hm
  simp only [ad1,Tl] at h
  have:ρ.set i v=ρ:=by
   apply lEa
   intro j
   rw [lMa]
   split
   ·rename_i e;subst e
    split
    ·rename_i hl
     rw [Qg] at hv
     simp only [Array.getD_eq_getD_getElem?,List.getElem?_toArray,List.getElem?_eq_getElem hl,Option.getD_some] at hv
     rw [laa hl,hv]
    ·grind
   ·rfl
  rw [this] at h
  exact ih hm h
inductive Xl {α:Type} (sl:α→List (Nat × Value)) (inv:α→World→Prop) (p:α→Prop) (ρ:List Value) (w:World):Prop
 | mk (y:α) (hm:mt (sl y) ρ) (hi:inv y w) (hp:p y)
inductive Jn {α:Type} (sl:α→List (Nat × Value)) (inv:α→World→Prop) (ρ:List Value) (w:World):Prop
 | mk (y:α) (hm:mt (sl y) ρ) (hi:inv y w)
theorem Y9.rule {P:Program} {c:Code} {B:JW} {Q:Exit→List Value→World→Prop} {ρ:List Value} {w:World} {α:Type} (x0:α) (sl:α→List (Nat × Value)) (inv:α→World→Prop) (μ:α→Nat)
  (hm:mt (sl x0) ρ) (h0:inv x0 w)
  (round:∀x (f:Nat→Value) w',inv x w'→DR (VL c) f ρ fun ρ=>DQ (sl x) ρ fun ρ =>
   B (Vm (fun ρ' w''=>Xl sl inv (fun y=>μ y<μ x) ρ' w'') Q) ρ w') (hB:B=MO P c:=by rfl):Y9 P c B Q ρ w:=by
 subst hB
 classical
 have hex:∀(p:Nat→Prop),(∃n,p n)→∃n,p n∧∀m,p m→n≤m:=fun p ⟨n,hn⟩=>by
  induction n using Nat.strongRecOn with
  | _ n ih =>
   by_cases h:∃m,m<n∧p m
   ·grind
   ·grind
 let p:List Value→World→Nat→Prop:=fun ρ' w' n=>∃x,μ x=n∧mt (sl x) ρ'∧inv x w'
 let M:List Value→World→Nat:=fun ρ' w'=>if h:∃n,p ρ' w' n then Classical.choose (hex _ h) else 0
 have hM:∀ρ' w',(∃n,p ρ' w' n)→p ρ' w' (M ρ' w')∧∀m,p ρ' w' m→M ρ' w'≤m:=fun ρ' w' h=>by grind
 refine ⟨fun ρ' w'=>(∃n,p ρ' w' n)∧agree (VL c) ρ ρ',M,⟨⟨_,x0,rfl,hm,h0⟩,agree.refl _ _⟩,?_⟩
 rintro ρ1 w1 ⟨hp,ha⟩
 obtain ⟨⟨x,hx,HT,EV⟩,-⟩:=hM ρ1 w1 hp
 have hb:=round x (gt ρ1) w1 EV
 have hb:=LR _ HT (Rq _ ha hb)
 refine VF c (Rr c hb) ?_
 rintro e ρ2 w2 ⟨he,MB⟩
 cases e <;> simp only [Vm] at he ⊢
 ·obtain ⟨y,BE,BD,hlt⟩:=he
  refine ⟨⟨⟨_,y,rfl,BE,BD⟩,ha.trans MB⟩,?_⟩
  have:=(hM ρ2 w2 ⟨_,y,rfl,BE,BD⟩).2 _ ⟨y,rfl,BE,BD⟩
  omega
 all_goals exact he
theorem Rp {P:Program} {x y:Code} {B C:JW} {K:List Value→World→Prop} {Q:Exit→List Value→World→Prop} {ρ:List Value} {w:World} {b:Bool} {α:Type} (sl:α→List (Nat × Value)) (inv:α→World→Prop)
  (hx:b=true→B (Vm (fun ρ' w'=>Jn sl inv ρ' w') Q) ρ w)
  (hy:b=false→C (Vm (fun ρ' w'=>Jn sl inv ρ' w') Q) ρ w)
  (hk:∀a (f:Nat→Value) w',inv a w'→DR (VL x++VL y) f ρ fun ρ=>DQ (sl a) ρ fun ρ=>K ρ w') (hB:B=MO P x:=by rfl) (hC:C=MO P y:=by rfl) :
  NO P x y B C b (Vm K Q) ρ w:=by
 subst hB
 subst hC
 refine ⟨fun hb=>?_,fun hb=>?_⟩
 ·refine VF x (Rr x (hx hb)) ?_
  rintro e ρ2 w2 ⟨he,ha⟩
  cases e <;> simp only [Vm] at he ⊢
  ·obtain ⟨a,hm,hi⟩:=he
   exact LR _ hm (Rq _ (ha.mono fun i hi=>lkb _ hi) (hk a (gt ρ2) w2 hi))
  all_goals exact he
 ·refine VF y (Rr y (hy hb)) ?_
  rintro e ρ2 w2 ⟨he,ha⟩
  cases e <;> simp only [Vm] at he ⊢
  ·obtain ⟨a,hm,hi⟩:=he
   exact LR _ hm (Rq _ (ha.mono fun i hi=>lAb _ hi) (hk a (gt ρ2) w2 hi))
  all_goals exact he
theorem aaq {P:Program} {c:Code} {B:JW} {id:Nat} {K:List Value→World→Prop} {Q:Exit→List Value→World→Prop} {ρ:List Value} {w:World} {α:Type} (sl:α→List (Nat × Value)) (inv:α→World→Prop)
  (hx:B (Tj id (Vm (fun ρ' w'=>Jn sl inv ρ' w') Q)) ρ w)
  (hk:∀a (f:Nat→Value) w',inv a w'→DR (VL c) f ρ fun ρ=>DQ (sl a) ρ fun ρ=>K ρ w') (hB:B=MO P c:=by rfl) :
  Gx P c B id (Vm K Q) ρ w:=by
 subst hB
 refine ⟨VF c (Rr c hx) ?_⟩
 have key:∀ρ2 w2,Jn sl inv ρ2 w2→agree (VL c) ρ ρ2→K ρ2 w2:=fun ρ2 w2 ⟨a,hm,hi⟩ ha =>
  LR _ hm (Rq _ ha (hk a (gt ρ2) w2 hi))
 rintro e ρ2 w2 ⟨he,ha⟩
 cases e <;> simp only [Tj,Vm] at he ⊢
 ·grind
 ·split at he
  ·grind
  ·omega
 all_goals exact he
inductive Z6 (R:Value→World→Prop) (v:Value) (w:World):Prop
 | mk (h:R v w)
inductive IV (P:Program) (m:Sem Value) (w:World) (K:Value→Prop):Prop
 | mk (v:Value) (h:m.run P w=.ok v w) (k:K v)
def Gw (n:Nat):List Value→(List Value→Prop)→Prop :=
 Nat.rec (motive:=fun _=>List Value→(List Value→Prop)→Prop) (fun acc k=>k acc) (fun _ ih acc k=>ih (undef::acc) k) n
theorem adm (n:Nat) (acc:List Value) (k:List Value→Prop):Gw (n+1) acc k=Gw n (undef::acc) k:=rfl
def Kx (P:Program) (ρ:List Value) (w:World) (l:List ResultVar):(List Value→Prop)→Prop :=
 List.rec (motive:=fun _=>(List Value→Prop)→Prop) (fun k=>k []) (fun x _ ih k=>match x with
  | .tmp t=>EX ρ t fun v=>ih fun vs=>k (v::vs)
  | .cell a t=>EX ρ a fun v=>match v with
   | .pointer p=>match p with
    | some a=>IV P (loadVar t a) w fun v=>ih fun vs=>k (v::vs)
    | none=>False
   | _=>False) l
theorem ad2 (P:Program) (ρ:List Value) (w:World) (t:Nat) (r:List ResultVar) (k:List Value→Prop):Kx P ρ w (.tmp t::r) k=EX ρ t fun v=>Kx P ρ w r fun vs=>k (v::vs):=rfl
theorem adn (P:Program) (ρ:List Value) (w:World) (a:Nat) (t:TypeId) (r:List ResultVar) (k:List Value→Prop):Kx P ρ w (.cell a t::r) k=EX ρ a fun v=>match v with
   | .pointer p=>match p with
    | some a=>IV P (loadVar t a) w fun v=>Kx P ρ w r fun vs=>k (v::vs)
    | none=>False
   | _=>False:=rfl
def Gv (R:Value→World→Prop) (w:World) (vs:List Value):Prop :=
 match vs with
 | [v]=>Z6 R v w
 | []=>Z6 R (.tuple #[]) w
 | u::v::r=>Z6 R (.tuple (u::v::r).toArray) w
def ahx (P:Program) (rs:List ResultVar) (R:Value→World→Prop) (e:Exit) (ρ:List Value) (w:World):Prop :=
 match e with
 | .normal=>Kx P ρ w rs fun vs=>Gv R w vs
 | .ret=>Kx P ρ w rs fun vs=>Gv R w vs
 | _=>False
def aj1 (P:Program) (fn:Func) (c:Code) (args:List Value) (w:World) (R:Value→World→Prop):Prop :=
 Gw (fn.ntmps-args.length) [] fun us=>KA args us fun ρ=>MO P c (ahx P fn.results.toList R) ρ w
theorem afY (n:Nat) (acc:List Value) (k:List Value→Prop):Gw n acc k=k (List.replicate n undef++acc):=by
 induction n generalizing acc with
 | zero=>rfl
 | succ n ih=>simp only [adm,ih];congr 1;rw [List.replicate_succ',lia0];rfl
def Iw (tmps:Array Value):ResultVar→Sem Value
 | .tmp t=>pure (tmps.getD t undef)
 | .cell a t=>do loadVar t (←asAddr (tmps.getD a undef))
theorem QE (fn:Func) (tmps:Array Value):results fn tmps=(do let vs ←fn.results.mapM (Iw tmps);pure (if h:vs.size=1 then vs[0] else .tuple vs)):=by
 have:(fun (x:ResultVar)=>(match x with
  | .tmp t=>pure (tmps.getD t undef)
  | .cell a t=>do loadVar t (←asAddr (tmps.getD a undef)):Sem Value))=Iw tmps:=by
  funext x;cases x <;> rfl
 unfold results
 rw [←this]
 rfl
theorem abV {P:Program} {ρ:List Value} {w:World}:∀(rs:List ResultVar) {k:List Value→Prop},Kx P ρ w rs k →
  ∃vs,(rs.mapM (Iw ρ.toArray)).run P w=.ok vs w∧k vs:=by
 intro rs
 induction rs with
 | nil=>exact fun h=>⟨[],by simp,h⟩
 | cons x r ih =>
  intro k h
  cases x with
  | tmp t =>
   simp only [ad2,Pc] at h
   obtain ⟨vs,h1,h2⟩:=ih h
   exact ⟨gt ρ t::vs,by rw [List.mapM_cons];simp only [Iw,Sem.run_bind,Sem.run_pure,Result.andThen_ok,h1,Qg],h2⟩
  | cell a t =>
   simp only [adn,Pc] at h
   split at h
   ·rename_i p hp
    split at h
    ·rename_i ad
     obtain ⟨v,hv,h⟩:=h
     obtain ⟨vs,h1,h2⟩:=ih h
     refine ⟨_,?_,h2⟩
     rw [List.mapM_cons]
     rw [Qg] at hp
     simp only [Iw,hp,asAddr,pure_bind,Sem.run_bind,Sem.run_pure,Result.andThen_ok,hv,h1]
    ·grind
   ·grind
theorem aa4 {P:Program} {fn:Func} {R:Value→World→Prop} {e:Exit} {a:Act} {w:World} (h:lift (ahx P fn.results.toList R) e a w) :
  bodyPost P fn (fun e w'=>∃v,e=.returned v∧R v w') e a w:=by
 obtain ⟨hd,h⟩:=h
 rw [Ob hd]
 have key:(Kx P a.tmps.toList w fn.results.toList fun vs=>Gv R w vs) →
   ∃v,(results fn a.tmps.toList.toArray).run P w=.ok v w∧∃v',Ending.returned v=.returned v'∧R v' w:=by
  intro h
  obtain ⟨vs,h1,h2⟩:=abV _ h
  have hm:(fn.results.mapM (Iw a.tmps.toList.toArray)).run P w=.ok vs.toArray w:=by grind [Array.mapM_eq_mapM_toList,Sem.run_map,Result.andThen_ok]
  unfold Gv at h2
  split at h2
  ·rename_i v
   obtain ⟨h2⟩:=h2
   exact ⟨v,by rw [QE];simp only [Sem.run_bind,hm,Result.andThen_ok];rfl,v,rfl,h2⟩
  ·obtain ⟨h2⟩:=h2
   exact ⟨_,by rw [QE];simp only [Sem.run_bind,hm,Result.andThen_ok];rfl,_,rfl,h2⟩
  ·rename_i u v r
   obtain ⟨h2⟩:=h2
   refine ⟨.tuple (u::v::r).toArray,?_,_,rfl,h2⟩
   rw [QE];simp only [Sem.run_bind,hm,Result.andThen_ok,Sem.run_pure]
   rw [dif_neg AF]
 cases e
 case normal=>obtain ⟨v,h1,h2⟩:=key h;exact ⟨rfl,v,h1,h2⟩
 case ret=>obtain ⟨v,h1,h2⟩:=key h;exact ⟨rfl,v,h1,h2⟩
 all_goals exact False.elim h
theorem Fc.of {P:Program} {f:FuncId} {fn:Func} {c:Code} {args:Array Value} {w:World} {R:Value→World→Prop}
  (hf:P.funcs[f]?=some fn) (hb:fn.body=some c) (hn:(fn.name == "runtime.NumGoroutine")=false) (h:aj1 P fn c args.toList w R):Fc P f args w R:=by
 refine ⟨?_,?_⟩
 ·simp only [callFunc,Sem.run_bind,program,Sem.run,Result.andThen_ok,hf]
  rw [if_neg (by grind),if_neg (by grind)]
  rfl
 ·refine calls_of_wp hf hb ?_
  unfold aj1 at h
  rw [afY,Od,lpa] at h
  have:=adl c h
  have e:(args.toList++List.replicate (fn.ntmps-args.toList.length) undef).toArray=args++Array.replicate (fn.ntmps-args.size) undef:=by simp
  rw [e] at this
  exact wp_mono this fun e a w h=>aa4 h
end YW
namespace YW
open Go Go.RowKit
variable {P:Program} {w:World} {K:Value→World→Prop}
theorem UK {k:IntKind} {n:Int} (h0:k.min≤n) (h1:n≤k.max):ZO k n=n:=by
 unfold ZO
 cases k <;> simp [IntKind.wrap,IntKind.min,IntKind.max,IntKind.bits,IntKind.signed] at * <;> omega
theorem S6 {n:Int} (h:-9223372036854775808≤n∧n≤9223372036854775807):ZO .i64 n=n:=UK (by grind [IntKind.min,IntKind.signed,IntKind.bits]) (by grind [IntKind.max,IntKind.signed,IntKind.bits])
theorem aj2 {n:Int} (h:-2147483648≤n∧n≤2147483647):ZO .i32 n=n:=UK (by grind [IntKind.min,IntKind.signed,IntKind.bits]) (by grind [IntKind.max,IntKind.signed,IntKind.bits])
theorem EU {n:Int} (h:0≤n∧n≤18446744073709551615):ZO .u64 n=n:=UK (by grind [IntKind.min,IntKind.signed,IntKind.bits]) (by grind [IntKind.max,IntKind.signed,IntKind.bits])
theorem amt {n:Int} (h:0≤n∧n≤4294967295):ZO .u32 n=n:=UK (by grind [IntKind.min,IntKind.signed,IntKind.bits]) (by grind [IntKind.max,IntKind.signed,IntKind.bits])
theorem wu8 {n:Int} (h:0≤n∧n≤255):ZO .u8 n=n:=UK (by grind [IntKind.min,IntKind.signed,IntKind.bits]) (by grind [IntKind.max,IntKind.signed,IntKind.bits])
theorem YQ {a b:Int} (h:GR a b=true):a<b:=by grind [SE]
theorem YP {a b:Int} (h:GR a b=false):b≤a:=by grind [SE]
theorem XC {a b:Int} (h:JX a b=true):a≤b:=by grind [SD]
theorem XB {a b:Int} (h:JX a b=false):b<a:=by grind [SD]
theorem ZR {a b:Int} (h:LX a b=true):a=b:=by grind [SC]
theorem ZQ {a b:Int} (h:LX a b=false):a≠b:=by grind [SC]
theorem YC {a b:Int} (h:FB a b=true):a≠b:=by grind [SB]
theorem YB {a b:Int} (h:FB a b=false):a=b:=by grind [SB]
theorem X3 {a b:Int}:GR a b=decide (a<b):=SE _ _
theorem YT {a b:Int}:JX a b=decide (a≤b):=SD _ _
theorem Y1 {a b:Int}:LX a b=decide (a=b):=by rw [SC];rw [Bool.eq_iff_iff];simp
theorem XO {a b:Int}:FB a b=!decide (a=b):=by rw [SB];rw [Bool.eq_iff_iff];simp
theorem Zq {s d:TypeId} {k0 k:IntKind} {n:Int} (hs:(P.underlying s).isSome=true) (hd:P.underlying d=some (.int k)) (h:K (.int k (ZO k n)) w) :
  Ze P (convert s d (.int k0 n)) w K:=by
 obtain ⟨ds,hds⟩:=Option.isSome_iff_exists.1 hs
 refine ⟨_,w,?_,h⟩
 unfold convert
 simp only [Sem.run_bind,run_underlying hds,run_underlying hd,Result.andThen_ok,Conv.intToInt]
 unfold ZO;rfl
theorem UU {s d:TypeId} {k0 k:IntKind} {n:Int} (m:Int) (e:ZO k n=m) (hs:(P.underlying s).isSome=true) (hd:P.underlying d=some (.int k)) (h:K (.int k m) w) :
  Ze P (convert s d (.int k0 n)) w K:=Zq hs hd (e ▸ h)
theorem aj3 {t:Array TypeId} {ty:TypeId} {k k':IntKind} {a b:Int} (h:K (.int k (min a b)) w):Ze P (Builtin.min_ t ty #[.int k a,.int k' b]) w K:=by
 refine ⟨_,w,?_,h⟩
 have:(if b<a then b else a)=min a b:=by omega
 simp [Builtin.min_,Builtin.min2,this]
def bs (l:List UInt8):ByteArray:=⟨l.toArray⟩
theorem TG (l:List UInt8):(bs l).size=l.length:=by simp [bs,ByteArray.size]
theorem aj4 (s:ByteArray):s=bs s.data.toList:=by cases s;simp [bs]
theorem ado (l:List UInt8):(bs l).toList=l:=by simp [bs]
theorem abW (l:List UInt8) (i j:Nat):(bs l).extract i j=bs ((l.take j).drop i):=by
 apply ByteArray.ext
 simp only [bs,ByteArray.data_extract]
 apply Array.ext'
 simp [List.drop_take]
theorem adp (a b:List UInt8):bs a++bs b=bs (a++b):=by
 apply ByteArray.ext
 simp [bs]
theorem ad3 {a b:List UInt8} (h:bs a=bs b):a=b:=by grind [bs]
theorem XH {t ty:TypeId} {s:List UInt8} (ht:P.underlying t=some .string) (h:K (.int .i64 s.length) w):Ze P (Builtin.len_ #[t] ty #[.string (bs s)]) w K :=
 ⟨_,w,run_len_string (P:=P) w t ty (bs s) ht,by rw [TG];exact h⟩
theorem Ws {t ty e:TypeId} {a:Option Addr} {n c:Nat} (ht:P.underlying t=some (.slice e)) (h:K (.int .i64 n) w):Ze P (Builtin.len_ #[t] ty #[.slice a n c]) w K :=
 ⟨_,w,by simp [Builtin.len_,run_underlying ht,goInt],h⟩
theorem Oa {t:TypeId} {s:List UInt8} {k:IntKind} {i:Int} (ht:P.underlying t=some .string) (j:Nat) (hj:i=j) (hl:j<s.length) (h:K (.int .u8 (s[j].toNat:Int)) w) :
  Ze P (Instr.index t (.string (bs s)) (.int k i)) w K:=by
 subst hj
 refine ⟨_,w,?_,h⟩
 rw [run_index_string (P:=P) w t (bs s) k j ht,dif_pos ⟨by omega,by rw [TG];omega⟩]
 rfl
theorem aj5 {t:TypeId} {s:List UInt8} {kl:IntKind} {l:Int} (ht:P.underlying t=some .string) (i:Nat) (hi:l=i) (hl:i≤s.length)
  (k:K (.string (bs (s.drop i))) w):Ze P (Instr.sliceAt t (.string (bs s)) (some (.int kl l)) none none) w K:=by
 subst hi
 refine ⟨_,w,?_,k⟩
 have hb:(bs s).size=s.length:=TG s
 rw [run_sliceAt_string (P:=P) w t _ _ _ _ ht,run_slice_string_l (P:=P) w t _ ht kl i AH AH]
 simp [hb,abW]
theorem amu {t:TypeId} {x y:Operand} {a b:List UInt8} (hl:a.length+b.length≤9223372036854775807) (k:K (.string (bs (a++b))) w) :
  Ze P (do eqGuard .add t x y (.string (bs a)) (.string (bs b));binOp .add t (.string (bs a)) (.string (bs b))) w K:=by
 refine ⟨_,w,?_,k⟩
 simp only [eqGuard_add,pure_bind,binOp_string_add,Op.stringOp]
 rw [if_neg (by simp [TG];omega)]
 simp [adp]
theorem aii {t:TypeId} {x y:Operand} {a b:List UInt8} (k:K (.bool (decide (a=b))) w) :
  Ze P (do eqGuard .eql t x y (.string (bs a)) (.string (bs b));binOp .eql t (.string (bs a)) (.string (bs b))) w K:=by
 refine ⟨_,w,?_,k⟩
 simp only [eqGuard_at_string,pure_bind,binOp_string_eql,ado,Sem.run_pure]
 congr 2
 rw [Bool.eq_iff_iff];simp
def Ti (v:Value) (k:List Value→Prop):Prop :=
 match v with
 | .agg cs=>k cs.toList
 | v=>k [v]
theorem Wl (v:Value) (k:List Value→Prop):Ti v k=k v.cells.toList:=by
 cases v <;> rfl
theorem aj6 {t:TypeId} {v:Value} (h:Ti v fun cs=>K (.pointer (some ⟨w.heap.size,0,none⟩)) (w.alloc (.cells cs.toArray t))):Ze P (Instr.box t v) w K:=by
 rw [Wl] at h
 exact ⟨_,_,rfl,by simpa using h⟩
theorem afZ {t:TypeId} {z:Value} (hz:(P.info? t).bind (fun i=>i.zero)=some z) (h:Ti z fun cs=>K (.pointer (some ⟨w.heap.size,0,none⟩)) (w.alloc (.cells cs.toArray t))) :
  Ze P (Instr.alloc t true (.tuple #[])) w K:=by
 rw [Wl] at h
 cases hi:P.info? t with
 | none=>simp [hi] at hz
 | some i =>
  simp only [hi,Option.bind_some] at hz
  refine ⟨_,_,?_,h⟩
  simp [Instr.alloc,zeroValue,typeInfo,hi,hz,newVar,newRow]
def NL (cs:List Value) (o:Nat) (l:List Value) (k:List Value→Prop):Prop :=
 List.rec (motive:=fun _=>List Value→Nat→Prop) (fun cs _=>k cs) (fun v _ ih cs o=>IY cs o v fun cs=>ih cs (o+1)) l cs o
theorem abX (cs:List Value) (o:Nat) (v:Value) (vs:List Value) (k:List Value→Prop):NL cs o (v::vs) k=IY cs o v fun cs=>NL cs (o+1) vs k:=rfl
def V9:List Value→Nat→List Value→List Value
 | cs,_,[]=>cs
 | cs,o,v::vs=>V9 (cs.set o v) (o+1) vs
theorem S5 (vs:List Value):∀(cs:List Value) (o:Nat) (k:List Value→Prop),NL cs o vs k=k (V9 cs o vs):=by
 induction vs with
 | nil=>intros;rfl
 | cons v vs ih=>intro cs o k;simp only [abX,V9,Tl,ih]
theorem VX (vs:List Value):∀(cs:List Value) (o:Nat),(V9 cs o vs).length=cs.length:=by
 induction vs with
 | nil=>intros;rfl
 | cons v vs ih=>intro cs o;simp [V9,ih]
def IU (b:Bool) (k:Prop):Prop:=match b with
 | true=>k
 | false=>False
theorem NK {b:Bool} {k:Prop} (h:IU b k):b=true∧k:=by cases b;exact h.elim;exact ⟨rfl,h⟩
def Qd (place:Nat→Option (Nat × Nat)) (l:List (Nat × Value)) (cs:List Value) (k:List Value→Prop):Prop :=
 List.rec (motive:=fun _=>List Value→Prop) k (fun p _ ih cs=>match p with
  | (i,v)=>match place i with
   | none=>False
   | some p=>match p with
    | (o,n)=>Ti v fun vs=>IU (Nat.beq vs.length n && Nat.ble (o+n) cs.length) (NL cs o vs fun cs=>ih cs)) l cs
theorem QD (place:Nat→Option (Nat × Nat)) (i:Nat) (v:Value) (r:List (Nat × Value)) (cs:List Value) (k:List Value→Prop):Qd place ((i,v)::r) cs k=match place i with
   | none=>False
   | some p=>match p with
    | (o,n)=>Ti v fun vs=>IU (Nat.beq vs.length n && Nat.ble (o+n) cs.length) (NL cs o vs fun cs=>Qd place r cs k):=rfl
theorem abY (vs:List Value) (o:Nat):∀(j:Nat) (cs:Array Value),(vs.zipIdx j).foldl (fun cs (c,i)=>cs.setIfInBounds (o+i) c) cs=(V9 cs.toList (o+j) vs).toArray:=by
 induction vs with
 | nil=>intro j cs;simp [V9]
 | cons v vs ih=>intro j cs;simp only [List.zipIdx_cons,List.foldl_cons,ih,V9];simp [Nat.add_assoc]
theorem aag {place:Nat→Option (Nat × Nat)} (ps:List (Nat × Value)):∀{cs:List Value} {k:List Value→Prop},Qd place ps cs k →
  ∃cs',Instr.fill place cs.toArray ps=some cs'∧k cs'.toList:=by
 induction ps with
 | nil=>exact fun h=>⟨_,rfl,h⟩
 | cons p r ih =>
  obtain ⟨i,v⟩:=p
  intro cs k h
  simp only [QD,Wl,S5] at h
  split at h
  ·grind
  ·rename_i pr hp
   obtain ⟨o,n⟩:=pr
   dsimp only at h
   obtain ⟨hb,h⟩:=NK h
   simp only [Bool.and_eq_true,Nat.beq_eq,Nat.ble_eq] at hb
   obtain ⟨cs',h1,h2⟩:=ih h
   refine ⟨cs',?_,h2⟩
   have hs:v.cells.size=n:=by grind
   simp only [Instr.fill,hp]
   rw [if_neg (by grind)]
   rw [←h1]
   congr 1
   have:=abY v.cells.toList o 0 cs.toArray
   simp only [Nat.add_zero] at this
   rw [←this,←Array.foldl_toList,Array.toList_zipIdx]
def O5 (n:Nat) (z:List Value):(List Value→Prop)→Prop :=
 Nat.rec (motive:=fun _=>(List Value→Prop)→Prop) (fun k=>k []) (fun _ ih k=>ih fun cs=>KA z cs k) n
theorem aa5 (n:Nat) (z:List Value) (k:List Value→Prop):O5 (n+1) z k=O5 n z fun cs=>KA z cs k:=rfl
theorem Ro (n:Nat) (z:List Value) (k:List Value→Prop):O5 n z k=k (List.replicate n z).flatten:=by
 induction n generalizing k with
 | zero=>rfl
 | succ n ih=>simp only [aa5,ih,Od,List.replicate_succ,List.flatten_cons]
theorem aa6 (n:Nat) (z:Array Value):((Array.range (n * z.size)).map fun i=>z[i % z.size]!)=(List.replicate n z.toList).flatten.toArray:=by
 apply Array.ext'
 simp only [Array.toList_map,Array.toList_range]
 induction n with
 | zero=>simp
 | succ n ih =>
  rw [ljb,List.range_add,lQa,ih,List.replicate_succ',List.flatten_append]
  congr 1
  simp only [List.flatten_cons,List.flatten_nil,List.append_nil,List.map_map]
  apply List.ext_getElem
  ·simp
  ·intro i h1 h2
   simp only [List.length_map,List.length_range] at h1
   simp only [List.getElem_map,List.getElem_range,Function.comp]
   rw [Nat.mul_comm,Nat.mul_add_mod,Nat.mod_eq_of_lt h1]
   simp [h1]
theorem aaV {t e:TypeId} {n sz:Nat} {z:Value} {ps:Array (Nat × Value)} (hu:P.underlying t=some (.slice e)) (hz:(P.info? e).map (fun i=>(i.size,i.zero))=some (sz,some z))
  (hsz:z.cells.size=sz) (hn:n * sz≤16777216)
  (h:O5 n z.cells.toList fun zs=>Qd (fun i=>some (i * sz,sz)) ps.toList zs fun cs=>K (.slice (some ⟨w.heap.size,0,none⟩) n n) (w.alloc (.cells cs.toArray e))) :
  Ze P (Instr.buildSlice t n ps) w K:=by
 rw [Ro] at h
 cases hi:P.info? e with
 | none=>simp [hi] at hz
 | some i =>
  simp only [hi,Option.map_some,Option.some.injEq,Prod.mk.injEq] at hz
  obtain ⟨h1,h2⟩:=hz
  obtain ⟨cs,hf,k⟩:=aag _ h
  refine ⟨_,_,?_,k⟩
  have hb:¬(16777216<n * sz):=by omega
  by_cases h0:n * sz=0
  ·have:(List.replicate n z.cells.toList).flatten=[]:=by
    apply lma
    simp [hsz,h0]
   rw [this] at hf
   have hr:Array.range 0=#[]:=rfl
   simp [Instr.buildSlice,hr,run_underlying hu,sizeOf,typeInfo,hi,h1,h0,hf,newRow]
  ·have JO:=aa6 n z.cells
   rw [hsz] at JO
   simp [Instr.buildSlice,run_underlying hu,sizeOf,typeInfo,zeroValue,hi,h1,h0,h2,hb,hsz,JO,hf,newRow]
def R9 (w:World) (b:Nat) (cs:List Value) (e:TypeId):Prop:=w.heap[b]?=some (.cells cs.toArray e (0,0))
def At (w:World) (b o:Nat) (vs:List Value):Prop:=∃cs e fz,w.heap[b]?=some (.cells cs e fz)∧∀i v,vs[i]?=some v→cs[o+i]?=some v
structure Iv (w w':World) (cs:List Value) (e:TypeId):Prop where
 Ud:R9 w' w.heap.size cs e
 below:Below w.heap.size w w'
 size:w'.heap.size=w.heap.size+1
structure KH (w w':World) (b:Nat):Prop where
 os:w'.os=w.os
 tape:w'.tape=w.tape
 output:w'.output=w.output
 size:w'.heap.size=w.heap.size
 block:∀k,k≠b→w'.heap[k]?=w.heap[k]?
theorem Iv.mk' (w:World) (cs:List Value) (e:TypeId):Iv w (w.alloc (.cells cs.toArray e)) cs e :=
 ⟨heap_alloc_new w _,(Below.refl _ _).alloc (lna _) _,by simp⟩
theorem KH.below {B:Nat} {w0 w w':World} {b:Nat} (h:KH w w' b) (hb:Below B w0 w) (hB:B≤b):Below B w0 w' :=
 ⟨h.os.trans hb.os,h.tape.trans hb.tape,h.output.trans hb.output,by rw [h.size];exact hb.size,fun k hk=>(h.block k AH).trans (hb.block k hk)⟩
theorem R9.at {w:World} {b:Nat} {cs:List Value} {e:TypeId} (h:R9 w b cs e):At w b 0 cs :=
 ⟨_,_,_,h,fun i v hi=>by simpa using hi⟩
theorem R9.lt {w:World} {b:Nat} {cs:List Value} {e:TypeId} (h:R9 w b cs e):b<w.heap.size:=(lva.1 h).1
theorem At.lt {w:World} {b o:Nat} {vs:List Value} (h:At w b o vs):b<w.heap.size:=by
 obtain ⟨_,_,_,h,_⟩:=h;exact (lva.1 h).1
theorem R9.keep {w w':World} {b:Nat} {cs:List Value} {e:TypeId} (h:R9 w b cs e) (hk:w'.heap[b]?=w.heap[b]?):R9 w' b cs e:=hk.trans h
theorem R9.below {B:Nat} {w w':World} {b:Nat} {cs:List Value} {e:TypeId} (h:R9 w b cs e) (hb:Below B w w') (hB:b<B):R9 w' b cs e:=h.keep (hb.block b hB)
theorem At.keep {w w':World} {b o:Nat} {vs:List Value} (h:At w b o vs) (hk:w'.heap[b]?=w.heap[b]?):At w' b o vs:=by
 obtain ⟨cs,e,fz,h1,h2⟩:=h;exact ⟨cs,e,fz,hk.trans h1,h2⟩
theorem At.below {B:Nat} {w w':World} {b o:Nat} {vs:List Value} (h:At w b o vs) (hb:Below B w w') (hB:b<B):At w' b o vs:=h.keep (hb.block b hB)
theorem At.sub {w:World} {b o:Nat} {vs:List Value} (h:At w b o vs) (i n:Nat):At w b (o+i) ((vs.drop i).take n):=by
 obtain ⟨cs,e,fz,h1,h2⟩:=h
 refine ⟨cs,e,fz,h1,fun j v hj=>?_⟩
 rw [lKa] at hj
 split at hj
 ·grind
 ·grind
theorem amv {t:TypeId} {v:Value} (h:Ti v fun cs=>∀w',Iv w w' cs t→K (.pointer (some ⟨w.heap.size,0,none⟩)) w'):Ze P (Instr.box t v) w K :=
 aj6 (by rw [Wl] at h ⊢;exact h _ (Iv.mk' _ _ _))
theorem aij {t:TypeId} {z:Value} (hz:(P.info? t).bind (fun i=>i.zero)=some z) (h:Ti z fun cs=>∀w',Iv w w' cs t→K (.pointer (some ⟨w.heap.size,0,none⟩)) w') :
  Ze P (Instr.alloc t true (.tuple #[])) w K :=
 afZ hz (by rw [Wl] at h ⊢;exact h _ (Iv.mk' _ _ _))
theorem aaz {place:Nat→Option (Nat × Nat)} (ps:List (Nat × Value)):∀{cs:List Value} {k k':List Value→Prop},Qd place ps cs k→(∀cs,k cs→k' cs)→Qd place ps cs k':=by
 induction ps with
 | nil=>exact fun h hk=>hk _ h
 | cons p r ih =>
  obtain ⟨i,v⟩:=p
  intro cs k k' h hk
  simp only [QD,Wl,S5] at h ⊢
  split at h
  ·omega
  ·rename_i pr hp
   obtain ⟨o,n⟩:=pr
   dsimp only at h ⊢
   obtain ⟨hb,h⟩:=NK h
   rw [hb];exact ih h hk
theorem aah {t e:TypeId} {n sz:Nat} {z:Value} {ps:Array (Nat × Value)} (hu:P.underlying t=some (.slice e)) (hz:(P.info? e).map (fun i=>(i.size,i.zero))=some (sz,some z))
  (hsz:z.cells.size=sz) (hn:n * sz≤16777216)
  (h:O5 n z.cells.toList fun zs=>Qd (fun i=>some (i * sz,sz)) ps.toList zs fun cs=>∀w',Iv w w' cs e→K (.slice (some ⟨w.heap.size,0,none⟩) n n) w') :
  Ze P (Instr.buildSlice t n ps) w K :=
 aaV hu hz hsz hn (by rw [Ro] at h ⊢;exact aaz _ h fun cs h=>h _ (Iv.mk' _ _ _))
def NJ:TypeDesc→Bool
 | .struct _|.array _ _=>true
 | _=>false
theorem SY {t:TypeId} {d:TypeDesc} (hu:P.underlying t=some d):(isAgg t).run P w=.ok (NJ d) w:=by
 unfold isAgg
 rw [Sem.run_bind,run_underlying hu w]
 cases d <;> rfl
theorem At.cell {w:World} {b o:Nat} {vs:List Value} (h:At w b o vs) {i:Nat} {v:Value} (hi:vs[i]?=some v):w.cell? ⟨b,o+i,none⟩=some v:=by
 obtain ⟨cs,e,fz,h1,h2⟩:=h
 rw [cell_of_row w b (o+i) cs e fz h1];exact h2 i v hi
theorem aik {t:TypeId} {d:TypeDesc} {b o:Nat} {v:Value} (hc:w.cell? ⟨b,o,none⟩=some v) (hu:P.underlying t=some d) (hd:NJ d=false) (k:K v w) :
  Ze P (Instr.loadAt t (.pointer (some ⟨b,o,none⟩))) w K:=by
 refine ⟨v,w,?_,k⟩
 simp [Instr.loadAt,Instr.sureAddr,loadVar,SY hu,hd,hc]
theorem aj7 {t:TypeId} {d:TypeDesc} {b o:Nat} {vs:List Value} (h:At w b o vs) (i:Nat) (hu:P.underlying t=some d) (hd:NJ d=false) (k:Kz vs i fun v=>K v w) :
  Ze P (Instr.loadAt t (.pointer (some ⟨b,o+i,none⟩))) w K:=by
 obtain ⟨v,hv,k⟩:=Oc k
 exact aik (h.cell hv) hu hd k
theorem af0 {t:TypeId} {d:TypeDesc} {b o:Nat} {vs:List Value} (h:At w b o vs) (hu:P.underlying t=some d) (hd:NJ d=true) (hs:(P.info? t).map (·.size)=some vs.length) (k:K (.agg vs.toArray) w) :
  Ze P (Instr.loadAt t (.pointer (some ⟨b,o,none⟩))) w K:=by
 refine ⟨_,w,?_,k⟩
 cases hi:P.info? t with
 | none=>simp [hi] at hs
 | some i =>
  have hl:i.size=vs.length:=by grind
  have:=run_loadCells_list (P:=P) w ⟨b,o,none⟩ vs (fun j v hv=>by rw [Addr.add_lit];exact h.cell hv)
  simp [Instr.loadAt,Instr.sureAddr,loadVar,SY hu,hd,sizeOf,typeInfo,hi,hl,this]
def NI (l:List Value):Nat→(List Value→Prop)→Prop :=
 List.rec (motive:=fun _=>Nat→(List Value→Prop)→Prop) (fun _ k=>k []) (fun x r ih n k=>Nat.rec (motive:=fun _=>Prop) (k (x::r)) (fun m _=>ih m k) n) l
theorem abZ (x:Value) (r:List Value) (n:Nat) (k:List Value→Prop):NI (x::r) (n+1) k=NI r n k:=rfl
def Mh (l:List Value):Nat→(List Value→Prop)→Prop :=
 List.rec (motive:=fun _=>Nat→(List Value→Prop)→Prop) (fun n k=>Nat.rec (motive:=fun _=>Prop) (k []) (fun _ _=>False) n) (fun x _ ih n k=>Nat.rec (motive:=fun _=>Prop) (k []) (fun m _=>ih m fun l=>k (x::l)) n) l
theorem Qc (l:List Value) (n:Nat) (k:List Value→Prop):NI l n k=k (l.drop n):=by
 induction l generalizing n with
 | nil=>cases n <;> rfl
 | cons x r ih=>cases n with
  | zero=>rfl
  | succ n=>simp [abZ,ih]
theorem NH {l:List Value} {n:Nat} {k:List Value→Prop} (h:Mh l n k):n≤l.length∧k (l.take n):=by
 induction l generalizing n k with
 | nil=>cases n with
  | zero=>exact ⟨lna _,h⟩
  | succ n=>exact h.elim
 | cons x r ih=>cases n with
  | zero=>exact ⟨lJa _,h⟩
  | succ n=>obtain ⟨h1,h2⟩:=ih (n:=n) h;exact ⟨by simp;omega,by simpa using h2⟩
theorem ail {t:TypeId} {d:TypeDesc} {b o:Nat} {vs:List Value} (h:At w b o vs) (i:Nat) (hu:P.underlying t=some d) (hd:NJ d=true)
  (k:NI vs i fun r=>Mh r (P.cellsOf t) fun us=>K (.agg us.toArray) w) :
  Ze P (Instr.loadAt t (.pointer (some ⟨b,o+i,none⟩))) w K:=by
 rw [Qc] at k
 obtain ⟨h1,h2⟩:=NH k
 refine af0 (h.sub i (P.cellsOf t)) hu hd ?_ h2
 cases hi:P.info? t with
 | none=>simp [Program.underlying,hi] at hu
 | some j=>simp [Program.cellsOf,hi] at h1 ⊢;omega
theorem af1 {t:TypeId} {e:TypeId} {b o:Nat} {cs:List Value} {v:Value} {K:World→Prop} (hb:R9 w b cs e) (ho:o<cs.length) (hs:(P.info? t).map (·.size)=some 1) (hv:v.oneCell'=true)
  (k:IY cs o v fun cs'=>∀w',KH w w' b→R9 w' b cs' e→K w'):IX P (Instr.storeAt t (.pointer (some ⟨b,o,none⟩)) v) w K:=by
 rw [Tl] at k
 cases hi:P.info? t with
 | none=>simp [hi] at hs
 | some i =>
  have hl:i.size=1:=by grind
  have hvc:v.cells=#[v]:=by cases v <;> first|rfl|(simp [Value.oneCell'] at hv)
  have hc:w.cell? ⟨b,o,none⟩=some cs[o]:=by
   rw [cell_of_row w b o _ e (0,0) hb];simp [ho]
  have hf:w.frozen? ⟨b,o,none⟩=false:=frozen_of_row w b o _ e hb
  have hw:KH w (w.setCell ⟨b,o,none⟩ v) b:=⟨rfl,rfl,rfl,by simp,fun k hk=>heap_setCell_other w _ k v hk⟩
  have Gu:R9 (w.setCell ⟨b,o,none⟩ v) b (cs.set o v) e:=by
   unfold R9
   rw [heap_setCell_same w b o _ e v hb];simp
  refine ⟨_,?_,k _ hw Gu⟩
  have hst:(store ⟨b,o,none⟩ v).run P w=.ok () (w.setCell ⟨b,o,none⟩ v):=by
   cases v <;> first|(simp [Value.oneCell'] at hv;done)|simp [store,Sem.run,hc,hf]
  simp [Instr.storeAt,Instr.sureAddr,storeVar,sizeOf,typeInfo,hi,hl,hvc,storeCells,Addr.add_zero',hst]
theorem acv {t:TypeId} {e:TypeId} {b o:Nat} {cs:List Value} {v:Value} {K:World→Prop} (hb:R9 w b cs e) (ho:o<cs.length) (hs:(P.info? t).map (·.size)=some 1) (hv:v.oneCell'=true)
  (k:∀w',KH w w' b→R9 w' b (cs.set o v) e→K w'):IX P (Instr.storeAt t (.pointer (some ⟨b,o,none⟩)) v) w K :=
 af1 hb ho hs hv (by rw [Tl];exact k)
theorem amw {t e:TypeId} {b o len cap:Nat} {ki:IntKind} {i:Int} (sz j p:Nat) (hj:i=j) (hl:j<len) (hp:o+j * sz=p) (ht:P.underlying t=some (.slice e)) (hs:(P.info? e).map (fun i=>i.size)=some sz)
  (k:K (.pointer (some ⟨b,p,none⟩)) w):Ze P (Instr.indexAt t (.slice (some ⟨b,o,none⟩) len cap) (.int ki i)) w K:=by
 subst hj;subst hp
 refine ⟨_,w,?_,k⟩
 cases hi':P.info? e with
 | none=>simp [hi'] at hs
 | some i' =>
  simp only [hi',Option.map_some,Option.some.injEq] at hs
  simp [Instr.indexAt,asIntOf,run_underlying ht,sizeOf,typeInfo,hi',hs,Addr.add_lit,hl]
theorem KH.trans {w w' w'':World} {b:Nat} (h:KH w w' b) (k:KH w' w'' b):KH w w'' b :=
 ⟨k.os.trans h.os,k.tape.trans h.tape,k.output.trans h.output,k.size.trans h.size,fun i hi=>(k.block i hi).trans (h.block i hi)⟩
theorem KH.refl (w:World) (b:Nat):KH w w b:=⟨rfl,rfl,rfl,rfl,fun _ _=>rfl⟩
def ET (l:List Field):Nat→(TypeId→Nat→Prop)→Prop :=
 List.rec (motive:=fun _=>Nat→(TypeId→Nat→Prop)→Prop) (fun _ _=>False) (fun f _ ih n k=>Nat.rec (motive:=fun _=>Prop) (match f with
  | ⟨_,ty,off,_,_,_,_⟩=>k ty off) (fun m _=>ih m k) n) l
theorem acw {l:List Field} {i:Nat} {k:TypeId→Nat→Prop} (h:ET l i k):∃f,l[i]?=some f∧k f.type f.offset:=by
 induction l generalizing i with
 | nil=>exact h.elim
 | cons f r ih=>cases i with
  | zero=>exact ⟨f,rfl,h⟩
  | succ i=>simpa using ih (i:=i) h
theorem Z9 {s:TypeId} {fs:Array Field} {i b o:Nat} (hu:P.underlying s=some (.struct fs)) (h:ET fs.toList i fun ty off=>IU (Nat.ble 1 (P.cellsOf ty)) (K (.pointer (some ⟨b,o+off,none⟩)) w)) :
  Ze P (Instr.fieldAt s (.pointer (some ⟨b,o,none⟩)) i) w K:=by
 obtain ⟨f,hf,h⟩:=acw h
 obtain ⟨h1,h2⟩:=NK h
 refine ⟨_,w,?_,h2⟩
 simp only [Array.getElem?_toList] at hf
 have h1:1≤P.cellsOf f.type:=by simpa using h1
 cases hi:P.info? f.type with
 | none=>simp [Program.cellsOf,hi] at h1
 | some j =>
  have:j.size≠0:=by grind [Program.cellsOf]
  simp [Instr.fieldAt,run_underlying hu,hf,Instr.sureAddr,fieldPlace,sizeOf,typeInfo,hi,this,Addr.add_lit]
def HR (P:Program) (ty:TypeId) (cs:List Value) (off:Nat) (k:Value→Prop):Prop :=
 match P.underlying ty with
 | some d=>match NJ d with
  | true=>NI cs off fun r=>Mh r (P.cellsOf ty) fun vs=>k (.agg vs.toArray)
  | false=>Kz cs off k
 | none=>False
theorem aa7 {ty:TypeId} {cs:List Value} {off:Nat} {k:Value→Prop} (h:HR P ty cs off k):∃v,(part ty cs.toArray off).run P w=.ok v w∧k v:=by
 unfold HR at h
 split at h
 ·rename_i d hu
  split at h
  ·rename_i hd
   rw [Qc] at h
   obtain ⟨h1,h2⟩:=NH h
   refine ⟨_,?_,h2⟩
   cases hi:P.info? ty with
   | none=>simp [Program.underlying,hi] at hu
   | some i =>
    simp [part,SY hu,hd,sizeOf,typeInfo,hi,Program.cellsOf]
  ·rename_i hd
   obtain ⟨v,hv,h⟩:=Oc h
   exact ⟨v,by simp [part,SY hu,hd,hv],h⟩
 ·grind
theorem Th {s:TypeId} {fs:Array Field} {i:Nat} {cs:Array Value} (hu:P.underlying s=some (.struct fs)) (h:ET fs.toList i fun ty off=>HR P ty cs.toList off fun v=>K v w) :
  Ze P (Instr.field s (.agg cs) i) w K:=by
 obtain ⟨f,hf,h⟩:=acw h
 obtain ⟨v,hv,h⟩:=aa7 (w:=w) h
 refine ⟨v,w,?_,h⟩
 simp only [Array.getElem?_toList] at hf
 simp only [Array.toArray_toList] at hv
 simp [Instr.field,run_underlying hu,hf,asAgg,hv]
def N9 (P:Program) (l:List Field):(List (Nat × Nat)→Prop)→Prop :=
 List.rec (motive:=fun _=>(List (Nat × Nat)→Prop)→Prop) (fun k=>k []) (fun f _ ih k=>match f with
  | ⟨_,ty,off,_,_,_,_⟩=>ih fun l=>k ((off,P.cellsOf ty)::l)) l
theorem aaW (f:Field) (r:List Field) (k:List (Nat × Nat)→Prop):N9 P (f::r) k=N9 P r fun l=>k ((f.offset,P.cellsOf f.type)::l):=by cases f;rfl
theorem ab0 (l:List Field) (k:List (Nat × Nat)→Prop):N9 P l k=k (l.map fun f=>(f.offset,P.cellsOf f.type)):=by
 induction l generalizing k with
 | nil=>rfl
 | cons f r ih=>simp [aaW,ih]
theorem aa8 {α β:Type} {g:α→Sem β} {h:α→β}:∀(l:List α),(∀a,a∈l→(g a).run P w=.ok (h a) w)→(l.mapM g).run P w=.ok (l.map h) w
 | [],_=>by simp
 | a::r,hl=>by
  rw [List.mapM_cons]
  simp only [Sem.run_bind,hl a (List.mem_cons_self ..),Result.andThen_ok,aa8 r fun b hb=>hl b (List.mem_cons_of_mem _ hb),Sem.run_pure,List.map_cons]
theorem ab1 {t:TypeId} (h:(P.info? t).isSome=true):(sizeOf t).run P w=.ok (P.cellsOf t) w:=by
 obtain ⟨j,hj⟩:=Option.isSome_iff_exists.1 h
 simp [sizeOf,typeInfo,hj,Program.cellsOf]
theorem Zj {t:TypeId} {fs:Array Field} {z:Value} {ps:Array (Nat × Value)} (hu:P.underlying t=some (.struct fs)) (hz:(P.info? t).bind (fun i=>i.zero)=some z)
  (hf:fs.toList.all (fun f=>(P.info? f.type).isSome)=true)
  (h:N9 P fs.toList fun pl=>Ti z fun zs=>Qd (fun i=>pl[i]?) ps.toList zs fun cs=>K (.agg cs.toArray) w):Ze P (Instr.build t ps) w K:=by
 rw [ab0,Wl] at h
 obtain ⟨cs,h1,h2⟩:=aag _ h
 refine ⟨_,w,?_,h2⟩
 cases hi:P.info? t with
 | none=>simp [hi] at hz
 | some i =>
  simp only [hi,Option.bind_some] at hz
  have hm:(fs.mapM (m:=Sem) fun f=>do pure (f.offset,←sizeOf f.type)).run P w=.ok (fs.toList.map fun f=>(f.offset,P.cellsOf f.type)).toArray w:=by
   rw [Array.mapM_eq_mapM_toList]
   rw [Sem.run_map,aa8 (h:=fun f=>(f.offset,P.cellsOf f.type)) _ (fun f hm=>?_)]
   ·rfl
   ·grind [Sem.run_bind,ab1,Result.andThen_ok,Sem.run_pure]
  have hzv:(zeroValue t).run P w=.ok z w:=by simp [zeroValue,typeInfo,hi,hz]
  simp only [Array.toArray_toList] at h1
  unfold Instr.build
  simp only [Sem.run_bind,hzv,Result.andThen_ok,run_underlying hu,hm,List.getElem?_toArray,h1,Sem.run_pure,Array.toArray_toList]
end YW
namespace YW
open Go Go.RowKit
variable {P:Program} {w:World} {K:Value→World→Prop}
theorem ad4 {lo:Nat} {w w':World} {e:TypeId} {sz:Nat} {v:Value} {n:Nat} {xs:List Value} (h:w.ownsRow lo e sz v n xs) (hb:∀k,v.ownBlock=some k→w'.heap[k]?=w.heap[k]?):w'.ownsRow lo e sz v n xs:=by
 refine ⟨h.1,?_⟩
 rcases h.2 with hn|⟨g,cap,cur,rfl,Cn,hgg,rest⟩
 ·grind
 ·refine .inr ⟨g,cap,cur,rfl,Cn,?_,rest⟩
  rw [hb g rfl];exact hgg
theorem ad5 {lo lo':Nat} {w:World} {e:TypeId} {sz:Nat} {v:Value} {n:Nat} {xs:List Value} (h:w.ownsRow lo e sz v n xs) (hl:lo'≤lo):w.ownsRow lo' e sz v n xs:=by
 refine ⟨h.1,?_⟩
 rcases h.2 with hn|⟨g,cap,cur,rfl,Cn,rest⟩
 ·grind
 ·exact .inr ⟨g,cap,cur,rfl,lCa hl Cn,rest⟩
theorem Iv.own {w w':World} {cs:List Value} {e:TypeId} (h:Iv w w' cs e) (n sz:Nat) (hn:cs.length=n * sz) (hm:n≤140737488355328):w'.ownsRow w.heap.size e sz (.slice (some ⟨w.heap.size,0,none⟩) n n) n cs :=
 ⟨hn,.inr ⟨w.heap.size,n,cs.toArray,rfl,lna _,h.Ud,lna _,by simp [maxLen];omega,by simpa using hn,lta (by simp [hn])⟩⟩
abbrev Hv:=Nat→Obj→Prop
def Rg (w:World) (lo hi:Nat):Hv:=fun b o=>lo≤b∧b<hi∧w.heap[b]?=some o
def Kw (H H':Hv):Prop:=∀b o,H b o→H' b o
theorem Kw.refl (H:Hv):Kw H H:=fun _ _ h=>h
theorem Rg.mono {w w':World} {lo hi lo' hi':Nat} (hlo:lo'≤lo) (hhi:hi≤hi') (hs:∀b,lo≤b→b<hi→w'.heap[b]?=w.heap[b]?):Kw (Rg w lo hi) (Rg w' lo' hi') :=
 fun b o ⟨h1,h2,h3⟩=>⟨lCa hlo h1,Nat.lt_of_lt_of_le h2 hhi,(hs b h1 h2).trans h3⟩
theorem Rg.below {w w':World} {lo hi B:Nat} (hb:Below B w w') (h:hi≤B):Kw (Rg w lo hi) (Rg w' lo hi):=Rg.mono (lna _) (lna _) fun b _ h2=>hb.block b (Nat.lt_of_lt_of_le h2 h)
def FA (H:Hv) (b o:Nat) (vs:List Value):Prop:=∃cs e fz,H b (.cells cs e fz)∧∀i v,vs[i]?=some v→cs[o+i]?=some v
theorem FA.at {w:World} {lo hi b o:Nat} {vs:List Value} (h:FA (Rg w lo hi) b o vs):At w b o vs:=by
 obtain ⟨cs,e,fz,⟨_,_,h1⟩,h2⟩:=h;exact ⟨cs,e,fz,h1,h2⟩
theorem FA.mono {H H':Hv} {b o:Nat} {vs:List Value} (h:FA H b o vs) (hh:Kw H H'):FA H' b o vs:=by
 obtain ⟨cs,e,fz,h1,h2⟩:=h;exact ⟨cs,e,fz,hh _ _ h1,h2⟩
section
variable {α:Type}
def Gs (R:Hv→List Value→α→Prop) (sz:Nat) (H:Hv) (cells:List Value) (xs:List α):Prop :=
 cells.length=xs.length * sz∧∀i x,xs[i]?=some x→R H ((cells.drop (i * sz)).take sz) x
def VY (R:Hv→List Value→α→Prop) (sz:Nat) (H:Hv) (v:Value) (xs:List α):Prop :=
 ∃a cap,v=.slice a xs.length cap∧(xs.length≤cap∧cap≤9223372036854775807)∧(a=none→xs=[]∧cap=0) ∧
  (xs≠[]→∃b o news,a=some ⟨b,o,none⟩∧FA H b o news∧Gs R sz H news xs)
def ES (R:Hv→List Value→α→Prop):Prop:=∀H H' vs x,Kw H H'→R H vs x→R H' vs x
theorem Gs.mono {R:Hv→List Value→α→Prop} {sz:Nat} {H H':Hv} {cells:List Value} {xs:List α} (hR:ES R) (h:Gs R sz H cells xs) (hh:Kw H H'):Gs R sz H' cells xs :=
 ⟨h.1,fun i x hx=>hR _ _ _ _ hh (h.2 i x hx)⟩
theorem VY.mono {R:Hv→List Value→α→Prop} {sz:Nat} {H H':Hv} {v:Value} {xs:List α} (hR:ES R) (h:VY R sz H v xs) (hh:Kw H H'):VY R sz H' v xs:=by
 obtain ⟨a,cap,h1,h2,h3,h4⟩:=h
 exact ⟨a,cap,h1,h2,h3,fun hx=>let ⟨b,o,news,e,k1,k2⟩:=h4 hx;⟨b,o,news,e,k1.mono hh,k2.mono hR hh⟩⟩
theorem VY.len {R:Hv→List Value→α→Prop} {sz:Nat} {H:Hv} {v:Value} {xs:List α} (h:VY R sz H v xs):xs.length≤9223372036854775807:=by
 obtain ⟨a,cap,h1,h2,h3,h4⟩:=h;omega
theorem VY.nil (R:Hv→List Value→α→Prop) (sz:Nat) (H:Hv):VY R sz H (.slice none 0 0) [] :=
 ⟨none,0,rfl,by simp,fun _=>⟨rfl,rfl⟩,fun h=>absurd rfl h⟩
theorem aj8 {R:Hv→List Value→α→Prop} {sz:Nat} {H:Hv} {t ty e:TypeId} {v:Value} {xs:List α} (h:VY R sz H v xs) (ht:P.underlying t=some (.slice e)) (k:K (.int .i64 xs.length) w) :
  Ze P (Builtin.len_ #[t] ty #[v]) w K:=by
 obtain ⟨a,cap,rfl,h2,h3,h4⟩:=h
 exact Ws ht k
end
end YW
namespace YW
open Go
theorem af2 (k:IntKind) (x:Int) (n:Nat) (hn:n≤k.bits):W0 k x n=x / 2 ^ n:=by grind [W0]
theorem RZ (n:Nat) (x:Int):((BitVec.ofInt n x).toNat:Int)=x % 2 ^ n:=by
 rw [BitVec.toNat_ofInt]
 have h:0≤x % ((2 ^ n:Nat):Int):=Int.emod_nonneg _ (by exact_mod_cast Nat.ne_of_gt (Nat.two_pow_pos n))
 rw [Int.toNat_of_nonneg h]
 norm_cast
theorem aaA (k:IntKind) (x:Int) (n:Nat) (hn:n<k.bits):TJ k x (2 ^ n-1)=x % 2 ^ n:=by
 unfold TJ
 have h1:(BitVec.ofInt k.bits (2 ^ n-1)).toNat=2 ^ n-1:=by
  have h2:=RZ k.bits (2 ^ n-1)
  have h3:((2:Int) ^ n-1) % 2 ^ k.bits=2 ^ n-1:=by
   have a:(0:Int)<2 ^ n:=by exact_mod_cast Nat.two_pow_pos n
   have b:(2:Int) ^ n≤2 ^ k.bits:=by exact_mod_cast lPa (by decide) (lVa hn)
   exact Int.emod_eq_of_lt AH AH
  rw [h3] at h2
  have h4:((2 ^ n-1:Nat):Int)=2 ^ n-1:=by
   rw [Int.ofNat_sub (Nat.one_le_two_pow)];norm_cast
  omega
 rw [BitVec.toNat_and,h1,Nat.and_two_pow_sub_one_eq_mod]
 have h5:(((BitVec.ofInt k.bits x).toNat % 2 ^ n:Nat):Int)=x % 2 ^ n:=by
  rw [Int.natCast_emod,RZ]
  have:((2 ^ n:Nat):Int)=2 ^ n:=by norm_cast
  rw [this]
  exact Int.emod_emod_of_dvd x (by exact_mod_cast Nat.pow_dvd_pow 2 (lVa hn))
 rw [h5]
 have a:(0:Int)<2 ^ n:=by exact_mod_cast Nat.two_pow_pos n
 have h6:=Int.emod_nonneg x (Int.ne_of_gt a)
 have h7:=Int.emod_lt_of_pos x a
 have h8:(2:Int) ^ n≤2 ^ (k.bits-1):=by exact_mod_cast lPa (by decide) AH
 have h9:=UK (k:=k) (n:=x % 2 ^ n) (by
   unfold IntKind.min;split
   ·have:(0:Int)<2 ^ (k.bits-1):=by exact_mod_cast Nat.two_pow_pos _
    omega
   ·exact h6) (by
   unfold IntKind.max
   have:(2:Int) ^ (k.bits-1)≤2 ^ k.bits:=by exact_mod_cast lPa (by decide) AH
   split <;> omega)
 unfold ZO at h9
 exact h9
theorem af3 (k:IntKind) (a b:Nat) (n:Nat) (ha:a<2 ^ n) (hb:2 ^ n ∣ b) (hk:(a:Int)+b≤k.max):R1 k a b=a+b:=by
 unfold R1
 have amx:k.max<2 ^ k.bits:=by cases k <;> decide
 have ea:(BitVec.ofInt k.bits (a:Int)).toNat=a:=by grind
 have eb:(BitVec.ofInt k.bits (b:Int)).toNat=b:=by grind
 obtain ⟨c,rfl⟩:=hb
 rw [BitVec.toNat_or,ea,eb,Nat.or_comm,←Nat.two_pow_add_eq_or_of_lt ha]
 have:=UK (k:=k) (n:=((2 ^ n * c+a:Nat):Int)) (by
  have:k.min≤0:=by cases k <;> decide
  omega) AH
 unfold ZO at this
 rw [this]
 omega
theorem af4 (k:IntKind) (x:Int) (n:Nat) (hn:n≤k.bits):Wi k x n=ZO k (x * 2 ^ n):=by grind [Wi,ZO]
theorem LQ (k:IntKind) (x:Int):TJ k x 127=x % 128:=aaA k x 7 (by cases k <;> decide)
theorem XA (k:IntKind) (n:Int):k.min≤ZO k n∧ZO k n≤k.max:=by
 unfold ZO
 cases k <;> simp [IntKind.wrap,IntKind.min,IntKind.max,IntKind.bits,IntKind.signed] <;> omega
end YW
namespace X7
open Go YW
def W6 (n:Nat):List UInt8:=if h:n<128 then [UInt8.ofNat n] else UInt8.ofNat (n % 128+128)::W6 (n / 128)
termination_by n
decreasing_by omega
def Vl (n:Int):List UInt8:=if h:-64≤n∧n<64 then [UInt8.ofNat (n % 128).toNat] else UInt8.ofNat ((n % 128).toNat+128)::Vl (n / 128)
termination_by n.natAbs
decreasing_by omega
theorem Qb {n:Nat} (h:n<128):W6 n=[UInt8.ofNat n]:=by rw [W6,dif_pos h]
theorem Qa {n:Nat} (h:128≤n):W6 n=UInt8.ofNat (n % 128+128)::W6 (n / 128):=by rw [W6,dif_neg AH]
theorem Sz {n:Int} (h:-64≤n∧n<64):Vl n=[UInt8.ofNat (n % 128).toNat]:=by rw [Vl,dif_pos h]
theorem RY {n:Int} (h:¬(-64≤n∧n<64)):Vl n=UInt8.ofNat ((n % 128).toNat+128)::Vl (n / 128):=by rw [Vl,dif_neg h]
theorem ad6 (n:Nat):0<(W6 n).length:=by grind [Qb,Qa]
theorem ad7 (n:Int):0<(Vl n).length:=by grind [Sz,RY]
theorem NG (k:Nat):∀n,n<128 ^ (k+1)→(W6 n).length≤k+1:=by
 induction k with
 | zero=>intro n h;rw [Qb AH];simp
 | succ k ih =>
  intro n h
  by_cases h1:n<128
  ·grind
  ·grind [Qa,List.length_cons,Nat.pow_succ]
theorem NF (k:Nat):∀n:Int,-(64 * 128 ^ k:Nat)≤n→n<(64 * 128 ^ k:Nat)→(Vl n).length≤k+1:=by
 induction k with
 | zero=>intro n h h';rw [Sz AH];simp
 | succ k ih =>
  intro n h h'
  by_cases h1:-64≤n∧n<64
  ·grind
  ·rw [RY h1,lla]
   have e:64 * 128 ^ (k+1)=128 * (64 * 128 ^ k):=by omega
   rw [e] at h h'
   have:=ih (n / 128) AH AH
   omega
theorem V8 {n:Nat} (h:n<256):(UInt8.ofNat n).toNat=n:=by grind [UInt8.toNat_ofNat']
def JV (bits:Nat):List UInt8→Nat→Nat→Nat × Nat × Nat
 | [],_,_=>(0,0,3)
 | c::r,i,acc =>
  if bits<7 * i+7∧c.toNat / 2 ^ (bits-7 * i)≠0 then (0,0,4)
  else if c.toNat<128 then (acc+c.toNat % 128 * 2 ^ (7 * i),i+1,0)
  else JV bits r (i+1) (acc+c.toNat % 128 * 2 ^ (7 * i))
def MA (c:Nat):Int:=if c % 128<64 then (c % 128:Nat) else (c % 128:Nat)-128
def Gq (bits i c:Nat):Prop:=bits<7 * i+7∧(128≤c∨MA c < -((2 ^ (bits-7 * i-1):Nat):Int)∨((2 ^ (bits-7 * i-1):Nat):Int)≤MA c)
instance (bits i c:Nat):Decidable (Gq bits i c):=by unfold Gq;exact inferInstance
def LP (bits:Nat):List UInt8→Nat→Nat→Int × Nat × Nat
 | [],_,_=>(0,0,3)
 | c::r,i,acc =>
  if Gq bits i c.toNat then (0,0,4)
  else if c.toNat<128 then (acc+MA c.toNat * (2 ^ (7 * i):Nat),i+1,0)
  else LP bits r (i+1) (acc+c.toNat % 128 * 2 ^ (7 * i))
theorem Uh (i:Nat):2 ^ (7 * (i+1))=128 * 2 ^ (7 * i):=by grind
theorem ad8 (bits:Nat) (more:List UInt8):∀(m i acc:Nat),7 * i<bits→m<2 ^ (bits-7 * i) →
  JV bits (W6 m++more) i acc=(acc+m * 2 ^ (7 * i),i+(W6 m).length,0):=by
 intro m
 induction m using Nat.strongRecOn with
 | _ m ih =>
  intro i acc hi hm
  by_cases h:m<128
  ·rw [Qb h,List.singleton_append,JV,V8 AH,if_neg,if_pos h,Nat.mod_eq_of_lt h]
   ·rfl
   ·rintro ⟨_,h2⟩;exact h2 (Nat.div_eq_of_lt hm)
  ·have h8:7 * i+8≤bits:=by
    rcases lra bits (7 * i+8) with hl|hl
    ·have:(2:Nat) ^ (bits-7 * i)≤2 ^ 7:=lPa (by decide) AH
     omega
    ·omega
   rw [Qa AH,lHa,JV,V8 AH,if_neg AH,if_neg AH]
   have e1:(m % 128+128) % 128=m % 128:=by omega
   rw [e1,ih (m / 128) AH (i+1) _ AH]
   ·rw [Uh,lla]
    have e2:m % 128 * 2 ^ (7 * i)+m / 128 * (128 * 2 ^ (7 * i))=m * 2 ^ (7 * i):=by
     rw [←Nat.mul_assoc,←lEb];congr 1;omega
    refine Prod.ext AH (Prod.ext ?_ rfl)
    ·grind
   ·have e3:2 ^ (bits-7 * i)=128 * 2 ^ (bits-7 * (i+1)):=by
     have:bits-7 * i=7+(bits-7 * (i+1)):=by omega
     rw [this,Nat.pow_add]
    rw [e3] at hm
    omega
theorem af5 (bits:Nat):∀(m i acc j:Nat),7 * i<bits→m<2 ^ (bits-7 * i)→j<(W6 m).length→JV bits ((W6 m).take j) i acc=(0,0,3):=by
 intro m
 induction m using Nat.strongRecOn with
 | _ m ih =>
  intro i acc j hi hm hj
  by_cases h:m<128
  ·rw [Qb h] at hj ⊢
   have:j=0:=by grind
   subst this;rfl
  ·have h8:7 * i+8≤bits:=by
    rcases lra bits (7 * i+8) with hl|hl
    ·have:(2:Nat) ^ (bits-7 * i)≤2 ^ 7:=lPa (by decide) AH
     omega
    ·omega
   rw [Qa AH] at hj ⊢
   cases j with
   | zero=>rfl
   | succ j =>
    rw [List.take_succ_cons,JV,V8 AH,if_neg AH,if_neg AH]
    have e3:2 ^ (bits-7 * i)=128 * 2 ^ (bits-7 * (i+1)):=by
     have:bits-7 * i=7+(bits-7 * (i+1)):=by omega
     rw [this,Nat.pow_add]
    exact ih (m / 128) AH (i+1) _ j AH AH (by grind)
theorem adq (bits:Nat):∀(s:List UInt8) (i acc n k:Nat),acc<2 ^ (7 * i)→JV bits s i acc=(n,k,0)→n<2 ^ (7 * k)∧i<k∧k≤i+s.length:=by
 intro s
 induction s with
 | nil=>intro i acc n k _ h;simp [JV] at h
 | cons c r ih =>
  intro i acc n k ha h
  have hb:acc+c.toNat % 128 * 2 ^ (7 * i)<2 ^ (7 * (i+1)):=by
   rw [Uh]
   have h2:(c.toNat % 128+1) * 2 ^ (7 * i)≤128 * 2 ^ (7 * i):=lza _ AH
   rw [lEb] at h2
   omega
  rw [JV] at h
  split at h
  ·grind
  ·split at h
   ·grind
   ·obtain ⟨h1,h2,h3⟩:=ih (i+1) _ n k hb h
    exact ⟨h1,by omega,by simp;omega⟩
theorem ab2 {n k:Nat} (h:n<2 ^ (7 * k)) (hk:0<k):(W6 n).length≤k:=by
 obtain ⟨j,rfl⟩:∃j,k=j+1:=⟨k-1,by omega⟩
 exact NG j n (by grind [Nat.pow_mul])
theorem ad9 (m:Int) (h:-64≤m∧m<64):MA (m % 128).toNat=m:=by grind [MA]
theorem aa9 (bits:Nat) (more:List UInt8):∀(k:Nat) (m:Int) (i acc:Nat),m.natAbs≤k→7 * i<bits→-((2 ^ (bits-7 * i-1):Nat):Int)≤m→m<((2 ^ (bits-7 * i-1):Nat):Int) →
  LP bits (Vl m++more) i acc=(acc+m * (2 ^ (7 * i):Nat),i+(Vl m).length,0):=by
 intro k
 induction k with
 | zero =>
  intro m i acc hk hi h1 h2
  have:m=0:=by omega
  subst this
  rw [Sz AH,List.singleton_append,LP]
  have e:(UInt8.ofNat ((0:Int) % 128).toNat).toNat=0:=rfl
  have hp:=Nat.two_pow_pos (bits-7 * i-1)
  rw [e,if_neg (by unfold Gq;rw [show MA 0=0 from rfl];omega),if_pos AH]
  simp [MA]
 | succ k ih =>
  intro m i acc hk hi h1 h2
  by_cases h:-64≤m∧m<64
  ·rw [Sz h,List.singleton_append,LP,V8 AH,ad9 m h,if_neg,if_pos AH]
   ·rfl
   ·rintro ⟨_,h'|h'⟩
    ·omega
    ·grind [ad9]
  ·have h8:7 * i+7<bits:=by
    rcases lra (7 * i+7) bits with hl|hl
    ·omega
    ·have:(2:Nat) ^ (bits-7 * i-1)≤2 ^ 6:=lPa (by decide) AH
     omega
   rw [RY h,lHa,LP,V8 AH,if_neg (by rintro ⟨h,_⟩;omega),if_neg AH]
   have e3:2 ^ (bits-7 * i-1)=128 * 2 ^ (bits-7 * (i+1)-1):=by
    have:bits-7 * i-1=7+(bits-7 * (i+1)-1):=by omega
    rw [this,Nat.pow_add]
   rw [e3] at h1 h2
   rw [ih (m / 128) (i+1) _ AH AH AH AH]
   have e1:((m % 128).toNat+128) % 128=(m % 128).toNat:=by omega
   rw [e1,Uh,lla]
   refine Prod.ext ?_ (Prod.ext ?_ rfl)
   ·grind
   ·grind
theorem acy (bits:Nat):∀(k:Nat) (m:Int) (i acc j:Nat),m.natAbs≤k→7 * i<bits→-((2 ^ (bits-7 * i-1):Nat):Int)≤m→m<((2 ^ (bits-7 * i-1):Nat):Int)→j<(Vl m).length →
  LP bits ((Vl m).take j) i acc=(0,0,3):=by
 intro k
 induction k with
 | zero =>
  intro m i acc j hk hi h1 h2 hj
  have:m=0:=by omega
  subst this
  rw [Sz AH] at hj ⊢
  have:j=0:=by grind
  subst this;rfl
 | succ k ih =>
  intro m i acc j hk hi h1 h2 hj
  by_cases h:-64≤m∧m<64
  ·rw [Sz h] at hj ⊢
   have:j=0:=by grind
   subst this;rfl
  ·have h8:7 * i+7<bits:=by
    rcases lra (7 * i+7) bits with hl|hl
    ·omega
    ·have:(2:Nat) ^ (bits-7 * i-1)≤2 ^ 6:=lPa (by decide) AH
     omega
   rw [RY h] at hj ⊢
   cases j with
   | zero=>rfl
   | succ j =>
    have e3:2 ^ (bits-7 * i-1)=128 * 2 ^ (bits-7 * (i+1)-1):=by
     have:bits-7 * i-1=7+(bits-7 * (i+1)-1):=by omega
     rw [this,Nat.pow_add]
    rw [e3] at h1 h2
    rw [List.take_succ_cons,LP,V8 AH,if_neg (by rintro ⟨h,_⟩;omega),if_neg AH]
    exact ih (m / 128) (i+1) _ j AH AH AH AH (by grind)
theorem adr (bits:Nat):∀(s:List UInt8) (i acc:Nat) (n:Int) (k:Nat),acc<2 ^ (7 * i)→LP bits s i acc=(n,k,0) →
  -((64 * 2 ^ (7 * (k-1)):Nat):Int)≤n∧n<((64 * 2 ^ (7 * (k-1)):Nat):Int)∧i<k∧k≤i+s.length:=by
 intro s
 induction s with
 | nil=>intro i acc n k _ h;simp [LP] at h
 | cons c r ih =>
  intro i acc n k ha h
  rw [LP] at h
  split at h
  ·grind
  ·split at h
   ·simp only [Prod.mk.injEq] at h
    obtain ⟨rfl,rfl,_⟩:=h
    have hs:-64≤MA c.toNat∧MA c.toNat≤63:=by grind [MA]
    rw [lYa]
    generalize 2 ^ (7 * i)=p at *
    have a1:-64 * (p:Int)≤MA c.toNat * p:=lQb hs.1 AH
    have a2:MA c.toNat * (p:Int)≤63 * p:=lQb hs.2 AH
    refine ⟨?_,?_,by omega,by simp⟩ <;> push_cast <;> omega
   ·have hb:acc+c.toNat % 128 * 2 ^ (7 * i)<2 ^ (7 * (i+1)):=by
     rw [Uh]
     have h2:(c.toNat % 128+1) * 2 ^ (7 * i)≤128 * 2 ^ (7 * i):=lza _ AH
     rw [lEb] at h2
     omega
    obtain ⟨h1,h2,h3,h4⟩:=ih (i+1) _ n k hb h
    exact ⟨h1,h2,by omega,by simp;omega⟩
theorem aim (bits:Nat):∀(s:List UInt8) (i acc:Nat),7 * i<bits→bits=32∨bits=64→acc<2 ^ (7 * i)→(JV bits s i acc).1<2 ^ bits:=by
 intro s
 induction s with
 | nil=>intro i acc _ _ _;exact Nat.two_pow_pos _
 | cons c r ih =>
  intro i acc hi hb ha
  rw [JV]
  split
  ·grind
  ·rename_i hno
   have e:(2:Nat) ^ bits=2 ^ (bits-7 * i) * 2 ^ (7 * i):=by rw [←Nat.pow_add];congr 1;omega
   have h1:c.toNat % 128<2 ^ (bits-7 * i):=by
    by_cases h:bits<7 * i+7
    ·grind
    ·have:(2:Nat) ^ 7≤2 ^ (bits-7 * i):=lPa (by decide) AH
     omega
   have h2:(c.toNat % 128+1) * 2 ^ (7 * i)≤2 ^ (bits-7 * i) * 2 ^ (7 * i):=lza _ h1
   split
   ·grind
   ·rename_i hc
    have h7:7 * (i+1)<bits:=by grind
    refine ih (i+1) _ h7 hb ?_
    rw [Uh]
    have h2:(c.toNat % 128+1) * 2 ^ (7 * i)≤128 * 2 ^ (7 * i):=lza _ AH
    rw [lEb] at h2
    omega
theorem ain (bits:Nat):∀(s:List UInt8) (i acc:Nat),7 * i<bits→bits=32∨bits=64→acc<2 ^ (7 * i) →
  -((2 ^ (bits-1):Nat):Int)≤(LP bits s i acc).1∧(LP bits s i acc).1<((2 ^ (bits-1):Nat):Int):=by
 intro s
 have hz:=Nat.two_pow_pos (bits-1)
 induction s with
 | nil=>intro i acc _ _ _;exact ⟨by show _≤(0:Int);omega,by show (0:Int)<_;omega⟩
 | cons c r ih =>
  intro i acc hi hb ha
  rw [LP]
  split
  ·omega
  ·rename_i hno
   have e:(2:Nat) ^ (bits-1)=2 ^ (bits-7 * i-1) * 2 ^ (7 * i):=by rw [←Nat.pow_add];congr 1;omega
   have hs:-64≤MA c.toNat∧MA c.toNat≤63:=by grind [MA]
   split
   ·have h1:-((2 ^ (bits-7 * i-1):Nat):Int)≤MA c.toNat∧MA c.toNat+1≤((2 ^ (bits-7 * i-1):Nat):Int):=by
     by_cases h:bits<7 * i+7
     ·constructor
      ·apply Decidable.byContradiction;intro hh;exact hno ⟨h,.inr (.inl AH)⟩
      ·apply Decidable.byContradiction;intro hh;exact hno ⟨h,.inr (.inr AH)⟩
     ·have:(2:Nat) ^ 6≤2 ^ (bits-7 * i-1):=lPa (by decide) AH
      omega
    rw [e]
    generalize 2 ^ (bits-7 * i-1)=M at *
    generalize 2 ^ (7 * i)=p at *
    have a1:-(M:Int) * p≤MA c.toNat * p:=lQb h1.1 AH
    have a2:(MA c.toNat+1) * p≤(M:Int) * p:=lQb h1.2 AH
    rw [Int.neg_mul] at a1
    rw [Int.add_mul,Int.one_mul] at a2
    rw [Int.natCast_mul]
    show _≤(acc:Int)+MA c.toNat * p∧(acc:Int)+MA c.toNat * p<_
    omega
   ·rename_i hc
    have h7:7 * (i+1)<bits:=by
     by_cases h:bits<7 * i+7
     ·exact absurd ⟨h,.inl AH⟩ hno
     ·omega
    refine ih (i+1) _ h7 hb ?_
    rw [Uh]
    have h2:(c.toNat % 128+1) * 2 ^ (7 * i)≤128 * 2 ^ (7 * i):=lza _ AH
    rw [lEb] at h2
    omega
theorem ab3 {n:Int} {k:Nat} (h1:-((64 * 2 ^ (7 * (k-1)):Nat):Int)≤n) (h2:n<((64 * 2 ^ (7 * (k-1)):Nat):Int)) (hk:0<k):(Vl n).length≤k:=by
 obtain ⟨j,rfl⟩:∃j,k=j+1:=⟨k-1,by omega⟩
 rw [lYa,Nat.pow_mul] at h1 h2
 exact NF j n h1 h2
theorem aj9 (m:Int) (more:List UInt8) (h:-9223372036854775808≤m∧m≤9223372036854775807):LP 64 (Vl m++more) 0 0=(m,(Vl m).length,0):=by
 have h1:=aa9 64 more m.natAbs m 0 0 (lna _) (by decide) AH AH
 rw [h1];simp
theorem aka (m:Int) (more:List UInt8) (h:-2147483648≤m∧m≤2147483647):LP 32 (Vl m++more) 0 0=(m,(Vl m).length,0):=by
 have h1:=aa9 32 more m.natAbs m 0 0 (lna _) (by decide) AH AH
 rw [h1];simp
theorem akb (m:Nat) (more:List UInt8) (h:m<2 ^ 32):JV 32 (W6 m++more) 0 0=(m,(W6 m).length,0):=by
 have h1:=ad8 32 more m 0 0 (by decide) AH
 rw [h1];simp
end X7
namespace YW
open Go Go.RowKit
def Still (w w':World):Prop:=∃d,w'={ w with drawn:=d }
theorem Still.refl (w:World):Still w w:=⟨w.drawn,rfl⟩
theorem Still.trans {a b c:World} (h:Still a b) (k:Still b c):Still a c:=by
 obtain ⟨d,rfl⟩:=h;obtain ⟨e,rfl⟩:=k;exact ⟨e,rfl⟩
theorem Still.drew (w:World):Still w w.drew:=⟨w.drawn+1,rfl⟩
theorem Still.heap {w w':World} (h:Still w w'):w'.heap=w.heap:=by obtain ⟨d,rfl⟩:=h;rfl
theorem Still.below {w w':World} (h:Still w w') (B:Nat):Below B w w':=by obtain ⟨d,rfl⟩:=h;exact ⟨rfl,rfl,rfl,lna _,fun _ _=>rfl⟩
inductive On (P:Program) (S:World→Prop) (m:Sem Value) (K:Value→Prop):Prop
 | mk (v:Value) (h:∀w,S w→m.run P w=.ok v w) (k:K v)
theorem On.of {P:Program} {S:World→Prop} {m:Sem Value} {K:Value→Prop} (v:Value) (h:∀w,S w→Ze P m w (fun u w'=>v=u∧w=w')) (k:K v):On P S m K :=
 ⟨v,fun w hS=>(by obtain ⟨u,w',hm,rfl,rfl⟩:=h w hS;exact hm),k⟩
theorem tk {P:Program} {S:World→Prop} {m:Sem Value} {K:Value→Prop} {v:Value} (h:∀w,S w→Ze P m w (fun u w'=>v=u∧w=w')) (k:K v):On P S m K:=On.of v h k
def ER (P:Program) (S:World→Prop) (op:BinOp) (t:TypeId) (x y:Operand) (a b:Value) (K:Value→Prop):Prop :=
 match a with
 | .int k a=>match b with
  | .int k' b=>match op with
   | .shl=>YF b (WT (Wi k a b) fun n=>K (.int k n))
   | .shr=>YF b (WT (W0 k a b) fun n=>K (.int k n))
   | op=>match BF k k' with
    | true=>SA op k a b K
    | false=>False
  | b=>On P S (do eqGuard op t x y (.int k a) b;binOp op t (.int k a) b) K
 | a=>On P S (do eqGuard op t x y a b;binOp op t a b) K
def unT (P:Program) (S:World→Prop) (op:UnOp) (a:Value) (K:Value→Prop):Prop :=
 match op with
 | .not=>match a with
  | .bool b=>K (.bool (!b))
  | _=>False
 | .neg=>match a with
  | .int k n=>WT (ZO k (0-n)) fun m=>K (.int k m)
  | _=>False
 | op=>On P S (Op.unary op a) K
def akc (v:Value) (K:Value→Prop):Prop :=
 match v with
 | .pointer p=>match p with
  | some a=>K (.pointer (some a))
  | none=>False
 | .func fn a b=>match fn with
  | .func f=>K (.func (.func f) a b)
  | _=>False
 | .iface t x=>K (.iface t x)
 | _=>False
def akd (v:Value) (i:Nat) (K:Value→Prop):Prop :=
 match v with
 | .tuple vs=>Kz vs.toList i K
 | _=>False
def Ib (P:Program) (S:World→Prop) (o:Oper) (ρ:List Value) (K:Value→Prop):Prop :=
 match o.op with
 | .move x=>VP ρ x K
 | .assign x=>VP ρ x K
 | .pick c a b=>VP ρ c fun c=>match c with
  | .bool c=>NP c fun c=>match c with
   | true=>VP ρ a K
   | false=>VP ρ b K
  | _=>False
 | .build t parts=>Pb ρ parts.toList fun vs=>On P S (Instr.build t vs.toArray) K
 | .load t x=>VP ρ x fun a=>On P S (Instr.loadAt t a) K
 | .nilCheck x=>VP ρ x fun v=>akc v K
 | .binOp op t x y _=>VP ρ x fun a=>VP ρ y fun b=>ER P S op t x y a b K
 | .unOp op _ x=>VP ρ x fun a=>unT P S op a K
 | .convert s d x=>VP ρ x fun a=>On P S (convert s d a) K
 | .makeInterface t x=>VP ρ x fun a=>On P S (Instr.makeInterface t a) K
 | .makeFunc fn first captured=>TK ρ first.toList fun fs=>TK ρ captured.toList fun cs=>K (.func fn fs.toArray cs.toArray)
 | .slice t x lo hi mx=>VP ρ x fun a=>LW ρ lo fun lo=>LW ρ hi fun hi=>LW ρ mx fun mx=>On P S (Instr.sliceAt t a lo hi mx) K
 | .fieldAddr t x f=>VP ρ x fun a=>On P S (Instr.fieldAt t a f) K
 | .field t x f=>VP ρ x fun a=>On P S (Instr.field t a f) K
 | .indexAddr t x i=>VP ρ x fun a=>VP ρ i fun i=>On P S (Instr.indexAt t a i) K
 | .index t x i=>VP ρ x fun a=>VP ρ i fun i=>On P S (Instr.index t a i) K
 | .extract x i=>VP ρ x fun v=>akd v i K
 | .typeAssert x t u ok=>VP ρ x fun a=>On P S (Instr.typeAssert a t u ok) K
 | .call c=>match c.callee with
  | .builtin .len=>TK ρ c.args.toList fun vs=>On P S (Builtin.len_ c.argTypes o.type vs.toArray) K
  | .builtin .max=>TK ρ c.args.toList fun vs=>On P S (Builtin.max_ c.argTypes o.type vs.toArray) K
  | .builtin .min=>TK ρ c.args.toList fun vs=>On P S (Builtin.min_ c.argTypes o.type vs.toArray) K
  | _=>False
 | .lookup t x i ok=>VP ρ x fun a=>VP ρ i fun i=>On P S (Instr.lookup t a i ok) K
 | _=>False
section
variable {P:Program} {S:World→Prop}
theorem WD {o:Oper} {ρ:List Value} {m:Sem Value} {K:Value→Prop} (he:execOp (ev ρ) o=(do pure (.value (←m)))) (h:On P S m K) :
  ∃v,(∀w,S w→(execOp (ev ρ) o).run P w=.ok (.value v) w)∧K v:=by
 obtain ⟨v,hm,k⟩:=h
 exact ⟨v,fun w hS=>by simp only [he,Sem.run_bind,hm w hS,Result.andThen_ok,Sem.run_pure],k⟩
theorem af6 {op:BinOp} {k:IntKind} {t:TypeId} {x y:Operand} {a b:Int} {K:Value→Prop} (amq:op≠.shl) (amr:op≠.shr) (h:SA op k a b K) :
  ∃v,(∀w,(do eqGuard op t x y (.int k a) (.int k b);binOp op t (.int k a) (.int k b):Sem Value).run P w=.ok v w)∧K v:=by
 have hg:∀w,(eqGuard op t x y (.int k a) (.int k b)).run P w=.ok () w:=fun w=>by simp [eqGuard]
 cases op <;> simp only [SA] at h <;> first
  | (obtain ⟨hb,_,rfl,h⟩:=h;refine ⟨_,fun w=>?_,h⟩;simp only [Sem.run_bind,hg,Result.andThen_ok];simp [binOp,Op.intDiv,hb,Tk,SF];done)
  | (obtain ⟨_,rfl,h⟩:=h;refine ⟨_,fun w=>?_,h⟩;simp only [Sem.run_bind,hg,Result.andThen_ok];simp [binOp,Op.intArith,Op.intBits,Op.intCmp,ZO,TJ,R1,QF,Rt,SC,SB,SE,SD];done)
  | (refine ⟨_,fun w=>?_,h⟩;simp only [Sem.run_bind,hg,Result.andThen_ok];simp [binOp,Op.intArith,Op.intBits,Op.intCmp,ZO,TJ,R1,QF,Rt,SC,SB,SE,SD];done)
  | contradiction
  | exact h.elim
theorem ab4 {op:BinOp} {t:TypeId} {x y:Operand} {a b:Value} {K:Value→Prop} (h:ER P S op t x y a b K):On P S (do eqGuard op t x y a b;binOp op t a b) K:=by
 unfold ER at h
 split at h
 ·split at h
  ·split at h
   ·obtain ⟨hb,_,rfl,h⟩:=h
    refine ⟨_,fun w _=>?_,h⟩
    simp only [eqGuard,Sem.run_bind];simp [binOp,Op.shift,Wi,Int.not_lt.2 hb]
   ·obtain ⟨hb,_,rfl,h⟩:=h
    refine ⟨_,fun w _=>?_,h⟩
    simp only [eqGuard,Sem.run_bind];simp [binOp,Op.shift,W0,Int.not_lt.2 hb]
   ·rename_i Ue hk2
    split at h
    ·rename_i hk
     obtain rfl:=adS hk
     obtain ⟨v,h1,h2⟩:=af6 (P:=P) (t:=t) (x:=x) (y:=y) (fun e=>Ue e) (fun e=>hk2 e) h
     exact ⟨v,fun w _=>h1 w,h2⟩
    ·exact h.elim
  ·exact h
 ·exact h
theorem SX {o:Oper} {ρ:List Value} {K:Value→Prop} (h:Ib P S o ρ K):∃v,(∀w,S w→(execOp (ev ρ) o).run P w=.ok (.value v) w)∧K v:=by
 unfold Ib at h
 simp only [SG,LY,Pa,LV,S7] at h
 split at h
 case h_1 x ho=>exact ⟨_,fun w _=>by unfold execOp;rw [ho];rfl,h⟩
 case h_2 x ho=>exact ⟨_,fun w _=>by unfold execOp;rw [ho];rfl,h⟩
 case h_3 c a b ho =>
  split at h
  ·rename_i cb hc
   split at h
   ·exact ⟨_,fun w _=>by unfold execOp;rw [ho];simp [hc,asBool],h⟩
   ·exact ⟨_,fun w _=>by unfold execOp;rw [ho];simp [hc,asBool],h⟩
  ·grind
 case h_4 t ps ho =>
  exact WD (m:=Instr.build t ((ps.toList.map fun (i,x)=>(i,ev ρ x)).toArray)) (by unfold execOp;rw [ho];simp [←Array.toList_map]) h
 case h_5 t x ho=>exact WD (by grind [execOp]) h
 case h_6 x ho =>
  unfold akc at h
  split at h
  ·rename_i p hp
   split at h
   ·exact ⟨_,fun w _=>by unfold execOp;rw [ho];simp only [hp];rfl,h⟩
   ·grind
  ·rename_i fn a b hp
   split at h
   ·exact ⟨_,fun w _=>by unfold execOp;rw [ho];simp only [hp];rfl,h⟩
   ·grind
  ·rename_i t v hp
   exact ⟨_,fun w _=>by unfold execOp;rw [ho];simp only [hp];rfl,h⟩
  ·grind
 case h_7 op t x y yt ho=>exact WD (by grind [execOp]) (ab4 h)
 case h_8 op t x ho =>
  unfold unT at h
  split at h
  ·split at h
   ·rename_i b hb
    exact ⟨_,fun w _=>by unfold execOp;rw [ho];simp [hb,Op.unary],h⟩
   ·grind
  ·split at h
   ·rename_i k n hb
    obtain ⟨_,rfl,h⟩:=h
    exact ⟨_,fun w _=>by unfold execOp;rw [ho];simp [hb,Op.unary,Op.intArith,ZO],h⟩
   ·grind
  ·exact WD (by grind [execOp]) h
 case h_9 s d x ho=>exact WD (by grind [execOp]) h
 case h_10 t x ho=>exact WD (by grind [execOp]) h
 case h_11 fn fs cs ho =>
  exact ⟨_,fun w _=>by unfold execOp;rw [ho];simp [Instr.makeFunc,←Array.toList_map],h⟩
 case h_12 t x lo hi mx ho=>exact WD (by grind [execOp]) h
 case h_13 t x f ho=>exact WD (by grind [execOp]) h
 case h_14 t x f ho=>exact WD (by grind [execOp]) h
 case h_15 t x i ho=>exact WD (by grind [execOp]) h
 case h_16 t x i ho=>exact WD (by grind [execOp]) h
 case h_17 x i ho =>
  unfold akd at h
  split at h
  ·rename_i vs hv
   obtain ⟨u,hu,h⟩:=Oc h
   refine ⟨u,fun w _=>?_,h⟩
   unfold execOp;rw [ho]
   simp only [Array.getElem?_toList] at hu
   simp [hv,Instr.extract,hu]
  ·grind
 case h_18 x t u ok ho=>exact WD (by grind [execOp]) h
 case h_19 c ho =>
  have hargs:∀(xs:Array Operand),(xs.toList.map (ev ρ)).toArray=xs.map (ev ρ):=fun xs=>by simp [←Array.toList_map]
  split at h
  ·rename_i hc
   exact WD (m:=Builtin.len_ c.argTypes o.type (c.args.map (ev ρ))) k_x k_v
  ·rename_i hc
   exact WD (m:=Builtin.max_ c.argTypes o.type (c.args.map (ev ρ))) k_x k_v
  ·rename_i hc
   exact WD (m:=Builtin.min_ c.argTypes o.type (c.args.map (ev ρ))) k_x k_v
  ·grind
 case h_20 t x i ok ho=>exact WD (by grind [execOp]) h
 case h_21=>exact h.elim
end
inductive YZ (S:Prop) (K:Prop):Prop
 | mk (h:S) (k:K)
def P9 (P:Program) (ops:List Oper) (S:World→Prop) (K:List Value→World→Prop) (plan:List (Nat × Bool)):List Value→World→Prop :=
 List.rec (motive:=fun _=>List Value→World→Prop) K (fun i _ ih ρ w=>match ops[i.1]? with
  | none=>False
  | some o=>match i.2 with
   | true=>XZ ops o.guard ρ fun b ρ=>match b with
    | true=>Ib P S o ρ fun v=>WU ρ o.dst v fun ρ=>ih ρ w
    | false=>WU ρ o.dst undef fun ρ=>ih ρ w
   | false=>XZ ops o.guard ρ fun b ρ=>match b with
    | true=>Ky P o ρ w fun v w'=>YZ (S w') (WU ρ o.dst v fun ρ=>ih ρ w')
    | false=>WU ρ o.dst undef fun ρ=>ih ρ w) plan
theorem ab5 (P:Program) (ops:List Oper) (S:World→Prop) (K:List Value→World→Prop) (i:Nat × Bool) (r:List (Nat × Bool)) (ρ:List Value) (w:World) :
  P9 P ops S K (i::r) ρ w=match ops[i.1]? with
  | none=>False
  | some o=>match i.2 with
   | true=>XZ ops o.guard ρ fun b ρ=>match b with
    | true=>Ib P S o ρ fun v=>WU ρ o.dst v fun ρ=>P9 P ops S K r ρ w
    | false=>WU ρ o.dst undef fun ρ=>P9 P ops S K r ρ w
   | false=>XZ ops o.guard ρ fun b ρ=>match b with
    | true=>Ky P o ρ w fun v w'=>YZ (S w') (WU ρ o.dst v fun ρ=>P9 P ops S K r ρ w')
    | false=>WU ρ o.dst undef fun ρ=>P9 P ops S K r ρ w:=rfl
noncomputable def O4 (ops:Array Oper) (plan:List (Nat × Bool)):Array Bool→Bool :=
 List.rec (motive:=fun _=>Array Bool→Bool) (fun listed=>(Region.ready .any ops listed).isEmpty) (fun i _ ih listed=>match ops[i.1]? with
  | none=>false
  | some o=>(match i.2 with
   | true=>Region.free .any ops listed i.1 && (Region.ready .any ops listed).contains i.1
   | false=>Region.ready .any ops listed == [i.1]) && ih (listed.setIfInBounds i.1 true)) plan
theorem RX (ops:Array Oper) (i:Nat × Bool) (r:List (Nat × Bool)) (listed:Array Bool):O4 ops (i::r) listed=match ops[i.1]? with
  | none=>false
  | some o=>(match i.2 with
   | true=>Region.free .any ops listed i.1 && (Region.ready .any ops listed).contains i.1
   | false=>Region.ready .any ops listed == [i.1]) && O4 ops r (listed.setIfInBounds i.1 true):=rfl
noncomputable def RW (ops:Array Oper) (plan:List (Nat × Bool)):Bool:=Region.noSelect ops && plan.length == ops.size && O4 ops plan (Array.replicate ops.size false)
theorem QC (ds:List Nat) (ρ:List Value):agree ds ρ ρ:=⟨rfl,fun _ _=>rfl⟩
theorem XM {ds:List Nat} {ρ0 ρ:List Value} (h:agree ds ρ0 ρ) {d:Option Nat} (hd:∀n,d=some n→n∈ds) (v:Value):agree ds ρ0 (put ρ d v):=by
 obtain ⟨h1,h2⟩:=h
 cases d with
 | none=>exact ⟨h1,h2⟩
 | some n =>
  refine ⟨by simp [put,h1],fun i hi=>?_⟩
  have:n≠i:=fun e=>hi (e ▸ hd n rfl)
  simp only [put]
  rw [List.getElem?_set_ne this]
  exact h2 i hi
section
variable {P:Program} {ops:Array Oper} {S:World→Prop} {K:List Value→World→Prop} {ρ0:List Value}
theorem aba (hs:Region.noSelect ops=true) (plan:List (Nat × Bool)):∀(fuel:Nat) (listed:Array Bool) (ρ:List Value) (w:World),plan.length≤fuel→O4 ops plan listed=true→S w→agree (Yv ops.toList) ρ0 ρ →
  P9 P ops.toList S K plan ρ w→wpAnyH P .any ops (fun e a w'=>e=.normal∧a.defers=[]∧agree (Yv ops.toList) ρ0 a.tmps.toList∧K a.tmps.toList w') S fuel listed ⟨ρ.toArray,[]⟩ w:=by
 induction plan with
 | nil =>
  intro fuel listed ρ w _ hok hS hag h
  exact wpAnyH_done (List.isEmpty_iff.1 hok) ⟨rfl,rfl,hag,h⟩ fuel
 | cons ib r ih =>
  obtain ⟨i,aio⟩:=ib
  intro fuel listed ρ w hfl hok hS hag h
  obtain ⟨f,rfl⟩:∃f,fuel=f+1:=⟨fuel-1,by simp at hfl;omega⟩
  have HQ:r.length≤f:=by grind
  rw [RX] at hok
  rw [ab5] at h
  simp only [Array.getElem?_toList] at h
  cases ho:ops[i]? with
  | none=>rw [ho] at hok;cases hok
  | some o =>
   rw [ho] at hok h
   simp only [Bool.and_eq_true] at hok h
   have hmem:∀n,o.dst=some n→n∈Yv ops.toList:=fun n hn=>by grind [Yv]
   cases hT:aio with
   | true =>
    rw [hT] at hok h
    simp only [Bool.and_eq_true] at hok
    obtain ⟨⟨hfree,Wh⟩,VK⟩:=hok
    obtain ⟨b,hb,h⟩:=XW h
    have key:∀v,YieldsIf P ops S o v ⟨ρ.toArray,[]⟩→P9 P ops.toList S K r (put ρ o.dst v) w→wpAnyH P .any ops (fun e a w'=>e=.normal∧a.defers=[]∧agree (Yv ops.toList) ρ0 a.tmps.toList∧K a.tmps.toList w') S (f+1) listed ⟨ρ.toArray,[]⟩ w:=fun v hy hk =>
     wpAnyH_take ho hs hfree Wh (fun c a w hq=>by cases hq.1) hy hS (by
      rw [put_eq]
      exact ih f _ _ w HQ VK hS (XM hag hmem v) hk)
    cases b
    ·simp only [Ya] at h
     exact key undef (.inr ⟨hb,rfl⟩) h
    ·obtain ⟨v,hv,hk⟩:=SX h
     rw [Ya] at hk
     exact key v (.inl ⟨hb,fun w hS=>by rw [Ys];exact hv w hS⟩) hk
   | false =>
    rw [hT] at hok h
    simp only [beq_iff_eq] at hok
    obtain ⟨Wh,VK⟩:=hok
    obtain ⟨b,hb,h⟩:=XW h
    refine wpAnyH_all Wh AF fun j hj=>?_
    obtain rfl:j=i:=by grind
    unfold wpOp
    rw [ho]
    simp only [hb]
    cases b
    ·simp only [Bool.false_eq_true,if_false,Ya] at h ⊢
     rw [put_eq]
     exact ⟨hS,ih f _ _ w HQ VK hS (XM hag hmem _) h⟩
    ·simp only [if_true] at h ⊢
     refine .inl (Ui h fun v w' ⟨Fy,hk⟩=>?_)
     rw [Ya] at hk
     rw [put_eq]
     exact ⟨Fy,ih f _ _ w' HQ VK Fy (XM hag hmem v) hk⟩
theorem draw {id:Nat} {w:World} (S:World→Prop) (plan:List (Nat × Bool)) (hm:P.follows .mixedOrders=true) (hc:RW ops plan=true)
  (h:∀w1,w1=w.drew→S w1∧P9 P ops.toList S K plan ρ0 w1):NN P id ops K ρ0 w:=by
 simp only [RW,Bool.and_eq_true,beq_iff_eq] at hc
 obtain ⟨⟨h1,h2⟩,h3⟩:=hc
 obtain ⟨hS,hk⟩:=h _ rfl
 exact ⟨wp_region_held hm (aba h1 plan _ _ _ _ (Nat.le_of_eq h2) h3 hS (QC _ _) hk)⟩
end
end YW
namespace YW
open Go Go.RowKit
variable {P:Program} {w:World}
theorem O3 (vs:List Value):∀(cs:List Value) (o i:Nat),o+vs.length≤cs.length→(V9 cs o vs)[i]?=if o≤i∧i<o+vs.length then vs[i-o]? else cs[i]?:=by
 induction vs with
 | nil=>intro cs o i h;rw [if_neg AF];rfl
 | cons v vs ih =>
  intro cs o i h
  simp only [List.length_cons] at h ⊢
  rw [V9,ih _ _ _ (by grind)]
  by_cases h2:o=i
  ·grind
  ·grind
theorem UJ (vs cs:List Value) (o:Nat) (h:o+vs.length≤cs.length):V9 cs o vs=cs.take o++vs++cs.drop (o+vs.length):=by
 apply lEa
 intro i
 rw [O3 vs cs o i h,lia0]
 have hl:(cs.take o).length=o:=by grind
 by_cases h1:i<o
 ·grind
 ·grind
theorem af7 {t:TypeId} {e:TypeId} {b o:Nat} {cs vs:List Value} {K:World→Prop} (hb:R9 w b cs e) (hs:(P.info? t).map (·.size)=some vs.length) (ho':Nat.ble (o+vs.length) cs.length=true) (hv:vs.all (·.oneCell')=true)
  (k:NL cs o vs fun cs'=>∀w',KH w w' b→R9 w' b cs' e→K w'):IX P (Instr.storeAt t (.pointer (some ⟨b,o,none⟩)) (.agg vs.toArray)) w K:=by
 have ho:o+vs.length≤cs.length:=lcb ho'
 rw [S5,UJ _ _ _ ho] at k
 cases hi:P.info? t with
 | none=>simp [hi] at hs
 | some i =>
  have hl:i.size=vs.length:=by grind
  have hst:=run_storeCells_at (P:=P) b o e vs 0 cs.toArray w hb AH (fun v hm=>lzb.1 hv v hm)
  simp only [Nat.add_zero] at hst
  have Gu:R9 (w.setRow b (cs.take o++vs++cs.drop (o+vs.length)).toArray) b (cs.take o++vs++cs.drop (o+vs.length)) e:=setRow_heap w b _ _ e (0,0) hb
  have hw:KH w (w.setRow b (cs.take o++vs++cs.drop (o+vs.length)).toArray) b:=by
   refine ⟨rfl,rfl,rfl,by simp [World.setRow],fun j hj=>?_⟩
   unfold World.setRow
   simp only [Array.getElem?_modify]
   rw [if_neg (fun h=>hj h.symm)]
  refine ⟨_,?_,k _ hw Gu⟩
  simp [Instr.storeAt,Instr.sureAddr,storeVar,sizeOf,typeInfo,hi,hl,Value.cells,hst]
theorem bl {a b:Nat} (h:Nat.ble (a+1) b=true):a<b:=lcb h
section
variable {w0 w':World} {b b' o:Nat} {cs vs cs':List Value} {e e':TypeId}
end
theorem rdA {t:TypeId} {d:TypeDesc} {b o:Nat} {vs:List Value} {K:Value→Prop} (h:At w b o vs) (hu:P.underlying t=some d) (hd:NJ d=true) (hs:(P.info? t).map (·.size)=some vs.length) (k:K (.agg vs.toArray)) :
  IV P (loadVar t ⟨b,o,none⟩) w K:=by
 refine ⟨_,?_,k⟩
 cases hi:P.info? t with
 | none=>simp [hi] at hs
 | some i =>
  have hl:i.size=vs.length:=by grind
  have:=run_loadCells_list (P:=P) w ⟨b,o,none⟩ vs (fun j v hv=>by rw [Addr.add_lit];exact h.cell hv)
  simp [loadVar,SY hu,hd,sizeOf,typeInfo,hi,hl,this]
def RE {α:Type} (en:α→List Value) (ok:α→Prop):Hv→List Value→α→Prop:=fun _ cs x=>cs=en x∧ok x
theorem RE.mono' {α:Type} (en:α→List Value) (ok:α→Prop):ES (RE en ok):=fun _ _ _ _ _ h=>h
end YW
namespace YW
open Go Go.RowKit
variable {P:Program} {α:Type}
def O1 (lo:Nat) (w:World) (e:TypeId) (s:Nat) (en:α→List Value) (v:Value) (xs:List α):Prop:=w.ownsRow lo e s v xs.length (xs.flatMap en)∧∀x,(en x).length=s
theorem Yx {en:α→List Value} {s:Nat} (h:∀x,(en x).length=s) (xs:List α):(xs.flatMap en).length=xs.length * s:=by
 induction xs with
 | nil=>simp
 | cons x xs ih=>rw [lNa,lca,h,ih,lla,ljb];omega
theorem SW {en:α→List Value} {s:Nat} (h:∀x,(en x).length=s):∀(xs:List α) (i:Nat) (x:α),xs[i]?=some x→((xs.flatMap en).drop (i * s)).take s=en x:=by
 intro xs
 induction xs with
 | nil=>intro i x hx;simp at hx
 | cons y ys ih =>
  intro i x hx
  cases i with
  | zero =>
   obtain rfl:=Option.some.inj hx
   rw [lNa,Nat.zero_mul,lnb,lxa (by grind),lta (by grind)]
  | succ i =>
   rw [lNa,ljb,Nat.add_comm,←lhb,lub0 (by grind),lwa (l:=en y) (by grind),lOa]
   exact ih i x (by grind)
theorem O1.nil (lo:Nat) (w:World) (e:TypeId) {s:Nat} {en:α→List Value} (h:∀x,(en x).length=s):O1 lo w e s en (.slice none 0 0) []:=⟨World.ownsRow_nil w lo e s,h⟩
structure Gr (w w':World) (v v':Value):Prop where
 g:w.grownBy w' v.ownBlock
 at_:v'.ownBlock=v.ownBlock∨v'.ownBlock=none∨∃k,v'.ownBlock=some k∧w.heap.size≤k
theorem aaX {w:World} {lo:Nat} {t ty e:TypeId} {i:TypeInfo} {z:Value} {s:Nat} (ht:P.underlying t=some (.slice e)) (hi:P.info? e=some i) (hz:i.zero=some z) (hs:i.size=s) (hzs:z.cells.size=s)
  {v:Value} {n:Nat} {xs:List Value} (hown:w.ownsRow lo e s v n xs) {a:Addr} {m c:Nat} {news:List Value} (hl:news.length=m * s) (hnews:∀j u,news[j]?=some u→w.cell? (a.add j)=some u) (h1:∀u∈news,u.oneCell'=true)
  (h63:n+m≤maxLen) (hbytes:(n+m) * i.bytes≤140737488355328) {v':Value} {w':World} (hr:(Builtin.append_ #[t,t] ty #[v,.slice (some a) m c]).run P w=.ok v' w') :
  v'.ownBlock=v.ownBlock∨v'.ownBlock=none∨v'.ownBlock=some w.heap.size:=by
 subst hs
 have hsmall:n+m≤9223372036854775807:=by grind [maxLen]
 have done:∀{u:Value} {w2:World},(Builtin.append_ #[t,t] ty #[v,.slice (some a) m c]).run P w=.ok u w2→v'=u:=fun h=>by grind
 rcases hown.2 with ⟨rfl,rfl⟩|⟨g,cap,cur,rfl,Cn,hg,hnc,R8,hcs,aon⟩
 ·by_cases hm:m=0
  ·subst hm
   have hn:news=[]:=lma AH
   subst hn
   have:(Builtin.append_ #[t,t] ty #[.slice none 0 0,.slice (some a) 0 c]).run P w=.ok (.slice none 0 0) w:=by
    simp [Builtin.append_,run_underlying ht,sizeOf,typeInfo,hi,Builtin.lenOf,Builtin.firstCells,loadCells,loadCellsFrom]
   rw [done this];exact .inl rfl
  ·have Fx:=run_append_nil (P:=P) w t ty e i z ht hi hz a m c news hl hnews AH AH (by grind)
   rw [done Fx];exact .inr (.inr rfl)
 ·by_cases hroom:n+m≤cap
  ·have hfit:n * i.size+news.length≤cur.size:=by rw [hl,hcs,←lEb];exact lza _ hroom
   have Fx:=run_append_room (P:=P) w t ty e i ht hi g n cap cur hg a m c news hl hnews h1 hroom hfit
   rw [done Fx];exact .inl rfl
  ·have holds:∀j u,xs[j]?=some u→w.cell? ((⟨g,0,none⟩:Addr).add j)=some u:=hown.cells (g:=g) rfl
   have Fx:=run_append_grow (P:=P) w t ty e i z ht hi hz ⟨g,0,none⟩ n cap xs hown.1 holds a m c news hl hnews AH AH (growslice_fits AH hbytes)
   rw [done Fx];exact .inr (.inr rfl)
theorem ake {w:World} {K:Value→World→Prop} {lo:Nat} {t ty e:TypeId} {en:α→List Value} {s:Nat} {v:Value} {xs ys:List α} {m c b o:Nat} (z:Value) (P8:Nat) (hown:O1 lo w e s en v xs) (Uc:At w b o (ys.flatMap en)) (hm:ys.length=m)
  (h1:∀y∈ys,((en y).all (·.oneCell'))=true) (hu:P.underlying t=some (.slice e)) (hz:(P.info? e).map (fun i=>(i.zero,i.size,i.bytes))=some (some z,s,P8)) (hzs:z.cells.size=s) (hsz:0<s)
  (hb:(xs.length+m) * P8≤140737488355328) (hml:xs.length+m≤140737488355328) (hlo:lo≤w.heap.size)
  (k:∀v' w',O1 lo w' e s en v' (xs++ys)→Gr w w' v v'→K v' w'):Ze P (Builtin.append_ #[t,t] ty #[v,.slice (some ⟨b,o,none⟩) m c]) w K:=by
 cases hi:P.info? e with
 | none=>simp [hi] at hz
 | some i =>
  simp only [hi,Option.map_some,Option.some.injEq,Prod.mk.injEq] at hz
  obtain ⟨h2,h3,h4⟩:=hz
  subst hm
  have hc:∀j u,(ys.flatMap en)[j]?=some u→w.cell? ((⟨b,o,none⟩:Addr).add j)=some u:=fun j u hj=>by rw [Addr.add_lit];exact Uc.cell hj
  have ho:∀u∈ys.flatMap en,u.oneCell'=true:=fun u hu=>by grind
  obtain ⟨v',w',hr,a1,a2,a3⟩:=run_append_own (P:=P) w lo t ty e i z s P8 hu hi h2 h3 h4 hzs hsz v xs.length (xs.flatMap en) hown.1 ⟨b,o,none⟩ ys.length c (ys.flatMap en) (Yx hown.2 ys) hc ho (by grind [maxLen]) hb hlo
  have LN:=aaX hu hi h2 h3 hzs hown.1 (Yx hown.2 ys) hc ho (by grind [maxLen]) (by grind) hr
  refine ⟨v',w',hr,k v' w' ⟨by rw [lca,lIa];exact a1,hown.2⟩ ⟨a2,?_⟩⟩
  rcases LN with h|h|h
  ·grind
  ·grind
  ·grind
theorem O1.keep {lo:Nat} {w w':World} {e:TypeId} {s:Nat} {en:α→List Value} {v:Value} {xs:List α} (h:O1 lo w e s en v xs) (hb:∀k,v.ownBlock=some k→w'.heap[k]?=w.heap[k]?):O1 lo w' e s en v xs:=⟨ad4 h.1 hb,h.2⟩
theorem O1.lt {lo:Nat} {w:World} {e:TypeId} {s:Nat} {en:α→List Value} {v:Value} {xs:List α} (h:O1 lo w e s en v xs) {k:Nat} (hk:v.ownBlock=some k):lo≤k∧k<w.heap.size:=h.1.lt k hk
theorem O1.mono {lo lo':Nat} {w:World} {e:TypeId} {s:Nat} {en:α→List Value} {v:Value} {xs:List α} (h:O1 lo w e s en v xs) (hl:lo'≤lo):O1 lo' w e s en v xs:=⟨ad5 h.1 hl,h.2⟩
section
variable {lo s:Nat} {w0 w w':World} {e e':TypeId} {en:α→List Value} {v v' u:Value} {xs:List α} {cs:List Value} {b:Nat}
def Dj (u v:Value):Prop:=∀k,u.ownBlock=some k→v.ownBlock≠some k
theorem Dj.symm (h:Dj u v):Dj v u:=fun k hk hu=>h k hu hk
theorem Dj.nil (v:Value):Dj (.slice none 0 0) v:=fun k hk=>by cases hk
theorem O1.rd {ok:α→Prop} (h:O1 lo w e s en v xs) (hok:∀x∈xs,ok x) (hs0:0<s):VY (RE en ok) s (Rg w lo w.heap.size) v xs:=by
 rcases h.1.2 with ⟨rfl,h0⟩|⟨g,cap,cur,rfl,hlo,hg,hnc,R8,hcs,ht⟩
 ·have:xs=[]:=lma h0
  subst this;exact VY.nil _ _ _
 ·refine ⟨_,cap,rfl,⟨hnc,by unfold maxLen at R8;omega⟩,nofun,fun _=>⟨g,0,xs.flatMap en,rfl,⟨cur,e,(0,0),⟨hlo,(lva.1 hg).1,hg⟩,fun i x hx=>?_⟩,Yx h.2 xs,fun i x hx=>⟨SW h.2 xs i x hx,hok x (lda hx)⟩⟩⟩
  rw [←ht,lKa] at hx
  split at hx
  ·grind
  ·grind
theorem O1.Ud (h:O1 lo w e s en v xs) (hne:xs≠[]):∃g cap cur,v=.slice (some ⟨g,0,none⟩) xs.length cap∧lo≤g∧R9 w g cur e∧cur.take (xs.length * s)=xs.flatMap en∧xs.length * s≤cur.length∧xs.length≤cap∧cap≤9223372036854775807∧cur.length=cap * s:=by
 rcases h.1.2 with ⟨rfl,h0⟩|⟨g,cap,cur,rfl,hlo,hg,hnc,R8,hcs,ht⟩
 ·grind
 ·have hle:xs.length * s≤cap * s:=lza _ hnc
  have Ux:cur.toList.length=cap * s:=by omega
  exact ⟨g,cap,cur.toList,rfl,hlo,hg,ht,by rw [Ux];exact hle,hnc,by unfold maxLen at R8;omega,Ux⟩
theorem O1.aip {g cap:Nat} {cur:List Value} (hlo:lo≤g) (hb:R9 w g cur e) (ht:cur.take (xs.length * s)=xs.flatMap en) (hn:xs.length≤cap) (hc:cap≤9223372036854775807) (hl:cur.length=cap * s) (hs:∀x,(en x).length=s) :
  O1 lo w e s en (.slice (some ⟨g,0,none⟩) xs.length cap) xs :=
 ⟨⟨Yx hs xs,.inr ⟨g,cap,cur.toArray,rfl,hlo,hb,hn,by unfold maxLen;omega,by simpa using hl,by simpa using ht⟩⟩,hs⟩
end
theorem aea {H:Hv} {R:Hv→List Value→α→Prop} {sz:Nat} {a:Option Addr} {cap:Nat} {xs:List α} {l h:Nat} (hs:VY R sz H (.slice a xs.length cap) xs) (hl:l≤h) (hh:h≤xs.length) :
  VY R sz H (.slice (if cap=l then a else a.map (·.add (l * sz))) (h-l) (cap-l)) ((xs.take h).drop l):=by
 obtain ⟨a',cap',he,h2,h3,h4⟩:=hs
 injection he with e1 e2 e3
 subst e1;subst e3
 have hlen:((xs.take h).drop l).length=h-l:=by rw [lSa,lya];omega
 have hel:∀i,i<h-l→((xs.take h).drop l)[i]?=xs[l+i]?:=fun i hi=>by rw [lmb,lKa,if_pos AH]
 refine ⟨_,cap-l,by rw [hlen],by rw [hlen];omega,fun hn=>?_,fun hne=>?_⟩
 ·have:a=none:=by
   split at hn
   ·exact hn
   ·cases a with
    | none=>rfl
    | some x=>cases hn
  obtain ⟨rfl,rfl⟩:=h3 this
  simp
 ·have hpos:0<h-l:=by rw [←hlen];exact lTb.2 hne
  obtain ⟨b,o,news,rfl,k1,k2⟩:=h4 (by intro e;subst e;simp at hh;omega)
  have hc:cap≠l:=by omega
  refine ⟨b,o+l * sz,(news.drop (l * sz)).take ((h-l) * sz),by rw [if_neg hc];simp [Addr.add_lit],?_,?_,fun i x hx=>?_⟩
  ·obtain ⟨cs,e,fz,k3,k4⟩:=k1
   refine ⟨cs,e,fz,k3,fun i v hv=>?_⟩
   rw [lKa] at hv
   split at hv
   ·rw [lmb] at hv;rw [lSb];exact k4 _ _ hv
   ·cases hv
  ·rw [lya,lSa,k2.1,hlen]
   have:=lza sz (show (h-l)+l≤xs.length by omega)
   rw [lEb] at this;omega
  ·have hi:i<h-l:=by rw [←hlen];exact (lba.1 hx).1
   rw [hel i hi] at hx
   have hr:=k2.2 (l+i) x hx
   have e:(((news.drop (l * sz)).take ((h-l) * sz)).drop (i * sz)).take sz=(news.drop ((l+i) * sz)).take sz:=by
    have:=lza sz (show i+1≤h-l by omega)
    rw [ljb] at this
    rw [lOb,lVb,lhb,lEb]
    congr 1;omega
   rw [e];exact hr
section
variable {w:World} {K:Value→World→Prop} {H:Hv} {R:Hv→List Value→α→Prop} {sz:Nat} {t e:TypeId} {v:Value} {xs:List α}
end
abbrev Rd (en:α→List Value) (ok:α→Prop) (s:Nat) (w:World) (v:Value) (xs:List α):Prop:=VY (RE en ok) s (Rg w 0 w.heap.size) v xs
theorem Rd.next {en:α→List Value} {ok:α→Prop} {s:Nat} {w w':World} {v:Value} {xs:List α} (h:Rd en ok s w v xs) (b:Below w.heap.size w w'):Rd en ok s w' v xs :=
 h.mono (RE.mono' en ok) (Rg.mono (lna _) b.size fun k _ hk=>b.block k hk)
theorem VY.wide {en:α→List Value} {ok:α→Prop} {s lo hi:Nat} {w:World} {v:Value} {xs:List α} (h:VY (RE en ok) s (Rg w lo hi) v xs) (hh:hi≤w.heap.size):Rd en ok s w v xs :=
 h.mono (RE.mono' en ok) (Rg.mono (lJa _) hh fun _ _ _=>rfl)
theorem VY.place {en:α→List Value} {ok:α→Prop} {w:World} (s:Nat) {lo hi:Nat} {t e:TypeId} {v:Value} {xs:List α} (h:VY (RE en ok) s (Rg w lo hi) v xs) (j:Nat) (x:α) (hx:xs[j]?=some x)
  (ht:P.underlying t=some (.slice e)) (hs:(P.info? e).map (fun i=>i.size)=some s) :
  ∃b o,At w b o (en x)∧ok x∧lo≤b∧b<hi∧∀{K:Value→World→Prop} {w':World} {i:Int} {ki:IntKind},i=j→K (.pointer (some ⟨b,o,none⟩)) w'→Ze P (Instr.indexAt t v (.int ki i)) w' K:=by
 have hl:=(lba.1 hx).1
 obtain ⟨a,cap,rfl,h2,h3,h4⟩:=h
 obtain ⟨b,o,news,rfl,k1,k2⟩:=h4 (by grind)
 obtain ⟨hR,hok⟩:=k2.2 j x hx
 have Uc:=(k1.at.sub (j * s) s)
 rw [hR] at Uc
 obtain ⟨_,_,_,⟨IT,JN,_⟩,_⟩:=k1
 refine ⟨b,o+j * s,Uc,hok,IT,JN,fun {K w' i ki} hi k=>?_⟩
 subst hi
 refine ⟨_,w',?_,k⟩
 cases hi':P.info? e with
 | none=>simp [hi'] at hs
 | some i' =>
  simp only [hi',Option.map_some,Option.some.injEq] at hs
  simp [Instr.indexAt,asIntOf,run_underlying ht,sizeOf,typeInfo,hi',hs,Addr.add_lit,hl]
theorem Ug {en:α→List Value} {s:Nat} (h:∀x,(en x).length=s) (xs:List α) (j:Nat) (hj:j≤xs.length):(xs.flatMap en).take (j * s)=(xs.take j).flatMap en:=by
 have e:xs.flatMap en=(xs.take j).flatMap en++(xs.drop j).flatMap en:=by rw [←lIa,leb]
 have hl:((xs.take j).flatMap en).length=j * s:=by grind [Yx,List.length_take,Nat.min_eq_left]
 rw [e,lxa AH,lta AH]
theorem SV {en:α→List Value} {s:Nat} (h:∀x,(en x).length=s) (xs:List α) (j:Nat) (hj:j≤xs.length):(xs.flatMap en).drop (j * s)=(xs.drop j).flatMap en:=by
 have e:xs.flatMap en=(xs.take j).flatMap en++(xs.drop j).flatMap en:=by rw [←lIa,leb]
 have hl:((xs.take j).flatMap en).length=j * s:=by grind [Yx,List.length_take,Nat.min_eq_left]
 rw [e,lub0 AH,lwa AH,lOa]
theorem O1.store {lo s:Nat} {w:World} {e:TypeId} {en:α→List Value} {v:Value} {xs:List α} (h:O1 lo w e s en v xs) (j:Nat) (hj:j<xs.length) :
  ∃g cap cur,v=.slice (some ⟨g,0,none⟩) xs.length cap∧lo≤g∧R9 w g cur e∧j * s+s≤cur.length∧∀(w':World) (x:α),R9 w' g (V9 cur (j * s) (en x)) e→O1 lo w' e s en v (xs.set j x):=by
 obtain ⟨g,cap,cur,rfl,hlo,hb,ht,hlen,hcap,R8,Ux⟩:=h.Ud (by grind)
 have hle:j * s+s≤xs.length * s:=by rw [←ljb];exact lza _ hj
 refine ⟨g,cap,cur,rfl,hlo,hb,by omega,fun w' x hb'=>?_⟩
 have hxl:(en x).length=s:=h.2 x
 have WI:xs.set j x=xs.take j++x::xs.drop (j+1):=by
  rw [List.set_eq_take_append_cons_drop,if_pos hj]
 have key:(V9 cur (j * s) (en x)).take (xs.length * s)=(xs.set j x).flatMap en:=by
  rw [UJ _ _ _ AH,WI,lIa,lNa,←Ug h.2 xs j (lVa hj),←SV h.2 xs (j+1) hj,←ht,hxl]
  apply lEa
  intro i
  simp only [List.getElem?_take,List.getElem?_append,List.length_append,List.length_take,List.getElem?_drop,List.append_assoc,hxl,Nat.succ_mul]
  rw [show min (j * s) cur.length=j * s by omega,show min (j * s) (min (xs.length * s) cur.length)=j * s by omega]
  by_cases h1:i<xs.length * s
  ·grind
  ·grind
 have:=O1.aip (lo:=lo) (xs:=xs.set j x) (s:=s) (en:=en) (cap:=cap) hlo hb' (by grind) (by grind) R8 (by grind [VX]) h.2
 rw [lua] at this
 exact this
theorem abb {P:Program} {w:World} {t:TypeId} {e:TypeId} {b o:Nat} {cs vs:List Value} {K:World→Prop} (hb:R9 w b cs e) (hs:(P.info? t).map (·.size)=some vs.length) (ho:o+vs.length≤cs.length) (hv:vs.all (·.oneCell')=true)
  (k:∀w',KH w w' b→R9 w' b (V9 cs o vs) e→K w'):IX P (Instr.storeAt t (.pointer (some ⟨b,o,none⟩)) (.agg vs.toArray)) w K :=
 af7 hb hs (Nat.ble_eq_true_of_le ho) hv (by rw [S5];exact k)
end YW
namespace YW
open Go Go.RowKit
structure Ev (w w':World) (fp:Nat→Prop):Prop where
 os:w'.os=w.os
 tape:w'.tape=w.tape
 output:w'.output=w.output
 size:w.heap.size≤w'.heap.size
 block:∀k,k<w.heap.size→¬fp k→w'.heap[k]?=w.heap[k]?
def Fr (w:World) (fp fp':Nat→Prop):Prop:=∀k,fp' k→fp k∨w.heap.size≤k
def Ap (f g:Nat→Prop):Prop:=∀k,f k→¬g k
section
variable {w w' w0 w1:World} {fp fp' f g:Nat→Prop} {b:Nat} {v v':Value} {cs:List Value} {e:TypeId} {α:Type}
theorem Ev.refl (w:World) (fp:Nat→Prop):Ev w w fp:=⟨rfl,rfl,rfl,lna _,fun _ _ _=>rfl⟩
theorem Ev.new (n:Iv w w' cs e) (fp:Nat→Prop):Ev w w' fp:=⟨n.below.os,n.below.tape,n.below.output,n.below.size,fun k hk _=>n.below.block k hk⟩
theorem Ev.GQ (u:KH w w' b) (h:fp b):Ev w w' fp:=⟨u.os,u.tape,u.output,by rw [u.size];exact lna _,fun k _ hk=>u.block k (fun e=>hk (e ▸ h))⟩
theorem Ev.below (n:Below w.heap.size w w') (fp:Nat→Prop):Ev w w' fp:=⟨n.os,n.tape,n.output,n.size,fun k hk _=>n.block k hk⟩
theorem Ev.still (s:Still w w') (fp:Nat→Prop):Ev w w' fp:=by obtain ⟨d,rfl⟩:=s;exact ⟨rfl,rfl,rfl,lna _,fun _ _ _=>rfl⟩
theorem Ev.trans (a:Ev w w1 f) (c:Ev w1 w' g) (hf:∀k,f k→fp k) (hg:∀k,k<w.heap.size→g k→fp k):Ev w w' fp :=
 ⟨c.os.trans a.os,c.tape.trans a.tape,c.output.trans a.output,lCa a.size c.size,fun k hk hn=>(c.block k (Nat.lt_of_lt_of_le hk a.size) (fun h=>hn (hg k hk h))).trans (a.block k hk (fun h=>hn (hf k h)))⟩
theorem Ev.mono (a:Ev w w' f) (hf:∀k,f k→fp k):Ev w w' fp:=⟨a.os,a.tape,a.output,a.size,fun k hk hn=>a.block k hk (fun h=>hn (hf k h))⟩
theorem gE (G:Below w0.heap.size w0 w) (x:Ev w w' fp) (h:∀k,fp k→w0.heap.size≤k):Below w0.heap.size w0 w' :=
 ⟨x.os.trans G.os,x.tape.trans G.tape,x.output.trans G.output,lCa G.size x.size,fun k hk=>(x.block k (Nat.lt_of_lt_of_le hk G.size) (fun hf=>Nat.lt_irrefl _ (Nat.lt_of_lt_of_le hk (h k hf)))).trans (G.block k hk)⟩
theorem Fr.refl (w:World) (fp:Nat→Prop):Fr w fp fp:=fun _ h=>.inl h
theorem Fr.trans (a:Fr w f g) (x:w.heap.size≤w1.heap.size) (c:Fr w1 g fp):Fr w f fp:=fun k hk=>by
 rcases c k hk with h|h
 ·exact a k h
 ·omega
theorem Fr.low (a:Fr w f g) {lo:Nat} (hf:∀k,f k→lo≤k) (hw:lo≤w.heap.size):∀k,g k→lo≤k:=fun k hk=>by
 rcases a k hk with h|h
 ·grind
 ·omega
theorem Ap.fr (a:Ap f g) (x:Fr w g fp) (hl:∀k,f k→k<w.heap.size):Ap f fp:=fun k hk hp=>by
 rcases x k hp with h|h
 ·exact a k hk h
 ·grind
theorem Ap.symm (a:Ap f g):Ap g f:=fun k hk hf=>a k hf hk
end
theorem O1.one {α:Type} {lo s:Nat} {w:World} {e:TypeId} {en:α→List Value} {v:Value} {xs:List α} (h:O1 lo w e s en v xs):v.oneCell'=true:=by
 rcases h.1.2 with ⟨e,_⟩|⟨_,_,_,e,_⟩ <;> rw [e] <;> rfl
theorem O1.form {α:Type} {lo s:Nat} {w:World} {e:TypeId} {en:α→List Value} {v:Value} {xs:List α} (h:O1 lo w e s en v xs):∃a c,v=.slice a xs.length c:=by
 rcases h.1.2 with ⟨e,h0⟩|⟨g,cap,cur,e,_⟩
 ·grind
 ·grind
section
variable {P:Program} {w:World} {K:Value→World→Prop}
theorem XR {t e:TypeId} {x y:Operand} {a:Option Addr} {n c:Nat} (ht:P.underlying t=some (.slice e)) (k:K (.bool a.isNone) w) :
  Ze P (do eqGuard .eql t x y (.slice a n c) (.slice none 0 0);binOp .eql t (.slice a n c) (.slice none 0 0)) w K:=by
 refine ⟨_,w,?_,k⟩
 have hg:(eqGuard .eql t x y (.slice a n c) (.slice none 0 0)).run P w=.ok () w:=by simp [eqGuard]
 simp only [Sem.run_bind,hg,Result.andThen_ok]
 simp only [binOp,Sem.run_bind,run_equal_slice_nil (P:=P) w t e a n c ht,Result.andThen_ok,Sem.run_pure]
theorem P7 {t e:TypeId} {x y:Operand} {a:Option Addr} (ht:P.underlying t=some (.pointer e)) (k:K (.bool a.isNone) w) :
  Ze P (do eqGuard .eql t x y (.pointer a) (.pointer none);binOp .eql t (.pointer a) (.pointer none)) w K:=by
 refine ⟨_,w,?_,k⟩
 have hg:(eqGuard .eql t x y (.pointer a) (.pointer none)).run P w=.ok () w:=by simp [eqGuard]
 have he:P.pointee t=e:=by grind [Program.pointee]
 simp only [Sem.run_bind,hg,Result.andThen_ok,run_eql_pointer_nil (P:=P) w t a (by grind)]
end
end YW
namespace YW
open Go Go.RowKit
section
variable {P:Program} {w:World} {K:Value→World→Prop}
theorem Gp {t e:TypeId} {a:Option Addr} {n cap l h m sz:Nat} {lo hi mx:Option Value} (ht:P.underlying t=some (.slice e)) (hsz:(P.info? e).map (fun i=>i.size)=some sz)
  (hb:(Instr.sliceBounds true n cap lo hi mx).run P w=.ok (l,h,m) w) (k:K (.slice (if m=l then a else a.map (·.add (l * sz))) (h-l) (m-l)) w):Ze P (Instr.sliceAt t (.slice a n cap) lo hi mx) w K:=by
 refine ⟨_,w,?_,k⟩
 have he:P.elem t=e:=by grind [Program.elem]
 rw [run_sliceAt_slice (P:=P) w t _ _ _ _ (by grind)]
 cases hi':P.info? e with
 | none=>simp [hi'] at hsz
 | some i' =>
  simp only [hi',Option.map_some,Option.some.injEq] at hsz
  unfold Instr.slice
  simp only [Sem.run_bind,run_underlying ht,Result.andThen_ok,hb]
  simp [sizeOf,typeInfo,hi',hsz]
theorem amy {k:IntKind} {i:Int} {n cap h:Nat} (hi:i=h) (hh:h≤cap):(Instr.sliceBounds true n cap none (some (.int k i)) none).run P w=.ok (0,h,cap) w:=by
 subst hi
 simp [Instr.sliceBounds,run_sliceBound (P:=P) w k (h:Int) cap _ AH AH]
theorem Sy {w:World} {g o:Nat} {cur vs:List Value} {e:TypeId} (hb:R9 w g cur e) (h:o+vs.length≤cur.length) :
  KH w (w.setRow g (cur.take o++vs++cur.drop (o+vs.length)).toArray) g∧R9 (w.setRow g (cur.take o++vs++cur.drop (o+vs.length)).toArray) g (V9 cur o vs) e:=by
 refine ⟨⟨rfl,rfl,rfl,by simp [World.setRow],fun j hj=>?_⟩,?_⟩
 ·grind [World.setRow]
 ·rw [UJ _ _ _ h];exact setRow_heap w g _ _ e (0,0) hb
theorem amz {t e:TypeId} {g o n cap sz:Nat} {k:IntKind} {i:Int} (h:Nat) (ht:P.underlying t=some (.slice e)) (hsz:(P.info? e).map (fun i=>i.size)=some sz) (hi:i=h) (hh:h≤cap)
  (q:K (.slice (some ⟨g,o,none⟩) h cap) w):Ze P (Instr.sliceAt t (.slice (some ⟨g,o,none⟩) n cap) none (some (.int k i)) none) w K:=by
 refine Gp ht hsz (amy hi hh) ?_
 have:(if cap=0 then some ⟨g,o,none⟩ else (some ⟨g,o,none⟩:Option Addr).map (·.add (0 * sz)))=some ⟨g,o,none⟩:=by grind [Addr.add_lit]
 rw [this]
 exact q
end
theorem At.none {w:World} {b o:Nat} {cs:List Value} {e:TypeId} (h:R9 w b cs e):At w b o []:=⟨_,_,_,h,fun i v hv=>by simp at hv⟩
end YW
namespace YW
open Go Go.RowKit
section
variable {P:Program} {α:Type} {lo s:Nat} {w w' w0:World} {e e':TypeId} {en:α→List Value} {v v' u:Value} {xs ys:List α} {b:Nat} {cs:List Value} {K:Value→World→Prop}
def Sf (lo:Nat) (w:World) (e:TypeId) (s:Nat) (en:α→List Value) (v:Value) (xs:List α):Prop :=
 ((v=.slice none 0 0∧xs=[])∨∃g o cap cur,v=.slice (some ⟨g,o,none⟩) xs.length cap∧lo≤g∧R9 w g cur e∧o+cap * s≤cur.length∧xs.length≤cap∧cap≤9223372036854775807∧(cur.drop o).take (xs.length * s)=xs.flatMap en)∧∀x,(en x).length=s
theorem Sf.nil (lo:Nat) (w:World) (e:TypeId) (h:∀x,(en x).length=s):Sf lo w e s en (.slice none 0 0) []:=⟨.inl ⟨rfl,rfl⟩,h⟩
theorem Sf.lt (h:Sf lo w e s en v xs) {k:Nat} (hk:v.ownBlock=some k):lo≤k∧k<w.heap.size:=by
 rcases h.1 with ⟨rfl,_⟩|⟨g,o,cap,cur,rfl,hlo,hb,_⟩
 ·cases hk
 ·obtain rfl:=Option.some.inj hk;exact ⟨hlo,hb.lt⟩
theorem Sf.keep (h:Sf lo w e s en v xs) (hb:∀k,v.ownBlock=some k→w'.heap[k]?=w.heap[k]?):Sf lo w' e s en v xs:=by
 refine ⟨?_,h.2⟩
 rcases h.1 with h|⟨g,o,cap,cur,rfl,hlo,hk,r⟩
 ·grind
 ·exact .inr ⟨g,o,cap,cur,rfl,hlo,hk.keep (hb g rfl),r⟩
theorem Sf.ev {fp:Nat→Prop} (h:Sf lo w e s en v xs) (x:Ev w w' fp) (hn:∀k,v.ownBlock=some k→¬fp k):Sf lo w' e s en v xs:=h.keep fun k hk=>x.block k (h.lt hk).2 (hn k hk)
theorem Sf.one (h:Sf lo w e s en v xs):v.oneCell'=true:=by
 rcases h.1 with ⟨rfl,_⟩|⟨_,_,_,_,rfl,_⟩ <;> rfl
theorem Sf.form (h:Sf lo w e s en v xs):∃a c,v=.slice a xs.length c:=by
 rcases h.1 with ⟨rfl,rfl⟩|⟨_,_,_,_,rfl,_⟩
 ·simp
 ·simp
theorem Sf.own (h:w.ownsRow lo e s v xs.length (xs.flatMap en)) (hs:∀x,(en x).length=s):Sf lo w e s en v xs:=by
 refine ⟨?_,hs⟩
 rcases h.2 with ⟨rfl,h0⟩|⟨g,cap,cur,rfl,hlo,hg,hnc,R8,hcs,ht⟩
 ·grind
 ·exact .inr ⟨g,0,cap,cur.toList,rfl,hlo,hg,by simp [hcs],hnc,by unfold maxLen at R8;omega,by simpa using ht⟩
theorem akf {t ty:TypeId} {m c b o:Nat} (z:Value) (P8:Nat) (hown:Sf lo w e s en v xs) (Uc:At w b o (ys.flatMap en)) (hm:ys.length=m)
  (h1:∀y∈ys,((en y).all (·.oneCell'))=true) (hu:P.underlying t=some (.slice e)) (hz:(P.info? e).map (fun i=>(i.zero,i.size,i.bytes))=some (some z,s,P8)) (hzs:z.cells.size=s) (hsz:0<s)
  (hb:(xs.length+m) * P8≤140737488355328) (hml:xs.length+m≤140737488355328) (hlo:lo≤w.heap.size)
  (k:∀v' w',Sf lo w' e s en v' (xs++ys)→Gr w w' v v'→K v' w'):Ze P (Builtin.append_ #[t,t] ty #[v,.slice (some ⟨b,o,none⟩) m c]) w K:=by
 rcases hown.1 with ⟨rfl,rfl⟩|⟨g,of,cap,cur,rfl,Dh,GP,hfit,hnc,R8,ht⟩
 ·refine ake z P8 (O1.nil lo w e hown.2) Uc hm h1 hu hz hzs hsz hb hml hlo fun v' w' hO hG=>k v' w' ?_ hG
  exact Sf.own hO.1 hO.2
 ·have LL:(xs.flatMap en).length=xs.length * s:=Yx hown.2 xs
  have Fw:(ys.flatMap en).length=m * s:=by rw [←hm];exact Yx hown.2 ys
  have ho:∀u∈ys.flatMap en,u.oneCell'=true:=fun u hu=>by grind
  cases hi:P.info? e with
  | none=>simp [hi] at hz
  | some i =>
   simp only [hi,Option.map_some,Option.some.injEq,Prod.mk.injEq] at hz
   obtain ⟨h2,h3,h4⟩:=hz
   subst h3
   by_cases hr:xs.length+m≤cap
   ·have hcap:(xs.length+m) * i.size≤cap * i.size:=lza _ hr
    rw [lEb] at hcap
    have hst:=run_storeCells_at (P:=P) g (of+xs.length * i.size) e (ys.flatMap en) 0 cur.toArray w GP (by grind) ho
    simp only [Nat.add_zero] at hst
    have Fu:=run_firstCells_some (P:=P) w i.size m ⟨b,o,none⟩ m c (ys.flatMap en) Fw (fun j u hj=>by rw [Addr.add_lit];exact Uc.cell hj)
    obtain ⟨hU,hB⟩:=Sy (o:=of+xs.length * i.size) (vs:=ys.flatMap en) GP AH
    refine ⟨.slice (some ⟨g,of,none⟩) (xs.length+m) cap,_,?_,k _ _ ⟨.inr ⟨g,of,cap,_,by rw [lca,hm],Dh,hB,by rw [VX];exact hfit,by rw [lca,hm];exact hr,R8,?_⟩,hown.2⟩ ⟨⟨hU.os,hU.tape,hU.output,by rw [hU.size];exact lna _,fun k _ hk=>hU.block k (fun e=>hk (by rw [e];rfl))⟩,.inl rfl⟩⟩
    ·simp [Builtin.append_,run_underlying hu,sizeOf,typeInfo,hi,Builtin.lenOf,hr,Fu,Addr.add_lit,hst]
    ·rw [lca,hm,lIa,←ht,UJ _ _ _ AH,lia0,lub0 (by grind),←lia0,lOb,
      show of+xs.length * i.size-of=xs.length * i.size by omega,lxa (by grind),lta (by grind)]
   ·have Gn:At w g of (xs.flatMap en):=by
     have:=GP.at.sub of (xs.length * i.size);rw [ht,lLb] at this;exact this
    obtain ⟨v',w',hrun,r1,r2⟩:=run_append_arg_grows (P:=P) w t ty e i z i.size P8 hu hi h2 rfl h4 hzs hsz ⟨g,of,none⟩ xs.length cap (xs.flatMap en) LL (fun j u hj=>by rw [Addr.add_lit];exact Gn.cell hj) ⟨b,o,none⟩ m c (ys.flatMap en) Fw (fun j u hj=>by rw [Addr.add_lit];exact Uc.cell hj) AH (by grind [maxLen]) hb
    have hO:Sf w.heap.size w' e i.size en v' (xs++ys):=Sf.own (by grind) hown.2
    refine ⟨v',w',hrun,k v' w' ?_ ⟨⟨r2.os,r2.tape,r2.output,r2.size,fun k hk _=>r2.block k hk AF⟩,?_⟩⟩
    ·refine ⟨?_,hown.2⟩
     rcases hO.1 with h|⟨g',o',c',cu',a1,a2,a3⟩
     ·grind
     ·exact .inr ⟨g',o',c',cu',a1,lCa hlo a2,a3⟩
    ·rcases hO.1 with ⟨h,_⟩|⟨g',o',c',cu',a1,a2,a3⟩
     ·exact .inr (.inl (by rw [h];rfl))
     ·exact .inr (.inr ⟨g',by rw [a1];rfl,a2⟩)
theorem Sf.tail {x:α} {g o n cap:Nat} (h:Sf lo w e s en (.slice (some ⟨g,o,none⟩) n cap) (x::xs)):Sf lo w e s en (.slice (some ⟨g,if cap=1 then o else o+1 * s,none⟩) (n-1) (cap-1)) xs:=by
 rcases h.1 with ⟨_,h0⟩|⟨g',o',cap',cur,he,hlo,hb,hfit,hnc,R8,hct⟩
 ·cases h0
 ·injection he with h1 h2 h3
  injection h1 with h1
  injection h1 with h1 h4
  subst h1;subst h2;subst h3;subst h4
  simp only [List.length_cons] at hnc hct ⊢
  refine ⟨.inr ⟨g,if cap=1 then o else o+1 * s,cap-1,cur,by rw [lYa],hlo,hb,?_,by omega,by omega,?_⟩,h.2⟩
  ·split
   ·grind
   ·have:(cap-1) * s+s=cap * s:=by rw [←ljb];congr 1;omega
    omega
  ·split
   ·have:xs=[]:=lma AH
    subst this;simp
   ·have e1:=congrArg (List.drop s) hct
    rw [lOb,lhb,lNa,lub0 (by rw [h.2];exact lna _),lwa (l:=en x) (by rw [h.2];exact lna _),lOa,ljb,lYa] at e1
    rw [Nat.one_mul];exact e1
theorem Sf.head {x:α} (h:Sf lo w e s en v (x::xs)):∃g o cap,v=.slice (some ⟨g,o,none⟩) (xs.length+1) cap∧lo≤g∧At w g o (en x):=by
 rcases h.1 with ⟨_,h0⟩|⟨g,o,cap,cur,rfl,hlo,hb,hfit,hnc,R8,hct⟩
 ·grind
 ·refine ⟨g,o,cap,rfl,hlo,?_⟩
  have:=hb.at.sub o s
  rw [lLb] at this
  have e1:=congrArg (List.take s) hct
  rw [lVb,lla,lrb (by grind),lNa,lxa (by rw [h.2];exact lna _)] at e1
  rw [e1,lta (by rw [h.2];exact lna _)] at this;exact this
end
theorem aeb {P:Program} {w:World} {K:Value→World→Prop} {t e:TypeId} {b o n:Nat} {ki:IntKind} {i:Int} (sz j p:Nat) (hj:i=j) (hl:j<n) (hp:o+j * sz=p) (ht:P.underlying t=some (.array n e)) (hs:(P.info? e).map (fun i=>i.size)=some sz)
  (k:K (.pointer (some ⟨b,p,none⟩)) w):Ze P (Instr.indexAt t (.pointer (some ⟨b,o,none⟩)) (.int ki i)) w K:=by
 subst hj;subst hp
 refine ⟨_,w,?_,k⟩
 cases hi':P.info? e with
 | none=>simp [hi'] at hs
 | some i' =>
  simp only [hi',Option.map_some,Option.some.injEq] at hs
  simp [Instr.indexAt,Instr.sureAddr,asIntOf,run_underlying ht,sizeOf,typeInfo,hi',hs,Addr.add_lit,hl]
end YW
namespace YW
open Go
def V7 (l:List Nat):Nat:=l.foldr (fun t m=>Nat.lor (Nat.shiftLeft 1 t) m) 0
theorem UT (l:List Nat) (j:Nat):(V7 l).testBit j=true↔j∈l:=by
 induction l with
 | nil=>simp [V7]
 | cons t r ih =>
  have e:V7 (t::r)=(1 <<< t) ||| V7 r:=rfl
  rw [e,lCb,Bool.or_eq_true,ih,Nat.one_shiftLeft,lRb,List.mem_cons]
  simp;constructor
  ·grind
  ·grind
structure Rec where
 i:Nat
 take:Bool
 af:Nat
 lk:Nat
 ds:Nat
def Ur (o:Oper):Nat:=V7 (o.after.toList.filterMap fun e=>if Region.binds .any e then some e.on else none)
def ahy (ops:Array Oper) (p:Nat × Bool):Option Rec:=(ops[p.1]?).map fun o=>⟨p.1,p.2,Ur o,V7 (o.looksAt ops),V7 o.dst.toList⟩
def HP (n:Nat):Bool:=Nat.beq n 0
def P6 (x y:Rec):Bool:=HP (Nat.land x.ds (Nat.lor y.lk y.ds)) && HP (Nat.land y.ds x.lk)
def JM (m i:Nat):Bool:=Nat.beq (Nat.land (Nat.shiftRight m i) 1) 1
def Ub:List Rec→Nat→Nat→Bool
 | [],listed,all=>Nat.beq listed all
 | r::rest,listed,all=>Nat.beq (Nat.land r.af listed) r.af && !JM listed r.i &&
   (match r.take with
   | true=>rest.all fun q=>JM q.af r.i || P6 r q
   | false=>rest.all fun q=>!Nat.beq (Nat.land q.af listed) q.af) && Ub rest (Nat.lor listed (Nat.shiftLeft 1 r.i)) all
def Sw (ops:Array Oper):List (Nat × Bool)→Option (List Rec)
 | []=>some []
 | p::r=>match ahy ops p with
  | none=>none
  | some x=>match Sw ops r with
   | none=>none
   | some l=>some (x::l)
def ND (ops:Array Oper) (plan:List (Nat × Bool)):Bool:=Region.noSelect ops && Nat.beq plan.length ops.size && match Sw ops plan with
 | none=>false
 | some l=>Ub l 0 (2 ^ ops.size-1)
theorem Ua (m i:Nat):JM m i=m.testBit i:=by
 unfold JM
 rw [show Nat.land (Nat.shiftRight m i) 1=(m >>> i) &&& 1 from rfl,Nat.and_one_is_mod]
 rw [Nat.testBit,Nat.one_and_eq_mod_two]
 rcases Nat.mod_two_eq_zero_or_one (m >>> i) with h|h <;> rw [h] <;> rfl
theorem P5 {a b:Nat} (h:Nat.beq (Nat.land a b) a=true) (j:Nat) (hj:a.testBit j=true):b.testBit j=true:=by
 have h:=ldb h
 have h2:(a &&& b).testBit j=a.testBit j:=congrArg (fun n=>Nat.testBit n j) h
 rw [Nat.testBit_and,hj] at h2
 simpa using h2
theorem aec {a b:Nat} (h:(!Nat.beq (Nat.land a b) a)=true):∃j,a.testBit j=true∧b.testBit j=false:=by
 apply Classical.byContradiction
 intro hn
 have e:a &&& b=a:=by
  apply Nat.eq_of_testBit_eq
  intro j
  rw [Nat.testBit_and]
  cases ha:a.testBit j
  ·rfl
  ·grind
 rw [show Nat.land a b=a from e] at h
 simp at h
theorem aaB {a b:Nat} (h:HP (Nat.land a b)=true) (j:Nat) (ha:a.testBit j=true):b.testBit j=false:=by
 have h:=ldb h
 have h2:(a &&& b).testBit j=false:=by rw [show a &&& b=0 from h];simp
 rw [Nat.testBit_and,ha] at h2
 simpa using h2
theorem Vy (o:Oper) (j:Nat):(Ur o).testBit j=true↔∃e∈o.after,Region.binds .any e=true∧e.on=j:=by
 unfold Ur
 rw [UT,List.mem_filterMap]
 constructor
 ·simp
 ·simp
theorem aaa {ops:Array Oper} {x y:Oper} {rx ry:Rec} (hx:rx.lk=V7 (x.looksAt ops)) (hx':rx.ds=V7 x.dst.toList) (hy:ry.lk=V7 (y.looksAt ops)) (hy':ry.ds=V7 y.dst.toList)
  (h:P6 rx ry=true):x.apart ops y=true:=by
 unfold P6 at h
 rw [Bool.and_eq_true] at h
 obtain ⟨h1,h2⟩:=h
 unfold Oper.apart
 rw [Bool.and_eq_true]
 constructor
 ·split
  ·rename_i d hd
   have hb:rx.ds.testBit d=true:=by grind [UT]
   have h3:=aaB h1 d hb
   rw [show Nat.lor ry.lk ry.ds=ry.lk ||| ry.ds from rfl,lCb,Bool.or_eq_false_iff] at h3
   obtain ⟨h4,h5⟩:=h3
   rw [Bool.and_eq_true]
   constructor
   ·rw [Bool.not_eq_true',←Bool.not_eq_true,List.contains_iff_mem]
    intro hm
    rw [hy,←Bool.not_eq_true,UT] at h4
    exact h4 hm
   ·grind
  ·rfl
 ·split
  ·rename_i d hd
   have hb:ry.ds.testBit d=true:=by grind [UT]
   have h3:=aaB h2 d hb
   rw [Bool.not_eq_true',←Bool.not_eq_true,List.contains_iff_mem]
   intro hm
   rw [hx,←Bool.not_eq_true,UT] at h3
   exact h3 hm
  ·rfl
theorem aai {ops:Array Oper} {p:Nat × Bool} {r:List (Nat × Bool)} {l:List Rec} (h:Sw ops (p::r)=some l) :
  ∃x l' o,l=x::l'∧Sw ops r=some l'∧ops[p.1]?=some o∧x=⟨p.1,p.2,Ur o,V7 (o.looksAt ops),V7 o.dst.toList⟩:=by
 unfold Sw at h
 split at h
 ·cases h
 ·rename_i x hx
  split at h
  ·cases h
  ·rename_i l' hl
   obtain rfl:=Option.some.inj h
   unfold ahy at hx
   cases ho:ops[p.1]? with
   | none=>rw [ho] at hx;cases hx
   | some o=>rw [ho] at hx;exact ⟨x,l',o,rfl,hl,rfl,(Option.some.inj hx).symm⟩
theorem ab6 {ops:Array Oper}:∀{r:List (Nat × Bool)} {l:List Rec},Sw ops r=some l→∀q∈l,∃o,ops[q.i]?=some o∧q.af=Ur o∧q.lk=V7 (o.looksAt ops)∧q.ds=V7 o.dst.toList:=by
 intro r
 induction r with
 | nil=>intro l h q hq;unfold Sw at h;obtain rfl:=Option.some.inj h;cases hq
 | cons p r ih =>
  intro l h q hq
  obtain ⟨x,l',o,rfl,hl,ho,rfl⟩:=aai h
  rcases List.mem_cons.1 hq with rfl|hq
  ·grind
  ·grind
theorem ab7:∀(l:List Rec) (m all:Nat),Ub l m all=true→∀j,all.testBit j=true→m.testBit j=true∨∃q∈l,q.i=j:=by
 intro l
 induction l with
 | nil =>
  intro m all h j hj
  unfold Ub at h
  have:=ldb h
  subst this
  exact .inl hj
 | cons r l ih =>
  intro m all h j hj
  unfold Ub at h
  rw [Bool.and_eq_true] at h
  rcases ih _ _ h.2 j hj with h1|⟨q,hq,e⟩
  ·rw [show Nat.lor m (Nat.shiftLeft 1 r.i)=m ||| (1 <<< r.i) from rfl,lCb,Bool.or_eq_true,Nat.one_shiftLeft,lRb] at h1
   rcases h1 with h1|h1
   ·grind
   ·grind
  ·grind
theorem af8:∀{l:List Rec} {m n j:Nat},n≤j→Ub l m (2 ^ n-1)=true→m.testBit j=true→False:=by
 intro l
 induction l with
 | nil =>
  intro m n j hj h hb
  unfold Ub at h
  have:=ldb h
  rw [this,lDb] at hb
  simp at hb;omega
 | cons r l ih =>
  intro m n j hj h hb
  unfold Ub at h
  rw [Bool.and_eq_true] at h
  refine ih hj h.2 ?_
  rw [show Nat.lor m (Nat.shiftLeft 1 r.i)=m ||| (1 <<< r.i) from rfl,lCb,hb,Bool.true_or]
theorem abc {ops:Array Oper}:∀(plan:List (Nat × Bool)) (l:List Rec) (m:Nat) (listed:Array Bool),Sw ops plan=some l→Ub l m (2 ^ ops.size-1)=true→listed.size=ops.size →
  (∀j,j<ops.size→listed.getD j true=m.testBit j)→O4 ops plan listed=true:=by
 intro plan
 induction plan with
 | nil =>
  intro l m listed hl hok hsz hm
  unfold Sw at hl
  obtain rfl:=Option.some.inj hl
  unfold Ub at hok
  have hok:=ldb hok
  show (Region.ready .any ops listed).isEmpty=true
  rw [List.isEmpty_iff,List.eq_nil_iff_forall_not_mem]
  intro j hj
  obtain ⟨h0,o,ho,_⟩:=mem_ready.1 hj
  have hlt:j<ops.size:=(lva.1 ho).1
  rw [hm j hlt,hok,lDb] at h0
  simp [hlt] at h0
 | cons p plan ih =>
  intro l m listed hl hok hsz hm
  obtain ⟨x,l',o,rfl,hl',ho,rfl⟩:=aai hl
  have amA:=ab7 _ _ _ hok
  unfold Ub at hok
  simp only [Bool.and_eq_true] at hok
  obtain ⟨⟨⟨hr,hun⟩,hk⟩,VK⟩:=hok
  have hlt:p.1<ops.size:=(lva.1 ho).1
  have amB:listed.getD p.1 true=false:=by grind [Ua]
  have aiq:∀e∈o.after,Region.binds .any e=true→listed.getD e.on false=true:=fun e he hb=>by
   have h1:=P5 hr e.on ((Vy o e.on).2 ⟨e,he,hb,rfl⟩)
   have h3:e.on<ops.size:=by
    rcases lra e.on ops.size with h|h
    ·exact h
    ·exact (af8 h VK (by rw [show Nat.lor m (Nat.shiftLeft 1 p.1)=m ||| (1 <<< p.1) from rfl,lCb,h1,Bool.true_or])).elim
   have h2:=hm e.on h3
   rw [h1] at h2
   simp only [Array.getD_eq_getD_getElem?] at h2 ⊢
   rw [lib AH] at h2 ⊢
   simpa using h2
  have Wh:p.1∈Region.ready .any ops listed:=mem_ready.2 ⟨amB,o,ho,aiq⟩
  have acz:∀j oj,ops[j]?=some oj→j≠p.1→listed.getD j true=false→∃q∈l',q.i=j∧q.af=Ur oj∧q.lk=V7 (oj.looksAt ops)∧q.ds=V7 oj.dst.toList:=fun j oj hj hne hu=>by
   have hjl:j<ops.size:=(lva.1 hj).1
   rcases amA j (by grind) with h1|⟨q,hq,e⟩
   ·grind
   ·rcases List.mem_cons.1 hq with rfl|hq
    ·grind
    ·obtain ⟨o',ho',h1,h2,h3⟩:=ab6 hl' q hq
     rw [e,hj] at ho'
     obtain rfl:=Option.some.inj ho'
     exact ⟨q,hq,e,h1,h2,h3⟩
  rw [RX,ho]
  simp only [Bool.and_eq_true]
  refine ⟨?_,ih l' _ _ hl' VK (by grind) fun j hj=>?_⟩
  ·obtain ⟨i,take⟩:=p
   dsimp only at *
   cases take with
   | true =>
    dsimp only at hk ⊢
    rw [Bool.and_eq_true]
    refine ⟨?_,by simpa using Wh⟩
    unfold Region.free
    rw [ho]
    simp only [List.all_eq_true,List.mem_range]
    intro j hj
    cases hji:(j == i)
    ·cases hlj:listed.getD j true
     ·rw [lib hj]
      simp only [Bool.false_or]
      obtain ⟨q,hq,e,h1,h2,h3⟩:=acz j ops[j] (lib hj) (by grind) hlj
      have h4:=lzb.1 hk q hq
      rw [Bool.or_eq_true] at h4 ⊢
      rcases h4 with h4|h4
      ·grind [Ua,Vy,Array.any_eq_true']
      ·right
       exact aaa rfl rfl h2 h3 h4
     ·simp
    ·simp
   | false =>
    dsimp only at hk ⊢
    rw [beq_iff_eq]
    have akg:∀j∈Region.ready .any ops listed,j=i:=fun j hj=>by
     apply Classical.byContradiction
     intro hne
     obtain ⟨h0,oj,MN,hall⟩:=mem_ready.1 hj
     obtain ⟨q,hq,e,h1,h2,h3⟩:=acz j oj MN hne h0
     have h4:=lzb.1 hk q hq
     obtain ⟨b,IT,JN⟩:=aec h4
     rw [h1,Vy] at IT
     obtain ⟨ed,he,hb,Dg⟩:=IT
     have h5:=hall ed he hb
     rw [Dg] at h5
     have LN:b<ops.size:=by grind
     have h6:=hm b LN
     rw [JN] at h6
     simp only [Array.getD_eq_getD_getElem?] at h5 h6
     rw [lib AH] at h5 h6
     simp at h5 h6
     rw [h5] at h6;cases h6
    have hnd:(Region.ready .any ops listed).Nodup:=by
     unfold Region.ready;exact List.Pairwise.filter _ List.nodup_range
    generalize Region.ready .any ops listed=R at *
    match R,hnd,akg,Wh with
    | [],_,_,h=>cases h
    | [a],_,hu,_=>rw [hu a lxb]
    | a::b::r,hnd,hu,_ =>
     have h1:=hu a lxb
     have h2:=hu b AF
     rw [List.nodup_cons] at hnd
     exact absurd (by grind) hnd.1
  ·show (listed.setIfInBounds p.1 true).getD j true=(m ||| (1 <<< p.1)).testBit j
   rw [lCb,Nat.one_shiftLeft,lRb,←hm j hj]
   by_cases h:p.1=j
   ·subst h;simp [hsz,hj]
   ·simp [Array.getElem?_setIfInBounds_ne h,h]
theorem aac {ops:Array Oper} {plan:List (Nat × Bool)} (h:ND ops plan=true):RW ops plan=true:=by
 unfold ND at h
 simp only [Bool.and_eq_true] at h
 obtain ⟨⟨h1,h2⟩,h3⟩:=h
 split at h3
 ·grind
 ·rename_i l hl
  unfold RW
  rw [h1,abc plan l 0 _ hl h3 AF (fun j hj=>by simp [hj])]
  simp [Nat.eq_of_beq_eq_true h2]
theorem aoo {P:Program} {ops:Array Oper} {K:List Value→World→Prop} {ρ0:List Value} {id:Nat} {w:World} (S:World→Prop) (plan:List (Nat × Bool)) (hm:P.follows .mixedOrders=true) (hc:ND ops plan=true)
  (h:∀w1,w1=w.drew→S w1∧P9 P ops.toList S K plan ρ0 w1):NN P id ops K ρ0 w:=draw S plan hm (aac hc) h
end YW
namespace YW
open Go Go.RowKit
section
variable {P:Program} {ops:Array Oper} {Q:Exit→Act→World→Prop} {md:Region.Mode} {S:World→Prop} {Z:Nat→Bool}
def R7 (P:Program) (md:Region.Mode) (ops:Array Oper) (Q:Exit→Act→World→Prop) (S:World→Prop) (Z:Nat→Bool):Nat→Array Bool→Act→World→Prop
 | 0,listed,a,w=>Region.ready md ops listed=[]∧Q .normal a w
 | fuel+1,listed,a,w=>(Region.ready md ops listed=[]→Q .normal a w) ∧
   ∀i∈Region.ready md ops listed,wpOp P ops Q i (fun a' w'=>(Z i=true∨(S w→S w'))∧R7 P md ops Q S Z fuel (listed.setIfInBounds i true) a' w') a w
theorem abd:∀(fuel:Nat) (listed:Array Bool) (a:Act) (w:World),R7 P md ops Q S Z fuel listed a w→wpAny P md ops Q fuel listed a w:=by
 intro fuel
 induction fuel with
 | zero=>exact fun _ _ _ h=>h
 | succ f ih=>exact fun _ _ _ h=>⟨h.1,fun i hi=>wpOp_mono (fun a' w' k=>ih _ a' w' k.2) (h.2 i hi)⟩
def Cl (md:Region.Mode) (ops:Array Oper) (listed:Array Bool):Prop:=∀(k:Nat) (ok:Oper),ops[k]?=some ok→listed.getD k false=true→∀e∈ok.after,Region.binds md e=true→listed.getD e.on false=true
inductive Pre (md:Region.Mode) (ops:Array Oper):Nat→Nat→Prop
 | one {j i:Nat} {oj:Oper} (hj:ops[j]?=some oj) {e:Edge} (he:e∈oj.after) (hb:Region.binds md e=true) (hi:e.on=i):Pre md ops j i
 | more {j i:Nat} {oj:Oper} (hj:ops[j]?=some oj) {e:Edge} (he:e∈oj.after) (hb:Region.binds md e=true) (hi:Pre md ops e.on i):Pre md ops j i
theorem Pre.trans {a b c:Nat} (h:Pre md ops a b) (k:Pre md ops b c):Pre md ops a c:=by
 induction h with
 | one hj he hb hi=>subst hi;exact .more hj he hb k
 | more hj he hb _ ih=>exact .more hj he hb (ih k)
theorem Cl.pre {listed:Array Bool} (hc:Cl md ops listed) {j i:Nat} (h:Pre md ops j i) (hl:listed.getD j false=true):listed.getD i false=true:=by
 induction h with
 | one hj he hb hi=>subst hi;exact hc _ _ hj hl _ he hb
 | more hj he hb _ ih=>exact ih (hc _ _ hj hl _ he hb)
theorem Cl.ready {listed:Array Bool} (hc:Cl md ops listed) {j i:Nat} (h:Pre md ops j i) (hr:j∈Region.ready md ops listed):listed.getD i false=true:=by
 obtain ⟨_,oj,MN,hall⟩:=mem_ready.1 hr
 cases h with
 | one hj he hb hi=>subst hi;rw [hj] at MN;obtain rfl:=Option.some.inj MN;exact hall _ he hb
 | more hj he hb hp=>rw [hj] at MN;obtain rfl:=Option.some.inj MN;exact hc.pre hp (hall _ he hb)
theorem Cl.step {listed:Array Bool} (hc:Cl md ops listed) {j:Nat} (hr:j∈Region.ready md ops listed):Cl md ops (listed.setIfInBounds j true):=by
 obtain ⟨_,oj,MN,hall⟩:=mem_ready.1 hr
 have up:∀k,listed.getD k false=true→(listed.setIfInBounds j true).getD k false=true:=fun k hk=>by
  simp only [Array.getD_eq_getD_getElem?] at hk ⊢
  rw [Array.getElem?_setIfInBounds]
  split
  ·grind
  ·omega
 intro k ok hk hl e he hb
 by_cases h:j=k
 ·grind
 ·refine up _ (hc k ok hk ?_ e he hb)
  simp only [Array.getD_eq_getD_getElem?] at hl ⊢
  rw [Array.getElem?_setIfInBounds,if_neg h] at hl;exact hl
theorem Cl.start (n:Nat):Cl md ops (Array.replicate n false):=fun k ok _ hl=>by
 simp only [Array.getD_eq_getD_getElem?,Array.getElem?_replicate] at hl
 split at hl <;> cases hl
theorem aar {i:Nat} {oi:Oper} {v:Value} (hi:ops[i]?=some oi) (hsel:∀(j:Nat) (o:Oper) cs b,ops[j]?=some o→o.op≠.select cs b)
  (hQ:∀c a w,Q (.panic c) (a.put oi.dst v) w→Q (.panic c) a w) (hz:∀j oj,ops[j]?=some oj→Z j=true→Pre md ops j i) :
  ∀(fuel:Nat) (listed:Array Bool) (a:Act) (w:World),Cl md ops listed →
   (∀j oj,ops[j]?=some oj→j≠i→listed.getD j true=false→(∀e∈oj.after,Region.binds md e=true→e.on≠i)→oi.apart ops oj=true) →
   i∈Region.ready md ops listed→YieldsIf P ops S oi v a→S w →
   R7 P md ops Q S Z fuel (listed.setIfInBounds i true) (a.put oi.dst v) w→R7 P md ops Q S Z (fuel+1) listed a w:=by
 intro fuel
 induction fuel with
 | zero =>
  intro listed a w _ _ hr hy hS H
  refine ⟨fun h=>absurd (h ▸ hr) (List.not_mem_nil),fun j hj=>?_⟩
  rcases Nat.decEq j i with hji|hji
  ·exact absurd (H.1 ▸ ready_mono hj hji) (List.not_mem_nil)
  ·subst hji;exact hy.wpOp hi hS ⟨.inr id,H⟩
 | succ fuel ih =>
  intro listed a w Ux hfree hr hy hS H
  refine ⟨fun h=>absurd (h ▸ hr) (List.not_mem_nil),fun j hj=>?_⟩
  rcases Nat.decEq j i with hji|hji
  ·have h1:=H.2 j (ready_mono hj hji)
   obtain ⟨EP,oj,MN,hall⟩:=mem_ready.1 hj
   have Iu:=(mem_ready.1 hr).1
   have hnot:∀e∈oj.after,Region.binds md e=true→e.on≠i:=fun e he hb heq=>by grind
   have hZ:Z j≠true:=fun hzj=>by
    have h2:=Ux.ready (hz j oj MN hzj) hj
    simp only [Array.getD_eq_getD_getElem?] at h2 Iu
    cases hx:listed[i]? with
    | none=>rw [hx] at h2;simp at h2
    | some b=>rw [hx] at h2 Iu;simp at h2 Iu;rw [h2] at Iu;cases Iu
   have h2:=wpOp_putIf MN (hfree j oj MN hji EP hnot) (fun cs b=>hsel i oi cs b hi) (fun cs b=>hsel j oj cs b MN) hQ hy h1
   refine wpOp_mono (fun a' w' h3=>?_) h2
   have hSw:S w':=h3.2.1.resolve_left hZ hS
   refine ⟨.inr fun _=>hSw,ih (listed.setIfInBounds j true) a' w' (Ux.step hj) (fun k ok hk hki hun hno=>hfree k ok hk hki ?_ hno) (ready_mono hr (Ne.symm hji)) h3.1 hSw ?_⟩
   ·rcases Nat.decEq j k with h|h
    ·rw [getD_set_ne true h] at hun;exact hun
    ·grind
   ·rw [Array.setIfInBounds_comm _ _ hji];exact h3.2.2
  ·subst hji;exact hy.wpOp hi hS ⟨.inr id,H⟩
theorem aaC {i:Nat} {oi:Oper} {v:Value} (hi:ops[i]?=some oi) (hsel:∀(j:Nat) (o:Oper) cs b,ops[j]?=some o→o.op≠.select cs b)
  (hQ:∀c a w,Q (.panic c) (a.put oi.dst v) w→Q (.panic c) a w) :
  ∀(fuel:Nat) (listed:Array Bool) (a:Act) (w:World),
   (∀j oj,ops[j]?=some oj→j≠i→listed.getD j true=false→(∀e∈oj.after,Region.binds md e=true→e.on≠i)→oi.apart ops oj=true) →
   i∈Region.ready md ops listed→YieldsIf P ops (fun _=>True) oi v a →
   R7 P md ops Q S Z fuel (listed.setIfInBounds i true) (a.put oi.dst v) w→R7 P md ops Q S Z (fuel+1) listed a w:=by
 intro fuel
 induction fuel with
 | zero =>
  intro listed a w _ hr hy H
  refine ⟨fun h=>absurd (h ▸ hr) (List.not_mem_nil),fun j hj=>?_⟩
  rcases Nat.decEq j i with hji|hji
  ·exact absurd (H.1 ▸ ready_mono hj hji) (List.not_mem_nil)
  ·subst hji;exact hy.wpOp hi trivial ⟨.inr id,H⟩
 | succ fuel ih =>
  intro listed a w hfree hr hy H
  refine ⟨fun h=>absurd (h ▸ hr) (List.not_mem_nil),fun j hj=>?_⟩
  rcases Nat.decEq j i with hji|hji
  ·have h1:=H.2 j (ready_mono hj hji)
   obtain ⟨EP,oj,MN,hall⟩:=mem_ready.1 hj
   have Iu:=(mem_ready.1 hr).1
   have hnot:∀e∈oj.after,Region.binds md e=true→e.on≠i:=fun e he hb heq=>by grind
   have h2:=wpOp_putIf MN (hfree j oj MN hji EP hnot) (fun cs b=>hsel i oi cs b hi) (fun cs b=>hsel j oj cs b MN) hQ hy h1
   refine wpOp_mono (fun a' w' h3=>?_) h2
   refine ⟨h3.2.1,ih (listed.setIfInBounds j true) a' w' (fun k ok hk hki hun hno=>hfree k ok hk hki ?_ hno) (ready_mono hr (Ne.symm hji)) h3.1 ?_⟩
   ·rcases Nat.decEq j k with h|h
    ·rw [getD_set_ne true h] at hun;exact hun
    ·grind
   ·rw [Array.setIfInBounds_comm _ _ hji];exact h3.2.2
  ·subst hji;exact hy.wpOp hi trivial ⟨.inr id,H⟩
end
inductive Kd where
 | pure
 | held
 | forced
 | free
abbrev Azh0:Nat×Kd:=(0,.held)
abbrev Azp0:Nat×Kd:=(0,.pure)
abbrev Azf1:Nat×Kd:=(1,.forced)
abbrev Azh1:Nat×Kd:=(1,.held)
abbrev Azp1:Nat×Kd:=(1,.pure)
abbrev Azf2:Nat×Kd:=(2,.forced)
abbrev Azh2:Nat×Kd:=(2,.held)
abbrev Azp2:Nat×Kd:=(2,.pure)
abbrev Azf3:Nat×Kd:=(3,.forced)
abbrev Azh3:Nat×Kd:=(3,.held)
abbrev Azp3:Nat×Kd:=(3,.pure)
abbrev Azf4:Nat×Kd:=(4,.forced)
abbrev Azh4:Nat×Kd:=(4,.held)
abbrev Azp4:Nat×Kd:=(4,.pure)
abbrev Azf5:Nat×Kd:=(5,.forced)
abbrev Azfr5:Nat×Kd:=(5,.free)
abbrev Azh5:Nat×Kd:=(5,.held)
abbrev Azp5:Nat×Kd:=(5,.pure)
abbrev Azf6:Nat×Kd:=(6,.forced)
abbrev Azfr6:Nat×Kd:=(6,.free)
abbrev Azh6:Nat×Kd:=(6,.held)
abbrev Azp6:Nat×Kd:=(6,.pure)
abbrev Azf7:Nat×Kd:=(7,.forced)
abbrev Azfr7:Nat×Kd:=(7,.free)
abbrev Azh7:Nat×Kd:=(7,.held)
abbrev Azp7:Nat×Kd:=(7,.pure)
abbrev Azf8:Nat×Kd:=(8,.forced)
abbrev Azfr8:Nat×Kd:=(8,.free)
abbrev Azh8:Nat×Kd:=(8,.held)
abbrev Azp8:Nat×Kd:=(8,.pure)
abbrev Azf9:Nat×Kd:=(9,.forced)
abbrev Azfr9:Nat×Kd:=(9,.free)
abbrev Azh9:Nat×Kd:=(9,.held)
abbrev Azp9:Nat×Kd:=(9,.pure)
abbrev Azf10:Nat×Kd:=(10,.forced)
abbrev Azfr10:Nat×Kd:=(10,.free)
abbrev Azh10:Nat×Kd:=(10,.held)
abbrev Azp10:Nat×Kd:=(10,.pure)
abbrev Azfr11:Nat×Kd:=(11,.free)
abbrev Azh11:Nat×Kd:=(11,.held)
abbrev Azp11:Nat×Kd:=(11,.pure)
abbrev Azf12:Nat×Kd:=(12,.forced)
abbrev Azfr12:Nat×Kd:=(12,.free)
abbrev Azh12:Nat×Kd:=(12,.held)
abbrev Azp12:Nat×Kd:=(12,.pure)
abbrev Azfr13:Nat×Kd:=(13,.free)
abbrev Azh13:Nat×Kd:=(13,.held)
abbrev Azp13:Nat×Kd:=(13,.pure)
abbrev Azf14:Nat×Kd:=(14,.forced)
abbrev Azfr14:Nat×Kd:=(14,.free)
abbrev Azh14:Nat×Kd:=(14,.held)
abbrev Azp14:Nat×Kd:=(14,.pure)
abbrev Azf15:Nat×Kd:=(15,.forced)
abbrev Azfr15:Nat×Kd:=(15,.free)
abbrev Azh15:Nat×Kd:=(15,.held)
abbrev Azp15:Nat×Kd:=(15,.pure)
abbrev Azfr16:Nat×Kd:=(16,.free)
abbrev Azh16:Nat×Kd:=(16,.held)
abbrev Azp16:Nat×Kd:=(16,.pure)
abbrev Azf17:Nat×Kd:=(17,.forced)
abbrev Azfr17:Nat×Kd:=(17,.free)
abbrev Azh17:Nat×Kd:=(17,.held)
abbrev Azp17:Nat×Kd:=(17,.pure)
abbrev Azfr18:Nat×Kd:=(18,.free)
abbrev Azh18:Nat×Kd:=(18,.held)
abbrev Azp18:Nat×Kd:=(18,.pure)
abbrev Azfr19:Nat×Kd:=(19,.free)
abbrev Azh19:Nat×Kd:=(19,.held)
abbrev Azp19:Nat×Kd:=(19,.pure)
abbrev Azh20:Nat×Kd:=(20,.held)
abbrev Azp20:Nat×Kd:=(20,.pure)
abbrev Azf21:Nat×Kd:=(21,.forced)
abbrev Azfr21:Nat×Kd:=(21,.free)
abbrev Azh21:Nat×Kd:=(21,.held)
abbrev Azp21:Nat×Kd:=(21,.pure)
abbrev Azfr22:Nat×Kd:=(22,.free)
abbrev Azh22:Nat×Kd:=(22,.held)
abbrev Azp22:Nat×Kd:=(22,.pure)
abbrev Azfr23:Nat×Kd:=(23,.free)
abbrev Azp23:Nat×Kd:=(23,.pure)
abbrev Azh24:Nat×Kd:=(24,.held)
abbrev Azp24:Nat×Kd:=(24,.pure)
abbrev Azfr25:Nat×Kd:=(25,.free)
abbrev Azp25:Nat×Kd:=(25,.pure)
def UI (P:Program) (ops:List Oper) (S:World→Prop) (K:List Value→World→Prop) (plan:List (Nat × Kd)):Bool→List Value→World→Prop :=
 List.rec (motive:=fun _=>Bool→List Value→World→Prop) (fun _=>K) (fun i _ ih live ρ w=>match ops[i.1]? with
  | none=>False
  | some o=>match i.2 with
   | .pure=>XZ ops o.guard ρ fun b ρ=>match b with
    | true=>Ib P (fun _=>True) o ρ fun v=>WU ρ o.dst v fun ρ=>ih live ρ w
    | false=>WU ρ o.dst undef fun ρ=>ih live ρ w
   | .held=>match live with
    | true=>XZ ops o.guard ρ fun b ρ=>match b with
     | true=>Ib P S o ρ fun v=>WU ρ o.dst v fun ρ=>ih true ρ w
     | false=>WU ρ o.dst undef fun ρ=>ih true ρ w
    | false=>False
   | .forced=>match live with
    | true=>XZ ops o.guard ρ fun b ρ=>match b with
     | true=>Ky P o ρ w fun v w'=>YZ (S w') (WU ρ o.dst v fun ρ=>ih true ρ w')
     | false=>WU ρ o.dst undef fun ρ=>ih true ρ w
    | false=>False
   | .free=>XZ ops o.guard ρ fun b ρ=>match b with
    | true=>Ky P o ρ w fun v w'=>WU ρ o.dst v fun ρ=>ih false ρ w'
    | false=>WU ρ o.dst undef fun ρ=>ih false ρ w) plan
theorem ab8 (P:Program) (ops:List Oper) (S:World→Prop) (K:List Value→World→Prop) (i:Nat × Kd) (r:List (Nat × Kd)) (live:Bool) (ρ:List Value) (w:World) :
  UI P ops S K (i::r) live ρ w=match ops[i.1]? with
  | none=>False
  | some o=>match i.2 with
   | .pure=>XZ ops o.guard ρ fun b ρ=>match b with
    | true=>Ib P (fun _=>True) o ρ fun v=>WU ρ o.dst v fun ρ=>UI P ops S K r live ρ w
    | false=>WU ρ o.dst undef fun ρ=>UI P ops S K r live ρ w
   | .held=>match live with
    | true=>XZ ops o.guard ρ fun b ρ=>match b with
     | true=>Ib P S o ρ fun v=>WU ρ o.dst v fun ρ=>UI P ops S K r true ρ w
     | false=>WU ρ o.dst undef fun ρ=>UI P ops S K r true ρ w
    | false=>False
   | .forced=>match live with
    | true=>XZ ops o.guard ρ fun b ρ=>match b with
     | true=>Ky P o ρ w fun v w'=>YZ (S w') (WU ρ o.dst v fun ρ=>UI P ops S K r true ρ w')
     | false=>WU ρ o.dst undef fun ρ=>UI P ops S K r true ρ w
    | false=>False
   | .free=>XZ ops o.guard ρ fun b ρ=>match b with
    | true=>Ky P o ρ w fun v w'=>WU ρ o.dst v fun ρ=>UI P ops S K r false ρ w'
    | false=>WU ρ o.dst undef fun ρ=>UI P ops S K r false ρ w:=rfl
def Gm:Kd→Bool
 | .pure=>true
 | .held=>true
 | .forced=>false
 | .free=>false
def Ft (plan:List (Nat × Kd)):List (Nat × Bool):=plan.map fun p=>(p.1,Gm p.2)
def JL (plan:List (Nat × Kd)):List Nat:=plan.filterMap fun p=>match p.2 with
 | .held=>some p.1
 | _=>none
def LJ (plan:List (Nat × Kd)):List Nat:=plan.filterMap fun p=>match p.2 with
 | .free=>some p.1
 | _=>none
def reach (ops:List (Oper × Nat)) (m:Nat):Nat:=ops.foldl (fun m p=>match JM m p.2 with
 | true=>Nat.lor m (Ur p.1)
 | false=>m) m
theorem ab9 {ops:Array Oper} {z:Nat}:∀(l:List (Oper × Nat)) (m:Nat),(∀p∈l,ops[p.2]?=some p.1)→(∀i,m.testBit i=true→Pre .any ops z i)→∀i,(reach l m).testBit i=true→Pre .any ops z i:=by
 intro l
 induction l with
 | nil=>exact fun m _ h=>h
 | cons p l ih =>
  intro m hl h
  refine ih _ (fun q hq=>hl q (lyb _ hq)) fun i hi=>?_
  dsimp only at hi
  cases hb:JM m p.2 with
  | false=>rw [hb] at hi;exact h i hi
  | true =>
   rw [hb] at hi
   have hi:(m ||| Ur p.1).testBit i=true:=hi
   rw [lCb,Bool.or_eq_true] at hi
   rcases hi with hi|hi
   ·grind
   ·obtain ⟨e,he,JN,Dg⟩:=(Vy p.1 i).1 hi
    exact (h p.2 (by grind [Ua])).trans (.one (hl p (lxb ..)) he JN Dg)
def Df (ops:Array Oper) (Wf zs:List Nat):Bool:=zs.all fun z=>match ops[z]? with
 | none=>false
 | some o=>Nat.beq (Nat.land (V7 Wf) (Ur o)) (V7 Wf) || Nat.beq (Nat.land (V7 Wf) (reach ops.toList.zipIdx.reverse (Ur o))) (V7 Wf)
theorem NC {ops:Array Oper} {Wf zs:List Nat} (h:Df ops Wf zs=true) {i:Nat} (hi:i∈Wf):∀j oj,ops[j]?=some oj→zs.contains j=true→Pre .any ops j i:=by
 intro j oj hj hz
 have h1:=lzb.1 h j (by grind)
 rw [hj] at h1
 rw [Bool.or_eq_true] at h1
 have d:∀k,(Ur oj).testBit k=true→Pre .any ops j k:=fun k hk=>by
  obtain ⟨e,he,hb,Dg⟩:=(Vy oj k).1 hk
  exact .one hj he hb Dg
 rcases h1 with h1|h1
 ·exact d i (P5 h1 i ((UT Wf i).2 hi))
 ·refine ab9 ops.toList.zipIdx.reverse (Ur oj) (fun p hp=>?_) d i (P5 h1 i ((UT Wf i).2 hi))
  have De:=List.mem_reverse.1 hp
  have:=List.mem_zipIdx' De
  rw [←lRa]
  rw [lba]
  exact ⟨this.1,this.2.symm⟩
section
variable {P:Program} {ops:Array Oper} {S:World→Prop} {K:List Value→World→Prop} {ρ0:List Value} {Z:Nat→Bool}
theorem abe (hs:Region.noSelect ops=true) (plan:List (Nat × Kd)):∀(fuel:Nat) (listed:Array Bool) (live:Bool) (ρ:List Value) (w:World),plan.length≤fuel →
  (∀i,(i,Kd.held)∈plan→∀j oj,ops[j]?=some oj→Z j=true→Pre .any ops j i) →
  (∀i,(i,Kd.free)∈plan→Z i=true) →
  O4 ops (Ft plan) listed=true→(live=true→S w)→agree (Yv ops.toList) ρ0 ρ →
  Cl .any ops listed→UI P ops.toList S K plan live ρ w→R7 P .any ops (fun e a w'=>e=.normal∧a.defers=[]∧agree (Yv ops.toList) ρ0 a.tmps.toList∧K a.tmps.toList w') S Z fuel listed ⟨ρ.toArray,[]⟩ w:=by
 induction plan with
 | nil =>
  intro fuel listed live ρ w _ _ _ hok _ hag _ h
  have hr:=List.isEmpty_iff.1 hok
  cases fuel with
  | zero=>exact ⟨hr,rfl,rfl,hag,h⟩
  | succ f=>exact ⟨fun _=>⟨rfl,rfl,hag,h⟩,by rw [hr];simp⟩
 | cons ib r ih =>
  obtain ⟨i,kd⟩:=ib
  intro fuel listed live ρ w hfl JO GO hok hS hag Ux h
  obtain ⟨f,rfl⟩:∃f,fuel=f+1:=⟨fuel-1,by simp at hfl;omega⟩
  have HQ:r.length≤f:=by grind
  have EO:∀i,(i,Kd.held)∈r→∀j oj,ops[j]?=some oj→Z j=true→Pre .any ops j i:=fun k hk=>JO k (by simp [hk])
  have EN:∀i,(i,Kd.free)∈r→Z i=true:=fun k hk=>GO k (by simp [hk])
  unfold Ft at hok
  rw [lfb,RX] at hok
  rw [ab8] at h
  simp only [Array.getElem?_toList] at h
  cases ho:ops[i]? with
  | none=>rw [ho] at hok;cases hok
  | some o =>
   rw [ho] at hok h
   simp only [Bool.and_eq_true] at hok h
   have hmem:∀n,o.dst=some n→n∈Yv ops.toList:=fun n hn=>by grind [Yv]
   have Ix:=fun live ρ w=>ih f (listed.setIfInBounds i true) live ρ w HQ EO EN
   cases kd with
   | pure =>
    simp only [Gm,Bool.and_eq_true] at hok
    obtain ⟨⟨hfree,Wh⟩,VK⟩:=hok
    obtain ⟨b,hb,h⟩:=XW h
    have key:∀v,YieldsIf P ops (fun _=>True) o v ⟨ρ.toArray,[]⟩→UI P ops.toList S K r live (put ρ o.dst v) w→R7 P .any ops (fun e a w'=>e=.normal∧a.defers=[]∧agree (Yv ops.toList) ρ0 a.tmps.toList∧K a.tmps.toList w') S Z (f+1) listed ⟨ρ.toArray,[]⟩ w:=fun v hy hk =>
     aaC ho (Region.noSelect_spec hs) (fun c a w hq=>by cases hq.1) f listed _ _ (Region.free_spec ho hfree) (by grind) hy (by
      rw [put_eq]
      exact Ix live _ w VK hS (XM hag hmem v) (Ux.step (by grind)) hk)
    cases b
    ·simp only [Ya] at h
     exact key undef (.inr ⟨hb,rfl⟩) h
    ·obtain ⟨v,hv,hk⟩:=SX h
     rw [Ya] at hk
     exact key v (.inl ⟨hb,fun w hS=>by rw [Ys];exact hv w hS⟩) hk
   | held =>
    simp only [Gm,Bool.and_eq_true] at hok
    obtain ⟨⟨hfree,Wh⟩,VK⟩:=hok
    cases live with
    | false=>exact h.elim
    | true =>
     obtain ⟨b,hb,h⟩:=XW h
     have key:∀v,YieldsIf P ops S o v ⟨ρ.toArray,[]⟩→UI P ops.toList S K r true (put ρ o.dst v) w→R7 P .any ops (fun e a w'=>e=.normal∧a.defers=[]∧agree (Yv ops.toList) ρ0 a.tmps.toList∧K a.tmps.toList w') S Z (f+1) listed ⟨ρ.toArray,[]⟩ w:=fun v hy hk =>
      aar ho (Region.noSelect_spec hs) (fun c a w hq=>by cases hq.1) (JO i AF) f listed _ _ Ux (Region.free_spec ho hfree) (by grind) hy (hS rfl) (by
       rw [put_eq]
       exact Ix true _ w VK hS (XM hag hmem v) (Ux.step (by grind)) hk)
     cases b
     ·simp only [Ya] at h
      exact key undef (.inr ⟨hb,rfl⟩) h
     ·obtain ⟨v,hv,hk⟩:=SX h
      rw [Ya] at hk
      exact key v (.inl ⟨hb,fun w hS=>by rw [Ys];exact hv w hS⟩) hk
   | forced =>
    simp only [Gm,beq_iff_eq] at hok
    obtain ⟨Wh,VK⟩:=hok
    cases live with
    | false=>exact h.elim
    | true =>
     obtain ⟨b,hb,h⟩:=XW h
     refine ⟨fun h0=>by rw [Wh] at h0;simp at h0,fun j hj=>?_⟩
     obtain rfl:j=i:=by grind
     unfold wpOp
     rw [ho]
     simp only [hb]
     cases b
     ·simp only [Bool.false_eq_true,if_false,Ya] at h ⊢
      rw [put_eq]
      exact ⟨.inr id,Ix true _ w VK hS (XM hag hmem _) (Ux.step hj) h⟩
     ·simp only [if_true] at h ⊢
      refine .inl (Ui h fun v w' ⟨Fy,hk⟩=>?_)
      rw [Ya] at hk
      rw [put_eq]
      exact ⟨.inr fun _=>Fy,Ix true _ w' VK (fun _=>Fy) (XM hag hmem v) (Ux.step hj) hk⟩
   | free =>
    simp only [Gm,beq_iff_eq] at hok
    obtain ⟨Wh,VK⟩:=hok
    have hz:Z i=true:=GO i AF
    obtain ⟨b,hb,h⟩:=XW h
    refine ⟨fun h0=>by rw [Wh] at h0;simp at h0,fun j hj=>?_⟩
    obtain rfl:j=i:=by grind
    unfold wpOp
    rw [ho]
    simp only [hb]
    cases b
    ·simp only [Bool.false_eq_true,if_false,Ya] at h ⊢
     rw [put_eq]
     exact ⟨.inl hz,Ix false _ w VK nofun (XM hag hmem _) (Ux.step hj) h⟩
    ·simp only [if_true] at h ⊢
     refine .inl (Ui h fun v w' hk=>?_)
     rw [Ya] at hk
     rw [put_eq]
     exact ⟨.inl hz,Ix false _ w' VK nofun (XM hag hmem v) (Ux.step hj) hk⟩
theorem akh {id:Nat} {w:World} (S:World→Prop) (plan:List (Nat × Kd)) (hm:P.follows .mixedOrders=true) (hc:ND ops (Ft plan)=true) (hz:Df ops (JL plan) (LJ plan)=true)
  (h:∀w1,w1=w.drew→S w1∧UI P ops.toList S K plan true ρ0 w1):NN P id ops K ρ0 w:=by
 have DP:=aac hc
 simp only [RW,Bool.and_eq_true,beq_iff_eq] at DP
 obtain ⟨⟨h1,h2⟩,h3⟩:=DP
 obtain ⟨hS,hk⟩:=h _ rfl
 have hl:plan.length≤ops.size:=by grind [Ft]
 refine ⟨wp_region_any hm (abd (S:=S) (Z:=fun i=>(LJ plan).contains i) _ _ _ _ (abe h1 plan _ _ true _ _ hl (fun i hi=>NC hz ?_) (fun i hi=>?_) h3 (fun _=>hS) (QC _ _) (Cl.start _) hk))⟩
 ·grind [JL]
 ·grind [LJ]
end
end YW
end Go.Proofs.YtakpnepblgfknaaGreatDoor
