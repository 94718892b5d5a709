/- Texts of this claim, one behind the other. -/
import Derived.Tactics
import Derived.Below
import Derived.ScopeJumps
import Derived.Laws.Slices
import Derived.Laws.Small
import Derived.Laws.StructEq
import Derived.Laws.Pointers
import Derived.Laws.Cover3
import Derived.Laws.Strings
import Derived.Laws.BytesString
import Derived.Laws.Build
import Derived.Laws.OwnMore
import Derived.Laws.MakeOwn
import Derived.Laws.CopyOwn
import Derived.Laws.BytesArg
import Derived.KernelRfl
import Derived.OrdersHeld
import Derived.Laws.CopyRow
import Derived.Laws.AppendOwn
import Derived.ArgAppend
set_option linter.unusedVariables false
set_option linter.unusedSimpArgs false
set_option linter.defProp false
namespace Go.Proofs.YtakpnepblgfknaaGreatDoor
theorem Ab {P:Prop} (h:P:=by omega):P:=h
theorem Aa {P:Prop} (h:P:=by assumption):P:=h
theorem zZ {P:Prop} (h:P:=by simp):P:=h
theorem zL {α β γ:Type} {a:α} {b:β} {c:γ}:a=a/\b=b/\c=c:=⟨rfl,rfl,rfl⟩
theorem zQ {α β γ δ:Type} {a:α} {b:β} {c:γ} {d:δ}:a=a/\b=b/\c=c/\d=d:=⟨rfl,rfl,rfl,rfl⟩
theorem zX {α β:Type _} {a:α} {b:β}:a=a/\b=b:=⟨rfl,rfl⟩
abbrev zW (n:Int):Go.Value:=.int .i64 n
abbrev zV (n:Nat):Go.Value:=.pointer (some ⟨n,0,none⟩)
theorem k_a {P:Prop} (h:P:=by repeat first|exact ZV|refine ZM rfl ?_|refine Zs rfl (by first|omega|(simp only;omega)|(simp;omega)|(simp;done)) ?_):P:=h
theorem k_b {P:Prop} (h:P:=by first|omega|(simp only;omega)|(simp;omega)|(simp;done)):P:=h
theorem k_c {P:Prop} (h:P:=by (subst_vars;unfold Vs;(repeat first|rw [if_pos Ab]|rw [if_neg Ab]);(try simp only [YR,XL,XT,YN]);(try rfl))):P:=h
theorem k_d {P:Prop} (h:P:=by kernel_rfl):P:=h
theorem k_e {P:Prop} (h:P:=by (unfold U4;(repeat first|rw [if_pos Ab]|rw [if_neg Ab]);(try simp only [YR] at *);subst_vars;(try rfl);done)):P:=h
theorem k_f {P:Prop} (h:P:=by (subst_vars;first|omega|(rw [lca,lfa];omega))):P:=h
theorem k_g {P:Prop} (h:P:=by simp only [List.all_cons,List.all_nil,H.one 2 rfl,H.one 3 rfl,H.one 4 rfl,H.one 5 rfl,Z0.one YG,Z0.one hx];rfl):P:=h
theorem k_h {P:Prop} (h:P:=by exact Xy.more Aa Ab):P:=h
theorem k_i {P:Prop} (h:P:=by rw [Yo];unfold execOp;rw [ho]):P:=h
theorem k_j {P:Prop} (h:P:=by (simp only [List.length_append,List.length_set,List.length_cons,List.length_nil];omega)):P:=h
theorem k_k {P:Prop} (h:P:=by simp only [List.all_cons,List.all_nil,H.one 2 rfl,H.one 3 rfl,Z0.one X5,Z0.one MY,Z0.one JP,Z0.one Pu,Z0.one Lm,Z0.one YX,Z0.one YK,Z0.one Gb,Z0.one Zj];rfl):P:=h
theorem k_l {P:Prop} (h:P:=by simp only [List.all_cons,List.all_nil,H.one 4 rfl,H.one 5 rfl,Z0.one Xa,Z0.one Xb,Z0.one ZQ,Z0.one ht];rfl):P:=h
theorem k_m {P:Prop} (h:P:=by simp only [Bool.and_true,H.one 1 rfl,H.one 2 rfl,H.one 6 rfl,hvs,Z0.one ZP,Z0.one Zv,Z0.one ZQ,hvl]):P:=h
theorem k_n {P:Prop} (h:P:=by exact Gd (by decide) (by decide) Aa):P:=h
theorem k_o {P:Prop} (h:P:=by simp only [List.all_cons,List.all_nil,H.one 2 rfl,Z0.one YG,Z0.one Hh,Z0.one hs,Z0.one hL,Z0.one he,Z0.one hb];rfl):P:=h
theorem k_p {P:Prop} (h:P:=by first|omega|(simp only;omega)|(simp;omega)):P:=h
theorem k_q {P:Prop} (h:P:=by simp [run_sliceBound (P:=P) w kh (h:Int) cap _ Ab Ab,run_sliceBound (P:=P) w kl (a:Int) h _ Ab Ab]):P:=h
theorem k_r {P:Prop} (h:P:=by rw [<-hargs];exact h):P:=h
theorem k_s {P:Prop} (h:P:=by exact ⟨rfl,rfl,rfl,rfl,fun _=>rfl⟩):P:=h
theorem k_t {P:Prop} (h:P:=by simp [run_sliceBound (P:=P) w kh (h:Int) cap _ Ab Ab]):P:=h
theorem k_u {P:Prop} (h:P:=by unfold execOp;rw [ho];simp only [resolve,hc,pure_bind,invoke,builtin]):P:=h
theorem k_v {P:Prop} (h:P:=by simp only [Bool.and_true,H.one 2 rfl,H.one 3 rfl,Vw.one V2,Z0.one ht]):P:=h
def laa:=@List.getElem?_eq_getElem
def lba:=@List.getElem?_eq_some_iff
def lca:=@List.length_append
def lda:=@List.mem_of_getElem?
def lea:=@List.length_map
def lfa:=@List.length_replicate
def lga:=@Int.toNat_natCast
def lha:=@List.append_assoc
def lia0:=@List.getD_eq_getElem?_getD
def lja:=@List.all_cons
def lka:=@List.length_cons
def lla:=@List.all_nil
def lma:=@List.eq_nil_of_length_eq_zero
def lna:=@Nat.le_refl
def loa:=@List.length_singleton
def lpa:=@List.append_nil
def lqa:=@Int.eq_ofNat_of_zero_le
def lra:=@List.drop_eq_getElem_cons
def lsa:=@List.mem_singleton
def lta:=@List.length_set
def lua:=@List.take_of_length_le
def lva:=@Array.getElem?_eq_some_iff
def lwa:=@List.take_append_of_le_length
def lxa:=@List.drop_of_length_le
def lya:=@List.getElem?_map
def lza:=@Nat.mul_le_mul_right
def lAa:=@Nat.lt_or_ge
def lBa:=@Array.getD_eq_getD_getElem?
def lCa:=@List.length_take
def lDa:=@Nat.le_trans
def lEa:=@List.length_nil
def lFa:=@List.ext_getElem?
def lGa:=@List.cons_append
def lHa:=@List.length_drop
def lIa:=@Nat.zero_le
def lJa:=@List.getElem?_take
def lKa:=@List.getElem?_append
def lLa:=@List.mem_append
def lMa:=@List.getElem?_set
def lNa:=@List.flatMap_cons
def lOa:=@List.nil_append
def lPa:=@List.flatMap_append
def lQa:=@Nat.pow_le_pow_right
def lRa:=@List.getElem?_append_left
def lSa:=@Option.map_some
def lTa:=@Array.getElem?_toList
def lUa:=@List.getElem?_drop
def lVa:=@List.drop_zero
def lWa:=@Option.bind_eq_some_iff
def lXa:=@List.mem_map
def lYa:=@List.drop_drop
def lZa:=@Nat.le_of_lt
def lab0:=@List.mem_append_left
def lbb:=@Nat.le_of_ble_eq_true
def lcb:=@Nat.eq_of_beq_eq_true
def ldb:=@List.take_append_drop
def leb:=@List.map_cons
def lfb:=@List.drop_succ_cons
def lgb:=@Array.getElem?_eq_getElem
def lhb:=@Nat.succ_mul
def lib:=@List.set_cons_succ
def ljb:=@List.set_cons_zero
def lkb:=@Nat.min_eq_left
def llb:=@List.map_append
def lmb:=@List.take_length
def lnb:=@List.getElem_mem
def lob:=@List.drop_append_of_le_length
def lpb:=@Nat.le_succ
def lqb:=@List.mem_append_right
def lrb:=@List.eq_nil_or_concat
def lsb0:=@List.mem_cons_of_mem
def ltb:=@List.all_eq_true
def lub0:=@List.getElem?_append_right
def lvb:=@Nat.add_sub_cancel
def lwb:=@List.singleton_inj
def lxb:=@List.mem_cons_self
def lyb:=@List.mem_iff_getElem
def lzb:=@Nat.testBit_or
def lAb:=@List.take_left
def lBb:=@List.take_add_one
def lCb:=@Nat.testBit_two_pow_sub_one
def lDb:=@Nat.add_mul
def lEb:=@List.replicate_succ
def lFb:=@List.length_pos_iff
def lGb:=@Option.bind_some
def lHb:=@Nat.succ_le_succ
def lIb:=@List.drop_append
def lJb:=@Array.toList_map
def lKb:=@Nat.zero_add
def lLb:=@Nat.eq_zero_or_pos
def lMb:=@List.concat_eq_append
def lNb:=@List.drop_take
def lOb:=@List.mem_of_mem_take
def lPb:=@Int.mul_le_mul_of_nonneg_right
def lQb:=@Nat.testBit_two_pow
def lRb:=@Nat.add_assoc
def lSb:=@List.not_mem_nil
def lTb:=@Int.mul_le_mul_of_nonneg_left
def lUb:=@List.take_take
namespace Y4
open Go
def gt:List Value->Nat->Value
 | [],_=>undef
 | v::_,0=>v
 | _::r,n+1=>gt r n
def Ew (l:List Value):Nat->(Value->Prop)->Prop :=
 List.rec (motive:=fun _=>Nat->(Value->Prop)->Prop) (fun _ k=>k undef) (fun v _ ih n k=>Nat.rec (motive:=fun _=>Prop) (k v) (fun m _=>ih m k) n) l
def IL (l:List Value):Nat->Value->(List Value->Prop)->Prop :=
 List.rec (motive:=fun _=>Nat->Value->(List Value->Prop)->Prop) (fun _ _ k=>k []) (fun x r ih n v k=>Nat.rec (motive:=fun _=>Prop) (k (v::r)) (fun m _=>ih m v (fun r'=>k (x::r'))) n) l
theorem afK (n:Nat) (v:Value) (k:List Value->Prop):IL [] n v k=k []:=rfl
theorem adJ (x:Value) (r:List Value) (n:Nat) (v:Value) (k:List Value->Prop):IL (x::r) (n+1) v k=IL r n v (fun r'=>k (x::r')):=rfl
def ev (ρ:List Value):Operand->Value
 | .tmp t=>gt ρ t
 | .const v=>v
 | .global g=>.pointer (some ⟨g,0,none⟩)
 | .func f=>.func (.func f) #[] #[]
def VQ (ρ:List Value):Operand->(Value->Prop)->Prop
 | .tmp t,k=>Ew ρ t k
 | .const v,k=>k v
 | .global g,k=>k (.pointer (some ⟨g,0,none⟩))
 | .func f,k=>k (.func (.func f) #[] #[])
def Uf (ρ:List Value) (l:List Operand):(List Value->Prop)->Prop :=
 List.rec (motive:=fun _=>(List Value->Prop)->Prop) (fun k=>k []) (fun x _ ih k=>VQ ρ x fun v=>ih fun vs=>k (v::vs)) l
theorem ade (ρ:List Value) (x:Operand) (r:List Operand) (k:List Value->Prop):Uf ρ (x::r) k=VQ ρ x fun v=>Uf ρ r fun vs=>k (v::vs):=rfl
def Xx (ρ:List Value) (d:Option Nat) (v:Value) (k:List Value->Prop):Prop :=
 match d with
 | none=>k ρ
 | some d=>IL ρ d v k
theorem Pj (ρ:List Value) (n:Nat) (k:Value->Prop):Ew ρ n k=k (gt ρ n):=by
 induction ρ generalizing n with
 | nil=>rfl
 | cons v r ih=>cases n with
  | zero=>rfl
  | succ n=>exact ih n
theorem Tt (ρ:List Value) (n:Nat) (v:Value) (k:List Value->Prop):IL ρ n v k=k (ρ.set n v):=by
 induction ρ generalizing n k with
 | nil=>simp [afK]
 | cons x r ih=>cases n with
  | zero=>rfl
  | succ n=>simp [adJ,ih]
theorem Ts (ρ:List Value) (x:Operand) (k:Value->Prop):VQ ρ x k=k (ev ρ x):=by
 cases x <;> simp [VQ,ev,Pj]
theorem Og (ρ:List Value) (xs:List Operand) (k:List Value->Prop):Uf ρ xs k=k (xs.map (ev ρ)):=by
 induction xs generalizing k with
 | nil=>rfl
 | cons x r ih=>simp [ade,Ts,ih]
def put (ρ:List Value) (d:Option Nat) (v:Value):List Value :=
 match d with
 | none=>ρ
 | some d=>ρ.set d v
theorem X7 (ρ:List Value) (d:Option Nat) (v:Value) (k:List Value->Prop):Xx ρ d v k=k (put ρ d v):=by
 cases d <;> simp [Xx,put,Tt]
theorem Qp (ρ:List Value) (n:Nat):gt ρ n=ρ.toArray.getD n undef:=by
 induction ρ generalizing n with
 | nil=>simp [gt]
 | cons v r ih=>cases n with
  | zero=>simp [gt]
  | succ n=>simp [gt,ih]
theorem Yo (ρ:List Value) {ds:List Deferred}:(⟨ρ.toArray,ds⟩:Act).eval=ev ρ:=by
 funext x;cases x <;> simp [Act.eval,ev,Qp]
theorem put_eq (ρ:List Value) (d:Option Nat) (v:Value) {ds:List Deferred}:(⟨ρ.toArray,ds⟩:Act).put d v=⟨(put ρ d v).toArray,ds⟩:=by
 cases d <;> simp [Act.put,put]
def TH (k:IntKind) (x y:Int):Int:=k.wrap (BitVec.ofInt k.bits x &&& BitVec.ofInt k.bits y).toNat
def RW (k:IntKind) (x y:Int):Int:=k.wrap (BitVec.ofInt k.bits x ||| BitVec.ofInt k.bits y).toNat
def QK (k:IntKind) (x y:Int):Int:=k.wrap (BitVec.ofInt k.bits x ^^^ BitVec.ofInt k.bits y).toNat
def Rq (k:IntKind) (x y:Int):Int:=k.wrap (BitVec.ofInt k.bits x &&& ~~~(BitVec.ofInt k.bits y)).toNat
def Wi (k:IntKind) (x y:Int):Int:=k.wrap (x * 2 ^ min y.toNat k.bits)
def W3 (k:IntKind) (x y:Int):Int:=x.fdiv (2 ^ min y.toNat k.bits)
def ZO (k:IntKind) (x:Int):Int:=k.wrap x
def Tq (k:IntKind) (x y:Int):Int:=k.wrap (x.tdiv y)
def SC (x y:Int):Int:=x.tmod y
theorem adK:∃f:Int->Int->Bool,∀x y,f x y=decide (x<y):=⟨_,fun _ _=>rfl⟩
theorem adL:∃f:Int->Int->Bool,∀x y,f x y=decide (x<=y):=⟨_,fun _ _=>rfl⟩
theorem adM:∃f:Int->Int->Bool,∀x y,f x y=(x == y):=⟨_,fun _ _=>rfl⟩
theorem adN:∃f:Int->Int->Bool,∀x y,f x y=(x != y):=⟨_,fun _ _=>rfl⟩
noncomputable def Gu:Int->Int->Bool:=Classical.choose adK
noncomputable def JL:Int->Int->Bool:=Classical.choose adL
noncomputable def Ku:Int->Int->Bool:=Classical.choose adM
noncomputable def EZ:Int->Int->Bool:=Classical.choose adN
theorem SB (x y:Int):Gu x y=decide (x<y):=Classical.choose_spec adK x y
theorem SA (x y:Int):JL x y=decide (x<=y):=Classical.choose_spec adL x y
theorem Sz (x y:Int):Ku x y=(x == y):=Classical.choose_spec adM x y
theorem Sy (x y:Int):EZ x y=(x != y):=Classical.choose_spec adN x y
attribute [irreducible] TH RW QK Rq Wi W3 ZO Tq SC Gu JL Ku EZ
def Bg:IntKind->IntKind->Bool
 | .i8,.i8|.i16,.i16|.i32,.i32|.i64,.i64|.u8,.u8|.u16,.u16|.u32,.u32|.u64,.u64=>true
 | _,_=>false
theorem adO {k k':IntKind} (h:Bg k k'=true):k=k':=by cases k <;> cases k' <;> first|rfl|cases h
inductive Ze (P:Program) (m:Sem Value) (w:World) (K:Value->World->Prop):Prop
 | mk (v:Value) (w':World) (h:m.run P w=.ok v w') (k:K v w')
inductive IK (P:Program) (m:Sem Unit) (w:World) (K:World->Prop):Prop
 | mk (w':World) (h:m.run P w=.ok () w') (k:K w')
structure Fc (P:Program) (f:FuncId) (args:Array Value) (w:World) (R:Value->World->Prop):Prop where
 Of:(callFunc f args).run P w=.ok (.enter f args) w
 calls:Calls P f args w fun e w'=>∃v,e=.returned v/\R v w'
inductive Z7 (P:Program) (f:FuncId) (args:Array Value) (w:World) (K:Value->World->Prop):Prop
 | mk (h:Fc P f args w K)
inductive Kt (P:Program) (recv:Value) (name:String) (args:Array Value) (w:World) (K:Value->World->Prop):Prop
 | mk (f:FuncId) (r:Value) (w1:World) (t:TypeId) (v:Value) (hr:recv=.iface t v)
   (hm:(method (P.types.size+Made.depth) t v name).run P w=.ok (f,r) w1) (h:Fc P f (#[r]++args) w1 K)
def NR (b:Bool) (k:Bool->Prop):Prop:=match b with
 | true=>k true
 | false=>k false
theorem Ta (b:Bool) (k:Bool->Prop):NR b k=k b:=by cases b <;> rfl
theorem br {b:Bool} {X Y:Prop} (t:b=true->X) (f:b=false->Y):NR.match_1 (fun _=>Prop) b (fun _=>X) (fun _=>Y):=by
 cases b
 .exact f rfl
 .exact t rfl
theorem VG {b:Bool} {X Y:Prop} (h:b=true) (t:X):NR.match_1 (fun _=>Prop) b (fun _=>X) (fun _=>Y):=by subst h;exact t
theorem Xm {b:Bool} {X Y:Prop} (h:b=false) (f:Y):NR.match_1 (fun _=>Prop) b (fun _=>X) (fun _=>Y):=by subst h;exact f
inductive V5 (b:Int) (K:Prop):Prop
 | mk (h:b≠0) (k:K)
inductive YD (b:Int) (K:Prop):Prop
 | mk (h:0<=b) (k:K)
inductive WU (e:Int) (K:Int->Prop):Prop
 | mk (m:Int) (h:e=m) (k:K m)
theorem WU.keep {e:Int} {K:Int->Prop} (k:K e):WU e K:=⟨e,rfl,k⟩
theorem WU.imp {e:Int} {K K':Int->Prop} (h:WU e K) (hk:∀m,K m->K' m):WU e K':=by obtain ⟨m,e,k⟩:=h;exact ⟨m,e,hk _ k⟩
def Sw (op:BinOp) (k:IntKind) (a b:Int) (K:Value->Prop):Prop :=
 match op with
 | .add=>WU (ZO k (a+b)) fun n=>K (.int k n)
 | .sub=>WU (ZO k (a-b)) fun n=>K (.int k n)
 | .mul=>WU (ZO k (a * b)) fun n=>K (.int k n)
 | .quo=>V5 b (WU (Tq k a b) fun n=>K (.int k n))
 | .rem=>V5 b (WU (SC a b) fun n=>K (.int k n))
 | .and=>WU (TH k a b) fun n=>K (.int k n)
 | .or=>WU (RW k a b) fun n=>K (.int k n)
 | .xor=>WU (QK k a b) fun n=>K (.int k n)
 | .andNot=>WU (Rq k a b) fun n=>K (.int k n)
 | .eql=>K (.bool (Ku a b))
 | .neq=>K (.bool (EZ a b))
 | .lss=>K (.bool (Gu a b))
 | .leq=>K (.bool (JL a b))
 | .gtr=>K (.bool (Gu b a))
 | .geq=>K (.bool (JL b a))
 | _=>False
def Ip (P:Program) (op:BinOp) (t:TypeId) (x y:Operand) (a b:Value) (w:World) (K:Value->World->Prop):Prop :=
 match a with
 | .int k a=>match b with
  | .int k' b=>match op with
   | .shl=>YD b (WU (Wi k a b) fun n=>K (.int k n) w)
   | .shr=>YD b (WU (W3 k a b) fun n=>K (.int k n) w)
   | op=>match Bg k k' with
    | true=>Sw op k a b fun v=>K v w
    | false=>False
  | b=>Ze P (do eqGuard op t x y (.int k a) b;binOp op t (.int k a) b) w K
 | a=>Ze P (do eqGuard op t x y a b;binOp op t a b) w K
def Ph (l:List Value):List Value->(List Value->Prop)->Prop :=
 List.rec (motive:=fun _=>List Value->(List Value->Prop)->Prop) (fun ys k=>k ys) (fun x _ ih ys k=>ih ys fun zs=>k (x::zs)) l
theorem adf (x:Value) (xs ys:List Value) (k:List Value->Prop):Ph (x::xs) ys k=Ph xs ys fun zs=>k (x::zs):=rfl
theorem Sv (xs ys:List Value) (k:List Value->Prop):Ph xs ys k=k (xs++ys):=by
 induction xs generalizing k with
 | nil=>rfl
 | cons x xs ih=>simp [adf,ih]
def Qo (P:Program) (f:Value) (args:List Value) (w:World) (K:Value->World->Prop):Prop :=
 match f with
 | .func fn first captured=>match fn with
  | .func id=>Ph args captured.toList fun a=>Ph first.toList a fun a=>Z7 P id a.toArray w K
  | _=>False
 | _=>False
def Ks (l:List Value):Nat->(Value->Prop)->Prop :=
 List.rec (motive:=fun _=>Nat->(Value->Prop)->Prop) (fun _ _=>False) (fun v _ ih n k=>Nat.rec (motive:=fun _=>Prop) (k v) (fun m _=>ih m k) n) l
theorem Oe {l:List Value} {n:Nat} {k:Value->Prop} (h:Ks l n k):∃v,l[n]?=some v/\k v:=by
 induction l generalizing n with
 | nil=>exact h.elim
 | cons x r ih=>cases n with
  | zero=>exact ⟨x,rfl,h⟩
  | succ n=>simpa using ih (n:=n) h
theorem adP {l:List Value} {n:Nat} {k k':Value->Prop} (h:Ks l n k) (hk:∀v,k v->k' v):Ks l n k':=by
 induction l generalizing n with
 | nil=>exact h.elim
 | cons x r ih=>cases n with
  | zero=>exact hk _ h
  | succ n=>exact ih (n:=n) h
def CC (P:Program) (op:UnOp) (a:Value) (w:World) (K:Value->World->Prop):Prop :=
 match op with
 | .not=>match a with
  | .bool b=>K (.bool (!b)) w
  | _=>False
 | .neg=>match a with
  | .int k n=>WU (ZO k (0-n)) fun m=>K (.int k m) w
  | _=>False
 | op=>Ze P (Op.unary op a) w K
def ajJ (P:Program) (src dst:TypeId) (a:Value) (w:World) (K:Value->World->Prop):Prop :=
 Ze P (convert src dst a) w K
def Io (v:Value) (w:World) (K:Value->World->Prop):Prop :=
 match v with
 | .pointer p=>match p with
  | some a=>K (.pointer (some a)) w
  | none=>False
 | .func fn a b=>match fn with
  | .func f=>K (.func (.func f) a b) w
  | _=>False
 | .iface t x=>K (.iface t x) w
 | _=>False
def Pg (ρ:List Value) (l:List (Nat × Operand)):(List (Nat × Value)->Prop)->Prop :=
 List.rec (motive:=fun _=>(List (Nat × Value)->Prop)->Prop) (fun k=>k []) (fun p _ ih k=>match p with
  | (i,x)=>VQ ρ x fun v=>ih fun vs=>k ((i,v)::vs)) l
theorem aa3 (ρ:List Value) (i:Nat) (x:Operand) (r:List (Nat × Operand)) (k:List (Nat × Value)->Prop):Pg ρ ((i,x)::r) k=VQ ρ x fun v=>Pg ρ r fun vs=>k ((i,v)::vs):=rfl
theorem Pe (ρ:List Value) (xs:List (Nat × Operand)) (k:List (Nat × Value)->Prop) :
  Pg ρ xs k=k (xs.map fun (i,x)=>(i,ev ρ x)):=by
 induction xs generalizing k with
 | nil=>rfl
 | cons x r ih=>obtain ⟨i,x⟩:=x;simp [aa3,Ts,ih]
def LW (ρ:List Value):Option Operand->(Option Value->Prop)->Prop
 | none,k=>k none
 | some x,k=>VQ ρ x fun v=>k (some v)
theorem LV (ρ:List Value) (x:Option Operand) (k:Option Value->Prop):LW ρ x k=k (x.map (ev ρ)):=by
 cases x <;> simp [LW,Ts]
def HJ (v:Value) (i:Nat) (w:World) (K:Value->World->Prop):Prop :=
 match v with
 | .tuple vs=>Ks vs.toList i fun v=>K v w
 | _=>False
def LU (P:Program) (o:Oper) (ρ:List Value) (w:World) (K:Value->World->Prop):Prop :=
 match o.op with
 | .move x=>VQ ρ x fun v=>K v w
 | .assign x=>VQ ρ x fun v=>K v w
 | .pick c a b=>VQ ρ c fun c=>match c with
  | .bool c=>NR c fun c=>match c with
   | true=>VQ ρ a fun v=>K v w
   | false=>VQ ρ b fun v=>K v w
  | _=>False
 | .alloc t=>Ze P (Instr.alloc t true (.tuple #[])) w K
 | .box t x=>VQ ρ x fun v=>Ze P (Instr.box t v) w K
 | .build t parts=>Pg ρ parts.toList fun vs=>Ze P (Instr.build t vs.toArray) w K
 | .buildSlice t n parts=>Pg ρ parts.toList fun vs=>Ze P (Instr.buildSlice t n vs.toArray) w K
 | .load t x=>VQ ρ x fun a=>Ze P (Instr.loadAt t a) w K
 | .store t x y=>VQ ρ x fun a=>VQ ρ y fun v=>IK P (Instr.storeAt t a v) w (K undef)
 | .nilCheck x=>VQ ρ x fun v=>Io v w K
 | .binOp op t x y _=>VQ ρ x fun a=>VQ ρ y fun b=>Ip P op t x y a b w K
 | .unOp op _ x=>VQ ρ x fun a=>CC P op a w K
 | .convert s d x=>VQ ρ x fun a=>ajJ P s d a w K
 | .makeInterface t x=>VQ ρ x fun a=>Ze P (Instr.makeInterface t a) w K
 | .makeFunc fn first captured=>Uf ρ first.toList fun fs=>Uf ρ captured.toList fun cs=>K (.func fn fs.toArray cs.toArray) w
 | .makeSlice t l c=>VQ ρ l fun l=>VQ ρ c fun c=>Ze P (Instr.makeSlice t l c) w K
 | .slice t x lo hi mx=>VQ ρ x fun a=>LW ρ lo fun lo=>LW ρ hi fun hi=>LW ρ mx fun mx=>Ze P (Instr.sliceAt t a lo hi mx) w K
 | .fieldAddr t x f=>VQ ρ x fun a=>Ze P (Instr.fieldAt t a f) w K
 | .field t x f=>VQ ρ x fun a=>Ze P (Instr.field t a f) w K
 | .indexAddr t x i=>VQ ρ x fun a=>VQ ρ i fun i=>Ze P (Instr.indexAt t a i) w K
 | .index t x i=>VQ ρ x fun a=>VQ ρ i fun i=>Ze P (Instr.index t a i) w K
 | .extract x i=>VQ ρ x fun v=>HJ v i w K
 | .typeAssert x t u ok=>VQ ρ x fun a=>Ze P (Instr.typeAssert a t u ok) w K
 | .call c=>match c.callee with
  | .value f=>VQ ρ f fun f=>Uf ρ c.args.toList fun vs=>Qo P f vs w K
  | .builtin .append=>Uf ρ c.args.toList fun vs=>Ze P (Builtin.append_ c.argTypes o.type vs.toArray) w K
  | .builtin .len=>Uf ρ c.args.toList fun vs=>Ze P (Builtin.len_ c.argTypes o.type vs.toArray) w K
  | .builtin .copy=>Uf ρ c.args.toList fun vs=>Ze P (Builtin.copy_ c.argTypes o.type vs.toArray) w K
  | .builtin .max=>Uf ρ c.args.toList fun vs=>Ze P (Builtin.max_ c.argTypes o.type vs.toArray) w K
  | .builtin .min=>Uf ρ c.args.toList fun vs=>Ze P (Builtin.min_ c.argTypes o.type vs.toArray) w K
  | .builtin .cap=>Uf ρ c.args.toList fun vs=>Ze P (Builtin.cap_ c.argTypes o.type vs.toArray) w K
  | .builtin .clear=>Uf ρ c.args.toList fun vs=>Ze P (Builtin.clear_ c.argTypes o.type vs.toArray) w K
  | .builtin .delete=>Uf ρ c.args.toList fun vs=>Ze P (Builtin.delete_ c.argTypes o.type vs.toArray) w K
  | .builtin .unsafeSliceData=>Uf ρ c.args.toList fun vs=>Ze P (Builtin.unsafeSliceData_ c.argTypes o.type vs.toArray) w K
  | .builtin .unsafeString=>Uf ρ c.args.toList fun vs=>Ze P (Builtin.unsafeString_ c.argTypes o.type vs.toArray) w K
  | .invoke r name=>VQ ρ r fun r=>Uf ρ c.args.toList fun vs=>Kt P r name vs.toArray w K
  | _=>False
 | .makeMap t r=>LW ρ r fun r=>Ze P (Instr.makeMap t r) w K
 | .lookup t x i ok=>VQ ρ x fun a=>VQ ρ i fun i=>Ze P (Instr.lookup t a i ok) w K
 | .mapUpdate t m k x=>VQ ρ m fun m=>VQ ρ k fun k=>VQ ρ x fun x=>IK P (Instr.mapUpdate t m k x) w (K undef)
 | .range t x=>VQ ρ x fun a=>Ze P (Instr.range t a) w K
 | .next it st=>VQ ρ it fun a=>Ze P (Instr.next a st o.type) w K
 | .entry it=>VQ ρ it fun a=>Ze P (Instr.entry a) w K
 | _=>False
theorem Ze.imp {P:Program} {m:Sem Value} {w:World} {K K':Value->World->Prop} (h:Ze P m w K) (hk:∀v w',K v w'->K' v w'):Ze P m w K':=by
 obtain ⟨v,w',h,k⟩:=h;exact ⟨v,w',h,hk _ _ k⟩
theorem IK.imp {P:Program} {m:Sem Unit} {w:World} {K K':World->Prop} (h:IK P m w K) (hk:∀w',K w'->K' w'):IK P m w K':=by
 obtain ⟨w',h,k⟩:=h;exact ⟨w',h,hk _ k⟩
theorem Fc.imp {P:Program} {f:FuncId} {args:Array Value} {w:World} {R R':Value->World->Prop} (h:Fc P f args w R) (hk:∀v w',R v w'->R' v w'):Fc P f args w R' :=
 ⟨h.Of,h.calls.mono fun _ _ ⟨v,he,hr⟩=>⟨v,he,hk _ _ hr⟩⟩
theorem Z7.imp {P:Program} {f:FuncId} {args:Array Value} {w:World} {R R':Value->World->Prop} (h:Z7 P f args w R) (hk:∀v w',R v w'->R' v w'):Z7 P f args w R':=by
 obtain ⟨h⟩:=h;exact ⟨h.imp hk⟩
theorem Kt.imp {P:Program} {r:Value} {n:String} {args:Array Value} {w:World} {R R':Value->World->Prop} (h:Kt P r n args w R) (hk:∀v w',R v w'->R' v w'):Kt P r n args w R':=by
 obtain ⟨f,r,w1,t,v,hr,hm,h⟩:=h;exact ⟨f,r,w1,t,v,hr,hm,h.imp hk⟩
theorem abX {op:BinOp} {k:IntKind} {a b:Int} {K K':Value->Prop} (h:Sw op k a b K) (hk:∀v,K v->K' v):Sw op k a b K':=by
 cases op <;> simp only [Sw] at h⊢<;> first|exact hk _ h|exact h.imp fun m=>hk _|(obtain ⟨h,k⟩:=h;exact ⟨h,k.imp fun m=>hk _⟩)|exact h
theorem adQ {P:Program} {op:BinOp} {t:TypeId} {x y:Operand} {a b:Value} {w:World} {K K':Value->World->Prop}
  (h:Ip P op t x y a b w K) (hk:∀v w',K v w'->K' v w'):Ip P op t x y a b w K':=by
 unfold Ip at h ⊢
 split at h
 .split at h
  .split at h
   .obtain ⟨h,k⟩:=h;exact ⟨h,k.imp fun m=>hk _ _⟩
   .obtain ⟨h,k⟩:=h;exact ⟨h,k.imp fun m=>hk _ _⟩
   .split at h
    .exact abX h fun v=>hk v w
    .exact h
  .exact h.imp hk
 .exact h.imp hk
theorem afL {P:Program} {op:UnOp} {a:Value} {w:World} {K K':Value->World->Prop}
  (h:CC P op a w K) (hk:∀v w',K v w'->K' v w'):CC P op a w K':=by
 unfold CC at h ⊢
 split at h
 .split at h
  .grind
  .exact h
 .split at h
  .exact h.imp fun m=>hk _ _
  .exact h
 .exact h.imp hk
theorem adR {a:Value} {w:World} {K K':Value->World->Prop}
  (h:Io a w K) (hk:∀v w',K v w'->K' v w'):Io a w K':=by
 unfold Io at h ⊢
 split at h
 .split at h
  .grind
  .exact h
 .split at h
  .grind
  .exact h
 .grind
 .exact h
theorem adS {a:Value} {i:Nat} {w:World} {K K':Value->World->Prop}
  (h:HJ a i w K) (hk:∀v w',K v w'->K' v w'):HJ a i w K':=by
 unfold HJ at h ⊢
 split at h
 .exact adP h fun v=>hk v w
 .exact h
theorem aa4 {P:Program} {f:Value} {vs:List Value} {w:World} {K K':Value->World->Prop}
  (h:Qo P f vs w K) (hk:∀v w',K v w'->K' v w'):Qo P f vs w K':=by
 unfold Qo at h ⊢
 simp only [Sv] at h ⊢
 split at h
 .split at h
  .exact h.imp hk
  .exact h
 .exact h
theorem LS {P:Program} {o:Oper} {ρ:List Value} {w:World} {K K':Value->World->Prop}
  (h:LU P o ρ w K) (hk:∀v w',K v w'->K' v w'):LU P o ρ w K':=by
 unfold LU at h ⊢
 simp only [Ts,Og,Pe,LV,Ta] at h ⊢
 split at h <;> first
  | exact h.imp hk
  | exact hk _ _ h
  | exact adQ h hk
  | exact afL h hk
  | exact Ze.imp h hk
  | exact adR h hk
  | exact adS h hk
  | exact h.imp fun w'=>hk _ w'
  | exact h
  | (split at h <;> first|exact aa4 h hk|exact Ze.imp h hk|exact Kt.imp h hk|exact h|(split at h <;> exact hk _ _ h))
theorem YY {P:Program} {o:Oper} {a:Act} {m:Sem Value} {w:World} {next:Act->World->Prop} {Q:Exit->Act->World->Prop}
  (he:execOp a.eval o=(do pure (.value (<-m)))) (h:Ze P m w fun v w'=>next (a.put o.dst v) w'):o.wp P a w next Q:=by
 obtain ⟨v,w',hm,k⟩:=h
 simp only [Oper.wp,he,Sem.run_bind,hm,Result.andThen_ok,Sem.run_pure,Oper.upon]
 exact k
theorem Vf {P:Program} {o:Oper} {a:Act} {v:Value} {w w':World} {next:Act->World->Prop} {Q:Exit->Act->World->Prop}
  (he:(execOp a.eval o).run P w=.ok (.value v) w') (h:next (a.put o.dst v) w'):o.wp P a w next Q:=by grind [Oper.wp,Oper.upon]
theorem adg {P:Program} {o:Oper} {a:Act} {f:FuncId} {args:Array Value} {w:World} {next:Act->World->Prop} {Q:Exit->Act->World->Prop}
  (he:(execOp a.eval o).run P w=(callFunc f args).run P w) (h:Fc P f args w fun v w'=>next (a.put o.dst v) w'):o.wp P a w next Q:=by
 obtain ⟨h1,h2⟩:=h
 simp only [Oper.wp,he,h1,Oper.upon]
 refine h2.mono ?_
 rintro e w' ⟨v,rfl,hr⟩
 exact hr
theorem aaW {P:Program} {op:BinOp} {k:IntKind} {t:TypeId} {x y:Operand} {a b:Int} {w:World} {K:Value->Prop} (amE:op≠.shl) (amF:op≠.shr)
  (h:Sw op k a b K):Ze P (do eqGuard op t x y (.int k a) (.int k b);binOp op t (.int k a) (.int k b)) w fun v w'=>w'=w/\K v:=by
 have hg:(eqGuard op t x y (.int k a) (.int k b)).run P w=.ok () w:=by simp [eqGuard]
 cases op <;> simp only [Sw] at h <;> first
  | (obtain ⟨hb,_,rfl,h⟩:=h;refine ⟨_,w,?_,rfl,h⟩;simp only [Sem.run_bind,hg,Result.andThen_ok];simp [binOp,Op.intDiv,hb,Tq,SC])
  | (obtain ⟨_,rfl,h⟩:=h;refine ⟨_,w,?_,rfl,h⟩;simp only [Sem.run_bind,hg,Result.andThen_ok];simp [binOp,Op.intArith,Op.intBits,Op.intCmp,ZO,TH,RW,QK,Rq,Sz,Sy,SB,SA])
  | (refine ⟨_,w,?_,rfl,h⟩;simp only [Sem.run_bind,hg,Result.andThen_ok];simp [binOp,Op.intArith,Op.intBits,Op.intCmp,ZO,TH,RW,QK,Rq,Sz,Sy,SB,SA])
  | contradiction
  | exact h.elim
theorem abY {P:Program} {op:BinOp} {t:TypeId} {x y:Operand} {a b:Value} {w:World} {K:Value->World->Prop}
  (h:Ip P op t x y a b w K):Ze P (do eqGuard op t x y a b;binOp op t a b) w K:=by
 unfold Ip at h
 split at h
 .split at h
  .split at h
   .obtain ⟨hb,_,rfl,h⟩:=h
    refine ⟨_,w,?_,h⟩
    simp only [eqGuard,Sem.run_bind];simp [binOp,Op.shift,Wi,Int.not_lt.2 hb]
   .obtain ⟨hb,_,rfl,h⟩:=h
    refine ⟨_,w,?_,h⟩
    simp only [eqGuard,Sem.run_bind];simp [binOp,Op.shift,W3,Int.not_lt.2 hb]
   .rename_i QX hk2
    split at h
    .rename_i hk
     obtain rfl:=adO hk
     exact (aaW (fun e=>QX e) (fun e=>hk2 e) h).imp fun v w' ⟨e,k⟩=>e ▸ k
    .exact h.elim
  .exact h
 .exact h
theorem UP {ds:List Deferred} {P:Program} {o:Oper} {ρ:List Value} {w:World} {K:Value->World->Prop} {next:Act->World->Prop} {Q:Exit->Act->World->Prop}
  (h:LU P o ρ w K) (hn:∀v w',K v w'->next ((⟨ρ.toArray,ds⟩:Act).put o.dst v) w'):o.wp P ⟨ρ.toArray,ds⟩ w next Q:=by
 have h:=LS h hn
 clear hn
 unfold LU at h
 simp only [Ts,Og,Pe,LV,Ta] at h
 split at h
 case h_1 x ho=>exact Vf (v:=ev ρ x) (w':=w) (by rw [Yo];unfold execOp;rw [ho];rfl) h
 case h_2 x ho=>exact Vf (v:=ev ρ x) (w':=w) (by rw [Yo];unfold execOp;rw [ho];rfl) h
 case h_3 c a b ho =>
  split at h
  .rename_i cb hc
   split at h
   .exact Vf (v:=ev ρ a) (w':=w) (by rw [Yo];unfold execOp;rw [ho];simp [hc,asBool]) h
   .exact Vf (v:=ev ρ b) (w':=w) (by rw [Yo];unfold execOp;rw [ho];simp [hc,asBool]) h
  .grind
 case h_4 t ho=>exact YY (by grind [execOp]) h
 case h_5 t x ho=>exact YY k_i h
 case h_6 t ps ho =>
  refine YY (m:=Instr.build t ((ps.toList.map fun (i,x)=>(i,ev ρ x)).toArray)) (by rw [Yo];unfold execOp;rw [ho];simp [<-Array.toList_map]) h
 case h_7 t n ps ho =>
  refine YY (m:=Instr.buildSlice t n ((ps.toList.map fun (i,x)=>(i,ev ρ x)).toArray)) (by rw [Yo];unfold execOp;rw [ho];simp [<-Array.toList_map]) h
 case h_8 t x ho=>exact YY k_i h
 case h_9 t x y ho =>
  obtain ⟨w',hm,k⟩:=h
  have he:(execOp (⟨ρ.toArray,ds⟩:Act).eval o).run P w=.ok .skip w':=by
   rw [Yo];unfold execOp;rw [ho];simp only [Sem.run_bind,hm,Result.andThen_ok,Sem.run_pure]
  simp only [Oper.wp,he,Oper.upon]
  exact k
 case h_10 x ho =>
  have he:∀u,Io (ev ρ x) w u->∃v,(execOp (ev ρ) o).run P w=.ok (.value v) w/\u v w:=by
   intro u hu
   unfold Io at hu
   unfold execOp
   rw [ho]
   simp only
   split at hu
   .rename_i p hp
    split at hu
    .exact ⟨_,by rw [hp];rfl,hu⟩
    .grind
   .rename_i fn a b hp
    split at hu
    .exact ⟨_,by rw [hp];rfl,hu⟩
    .grind
   .rename_i t v hp
    exact ⟨_,by rw [hp];rfl,hu⟩
   .grind
  obtain ⟨v,h1,h2⟩:=he _ h
  exact Vf (by grind [Yo]) h2
 case h_11 op t x y yt ho=>exact YY k_i (abY h)
 case h_12 op t x ho =>
  unfold CC at h
  split at h
  .split at h
   .rename_i b hb
    refine Vf (v:=.bool (!b)) (w':=w) ?_ h
    rw [Yo];unfold execOp;rw [ho];simp [hb,Op.unary]
   .grind
  .split at h
   .rename_i k n hb
    obtain ⟨_,rfl,h⟩:=h
    refine Vf (v:=.int k (ZO k (0-n))) (w':=w) ?_ h
    rw [Yo];unfold execOp;rw [ho];simp [hb,Op.unary,Op.intArith,ZO]
   .grind
  .exact YY k_i h
 case h_13 s d x ho=>exact YY k_i h
 case h_14 t x ho=>exact YY k_i h
 case h_15 fn fs cs ho =>
  refine Vf (w':=w) ?_ h
  rw [Yo];unfold execOp;rw [ho];simp [Instr.makeFunc,<-Array.toList_map]
 case h_16 t l c ho=>exact YY k_i h
 case h_17 t x lo hi mx ho=>exact YY k_i h
 case h_18 t x f ho=>exact YY k_i h
 case h_19 t x f ho=>exact YY k_i h
 case h_20 t x i ho=>exact YY k_i h
 case h_21 t x i ho=>exact YY k_i h
 case h_22 x i ho =>
  unfold HJ at h
  split at h
  .rename_i vs hv
   obtain ⟨u,hu,h⟩:=Oe h
   refine Vf (v:=u) (w':=w) ?_ h
   rw [Yo];unfold execOp;rw [ho]
   simp only [Array.getElem?_toList] at hu
   simp [hv,Instr.extract,hu]
  .grind
 case h_23 x t u ok ho=>exact YY k_i h
 case h_24 c ho =>
  have hargs:∀(xs:Array Operand),(xs.toList.map (ev ρ)).toArray=xs.map (ev ρ):=fun xs=>by simp [<-Array.toList_map]
  split at h
  .rename_i f hf
   unfold Qo at h
   simp only [Sv] at h
   split at h
   .rename_i fn fst cap hv
    split at h
    .rename_i id
     obtain ⟨h⟩:=h
     refine adg (f:=id) ?_ h
     have he:(fst.toList++(List.map (ev ρ) c.args.toList++cap.toList)).toArray=fst++Array.map (ev ρ) c.args++cap:=by simp
     rw [Yo];unfold execOp;rw [ho]
     simp only [resolve,hf,hv,Deferred.ofValue,Sem.run_bind,Sem.run_pure,Result.andThen_ok,invoke,he]
    .grind
   .grind
  .rename_i hc
   refine YY (m:=Builtin.append_ c.argTypes o.type (c.args.map (ev ρ))) ?_ k_r
   rw [Yo];unfold execOp;rw [ho];simp only [resolve,hc,pure_bind,invoke,builtin]
  .rename_i hc
   refine YY (m:=Builtin.len_ c.argTypes o.type (c.args.map (ev ρ))) ?_ k_r
   rw [Yo];unfold execOp;rw [ho];simp only [resolve,hc,pure_bind,invoke,builtin]
  .rename_i hc
   refine YY (m:=Builtin.copy_ c.argTypes o.type (c.args.map (ev ρ))) ?_ k_r
   rw [Yo];unfold execOp;rw [ho];simp only [resolve,hc,pure_bind,invoke,builtin]
  .rename_i hc
   refine YY (m:=Builtin.max_ c.argTypes o.type (c.args.map (ev ρ))) ?_ k_r
   rw [Yo];unfold execOp;rw [ho];simp only [resolve,hc,pure_bind,invoke,builtin]
  .rename_i hc
   refine YY (m:=Builtin.min_ c.argTypes o.type (c.args.map (ev ρ))) ?_ k_r
   rw [Yo];unfold execOp;rw [ho];simp only [resolve,hc,pure_bind,invoke,builtin]
  .rename_i hc
   refine YY (m:=Builtin.cap_ c.argTypes o.type (c.args.map (ev ρ))) ?_ k_r
   rw [Yo];unfold execOp;rw [ho];simp only [resolve,hc,pure_bind,invoke,builtin]
  .rename_i hc
   refine YY (m:=Builtin.clear_ c.argTypes o.type (c.args.map (ev ρ))) ?_ k_r
   rw [Yo];unfold execOp;rw [ho];simp only [resolve,hc,pure_bind,invoke,builtin]
  .rename_i hc
   refine YY (m:=Builtin.delete_ c.argTypes o.type (c.args.map (ev ρ))) ?_ k_r
   rw [Yo];unfold execOp;rw [ho];simp only [resolve,hc,pure_bind,invoke,builtin]
  .rename_i hc
   refine YY (m:=Builtin.unsafeSliceData_ c.argTypes o.type (c.args.map (ev ρ))) ?_ k_r
   rw [Yo];unfold execOp;rw [ho];simp only [resolve,hc,pure_bind,invoke,builtin]
  .rename_i hc
   refine YY (m:=Builtin.unsafeString_ c.argTypes o.type (c.args.map (ev ρ))) ?_ k_r
   rw [Yo];unfold execOp;rw [ho];simp only [resolve,hc,pure_bind,invoke,builtin]
  .rename_i r name hc
   obtain ⟨f,rv,w1,t,v,hr,hm,h⟩:=h
   obtain ⟨h1,h2⟩:=h
   have he:(execOp (⟨ρ.toArray,ds⟩:Act).eval o).run P w=.ok (.enter f (#[rv]++(c.args.toList.map (ev ρ)).toArray)) w1:=by
    rw [Yo];unfold execOp;rw [ho]
    simp only [resolve,hc,pure_bind,invoke,hr]
    have e1:(#[Value.iface t v]++Array.map (ev ρ) c.args)[0]?=some (.iface t v):=by grind
    have e2:(#[Value.iface t v]++Array.map (ev ρ) c.args).extract 1 (#[Value.iface t v]++Array.map (ev ρ) c.args).size=Array.map (ev ρ) c.args:=by simp
    simp only [e1,e2,callMethod]
    have e3:∀(k:FuncId × Value->Sem Next),(do let __do_lift <-program;let x <-method (__do_lift.types.size+Made.depth) t v name;k x:Sem Next).run P w=(k (f,rv)).run P w1:=by
     intro k
     show (method (P.types.size+Made.depth) t v name >>= fun x=>k x).run P w=_
     rw [Sem.run_bind,hm];rfl
    rw [hargs] at h1 ⊢
    exact (e3 _).trans h1
   simp only [Oper.wp,he,Oper.upon]
   refine h2.mono ?_
   rintro e w' ⟨v,rfl,hr⟩
   exact hr
  .grind
 case h_25 t r ho=>exact YY k_i h
 case h_26 t x i ok ho=>exact YY k_i h
 case h_27 t m k x ho =>
  obtain ⟨w',hm,k⟩:=h
  have he:(execOp (⟨ρ.toArray,ds⟩:Act).eval o).run P w=.ok .skip w':=by
   rw [Yo];unfold execOp;rw [ho];simp only [Sem.run_bind,hm,Result.andThen_ok,Sem.run_pure]
  simp only [Oper.wp,he,Oper.upon]
  exact k
 case h_28 t x ho=>exact YY k_i h
 case h_29 it st ho=>exact YY k_i h
 case h_30 it ho=>exact YY k_i h
 case h_31=>exact h.elim
def X3 (ops:List Oper) (g:Option (Nat × Bool)) (ρ:List Value) (k:Bool->List Value->Prop):Prop :=
 match g with
 | none=>k true ρ
 | some (j,want)=>match ops[j]? with
  | none=>False
  | some oj=>match oj.dst with
   | none=>False
   | some d=>Ew ρ d fun v=>match v with
    | .bool b=>NR b fun b=>IL ρ d (.bool b) fun ρ=>match b with
     | true=>match want with
      | true=>k true ρ
      | false=>k false ρ
     | false=>match want with
      | true=>k false ρ
      | false=>k true ρ
    | .tuple _=>k false ρ
    | _=>False
def MG (P:Program) (ops:List Oper) (K:List Value->World->Prop) (l:List Oper):List Value->World->Prop :=
 List.rec (motive:=fun _=>List Value->World->Prop) K (fun o _ ih ρ w=>X3 ops o.guard ρ fun b ρ=>match b with
  | true=>LU P o ρ w fun v w=>Xx ρ o.dst v fun ρ=>ih ρ w
  | false=>Xx ρ o.dst undef fun ρ=>ih ρ w) l
theorem adT (P:Program) (ops:List Oper) (K:List Value->World->Prop) (ρ:List Value) (w:World):MG P ops K [] ρ w=K ρ w:=rfl
theorem Pd (P:Program) (ops:List Oper) (K:List Value->World->Prop) (o:Oper) (r:List Oper) (ρ:List Value) (w:World):MG P ops K (o::r) ρ w=X3 ops o.guard ρ fun b ρ=>match b with
  | true=>LU P o ρ w fun v w=>Xx ρ o.dst v fun ρ=>MG P ops K r ρ w
  | false=>Xx ρ o.dst undef fun ρ=>MG P ops K r ρ w:=rfl
def VI (next:List Value->World->Prop) (Q:Exit->List Value->World->Prop) (e:Exit) (ρ:List Value) (w:World):Prop :=
 match e with
 | .normal=>next ρ w
 | e=>Q e ρ w
def Tp (id:Nat) (Q:Exit->List Value->World->Prop) (e:Exit) (ρ:List Value) (w:World):Prop :=
 match e with
 | .exit id'=>match id' == id with
  | true=>Q .normal ρ w
  | false=>Q (.exit id') ρ w
 | e=>Q e ρ w
def Rp (Q:Exit->List Value->World->Prop) (e:Exit) (ρ:List Value) (w:World):Prop :=
 match e with
 | .goto _=>False
 | e=>Q e ρ w
def Qn (l:Nat) (J:List Value->World->Prop) (Q:Exit->List Value->World->Prop) (e:Exit) (ρ:List Value) (w:World):Prop :=
 match e with
 | .goto l'=>l'=l/\J ρ w
 | e=>Q e ρ w
abbrev JK:=(Exit->List Value->World->Prop)->List Value->World->Prop
inductive YO (P:Program) (c:Code) (B:JK) (Q:Exit->List Value->World->Prop) (ρ:List Value) (w:World):Prop
 | mk (I:List Value->World->Prop) (μ:List Value->World->Nat) (h0:I ρ w)
   (round:∀ρ w,I ρ w->B (VI (fun ρ' w'=>I ρ' w'/\μ ρ' w'<μ ρ w) Q) ρ w)
inductive NQ (P:Program) (x y:Code) (B C:JK) (b:Bool) (Q:Exit->List Value->World->Prop) (ρ:List Value) (w:World):Prop
 | mk (t:b=true->B Q ρ w) (f:b=false->C Q ρ w)
inductive Ga (P:Program) (c:Code) (B:JK) (id:Nat) (Q:Exit->List Value->World->Prop) (ρ:List Value) (w:World):Prop
 | mk (h:B (Tp id Q) ρ w)
theorem cT {P:Program} {x y:Code} {B C:JK} {b:Bool} {Q:Exit->List Value->World->Prop} {ρ:List Value} {w:World} (h:b=true) (k:B Q ρ w):NQ P x y B C b Q ρ w :=
 ⟨fun _=>k,fun e=>(by grind)⟩
theorem cF {P:Program} {x y:Code} {B C:JK} {b:Bool} {Q:Exit->List Value->World->Prop} {ρ:List Value} {w:World} (h:b=false) (k:C Q ρ w):NQ P x y B C b Q ρ w :=
 ⟨fun e=>(by grind),fun _=>k⟩
theorem cI {P:Program} {x y:Code} {B C:JK} {b:Bool} {Q:Exit->List Value->World->Prop} {ρ:List Value} {w:World} (t:b=true->B Q ρ w) (f:b=false->C Q ρ w):NQ P x y B C b Q ρ w:=⟨t,f⟩
theorem bk {P:Program} {c:Code} {B:JK} {id:Nat} {Q:Exit->List Value->World->Prop} {ρ:List Value} {w:World} (h:B (Tp id Q) ρ w):Ga P c B id Q ρ w:=⟨h⟩
def Ys (ops:List Oper):List Nat:=ops.filterMap fun o=>o.dst
def agree (ds:List Nat) (ρ ρ':List Value):Prop:=ρ'.length=ρ.length/\∀i,i∉ds->ρ'[i]?=ρ[i]?
def VD:Code->List Nat
 | .seq x y=>VD x++VD y
 | .cond _ x y=>VD x++VD y
 | .block _ c=>VD c
 | .loop c=>VD c
 | .scope c=>VD c
 | .region _ ops _=>Ys ops.toList
 | _=>[]
theorem aa5 {l:Nat}:∀{c rest:Code},findLabel c l=some rest->∀i,i∈VD rest->i∈VD c:=by
 intro c
 induction c with
 | seq x y LR Mn =>
  intro rest h i hi
  unfold findLabel at h
  cases hx:findLabel x l with
  | some r =>
   rw [hx] at h
   obtain rfl:=Option.some.inj h
   rcases lLa.1 hi with hi|hi
   .exact lab0 _ (LR hx i hi)
   .exact lqb _ hi
  | none=>rw [hx] at h;exact lqb _ (Mn h i hi)
 | label l' =>
  intro rest h i hi
  unfold findLabel at h
  split at h
  .obtain rfl:=Option.some.inj h;cases hi
  .cases h
 | _=>intro rest h;simp [findLabel] at h
def lift (ds:List Deferred) (Q:Exit->List Value->World->Prop) (e:Exit) (a:Act) (w:World):Prop:=a.defers=ds/\Q e a.tmps.toList w
structure amG (P:Program) (c:Code) (M:JK):Prop where
 sound:∀{Q:Exit->List Value->World->Prop} {ρ:List Value} {w:World} {ds:List Deferred},M Q ρ w->c.wp P (lift ds Q) ⟨ρ.toArray,ds⟩ w
 imp:∀{Q Q':Exit->List Value->World->Prop} {ρ:List Value} {w:World},M Q ρ w->(∀e ρ w,Q e ρ w->Q' e ρ w)->M Q' ρ w
 frame:∀{Q:Exit->List Value->World->Prop} {ρ:List Value} {w:World},M Q ρ w->M (fun e ρ' w'=>Q e ρ' w'/\agree (VD c) ρ ρ') ρ w
inductive adU (P:Program) (c:Code) (B:JK) (Q:Exit->List Value->World->Prop) (ρ:List Value) (w:World):Prop
 | RV (h:B (Rp Q) ρ w)
 | jumps (l:Nat) (rest:Code) (M:JK) (hM:amG P rest M) (J:List Value->World->Prop) (μ:List Value->World->Nat) (hf:findLabel c l=some rest) (first:B (Qn l J Q) ρ w)
   (pass:∀ρ w,J ρ w->M (Qn l (fun ρ' w'=>J ρ' w'/\μ ρ' w'<μ ρ w) Q) ρ w)
inductive Ox (P:Program) (id:Nat) (ops:Array Oper) (K:List Value->World->Prop) (ρ:List Value) (w:World):Prop
 | mk (h:∀ds,(Code.region id ops true).wp P (fun e a w'=>e=.normal/\a.defers=ds/\agree (Ys ops.toList) ρ a.tmps.toList/\K a.tmps.toList w') ⟨ρ.toArray,ds⟩ w)
def Po (P:Program) (c:Code):JK :=
 Code.rec (motive:=fun _=>JK)
  (fun Q ρ w=>Q .normal ρ w)
  (fun id ops draw Q ρ w=>match draw with
   | false=>MG P ops.toList (Q .normal) ops.toList ρ w
   | true=>Ox P id ops (Q .normal) ρ w)
  (fun _ _ LR Mn Q ρ w=>LR (VI (Mn Q) Q) ρ w)
  (fun c x y LR Mn Q ρ w=>VQ ρ c fun v=>match v with
   | .bool b=>NQ P x y LR Mn b Q ρ w
   | _=>False)
  (fun id c ih Q ρ w=>match c with
   | .loop _=>ih (Tp id Q) ρ w
   | c=>Ga P c ih id Q ρ w)
  (fun c ih Q ρ w=>YO P c ih Q ρ w)
  (fun _ _ _ _ _ _ _ _ _=>False)
  (fun id Q ρ w=>Q (.exit id) ρ w)
  (fun c ih Q ρ w=>adU P c ih Q ρ w)
  (fun _ Q ρ w=>Q .normal ρ w)
  (fun l Q ρ w=>Q (.goto l) ρ w)
  (fun Q ρ w=>Q .ret ρ w)
  (fun _ _ _ _=>False) c
section
variable (P:Program) (Q:Exit->List Value->World->Prop) (ρ:List Value) (w:World)
theorem LQ (x y:Code):Po P (.seq x y) Q ρ w=Po P x (VI (Po P y Q) Q) ρ w:=rfl
theorem NP (c:Operand) (x y:Code):Po P (.cond c x y) Q ρ w=VQ ρ c fun v=>match v with
   | .bool b=>NQ P x y (Po P x) (Po P y) b Q ρ w
   | _=>False:=rfl
theorem Pc (id:Nat) (c:Code):Po P (.block id c) Q ρ w↔Po P c (Tp id Q) ρ w:=by
 have h:Ga P c (Po P c) id Q ρ w↔Po P c (Tp id Q) ρ w:=⟨fun ⟨h⟩=>h,fun h=>⟨h⟩⟩
 cases c <;> first|exact h|exact Iff.rfl
end
theorem Pb {P:Program} {Q:Exit->List Value->World->Prop} {ρ:List Value} {w:World} (c:Code):Po P (.scope c) Q ρ w=adU P c (Po P c) Q ρ w:=rfl
theorem aa6 {Q Q':Exit->List Value->World->Prop} (hq:∀e ρ w,Q e ρ w->Q' e ρ w):∀e ρ w,Rp Q e ρ w->Rp Q' e ρ w:=fun e ρ w h=>by
 cases e <;> simp only [Rp] at h⊢<;> exact hq _ _ _ h
theorem aay {l:Nat} {J J':List Value->World->Prop} {Q Q':Exit->List Value->World->Prop} (hj:∀ρ w,J ρ w->J' ρ w) (hq:∀e ρ w,Q e ρ w->Q' e ρ w):∀e ρ w,Qn l J Q e ρ w->Qn l J' Q' e ρ w:=fun e ρ w h=>by
 cases e <;> simp only [Qn] at h⊢<;> first|exact ⟨h.1,hj _ _ h.2⟩|exact hq _ _ _ h
theorem Pa {P:Program} {x y:Code} {B C:JK} {b:Bool} {Q:Exit->List Value->World->Prop} {ρ:List Value} {w:World}:NQ P x y B C b Q ρ w↔if b then B Q ρ w else C Q ρ w:=by
 constructor
 .rintro ⟨t,f⟩;cases b
  .grind
  .grind
 .intro h;cases b
  .exact cF rfl h
  .exact cT rfl h
theorem aao {ops:List Oper} {g:Option (Nat × Bool)} {ρ:List Value} {k k':Bool->List Value->Prop} (h:X3 ops g ρ k) (hk:∀b ρ,k b ρ->k' b ρ):X3 ops g ρ k':=by
 unfold X3 at h ⊢
 split at h
 .grind
 .simp only [Pj,Tt,Ta] at h ⊢
  split at h
  .omega
  .split at h
   .omega
   .split at h
    .split at h <;> (split at h <;> exact hk _ _ h)
    .grind
    .omega
theorem adV {P:Program} {ops:List Oper} {K K':List Value->World->Prop} (hk:∀ρ w,K ρ w->K' ρ w) (l:List Oper) :
  ∀{ρ:List Value} {w:World},MG P ops K l ρ w->MG P ops K' l ρ w:=by
 induction l with
 | nil=>exact fun h=>hk _ _ h
 | cons o r ih =>
  intro ρ w h
  simp only [Pd] at h ⊢
  refine aao h fun b ρ h=>?_
  cases b
  .simp only [X7] at h ⊢;exact ih h
  .simp only [X7] at h ⊢;exact LS h fun v w h=>ih h
theorem Vx {P:Program} (c:Code):∀{Q Q':Exit->List Value->World->Prop} {ρ:List Value} {w:World},Po P c Q ρ w->(∀e ρ w,Q e ρ w->Q' e ρ w)->Po P c Q' ρ w:=by
 induction c with
 | skip=>exact fun h hq=>hq _ _ _ h
 | label l=>exact fun h hq=>hq _ _ _ h
 | exit i=>exact fun h hq=>hq _ _ _ h
 | ret=>exact fun h hq=>hq _ _ _ h
 | seq x y LR Mn =>
  intro Q Q' ρ w h hq
  simp only [LQ] at h ⊢
  refine LR h fun e ρ w he=>?_
  cases e <;> simp only [VI] at he⊢<;> first|exact Mn he hq|exact hq _ _ _ he
 | cond c x y LR Mn =>
  intro Q Q' ρ w h hq
  simp only [NP,Ts,Pa] at h ⊢
  split at h
  .grind
  .omega
 | block id c ih =>
  intro Q Q' ρ w h hq
  rw [Pc] at h ⊢
  refine ih h fun e ρ w he=>?_
  cases e <;> simp only [Tp] at he⊢<;> first|exact hq _ _ _ he|(split at he <;> exact hq _ _ _ he)
 | region id ops draw =>
  intro Q Q' ρ w h hq
  cases draw
  .exact adV (fun ρ w=>hq .normal ρ w) _ h
  .obtain ⟨h⟩:=h
   exact ⟨fun ds=>Code.wp_mono (fun e a w ⟨h1,h2,h3,h4⟩=>⟨h1,h2,h3,hq _ _ _ h4⟩) (h ds)⟩
 | loop c ih =>
  intro Q Q' ρ w h hq
  obtain ⟨I,μ,h0,hr⟩:=h
  refine ⟨I,μ,h0,fun ρ w hI=>ih (hr ρ w hI) fun e ρ w he=>?_⟩
  cases e <;> simp only [VI] at he⊢<;> first|exact hq _ _ _ he|exact he
 | rangeFunc=>exact fun h=>h.elim
 | scope c ih =>
  intro Q Q' ρ w h hq
  rw [Pb] at h ⊢
  cases h with
  | RV h=>exact .RV (ih h (aa6 hq))
  | jumps l rest M hM J μ hf first pass=>exact .jumps l rest M hM J μ hf (ih first (aay (fun _ _ h=>h) hq)) fun ρ w hJ=>hM.imp (pass ρ w hJ) (aay (fun _ _ h=>h) hq)
 | goto=>exact fun h hq=>hq _ _ _ h
 | refuse=>exact fun h=>h.elim
theorem Ro {a:Act} {ds:List Deferred} (h:a.defers=ds):a=⟨a.tmps.toList.toArray,ds⟩:=by
 cases a;simp only at h;subst h;simp
theorem XX {ops:Array Oper} {o:Oper} {ρ:List Value} {k:Bool->List Value->Prop} (h:X3 ops.toList o.guard ρ k) :
  ∃b,Region.wanted o (yielded ops ρ.toArray)=b/\k b ρ:=by
 unfold X3 at h
 split at h
 .grind [Region.wanted]
 .rename_i j want hg
  simp only [Pj,Tt,Ta] at h
  split at h
  .grind
  .rename_i oj hj
   split at h
   .grind
   .rename_i d hd
    split at h
    .rename_i b hb
     have V4:ρ.set d (.bool b)=ρ:=by
      apply lFa
      intro i
      rw [lMa]
      split
      .rename_i e;subst e
       by_cases hl:d<ρ.length
       .rw [if_pos hl]
        rw [Qp] at hb
        simp only [Array.getD_eq_getD_getElem?,List.getElem?_toArray] at hb
        rw [laa hl] at hb ⊢
        simp only [Option.getD_some] at hb
        rw [hb]
       .grind
      .rfl
     have hy:yielded ops ρ.toArray j=some b:=by
      have hl:d<ρ.length:=by grind [Qp,Array.getD_eq_getD_getElem?,List.getElem?_eq_none,undef]
      rw [Qp] at hb
      simp only [Array.getD_eq_getD_getElem?,List.getElem?_toArray,List.getElem?_eq_getElem hl,Option.getD_some] at hb
      simp only [Array.getElem?_toList] at hj
      simp [yielded,hj,hd,List.getElem?_eq_getElem hl,hb]
     rw [V4] at h
     cases b <;> cases want <;> simp only at h <;> exact ⟨_,by simp [Region.wanted,hg,hy],h⟩
    .rename_i vs hb
     refine ⟨false,?_,h⟩
     have hy:yielded ops ρ.toArray j=none:=by
      simp only [Array.getElem?_toList] at hj
      rw [Qp] at hb
      simp only [yielded,hj,Option.bind_some,hd]
      cases hl:ρ[d]? with
      | none=>simp [hl]
      | some v =>
       simp [Array.getD_eq_getD_getElem?,hl] at hb
       simp [hl,hb]
     simp [Region.wanted,hg,hy]
    .grind
theorem abZ {P:Program} {ops:Array Oper} {Q:Exit->List Value->World->Prop} (l:List Oper) :
  ∀{ρ:List Value} {w:World} {ds:List Deferred},MG P ops.toList (Q .normal) l ρ w->wpList P ops (lift ds Q) l ⟨ρ.toArray,ds⟩ w:=by
 induction l with
 | nil=>exact fun h=>⟨rfl,by simpa [adT] using h⟩
 | cons o r ih =>
  intro ρ w ds h
  simp only [Pd,X7] at h
  obtain ⟨b,hb,h⟩:=XX h
  unfold wpList
  cases b
  .rw [if_neg (by simp [hb]),put_eq]
   exact ih h
  .rw [if_pos hb]
   exact .inl (UP h fun v w' h=>by rw [put_eq];exact ih h)
theorem UO {P:Program} (c:Code):∀{Q:Exit->List Value->World->Prop} {ρ:List Value} {w:World} {ds:List Deferred},Po P c Q ρ w->c.wp P (lift ds Q) ⟨ρ.toArray,ds⟩ w:=by
 induction c with
 | skip=>exact fun h=>wp_skip ⟨rfl,h⟩
 | label l=>exact fun h=>wp_label ⟨rfl,h⟩
 | exit i=>exact fun h=>wp_exit ⟨rfl,h⟩
 | ret=>exact fun h=>wp_ret ⟨rfl,h⟩
 | seq x y LR Mn =>
  intro Q ρ w ds h
  simp only [LQ] at h
  refine wp_seq (wp_mono (LR h) ?_)
  rintro e a w ⟨hd,he⟩
  cases e <;> simp only [VI] at he <;> simp only [Exit.then]
  .grind [Ro]
  all_goals exact ⟨hd,he⟩
 | cond c x y LR Mn =>
  intro Q ρ w ds h
  simp only [NP,Ts,Pa] at h
  split at h
  .rename_i b hb
   refine wp_cond (t:=b) (by rw [Yo];exact hb) ?_
   split at h
   .grind
   .grind
  .grind
 | block id c ih =>
  intro Q ρ w ds h
  rw [Pc] at h
  refine wp_block (wp_mono (ih h) ?_)
  rintro e a w ⟨hd,he⟩
  cases e <;> simp only [Tp] at he <;> simp only [Exit.inBlock]
  case exit id' =>
   by_cases hi:id'=id
   .subst hi;simp only [beq_self_eq_true] at he;rw [if_pos rfl];exact ⟨hd,he⟩
   .have:(id' == id)=false:=by grind
    simp only [this] at he;rw [if_neg hi];exact ⟨hd,he⟩
  all_goals exact ⟨hd,he⟩
 | region id ops draw =>
  intro Q ρ w ds h
  cases draw
  .exact wp_region_list (abZ _ h)
  .obtain ⟨h⟩:=h
   exact wp_mono (h _) fun e a w ⟨h1,h2,_,h4⟩=>by subst h1;exact ⟨h2,h4⟩
 | loop c ih =>
  intro Q ρ w ds h
  obtain ⟨I,μ,h0,hr⟩:=h
  refine wp_loop (fun a w=>a.defers=ds/\I a.tmps.toList w) (fun a w=>μ a.tmps.toList w) ⟨rfl,h0⟩ ?_
  rintro a w ⟨hd,hI⟩
  rw [Ro hd]
  refine wp_mono (ih (hr _ _ hI)) ?_
  rintro e a' w' ⟨hd',he⟩
  cases e <;> simp only [VI] at he <;> simp only [Exit.then]
  .grind
  all_goals exact ⟨hd',he⟩
 | rangeFunc=>exact fun h=>h.elim
 | scope c ih =>
  intro Q ρ w ds h
  rw [Pb] at h
  cases h with
  | RV h =>
   refine wp_scope_straight (wp_mono (ih h) ?_)
   rintro e a w ⟨hd,he⟩
   cases e <;> simp only [Rp] at he <;> exact ⟨hd,he⟩
  | jumps l rest M hM J μ hf first pass =>
   refine wp_scope_jumps l (fun a w=>a.defers=ds/\J a.tmps.toList w) (fun a w=>μ a.tmps.toList w) hf (wp_mono (ih first) ?_) ?_
   .rintro e a w ⟨hd,he⟩
    cases e <;> simp only [Qn] at he <;> first|exact ⟨he.1,hd,he.2⟩|exact ⟨hd,he⟩
   .rintro a w ⟨hd,hJ⟩
    rw [Ro hd]
    refine wp_mono (hM.sound (pass _ _ hJ)) ?_
    rintro e a' w' ⟨hd',he⟩
    cases e <;> simp only [Qn] at he <;> first|exact ⟨he.1,⟨hd',he.2.1⟩,he.2.2⟩|exact ⟨hd',he⟩
 | goto=>exact fun h=>wp_goto ⟨rfl,h⟩
 | refuse=>exact fun h=>h.elim
theorem agree.refl (ds:List Nat) (ρ:List Value):agree ds ρ ρ:=⟨rfl,fun _ _=>rfl⟩
theorem agree.trans {ds:List Nat} {a b c:List Value} (h:agree ds a b) (k:agree ds b c):agree ds a c :=
 ⟨k.1.trans h.1,fun i hi=>(k.2 i hi).trans (h.2 i hi)⟩
theorem agree.mono {ds ds':List Nat} {a b:List Value} (h:agree ds a b) (hs:∀i,i∈ds->i∈ds'):agree ds' a b :=
 ⟨h.1,fun i hi=>h.2 i fun hh=>hi (hs i hh)⟩
theorem agree.put {ds:List Nat} {a b:List Value} (h:agree ds a b) (d:Option Nat) (hd:∀i,d=some i->i∈ds) (v:Value):agree ds a (put b d v):=by
 cases d with
 | none=>exact h
 | some d =>
  refine ⟨by simp [Y4.put,h.1],fun i hi=>?_⟩
  have:d≠i:=fun e=>hi (e ▸ hd d rfl)
  simp only [Y4.put,List.getElem?_set,if_neg this]
  exact h.2 i hi
theorem aaX {ops:List Oper} {g:Option (Nat × Bool)} {ρ:List Value} {k:Bool->List Value->Prop} (h:X3 ops g ρ k) :
  X3 ops g ρ fun b ρ'=>k b ρ'/\agree (Ys ops) ρ ρ':=by
 unfold X3 at h ⊢
 split at h
 .exact ⟨h,agree.refl _ _⟩
 .simp only [Pj,Tt,Ta] at h ⊢
  split at h
  .omega
  .rename_i oj hj
   split at h
   .omega
   .rename_i d hd
    have hmem:d∈Ys ops:=by grind [Ys]
    split at h
    .rename_i b hb
     split at h <;> (split at h <;> exact ⟨h,(agree.refl _ _).put (some d) (fun i e=>by cases e;exact hmem) _⟩)
    .exact ⟨h,agree.refl _ _⟩
    .omega
theorem ab0 {P:Program} {ops:List Oper} {K:List Value->World->Prop} (l:List Oper) (hl:∀o,o∈l->o∈ops) :
  ∀{ρ0 ρ:List Value} {w:World},agree (Ys ops) ρ0 ρ->MG P ops K l ρ w->MG P ops (fun ρ' w'=>K ρ' w'/\agree (Ys ops) ρ0 ρ') l ρ w:=by
 induction l with
 | nil=>exact fun ha h=>⟨h,ha⟩
 | cons o r ih =>
  intro ρ0 ρ w ha h
  simp only [Pd] at h ⊢
  refine aao (aaX h) fun b ρ1 ⟨h,Di⟩=>?_
  have hmem:∀i,o.dst=some i->i∈Ys ops:=fun i e=>by grind [Ys]
  have Im:=fun {ρ:List Value} {w:World}=>@ih (fun o ho=>hl o (lsb0 _ ho)) ρ0 ρ w
  cases b
  .simp only [X7] at h ⊢
   exact Im ((ha.trans Di).put _ hmem _) h
  .simp only [X7] at h ⊢
   exact LS h fun v w h=>Im ((ha.trans Di).put _ hmem _) h
theorem Rm {P:Program} (c:Code):∀{Q:Exit->List Value->World->Prop} {ρ:List Value} {w:World},Po P c Q ρ w ->
  Po P c (fun e ρ' w'=>Q e ρ' w'/\agree (VD c) ρ ρ') ρ w:=by
 induction c with
 | skip=>exact fun h=>⟨h,agree.refl _ _⟩
 | label l=>exact fun h=>⟨h,agree.refl _ _⟩
 | exit i=>exact fun h=>⟨h,agree.refl _ _⟩
 | ret=>exact fun h=>⟨h,agree.refl _ _⟩
 | seq x y LR Mn =>
  intro Q ρ w h
  simp only [LQ] at h ⊢
  refine Vx x (LR h) fun e ρ1 w1 ⟨he,ha⟩=>?_
  have ha':agree (VD (.seq x y)) ρ ρ1:=ha.mono fun i hi=>lab0 _ hi
  cases e <;> simp only [VI] at he ⊢
  .exact Vx y (Mn he) fun e ρ2 w2 ⟨h2,h3⟩=>⟨h2,ha'.trans (h3.mono fun i hi=>lqb _ hi)⟩
  all_goals exact ⟨he,ha'⟩
 | cond c x y LR Mn =>
  intro Q ρ w h
  simp only [NP,Ts,Pa] at h ⊢
  split at h
  .split at h
   .rw [if_pos Aa]
    exact Vx x (LR h) fun e ρ2 w2 ⟨h2,h3⟩=>⟨h2,h3.mono fun i hi=>lab0 _ hi⟩
   .rw [if_neg Aa]
    exact Vx y (Mn h) fun e ρ2 w2 ⟨h2,h3⟩=>⟨h2,h3.mono fun i hi=>lqb _ hi⟩
  .omega
 | block id c ih =>
  intro Q ρ w h
  rw [Pc] at h ⊢
  refine Vx c (ih h) fun e ρ1 w1 ⟨he,ha⟩=>?_
  cases e <;> simp only [Tp] at he ⊢
  case exit i=>split at he <;> exact ⟨he,ha⟩
  all_goals exact ⟨he,ha⟩
 | region id ops draw =>
  intro Q ρ w h
  cases draw
  .exact ab0 _ (fun _ h=>h) (agree.refl _ _) h
  .obtain ⟨h⟩:=h
   exact ⟨fun ds=>Code.wp_mono (fun e a w ⟨h1,h2,h3,h4⟩=>⟨h1,h2,h3,h4,h3⟩) (h ds)⟩
 | loop c ih =>
  intro Q ρ w h
  obtain ⟨I,μ,h0,hr⟩:=h
  refine ⟨fun ρ' w'=>I ρ' w'/\agree (VD c) ρ ρ',μ,⟨h0,agree.refl _ _⟩,fun ρ1 w1 ⟨hI,ha⟩=>Vx c (ih (hr ρ1 w1 hI)) fun e ρ2 w2 ⟨he,IJ⟩=>?_⟩
  cases e <;> simp only [VI] at he ⊢
  .exact ⟨⟨he.1,ha.trans IJ⟩,he.2⟩
  all_goals exact ⟨he,ha.trans IJ⟩
 | rangeFunc=>exact fun h=>h.elim
 | scope c ih =>
  intro Q ρ w h
  rw [Pb] at h ⊢
  cases h with
  | RV h=>exact .RV (Vx c (ih h) fun e ρ1 w1 ⟨he,ha⟩=>by cases e <;> simp only [Rp] at he⊢<;> exact ⟨he,ha⟩)
  | jumps l rest M hM J μ hf first pass =>
   refine .jumps l rest M hM (fun ρ' w'=>J ρ' w'/\agree (VD c) ρ ρ') μ hf (Vx c (ih first) fun e ρ1 w1 ⟨he,ha⟩=>?_) fun ρ1 w1 ⟨hJ,ha⟩=>hM.imp (hM.frame (pass ρ1 w1 hJ)) fun e ρ2 w2 ⟨he,IJ⟩=>?_
   .cases e <;> simp only [Qn] at he⊢<;> first|exact ⟨he.1,he.2,ha⟩|exact ⟨he,ha⟩
   .have ha3:agree (VD c) ρ ρ2:=ha.trans (IJ.mono fun i hi=>aa5 hf i hi)
    cases e <;> simp only [Qn] at he⊢<;> first|exact ⟨he.1,⟨he.2.1,ha3⟩,he.2.2⟩|exact ⟨he,ha3⟩
 | goto=>exact fun h=>⟨h,agree.refl _ _⟩
 | refuse=>exact fun h=>h.elim
def Dh (l:List Nat) (f:Nat->Value):List Value->(List Value->Prop)->Prop :=
 List.rec (motive:=fun _=>List Value->(List Value->Prop)->Prop) (fun ρ k=>k ρ) (fun d _ ih ρ k=>IL ρ d (f d) fun ρ=>ih ρ k) l
theorem adW (d:Nat) (ds:List Nat) (f:Nat->Value) (ρ:List Value) (k:List Value->Prop):Dh (d::ds) f ρ k=IL ρ d (f d) fun ρ=>Dh ds f ρ k:=rfl
def Dg (l:List (Nat × Value)):List Value->(List Value->Prop)->Prop :=
 List.rec (motive:=fun _=>List Value->(List Value->Prop)->Prop) (fun ρ k=>k ρ) (fun p _ ih ρ k=>match p with
  | (i,v)=>IL ρ i v fun ρ=>ih ρ k) l
theorem adX (i:Nat) (v:Value) (r:List (Nat × Value)) (ρ:List Value) (k:List Value->Prop):Dg ((i,v)::r) ρ k=IL ρ i v fun ρ=>Dg r ρ k:=rfl
def mt:List (Nat × Value)->List Value->Prop
 | [],_=>True
 | (i,v)::r,ρ=>gt ρ i=v/\mt r ρ
theorem ZV {ρ:List Value}:mt [] ρ:=trivial
theorem ZM {i:Nat} {v:Value} {r:List (Nat × Value)} {ρ:List Value} (h:gt ρ i=v) (k:mt r ρ):mt ((i,v)::r) ρ:=⟨h,k⟩
theorem Zs {i:Nat} {k:IntKind} {a b:Int} {r:List (Nat × Value)} {ρ:List Value} (hg:gt ρ i=.int k a) (h:a=b) (t:mt r ρ):mt ((i,.int k b)::r) ρ:=⟨by rw [hg,h],t⟩
theorem int_eq {k:IntKind} {a b:Int} (h:a=b):Value.int k a=.int k b:=by rw [h]
theorem Rl {ρ':List Value} (ds:List Nat) {k:List Value->Prop}:∀{ρ1:List Value},agree ds ρ1 ρ'->Dh ds (gt ρ') ρ1 k->k ρ':=by
 induction ds with
 | nil =>
  intro ρ1 ha h
  have:ρ'=ρ1:=lFa fun i=>ha.2 i zZ
  rw [this];exact h
 | cons d ds ih =>
  intro ρ1 ha h
  simp only [adW,Tt] at h
  refine ih ?_ h
  refine ⟨by simpa using ha.1,fun i hi=>?_⟩
  rw [lMa]
  split
  .rename_i e;subst e
   split
   .rename_i hl
    have hl':d<ρ'.length:=by rw [ha.1];exact hl
    rw [Qp]
    simp [Array.getD_eq_getD_getElem?,List.getElem?_eq_getElem hl']
   .rename_i hl
    rw [List.getElem?_eq_none (by rw [ha.1];exact Nat.le_of_not_lt hl)]
  .rename_i hne
   exact ha.2 i fun hm=>by cases hm <;> contradiction
theorem LP {ρ:List Value} (sl:List (Nat × Value)) {k:List Value->Prop} (hm:mt sl ρ) (h:Dg sl ρ k):k ρ:=by
 induction sl with
 | nil=>exact h
 | cons p r ih =>
  obtain ⟨i,v⟩:=p
  obtain ⟨hv,hm⟩:=hm
  simp only [adX,Tt] at h
  have:ρ.set i v=ρ:=by
   apply lFa
   intro j
   rw [lMa]
   split
   .rename_i e;subst e
    split
    .rename_i hl
     rw [Qp] at hv
     simp only [Array.getD_eq_getD_getElem?,List.getElem?_toArray,List.getElem?_eq_getElem hl,Option.getD_some] at hv
     rw [laa hl,hv]
    .grind
   .rfl
  rw [this] at h
  exact ih hm h
inductive WO {α:Type} (sl:α->List (Nat × Value)) (inv:α->World->Prop) (p:α->Prop) (ρ:List Value) (w:World):Prop
 | mk (y:α) (hm:mt (sl y) ρ) (hi:inv y w) (hp:p y)
inductive Jn {α:Type} (sl:α->List (Nat × Value)) (inv:α->World->Prop) (ρ:List Value) (w:World):Prop
 | mk (y:α) (hm:mt (sl y) ρ) (hi:inv y w)
theorem YO.rule {P:Program} {c:Code} {B:JK} {Q:Exit->List Value->World->Prop} {ρ:List Value} {w:World} {α:Type} (x0:α) (sl:α->List (Nat × Value)) (inv:α->World->Prop) (μ:α->Nat)
  (hm:mt (sl x0) ρ) (h0:inv x0 w)
  (round:∀x (f:Nat->Value) w',inv x w'->Dh (VD c) f ρ fun ρ=>Dg (sl x) ρ fun ρ =>
   B (VI (fun ρ' w''=>WO sl inv (fun y=>μ y<μ x) ρ' w'') Q) ρ w') (hB:B=Po P c:=by rfl):YO P c B Q ρ w:=by
 subst hB
 classical
 have hex:∀(p:Nat->Prop),(∃n,p n)->∃n,p n/\∀m,p m->n<=m:=fun p ⟨n,hn⟩=>by
  induction n using Nat.strongRecOn with
  | _ n ih =>
   by_cases h:∃m,m<n/\p m
   .grind
   .grind
 let p:List Value->World->Nat->Prop:=fun ρ' w' n=>∃x,μ x=n/\mt (sl x) ρ'/\inv x w'
 let M:List Value->World->Nat:=fun ρ' w'=>if h:∃n,p ρ' w' n then Classical.choose (hex _ h) else 0
 have hM:∀ρ' w',(∃n,p ρ' w' n)->p ρ' w' (M ρ' w')/\∀m,p ρ' w' m->M ρ' w'<=m:=fun ρ' w' h=>by grind
 refine ⟨fun ρ' w'=>(∃n,p ρ' w' n)/\agree (VD c) ρ ρ',M,⟨⟨_,x0,rfl,hm,h0⟩,agree.refl _ _⟩,?_⟩
 rintro ρ1 w1 ⟨hp,ha⟩
 obtain ⟨⟨x,hx,HG,Eu⟩,-⟩:=hM ρ1 w1 hp
 have hb:=round x (gt ρ1) w1 Eu
 have hb:=LP _ HG (Rl _ ha hb)
 refine Vx c (Rm c hb) ?_
 rintro e ρ2 w2 ⟨he,IJ⟩
 cases e <;> simp only [VI] at he ⊢
 .obtain ⟨y,Bf,Be,hlt⟩:=he
  refine ⟨⟨⟨_,y,rfl,Bf,Be⟩,ha.trans IJ⟩,?_⟩
  have:=(hM ρ2 w2 ⟨_,y,rfl,Bf,Be⟩).2 _ ⟨y,rfl,Bf,Be⟩
  omega
 all_goals exact he
theorem O9 {P:Program} {x y:Code} {B C:JK} {K:List Value->World->Prop} {Q:Exit->List Value->World->Prop} {ρ:List Value} {w:World} {b:Bool} {α:Type} (sl:α->List (Nat × Value)) (inv:α->World->Prop)
  (hx:b=true->B (VI (fun ρ' w'=>Jn sl inv ρ' w') Q) ρ w)
  (hy:b=false->C (VI (fun ρ' w'=>Jn sl inv ρ' w') Q) ρ w)
  (hk:∀a (f:Nat->Value) w',inv a w'->Dh (VD x++VD y) f ρ fun ρ=>Dg (sl a) ρ fun ρ=>K ρ w') (hB:B=Po P x:=by rfl) (hC:C=Po P y:=by rfl) :
  NQ P x y B C b (VI K Q) ρ w:=by
 subst hB
 subst hC
 refine ⟨fun hb=>?_,fun hb=>?_⟩
 .refine Vx x (Rm x (hx hb)) ?_
  rintro e ρ2 w2 ⟨he,ha⟩
  cases e <;> simp only [VI] at he ⊢
  .obtain ⟨a,hm,hi⟩:=he
   exact LP _ hm (Rl _ (ha.mono fun i hi=>lab0 _ hi) (hk a (gt ρ2) w2 hi))
  all_goals exact he
 .refine Vx y (Rm y (hy hb)) ?_
  rintro e ρ2 w2 ⟨he,ha⟩
  cases e <;> simp only [VI] at he ⊢
  .obtain ⟨a,hm,hi⟩:=he
   exact LP _ hm (Rl _ (ha.mono fun i hi=>lqb _ hi) (hk a (gt ρ2) w2 hi))
  all_goals exact he
theorem aap {P:Program} {c:Code} {B:JK} {id:Nat} {K:List Value->World->Prop} {Q:Exit->List Value->World->Prop} {ρ:List Value} {w:World} {α:Type} (sl:α->List (Nat × Value)) (inv:α->World->Prop)
  (hx:B (Tp id (VI (fun ρ' w'=>Jn sl inv ρ' w') Q)) ρ w)
  (hk:∀a (f:Nat->Value) w',inv a w'->Dh (VD c) f ρ fun ρ=>Dg (sl a) ρ fun ρ=>K ρ w') (hB:B=Po P c:=by rfl) :
  Ga P c B id (VI K Q) ρ w:=by
 subst hB
 refine ⟨Vx c (Rm c hx) ?_⟩
 have key:∀ρ2 w2,Jn sl inv ρ2 w2->agree (VD c) ρ ρ2->K ρ2 w2:=fun ρ2 w2 ⟨a,hm,hi⟩ ha =>
  LP _ hm (Rl _ ha (hk a (gt ρ2) w2 hi))
 rintro e ρ2 w2 ⟨he,ha⟩
 cases e <;> simp only [Tp,VI] at he ⊢
 .grind
 .split at he
  .grind
  .omega
 all_goals exact he
inductive Z6 (R:Value->World->Prop) (v:Value) (w:World):Prop
 | mk (h:R v w)
inductive II (P:Program) (m:Sem Value) (w:World) (K:Value->Prop):Prop
 | mk (v:Value) (h:m.run P w=.ok v w) (k:K v)
def HF (n:Nat):List Value->(List Value->Prop)->Prop :=
 Nat.rec (motive:=fun _=>List Value->(List Value->Prop)->Prop) (fun acc k=>k acc) (fun _ ih acc k=>ih (undef::acc) k) n
theorem adh (n:Nat) (acc:List Value) (k:List Value->Prop):HF (n+1) acc k=HF n (undef::acc) k:=rfl
def ME (P:Program) (ρ:List Value) (w:World) (l:List ResultVar):(List Value->Prop)->Prop :=
 List.rec (motive:=fun _=>(List Value->Prop)->Prop) (fun k=>k []) (fun x _ ih k=>match x with
  | .tmp t=>Ew ρ t fun v=>ih fun vs=>k (v::vs)
  | .cell a t=>Ew ρ a fun v=>match v with
   | .pointer p=>match p with
    | some a=>II P (loadVar t a) w fun v=>ih fun vs=>k (v::vs)
    | none=>False
   | _=>False) l
theorem adY (P:Program) (ρ:List Value) (w:World) (t:Nat) (r:List ResultVar) (k:List Value->Prop):ME P ρ w (.tmp t::r) k=Ew ρ t fun v=>ME P ρ w r fun vs=>k (v::vs):=rfl
theorem adi (P:Program) (ρ:List Value) (w:World) (a:Nat) (t:TypeId) (r:List ResultVar) (k:List Value->Prop):ME P ρ w (.cell a t::r) k=Ew ρ a fun v=>match v with
   | .pointer p=>match p with
    | some a=>II P (loadVar t a) w fun v=>ME P ρ w r fun vs=>k (v::vs)
    | none=>False
   | _=>False:=rfl
def Il (R:Value->World->Prop) (w:World) (vs:List Value):Prop :=
 match vs with
 | [v]=>Z6 R v w
 | []=>Z6 R (.tuple #[]) w
 | u::v::r=>Z6 R (.tuple (u::v::r).toArray) w
def HD (P:Program) (rs:List ResultVar) (R:Value->World->Prop) (e:Exit) (ρ:List Value) (w:World):Prop :=
 match e with
 | .normal=>ME P ρ w rs fun vs=>Il R w vs
 | .ret=>ME P ρ w rs fun vs=>Il R w vs
 | _=>False
def F9 (P:Program) (fn:Func) (c:Code) (args:List Value) (w:World) (R:Value->World->Prop):Prop :=
 HF (fn.ntmps-args.length) [] fun us=>Ph args us fun ρ=>Po P c (HD P fn.results.toList R) ρ w
theorem LN (n:Nat) (acc:List Value) (k:List Value->Prop):HF n acc k=k (List.replicate n undef++acc):=by
 induction n generalizing acc with
 | zero=>rfl
 | succ n ih=>simp only [adh,ih];congr 1;rw [List.replicate_succ',lha];rfl
def Ik (tmps:Array Value):ResultVar->Sem Value
 | .tmp t=>pure (tmps.getD t undef)
 | .cell a t=>do loadVar t (<-asAddr (tmps.getD a undef))
theorem QJ (fn:Func) (tmps:Array Value):results fn tmps=(do let vs <-fn.results.mapM (Ik tmps);pure (if h:vs.size=1 then vs[0] else .tuple vs)):=by
 have:(fun (x:ResultVar)=>(match x with
  | .tmp t=>pure (tmps.getD t undef)
  | .cell a t=>do loadVar t (<-asAddr (tmps.getD a undef)):Sem Value))=Ik tmps:=by
  funext x;cases x <;> rfl
 unfold results
 rw [<-this]
 rfl
theorem ab1 {P:Program} {ρ:List Value} {w:World}:∀(rs:List ResultVar) {k:List Value->Prop},ME P ρ w rs k ->
  ∃vs,(rs.mapM (Ik ρ.toArray)).run P w=.ok vs w/\k vs:=by
 intro rs
 induction rs with
 | nil=>exact fun h=>⟨[],by simp,h⟩
 | cons x r ih =>
  intro k h
  cases x with
  | tmp t =>
   simp only [adY,Pj] at h
   obtain ⟨vs,h1,h2⟩:=ih h
   exact ⟨gt ρ t::vs,by rw [List.mapM_cons];simp only [Ik,Sem.run_bind,Sem.run_pure,Result.andThen_ok,h1,Qp],h2⟩
  | cell a t =>
   simp only [adi,Pj] at h
   split at h
   .rename_i p hp
    split at h
    .rename_i ad
     obtain ⟨v,hv,h⟩:=h
     obtain ⟨vs,h1,h2⟩:=ih h
     refine ⟨_,?_,h2⟩
     rw [List.mapM_cons]
     rw [Qp] at hp
     simp only [Ik,hp,asAddr,pure_bind,Sem.run_bind,Sem.run_pure,Result.andThen_ok,hv,h1]
    .grind
   .grind
theorem RU {P:Program} {fn:Func} {R:Value->World->Prop} {e:Exit} {a:Act} {w:World} (h:lift [] (HD P fn.results.toList R) e a w) :
  bodyPost P fn (fun e w'=>∃v,e=.returned v/\R v w') e a w:=by
 obtain ⟨hd,h⟩:=h
 rw [Ro hd]
 have key:(ME P a.tmps.toList w fn.results.toList fun vs=>Il R w vs) ->
   ∃v,(results fn a.tmps.toList.toArray).run P w=.ok v w/\∃v',Ending.returned v=.returned v'/\R v' w:=by
  intro h
  obtain ⟨vs,h1,h2⟩:=ab1 _ h
  have hm:(fn.results.mapM (Ik a.tmps.toList.toArray)).run P w=.ok vs.toArray w:=by grind [Array.mapM_eq_mapM_toList,Sem.run_map,Result.andThen_ok]
  unfold Il at h2
  split at h2
  .rename_i v
   obtain ⟨h2⟩:=h2
   exact ⟨v,by rw [QJ];simp only [Sem.run_bind,hm,Result.andThen_ok];rfl,v,rfl,h2⟩
  .obtain ⟨h2⟩:=h2
   exact ⟨_,by rw [QJ];simp only [Sem.run_bind,hm,Result.andThen_ok];rfl,_,rfl,h2⟩
  .rename_i u v r
   obtain ⟨h2⟩:=h2
   refine ⟨.tuple (u::v::r).toArray,?_,_,rfl,h2⟩
   rw [QJ];simp only [Sem.run_bind,hm,Result.andThen_ok,Sem.run_pure]
   rw [dif_neg zZ]
 cases e
 case normal=>obtain ⟨v,h1,h2⟩:=key h;exact ⟨rfl,v,h1,h2⟩
 case ret=>obtain ⟨v,h1,h2⟩:=key h;exact ⟨rfl,v,h1,h2⟩
 all_goals exact False.elim h
theorem Fc.of {P:Program} {f:FuncId} {fn:Func} {c:Code} {args:Array Value} {w:World} {R:Value->World->Prop}
  (hf:P.funcs[f]?=some fn) (hb:fn.body=some c) (hn:(fn.name == "runtime.NumGoroutine")=false) (h:F9 P fn c args.toList w R):Fc P f args w R:=by
 refine ⟨?_,?_⟩
 .simp only [callFunc,Sem.run_bind,program,Sem.run,Result.andThen_ok,hf]
  rw [if_neg (by grind),if_neg (by grind)]
  rfl
 .refine calls_of_wp hf hb ?_
  unfold F9 at h
  rw [LN,Sv,lpa] at h
  have:=UO (ds:=[]) c h
  have e:(args.toList++List.replicate (fn.ntmps-args.toList.length) undef).toArray=args++Array.replicate (fn.ntmps-args.size) undef:=by simp
  rw [e] at this
  exact wp_mono this fun e a w h=>RU h
end Y4
namespace Y4
open Go Go.RowKit
variable {P:Program} {w:World} {K:Value->World->Prop}
theorem UC {k:IntKind} {n:Int} (h0:k.min<=n) (h1:n<=k.max):ZO k n=n:=by
 unfold ZO
 cases k <;> simp [IntKind.wrap,IntKind.min,IntKind.max,IntKind.bits,IntKind.signed] at * <;> omega
theorem S7 {n:Int} (h:-9223372036854775808<=n/\n<=9223372036854775807):ZO .i64 n=n:=UC (by grind [IntKind.min,IntKind.signed,IntKind.bits]) (by grind [IntKind.max,IntKind.signed,IntKind.bits])
theorem amH {n:Int} (h:-2147483648<=n/\n<=2147483647):ZO .i32 n=n:=UC (by grind [IntKind.min,IntKind.signed,IntKind.bits]) (by grind [IntKind.max,IntKind.signed,IntKind.bits])
theorem Et {n:Int} (h:0<=n/\n<=18446744073709551615):ZO .u64 n=n:=UC (by grind [IntKind.min,IntKind.signed,IntKind.bits]) (by grind [IntKind.max,IntKind.signed,IntKind.bits])
theorem amI {n:Int} (h:0<=n/\n<=4294967295):ZO .u32 n=n:=UC (by grind [IntKind.min,IntKind.signed,IntKind.bits]) (by grind [IntKind.max,IntKind.signed,IntKind.bits])
theorem wu8 {n:Int} (h:0<=n/\n<=255):ZO .u8 n=n:=UC (by grind [IntKind.min,IntKind.signed,IntKind.bits]) (by grind [IntKind.max,IntKind.signed,IntKind.bits])
theorem YF {a b:Int} (h:Gu a b=true):a<b:=by grind [SB]
theorem YE {a b:Int} (h:Gu a b=false):b<=a:=by grind [SB]
theorem Xs {a b:Int} (h:JL a b=true):a<=b:=by grind [SA]
theorem Xr {a b:Int} (h:JL a b=false):b<a:=by grind [SA]
theorem ZS {a b:Int} (h:Ku a b=true):a=b:=by grind [Sz]
theorem ZR {a b:Int} (h:Ku a b=false):a≠b:=by grind [Sz]
theorem YI {a b:Int} (h:EZ a b=true):a≠b:=by grind [Sy]
theorem YH {a b:Int} (h:EZ a b=false):a=b:=by grind [Sy]
theorem XT {a b:Int}:Gu a b=decide (a<b):=SB _ _
theorem YN {a b:Int}:JL a b=decide (a<=b):=SA _ _
theorem YR {a b:Int}:Ku a b=decide (a=b):=by rw [Sz];rw [Bool.eq_iff_iff];simp
theorem XL {a b:Int}:EZ a b=!decide (a=b):=by rw [Sy];rw [Bool.eq_iff_iff];simp
theorem Zt {s d:TypeId} {k0 k:IntKind} {n:Int} (hs:(P.underlying s).isSome=true) (hd:P.underlying d=some (.int k)) (h:K (.int k (ZO k n)) w) :
  Ze P (convert s d (.int k0 n)) w K:=by
 obtain ⟨ds,hds⟩:=Option.isSome_iff_exists.1 hs
 refine ⟨_,w,?_,h⟩
 unfold convert
 simp only [Sem.run_bind,run_underlying hds,run_underlying hd,Result.andThen_ok,Conv.intToInt]
 unfold ZO;rfl
theorem UN {s d:TypeId} {k0 k:IntKind} {n:Int} (m:Int) (e:ZO k n=m) (hs:(P.underlying s).isSome=true) (hd:P.underlying d=some (.int k)) (h:K (.int k m) w) :
  Ze P (convert s d (.int k0 n)) w K:=Zt hs hd (e ▸ h)
theorem amJ {t:Array TypeId} {ty:TypeId} {k k':IntKind} {a b:Int} (h:K (.int k (min a b)) w):Ze P (Builtin.min_ t ty #[.int k a,.int k' b]) w K:=by
 refine ⟨_,w,?_,h⟩
 have:(if b<a then b else a)=min a b:=by omega
 simp [Builtin.min_,Builtin.min2,this]
def bs (l:List UInt8):ByteArray:=⟨l.toArray⟩
theorem TF (l:List UInt8):(bs l).size=l.length:=by simp [bs,ByteArray.size]
theorem ajK (s:ByteArray):s=bs s.data.toList:=by cases s;simp [bs]
theorem adj (l:List UInt8):(bs l).toList=l:=by simp [bs]
theorem ab2 (l:List UInt8) (i j:Nat):(bs l).extract i j=bs ((l.take j).drop i):=by
 apply ByteArray.ext
 simp only [bs,ByteArray.data_extract]
 apply Array.ext'
 simp [List.drop_take]
theorem adk (a b:List UInt8):bs a++bs b=bs (a++b):=by
 apply ByteArray.ext
 simp [bs]
theorem adZ {a b:List UInt8} (h:bs a=bs b):a=b:=by grind [bs]
theorem XF {t ty:TypeId} {s:List UInt8} (ht:P.underlying t=some .string) (h:K (.int .i64 s.length) w):Ze P (Builtin.len_ #[t] ty #[.string (bs s)]) w K :=
 ⟨_,w,run_len_string (P:=P) w t ty (bs s) ht,by rw [TF];exact h⟩
theorem UM {t ty e:TypeId} {a:Option Addr} {n c:Nat} (ht:P.underlying t=some (.slice e)) (h:K (.int .i64 n) w):Ze P (Builtin.len_ #[t] ty #[.slice a n c]) w K :=
 ⟨_,w,by simp [Builtin.len_,run_underlying ht,goInt],h⟩
theorem Od {t:TypeId} {s:List UInt8} {k:IntKind} {i:Int} (ht:P.underlying t=some .string) (j:Nat) (hj:i=j) (hl:j<s.length) (h:K (.int .u8 (s[j].toNat:Int)) w) :
  Ze P (Instr.index t (.string (bs s)) (.int k i)) w K:=by
 subst hj
 refine ⟨_,w,?_,h⟩
 rw [run_index_string (P:=P) w t (bs s) k j ht,dif_pos ⟨by omega,by rw [TF];omega⟩]
 rfl
theorem ajL {t:TypeId} {s:List UInt8} {kl:IntKind} {l:Int} (ht:P.underlying t=some .string) (i:Nat) (hi:l=i) (hl:i<=s.length)
  (k:K (.string (bs (s.drop i))) w):Ze P (Instr.sliceAt t (.string (bs s)) (some (.int kl l)) none none) w K:=by
 subst hi
 refine ⟨_,w,?_,k⟩
 have hb:(bs s).size=s.length:=TF s
 rw [run_sliceAt_string (P:=P) w t _ _ _ _ ht,run_slice_string_l (P:=P) w t _ ht kl i Ab Ab]
 simp [hb,ab2]
theorem amK {t:TypeId} {x y:Operand} {a b:List UInt8} (hl:a.length+b.length<=9223372036854775807) (k:K (.string (bs (a++b))) w) :
  Ze P (do eqGuard .add t x y (.string (bs a)) (.string (bs b));binOp .add t (.string (bs a)) (.string (bs b))) w K:=by
 refine ⟨_,w,?_,k⟩
 simp only [eqGuard_add,pure_bind,binOp_string_add,Op.stringOp]
 rw [if_neg (by simp [TF];omega)]
 simp [adk]
theorem ad0 {t:TypeId} {x y:Operand} {a b:List UInt8} (k:K (.bool (decide (a=b))) w) :
  Ze P (do eqGuard .eql t x y (.string (bs a)) (.string (bs b));binOp .eql t (.string (bs a)) (.string (bs b))) w K:=by
 refine ⟨_,w,?_,k⟩
 simp only [eqGuard_at_string,pure_bind,binOp_string_eql,adj,Sem.run_pure]
 congr 2
 rw [Bool.eq_iff_iff];simp
def To (v:Value) (k:List Value->Prop):Prop :=
 match v with
 | .agg cs=>k cs.toList
 | v=>k [v]
theorem Wl (v:Value) (k:List Value->Prop):To v k=k v.cells.toList:=by
 cases v <;> rfl
theorem ajM {t:TypeId} {v:Value} (h:To v fun cs=>K (.pointer (some ⟨w.heap.size,0,none⟩)) (w.alloc (.cells cs.toArray t))):Ze P (Instr.box t v) w K:=by
 rw [Wl] at h
 exact ⟨_,_,rfl,by simpa using h⟩
theorem afM {t:TypeId} {z:Value} (hz:(P.info? t).bind (fun i=>i.zero)=some z) (h:To z fun cs=>K (.pointer (some ⟨w.heap.size,0,none⟩)) (w.alloc (.cells cs.toArray t))) :
  Ze P (Instr.alloc t true (.tuple #[])) w K:=by
 rw [Wl] at h
 cases hi:P.info? t with
 | none=>simp [hi] at hz
 | some i =>
  simp only [hi,Option.bind_some] at hz
  refine ⟨_,_,?_,h⟩
  simp [Instr.alloc,zeroValue,typeInfo,hi,hz,newVar,newRow]
def NO (cs:List Value) (o:Nat) (l:List Value) (k:List Value->Prop):Prop :=
 List.rec (motive:=fun _=>List Value->Nat->Prop) (fun cs _=>k cs) (fun v _ ih cs o=>IL cs o v fun cs=>ih cs (o+1)) l cs o
theorem ab3 (cs:List Value) (o:Nat) (v:Value) (vs:List Value) (k:List Value->Prop):NO cs o (v::vs) k=IL cs o v fun cs=>NO cs (o+1) vs k:=rfl
def VY:List Value->Nat->List Value->List Value
 | cs,_,[]=>cs
 | cs,o,v::vs=>VY (cs.set o v) (o+1) vs
theorem S6 (vs:List Value):∀(cs:List Value) (o:Nat) (k:List Value->Prop),NO cs o vs k=k (VY cs o vs):=by
 induction vs with
 | nil=>intros;rfl
 | cons v vs ih=>intro cs o k;simp only [ab3,VY,Tt,ih]
theorem VP (vs:List Value):∀(cs:List Value) (o:Nat),(VY cs o vs).length=cs.length:=by
 induction vs with
 | nil=>intros;rfl
 | cons v vs ih=>intro cs o;simp [VY,ih]
def IG (b:Bool) (k:Prop):Prop:=match b with
 | true=>k
 | false=>False
theorem NN {b:Bool} {k:Prop} (h:IG b k):b=true/\k:=by cases b;exact h.elim;exact ⟨rfl,h⟩
def Qm (place:Nat->Option (Nat × Nat)) (l:List (Nat × Value)) (cs:List Value) (k:List Value->Prop):Prop :=
 List.rec (motive:=fun _=>List Value->Prop) k (fun p _ ih cs=>match p with
  | (i,v)=>match place i with
   | none=>False
   | some p=>match p with
    | (o,n)=>To v fun vs=>IG (Nat.beq vs.length n && Nat.ble (o+n) cs.length) (NO cs o vs fun cs=>ih cs)) l cs
theorem QI (place:Nat->Option (Nat × Nat)) (i:Nat) (v:Value) (r:List (Nat × Value)) (cs:List Value) (k:List Value->Prop):Qm place ((i,v)::r) cs k=match place i with
   | none=>False
   | some p=>match p with
    | (o,n)=>To v fun vs=>IG (Nat.beq vs.length n && Nat.ble (o+n) cs.length) (NO cs o vs fun cs=>Qm place r cs k):=rfl
theorem ab4 (vs:List Value) (o:Nat):∀(j:Nat) (cs:Array Value),(vs.zipIdx j).foldl (fun cs (c,i)=>cs.setIfInBounds (o+i) c) cs=(VY cs.toList (o+j) vs).toArray:=by
 induction vs with
 | nil=>intro j cs;simp [VY]
 | cons v vs ih=>intro j cs;simp only [List.zipIdx_cons,List.foldl_cons,ih,VY];simp [Nat.add_assoc]
theorem aah {place:Nat->Option (Nat × Nat)} (ps:List (Nat × Value)):∀{cs:List Value} {k:List Value->Prop},Qm place ps cs k ->
  ∃cs',Instr.fill place cs.toArray ps=some cs'/\k cs'.toList:=by
 induction ps with
 | nil=>exact fun h=>⟨_,rfl,h⟩
 | cons p r ih =>
  obtain ⟨i,v⟩:=p
  intro cs k h
  simp only [QI,Wl,S6] at h
  split at h
  .grind
  .rename_i pr hp
   obtain ⟨o,n⟩:=pr
   dsimp only at h
   obtain ⟨hb,h⟩:=NN h
   simp only [Bool.and_eq_true,Nat.beq_eq,Nat.ble_eq] at hb
   obtain ⟨cs',h1,h2⟩:=ih h
   refine ⟨cs',?_,h2⟩
   have hs:v.cells.size=n:=by grind
   simp only [Instr.fill,hp]
   rw [if_neg (by grind)]
   rw [<-h1]
   congr 1
   have:=ab4 v.cells.toList o 0 cs.toArray
   simp only [Nat.add_zero] at this
   rw [<-this,<-Array.foldl_toList,Array.toList_zipIdx]
def O8 (n:Nat) (z:List Value):(List Value->Prop)->Prop :=
 Nat.rec (motive:=fun _=>(List Value->Prop)->Prop) (fun k=>k []) (fun _ ih k=>ih fun cs=>Ph z cs k) n
theorem aa7 (n:Nat) (z:List Value) (k:List Value->Prop):O8 (n+1) z k=O8 n z fun cs=>Ph z cs k:=rfl
theorem Rk (n:Nat) (z:List Value) (k:List Value->Prop):O8 n z k=k (List.replicate n z).flatten:=by
 induction n generalizing k with
 | zero=>rfl
 | succ n ih=>simp only [aa7,ih,Sv,List.replicate_succ,List.flatten_cons]
theorem aa8 (n:Nat) (z:Array Value):((Array.range (n * z.size)).map fun i=>z[i % z.size]!)=(List.replicate n z.toList).flatten.toArray:=by
 apply Array.ext'
 simp only [Array.toList_map,Array.toList_range]
 induction n with
 | zero=>simp
 | succ n ih =>
  rw [lhb,List.range_add,llb,ih,List.replicate_succ',List.flatten_append]
  congr 1
  simp only [List.flatten_cons,List.flatten_nil,List.append_nil,List.map_map]
  apply List.ext_getElem
  .simp
  .intro i h1 h2
   simp only [List.length_map,List.length_range] at h1
   simp only [List.getElem_map,List.getElem_range,Function.comp]
   rw [Nat.mul_comm,Nat.mul_add_mod,Nat.mod_eq_of_lt h1]
   simp [h1]
theorem aaY {t e:TypeId} {n sz:Nat} {z:Value} {ps:Array (Nat × Value)} (hu:P.underlying t=some (.slice e)) (hz:(P.info? e).map (fun i=>(i.size,i.zero))=some (sz,some z))
  (hsz:z.cells.size=sz) (hn:n * sz<=16777216)
  (h:O8 n z.cells.toList fun zs=>Qm (fun i=>some (i * sz,sz)) ps.toList zs fun cs=>K (.slice (some ⟨w.heap.size,0,none⟩) n n) (w.alloc (.cells cs.toArray e))) :
  Ze P (Instr.buildSlice t n ps) w K:=by
 rw [Rk] at h
 cases hi:P.info? e with
 | none=>simp [hi] at hz
 | some i =>
  simp only [hi,Option.map_some,Option.some.injEq,Prod.mk.injEq] at hz
  obtain ⟨h1,h2⟩:=hz
  obtain ⟨cs,hf,k⟩:=aah _ h
  refine ⟨_,_,?_,k⟩
  have hb:¬(16777216<n * sz):=by omega
  by_cases h0:n * sz=0
  .have:(List.replicate n z.cells.toList).flatten=[]:=by
    apply lma
    simp [hsz,h0]
   rw [this] at hf
   have hr:Array.range 0=#[]:=rfl
   simp [Instr.buildSlice,hr,run_underlying hu,sizeOf,typeInfo,hi,h1,h0,hf,newRow]
  .have Jy:=aa8 n z.cells
   rw [hsz] at Jy
   simp [Instr.buildSlice,run_underlying hu,sizeOf,typeInfo,zeroValue,hi,h1,h0,h2,hb,hsz,Jy,hf,newRow]
def RZ (w:World) (b:Nat) (cs:List Value) (e:TypeId):Prop:=w.heap[b]?=some (.cells cs.toArray e (0,0))
def At (w:World) (b o:Nat) (vs:List Value):Prop:=∃cs e fz,w.heap[b]?=some (.cells cs e fz)/\∀i v,vs[i]?=some v->cs[o+i]?=some v
structure Ij (w w':World) (cs:List Value) (e:TypeId):Prop where
 VC:RZ w' w.heap.size cs e
 below:Below w.heap.size w w'
 size:w'.heap.size=w.heap.size+1
structure KB (w w':World) (b:Nat):Prop where
 os:w'.os=w.os
 tape:w'.tape=w.tape
 output:w'.output=w.output
 size:w'.heap.size=w.heap.size
 block:∀k,k≠b->w'.heap[k]?=w.heap[k]?
theorem Ij.mk' (w:World) (cs:List Value) (e:TypeId):Ij w (w.alloc (.cells cs.toArray e)) cs e :=
 ⟨heap_alloc_new w _,(Below.refl _ _).alloc (lna _) _,by simp⟩
theorem KB.below {B:Nat} {w0 w w':World} {b:Nat} (h:KB w w' b) (hb:Below B w0 w) (hB:B<=b):Below B w0 w' :=
 ⟨h.os.trans hb.os,h.tape.trans hb.tape,h.output.trans hb.output,by rw [h.size];exact hb.size,fun k hk=>(h.block k Ab).trans (hb.block k hk)⟩
theorem RZ.at {w:World} {b:Nat} {cs:List Value} {e:TypeId} (h:RZ w b cs e):At w b 0 cs :=
 ⟨_,_,_,h,fun i v hi=>by simpa using hi⟩
theorem RZ.lt {w:World} {b:Nat} {cs:List Value} {e:TypeId} (h:RZ w b cs e):b<w.heap.size:=(lva.1 h).1
theorem At.lt {w:World} {b o:Nat} {vs:List Value} (h:At w b o vs):b<w.heap.size:=by
 obtain ⟨_,_,_,h,_⟩:=h;exact (lva.1 h).1
theorem RZ.keep {w w':World} {b:Nat} {cs:List Value} {e:TypeId} (h:RZ w b cs e) (hk:w'.heap[b]?=w.heap[b]?):RZ w' b cs e:=hk.trans h
theorem RZ.below {B:Nat} {w w':World} {b:Nat} {cs:List Value} {e:TypeId} (h:RZ w b cs e) (hb:Below B w w') (hB:b<B):RZ w' b cs e:=h.keep (hb.block b hB)
theorem At.keep {w w':World} {b o:Nat} {vs:List Value} (h:At w b o vs) (hk:w'.heap[b]?=w.heap[b]?):At w' b o vs:=by
 obtain ⟨cs,e,fz,h1,h2⟩:=h;exact ⟨cs,e,fz,hk.trans h1,h2⟩
theorem At.below {B:Nat} {w w':World} {b o:Nat} {vs:List Value} (h:At w b o vs) (hb:Below B w w') (hB:b<B):At w' b o vs:=h.keep (hb.block b hB)
theorem At.sub {w:World} {b o:Nat} {vs:List Value} (h:At w b o vs) (i n:Nat):At w b (o+i) ((vs.drop i).take n):=by
 obtain ⟨cs,e,fz,h1,h2⟩:=h
 refine ⟨cs,e,fz,h1,fun j v hj=>?_⟩
 rw [lJa] at hj
 split at hj
 .grind
 .grind
theorem amL {t:TypeId} {v:Value} (h:To v fun cs=>∀w',Ij w w' cs t->K (.pointer (some ⟨w.heap.size,0,none⟩)) w'):Ze P (Instr.box t v) w K :=
 ajM (by rw [Wl] at h ⊢;exact h _ (Ij.mk' _ _ _))
theorem ahT {t:TypeId} {z:Value} (hz:(P.info? t).bind (fun i=>i.zero)=some z) (h:To z fun cs=>∀w',Ij w w' cs t->K (.pointer (some ⟨w.heap.size,0,none⟩)) w') :
  Ze P (Instr.alloc t true (.tuple #[])) w K :=
 afM hz (by rw [Wl] at h ⊢;exact h _ (Ij.mk' _ _ _))
theorem aaz {place:Nat->Option (Nat × Nat)} (ps:List (Nat × Value)):∀{cs:List Value} {k k':List Value->Prop},Qm place ps cs k->(∀cs,k cs->k' cs)->Qm place ps cs k':=by
 induction ps with
 | nil=>exact fun h hk=>hk _ h
 | cons p r ih =>
  obtain ⟨i,v⟩:=p
  intro cs k k' h hk
  simp only [QI,Wl,S6] at h ⊢
  split at h
  .omega
  .rename_i pr hp
   obtain ⟨o,n⟩:=pr
   dsimp only at h ⊢
   obtain ⟨hb,h⟩:=NN h
   rw [hb];exact ih h hk
theorem aai {t e:TypeId} {n sz:Nat} {z:Value} {ps:Array (Nat × Value)} (hu:P.underlying t=some (.slice e)) (hz:(P.info? e).map (fun i=>(i.size,i.zero))=some (sz,some z))
  (hsz:z.cells.size=sz) (hn:n * sz<=16777216)
  (h:O8 n z.cells.toList fun zs=>Qm (fun i=>some (i * sz,sz)) ps.toList zs fun cs=>∀w',Ij w w' cs e->K (.slice (some ⟨w.heap.size,0,none⟩) n n) w') :
  Ze P (Instr.buildSlice t n ps) w K :=
 aaY hu hz hsz hn (by rw [Rk] at h ⊢;exact aaz _ h fun cs h=>h _ (Ij.mk' _ _ _))
def NM:TypeDesc->Bool
 | .struct _|.array _ _=>true
 | _=>false
theorem S5 {t:TypeId} {d:TypeDesc} (hu:P.underlying t=some d):(isAgg t).run P w=.ok (NM d) w:=by
 unfold isAgg
 rw [Sem.run_bind,run_underlying hu w]
 cases d <;> rfl
theorem At.cell {w:World} {b o:Nat} {vs:List Value} (h:At w b o vs) {i:Nat} {v:Value} (hi:vs[i]?=some v):w.cell? ⟨b,o+i,none⟩=some v:=by
 obtain ⟨cs,e,fz,h1,h2⟩:=h
 rw [cell_of_row w b (o+i) cs e fz h1];exact h2 i v hi
theorem ahU {t:TypeId} {d:TypeDesc} {b o:Nat} {v:Value} (hc:w.cell? ⟨b,o,none⟩=some v) (hu:P.underlying t=some d) (hd:NM d=false) (k:K v w) :
  Ze P (Instr.loadAt t (.pointer (some ⟨b,o,none⟩))) w K:=by
 refine ⟨v,w,?_,k⟩
 simp [Instr.loadAt,Instr.sureAddr,loadVar,S5 hu,hd,hc]
theorem ajN {t:TypeId} {d:TypeDesc} {b o:Nat} {vs:List Value} (h:At w b o vs) (i:Nat) (hu:P.underlying t=some d) (hd:NM d=false) (k:Ks vs i fun v=>K v w) :
  Ze P (Instr.loadAt t (.pointer (some ⟨b,o+i,none⟩))) w K:=by
 obtain ⟨v,hv,k⟩:=Oe k
 exact ahU (h.cell hv) hu hd k
theorem afN {t:TypeId} {d:TypeDesc} {b o:Nat} {vs:List Value} (h:At w b o vs) (hu:P.underlying t=some d) (hd:NM d=true) (hs:(P.info? t).map (·.size)=some vs.length) (k:K (.agg vs.toArray) w) :
  Ze P (Instr.loadAt t (.pointer (some ⟨b,o,none⟩))) w K:=by
 refine ⟨_,w,?_,k⟩
 cases hi:P.info? t with
 | none=>simp [hi] at hs
 | some i =>
  have hl:i.size=vs.length:=by grind
  have:=run_loadCells_list (P:=P) w ⟨b,o,none⟩ vs (fun j v hv=>by rw [Addr.add_lit];exact h.cell hv)
  simp [Instr.loadAt,Instr.sureAddr,loadVar,S5 hu,hd,sizeOf,typeInfo,hi,hl,this]
def NL (l:List Value):Nat->(List Value->Prop)->Prop :=
 List.rec (motive:=fun _=>Nat->(List Value->Prop)->Prop) (fun _ k=>k []) (fun x r ih n k=>Nat.rec (motive:=fun _=>Prop) (k (x::r)) (fun m _=>ih m k) n) l
theorem ab5 (x:Value) (r:List Value) (n:Nat) (k:List Value->Prop):NL (x::r) (n+1) k=NL r n k:=rfl
def Mm (l:List Value):Nat->(List Value->Prop)->Prop :=
 List.rec (motive:=fun _=>Nat->(List Value->Prop)->Prop) (fun n k=>Nat.rec (motive:=fun _=>Prop) (k []) (fun _ _=>False) n) (fun x _ ih n k=>Nat.rec (motive:=fun _=>Prop) (k []) (fun m _=>ih m fun l=>k (x::l)) n) l
theorem Ql (l:List Value) (n:Nat) (k:List Value->Prop):NL l n k=k (l.drop n):=by
 induction l generalizing n with
 | nil=>cases n <;> rfl
 | cons x r ih=>cases n with
  | zero=>rfl
  | succ n=>simp [ab5,ih]
theorem NK {l:List Value} {n:Nat} {k:List Value->Prop} (h:Mm l n k):n<=l.length/\k (l.take n):=by
 induction l generalizing n k with
 | nil=>cases n with
  | zero=>exact ⟨lna _,h⟩
  | succ n=>exact h.elim
 | cons x r ih=>cases n with
  | zero=>exact ⟨lIa _,h⟩
  | succ n=>obtain ⟨h1,h2⟩:=ih (n:=n) h;exact ⟨by simp;omega,by simpa using h2⟩
theorem ahV {t:TypeId} {d:TypeDesc} {b o:Nat} {vs:List Value} (h:At w b o vs) (i:Nat) (hu:P.underlying t=some d) (hd:NM d=true)
  (k:NL vs i fun r=>Mm r (P.cellsOf t) fun us=>K (.agg us.toArray) w) :
  Ze P (Instr.loadAt t (.pointer (some ⟨b,o+i,none⟩))) w K:=by
 rw [Ql] at k
 obtain ⟨h1,h2⟩:=NK k
 refine afN (h.sub i (P.cellsOf t)) hu hd ?_ h2
 cases hi:P.info? t with
 | none=>simp [Program.underlying,hi] at hu
 | some j=>simp [Program.cellsOf,hi] at h1 ⊢;omega
theorem afO {t:TypeId} {e:TypeId} {b o:Nat} {cs:List Value} {v:Value} {K:World->Prop} (hb:RZ w b cs e) (ho:o<cs.length) (hs:(P.info? t).map (·.size)=some 1) (hv:v.oneCell'=true)
  (k:IL cs o v fun cs'=>∀w',KB w w' b->RZ w' b cs' e->K w'):IK P (Instr.storeAt t (.pointer (some ⟨b,o,none⟩)) v) w K:=by
 rw [Tt] at k
 cases hi:P.info? t with
 | none=>simp [hi] at hs
 | some i =>
  have hl:i.size=1:=by grind
  have hvc:v.cells=#[v]:=by cases v <;> first|rfl|(simp [Value.oneCell'] at hv)
  have hc:w.cell? ⟨b,o,none⟩=some cs[o]:=by
   rw [cell_of_row w b o _ e (0,0) hb];simp [ho]
  have hf:w.frozen? ⟨b,o,none⟩=false:=frozen_of_row w b o _ e hb
  have hw:KB w (w.setCell ⟨b,o,none⟩ v) b:=⟨rfl,rfl,rfl,by simp,fun k hk=>heap_setCell_other w _ k v hk⟩
  have F8:RZ (w.setCell ⟨b,o,none⟩ v) b (cs.set o v) e:=by
   unfold RZ
   rw [heap_setCell_same w b o _ e v hb];simp
  refine ⟨_,?_,k _ hw F8⟩
  have hst:(store ⟨b,o,none⟩ v).run P w=.ok () (w.setCell ⟨b,o,none⟩ v):=by
   cases v <;> first|(simp [Value.oneCell'] at hv;done)|simp [store,Sem.run,hc,hf]
  simp [Instr.storeAt,Instr.sureAddr,storeVar,sizeOf,typeInfo,hi,hl,hvc,storeCells,Addr.add_zero',hst]
theorem acy {t:TypeId} {e:TypeId} {b o:Nat} {cs:List Value} {v:Value} {K:World->Prop} (hb:RZ w b cs e) (ho:o<cs.length) (hs:(P.info? t).map (·.size)=some 1) (hv:v.oneCell'=true)
  (k:∀w',KB w w' b->RZ w' b (cs.set o v) e->K w'):IK P (Instr.storeAt t (.pointer (some ⟨b,o,none⟩)) v) w K :=
 afO hb ho hs hv (by rw [Tt];exact k)
theorem amM {t e:TypeId} {b o len cap:Nat} {ki:IntKind} {i:Int} (sz j p:Nat) (hj:i=j) (hl:j<len) (hp:o+j * sz=p) (ht:P.underlying t=some (.slice e)) (hs:(P.info? e).map (fun i=>i.size)=some sz)
  (k:K (.pointer (some ⟨b,p,none⟩)) w):Ze P (Instr.indexAt t (.slice (some ⟨b,o,none⟩) len cap) (.int ki i)) w K:=by
 subst hj;subst hp
 refine ⟨_,w,?_,k⟩
 cases hi':P.info? e with
 | none=>simp [hi'] at hs
 | some i' =>
  simp only [hi',Option.map_some,Option.some.injEq] at hs
  simp [Instr.indexAt,asIntOf,run_underlying ht,sizeOf,typeInfo,hi',hs,Addr.add_lit,hl]
theorem KB.trans {w w' w'':World} {b:Nat} (h:KB w w' b) (k:KB w' w'' b):KB w w'' b :=
 ⟨k.os.trans h.os,k.tape.trans h.tape,k.output.trans h.output,k.size.trans h.size,fun i hi=>(k.block i hi).trans (h.block i hi)⟩
theorem KB.refl (w:World) (b:Nat):KB w w b:=⟨rfl,rfl,rfl,rfl,fun _ _=>rfl⟩
def Er (l:List Field):Nat->(TypeId->Nat->Prop)->Prop :=
 List.rec (motive:=fun _=>Nat->(TypeId->Nat->Prop)->Prop) (fun _ _=>False) (fun f _ ih n k=>Nat.rec (motive:=fun _=>Prop) (match f with
  | ⟨_,ty,off,_,_,_,_⟩=>k ty off) (fun m _=>ih m k) n) l
theorem acz {l:List Field} {i:Nat} {k:TypeId->Nat->Prop} (h:Er l i k):∃f,l[i]?=some f/\k f.type f.offset:=by
 induction l generalizing i with
 | nil=>exact h.elim
 | cons f r ih=>cases i with
  | zero=>exact ⟨f,rfl,h⟩
  | succ i=>simpa using ih (i:=i) h
theorem Z9 {s:TypeId} {fs:Array Field} {i b o:Nat} (hu:P.underlying s=some (.struct fs)) (h:Er fs.toList i fun ty off=>IG (Nat.ble 1 (P.cellsOf ty)) (K (.pointer (some ⟨b,o+off,none⟩)) w)) :
  Ze P (Instr.fieldAt s (.pointer (some ⟨b,o,none⟩)) i) w K:=by
 obtain ⟨f,hf,h⟩:=acz h
 obtain ⟨h1,h2⟩:=NN h
 refine ⟨_,w,?_,h2⟩
 simp only [Array.getElem?_toList] at hf
 have h1:1<=P.cellsOf f.type:=by simpa using h1
 cases hi:P.info? f.type with
 | none=>simp [Program.cellsOf,hi] at h1
 | some j =>
  have:j.size≠0:=by grind [Program.cellsOf]
  simp [Instr.fieldAt,run_underlying hu,hf,Instr.sureAddr,fieldPlace,sizeOf,typeInfo,hi,this,Addr.add_lit]
def HC (P:Program) (ty:TypeId) (cs:List Value) (off:Nat) (k:Value->Prop):Prop :=
 match P.underlying ty with
 | some d=>match NM d with
  | true=>NL cs off fun r=>Mm r (P.cellsOf ty) fun vs=>k (.agg vs.toArray)
  | false=>Ks cs off k
 | none=>False
theorem aa9 {ty:TypeId} {cs:List Value} {off:Nat} {k:Value->Prop} (h:HC P ty cs off k):∃v,(part ty cs.toArray off).run P w=.ok v w/\k v:=by
 unfold HC at h
 split at h
 .rename_i d hu
  split at h
  .rename_i hd
   rw [Ql] at h
   obtain ⟨h1,h2⟩:=NK h
   refine ⟨_,?_,h2⟩
   cases hi:P.info? ty with
   | none=>simp [Program.underlying,hi] at hu
   | some i =>
    simp [part,S5 hu,hd,sizeOf,typeInfo,hi,Program.cellsOf]
  .rename_i hd
   obtain ⟨v,hv,h⟩:=Oe h
   exact ⟨v,by simp [part,S5 hu,hd,hv],h⟩
 .grind
theorem LL {s:TypeId} {fs:Array Field} {i:Nat} {cs:Array Value} (hu:P.underlying s=some (.struct fs)) (h:Er fs.toList i fun ty off=>HC P ty cs.toList off fun v=>K v w) :
  Ze P (Instr.field s (.agg cs) i) w K:=by
 obtain ⟨f,hf,h⟩:=acz h
 obtain ⟨v,hv,h⟩:=aa9 (w:=w) h
 refine ⟨v,w,?_,h⟩
 simp only [Array.getElem?_toList] at hf
 simp only [Array.toArray_toList] at hv
 simp [Instr.field,run_underlying hu,hf,asAgg,hv]
def Oc (P:Program) (l:List Field):(List (Nat × Nat)->Prop)->Prop :=
 List.rec (motive:=fun _=>(List (Nat × Nat)->Prop)->Prop) (fun k=>k []) (fun f _ ih k=>match f with
  | ⟨_,ty,off,_,_,_,_⟩=>ih fun l=>k ((off,P.cellsOf ty)::l)) l
theorem aaZ (f:Field) (r:List Field) (k:List (Nat × Nat)->Prop):Oc P (f::r) k=Oc P r fun l=>k ((f.offset,P.cellsOf f.type)::l):=by cases f;rfl
theorem ab6 (l:List Field) (k:List (Nat × Nat)->Prop):Oc P l k=k (l.map fun f=>(f.offset,P.cellsOf f.type)):=by
 induction l generalizing k with
 | nil=>rfl
 | cons f r ih=>simp [aaZ,ih]
theorem aba {α β:Type} {g:α->Sem β} {h:α->β}:∀(l:List α),(∀a,a∈l->(g a).run P w=.ok (h a) w)->(l.mapM g).run P w=.ok (l.map h) w
 | [],_=>by simp
 | a::r,hl=>by
  rw [List.mapM_cons]
  simp only [Sem.run_bind,hl a (List.mem_cons_self ..),Result.andThen_ok,aba r fun b hb=>hl b (List.mem_cons_of_mem _ hb),Sem.run_pure,List.map_cons]
theorem ab7 {t:TypeId} (h:(P.info? t).isSome=true):(sizeOf t).run P w=.ok (P.cellsOf t) w:=by
 obtain ⟨j,hj⟩:=Option.isSome_iff_exists.1 h
 simp [sizeOf,typeInfo,hj,Program.cellsOf]
theorem Zr {t:TypeId} {fs:Array Field} {z:Value} {ps:Array (Nat × Value)} (hu:P.underlying t=some (.struct fs)) (hz:(P.info? t).bind (fun i=>i.zero)=some z)
  (hf:fs.toList.all (fun f=>(P.info? f.type).isSome)=true)
  (h:Oc P fs.toList fun pl=>To z fun zs=>Qm (fun i=>pl[i]?) ps.toList zs fun cs=>K (.agg cs.toArray) w):Ze P (Instr.build t ps) w K:=by
 rw [ab6,Wl] at h
 obtain ⟨cs,h1,h2⟩:=aah _ h
 refine ⟨_,w,?_,h2⟩
 cases hi:P.info? t with
 | none=>simp [hi] at hz
 | some i =>
  simp only [hi,Option.bind_some] at hz
  have hm:(fs.mapM (m:=Sem) fun f=>do pure (f.offset,<-sizeOf f.type)).run P w=.ok (fs.toList.map fun f=>(f.offset,P.cellsOf f.type)).toArray w:=by
   rw [Array.mapM_eq_mapM_toList]
   rw [Sem.run_map,aba (h:=fun f=>(f.offset,P.cellsOf f.type)) _ (fun f hm=>?_)]
   .rfl
   .grind [Sem.run_bind,ab7,Result.andThen_ok,Sem.run_pure]
  have hzv:(zeroValue t).run P w=.ok z w:=by simp [zeroValue,typeInfo,hi,hz]
  simp only [Array.toArray_toList] at h1
  unfold Instr.build
  simp only [Sem.run_bind,hzv,Result.andThen_ok,run_underlying hu,hm,List.getElem?_toArray,h1,Sem.run_pure,Array.toArray_toList]
end Y4
namespace Y4
open Go Go.RowKit
variable {P:Program} {w:World} {K:Value->World->Prop}
theorem ad1 {lo:Nat} {w w':World} {e:TypeId} {sz:Nat} {v:Value} {n:Nat} {xs:List Value} (h:w.ownsRow lo e sz v n xs) (hb:∀k,v.ownBlock=some k->w'.heap[k]?=w.heap[k]?):w'.ownsRow lo e sz v n xs:=by
 refine ⟨h.1,?_⟩
 rcases h.2 with hn|⟨g,cap,cur,rfl,BL,hgg,rest⟩
 .grind
 .refine .inr ⟨g,cap,cur,rfl,BL,?_,rest⟩
  rw [hb g rfl];exact hgg
theorem ad2 {lo lo':Nat} {w:World} {e:TypeId} {sz:Nat} {v:Value} {n:Nat} {xs:List Value} (h:w.ownsRow lo e sz v n xs) (hl:lo'<=lo):w.ownsRow lo' e sz v n xs:=by
 refine ⟨h.1,?_⟩
 rcases h.2 with hn|⟨g,cap,cur,rfl,BL,rest⟩
 .grind
 .exact .inr ⟨g,cap,cur,rfl,lDa hl BL,rest⟩
theorem Ij.own {w w':World} {cs:List Value} {e:TypeId} (h:Ij w w' cs e) (n sz:Nat) (hn:cs.length=n * sz) (hm:n<=140737488355328):w'.ownsRow w.heap.size e sz (.slice (some ⟨w.heap.size,0,none⟩) n n) n cs :=
 ⟨hn,.inr ⟨w.heap.size,n,cs.toArray,rfl,lna _,h.VC,lna _,by simp [maxLen];omega,by simpa using hn,lua (by simp [hn])⟩⟩
abbrev Hv:=Nat->Obj->Prop
def Rg (w:World) (lo hi:Nat):Hv:=fun b o=>lo<=b/\b<hi/\w.heap[b]?=some o
def Kr (H H':Hv):Prop:=∀b o,H b o->H' b o
theorem Kr.refl (H:Hv):Kr H H:=fun _ _ h=>h
theorem Rg.mono {w w':World} {lo hi lo' hi':Nat} (hlo:lo'<=lo) (hhi:hi<=hi') (hs:∀b,lo<=b->b<hi->w'.heap[b]?=w.heap[b]?):Kr (Rg w lo hi) (Rg w' lo' hi') :=
 fun b o ⟨h1,h2,h3⟩=>⟨lDa hlo h1,Nat.lt_of_lt_of_le h2 hhi,(hs b h1 h2).trans h3⟩
theorem Rg.below {w w':World} {lo hi B:Nat} (hb:Below B w w') (h:hi<=B):Kr (Rg w lo hi) (Rg w' lo hi):=Rg.mono (lna _) (lna _) fun b _ h2=>hb.block b (Nat.lt_of_lt_of_le h2 h)
def EY (H:Hv) (b o:Nat) (vs:List Value):Prop:=∃cs e fz,H b (.cells cs e fz)/\∀i v,vs[i]?=some v->cs[o+i]?=some v
theorem EY.at {w:World} {lo hi b o:Nat} {vs:List Value} (h:EY (Rg w lo hi) b o vs):At w b o vs:=by
 obtain ⟨cs,e,fz,⟨_,_,h1⟩,h2⟩:=h;exact ⟨cs,e,fz,h1,h2⟩
theorem EY.mono {H H':Hv} {b o:Nat} {vs:List Value} (h:EY H b o vs) (hh:Kr H H'):EY H' b o vs:=by
 obtain ⟨cs,e,fz,h1,h2⟩:=h;exact ⟨cs,e,fz,hh _ _ h1,h2⟩
section
variable {α:Type}
def F7 (R:Hv->List Value->α->Prop) (sz:Nat) (H:Hv) (cells:List Value) (xs:List α):Prop :=
 cells.length=xs.length * sz/\∀i x,xs[i]?=some x->R H ((cells.drop (i * sz)).take sz) x
def VZ (R:Hv->List Value->α->Prop) (sz:Nat) (H:Hv) (v:Value) (xs:List α):Prop :=
 ∃a cap,v=.slice a xs.length cap/\(xs.length<=cap/\cap<=9223372036854775807)/\(a=none->xs=[]/\cap=0) /\
  (xs≠[]->∃b o news,a=some ⟨b,o,none⟩/\EY H b o news/\F7 R sz H news xs)
def Ep (R:Hv->List Value->α->Prop):Prop:=∀H H' vs x,Kr H H'->R H vs x->R H' vs x
theorem F7.mono {R:Hv->List Value->α->Prop} {sz:Nat} {H H':Hv} {cells:List Value} {xs:List α} (hR:Ep R) (h:F7 R sz H cells xs) (hh:Kr H H'):F7 R sz H' cells xs :=
 ⟨h.1,fun i x hx=>hR _ _ _ _ hh (h.2 i x hx)⟩
theorem VZ.mono {R:Hv->List Value->α->Prop} {sz:Nat} {H H':Hv} {v:Value} {xs:List α} (hR:Ep R) (h:VZ R sz H v xs) (hh:Kr H H'):VZ R sz H' v xs:=by
 obtain ⟨a,cap,h1,h2,h3,h4⟩:=h
 exact ⟨a,cap,h1,h2,h3,fun hx=>let ⟨b,o,news,e,k1,k2⟩:=h4 hx;⟨b,o,news,e,k1.mono hh,k2.mono hR hh⟩⟩
theorem VZ.len {R:Hv->List Value->α->Prop} {sz:Nat} {H:Hv} {v:Value} {xs:List α} (h:VZ R sz H v xs):xs.length<=9223372036854775807:=by
 obtain ⟨a,cap,h1,h2,h3,h4⟩:=h;omega
theorem VZ.nil (R:Hv->List Value->α->Prop) (sz:Nat) (H:Hv):VZ R sz H (.slice none 0 0) [] :=
 ⟨none,0,rfl,by simp,fun _=>⟨rfl,rfl⟩,fun h=>absurd rfl h⟩
theorem ajO {R:Hv->List Value->α->Prop} {sz:Nat} {H:Hv} {t ty e:TypeId} {v:Value} {xs:List α} (h:VZ R sz H v xs) (ht:P.underlying t=some (.slice e)) (k:K (.int .i64 xs.length) w) :
  Ze P (Builtin.len_ #[t] ty #[v]) w K:=by
 obtain ⟨a,cap,rfl,h2,h3,h4⟩:=h
 exact UM ht k
end
end Y4
namespace Y4
open Go
theorem afP (k:IntKind) (x:Int) (n:Nat) (hn:n<=k.bits):W3 k x n=x / 2 ^ n:=by grind [W3]
theorem RT (n:Nat) (x:Int):((BitVec.ofInt n x).toNat:Int)=x % 2 ^ n:=by
 rw [BitVec.toNat_ofInt]
 have h:0<=x % ((2 ^ n:Nat):Int):=Int.emod_nonneg _ (by exact_mod_cast Nat.ne_of_gt (Nat.two_pow_pos n))
 rw [Int.toNat_of_nonneg h]
 norm_cast
theorem aaA (k:IntKind) (x:Int) (n:Nat) (hn:n<k.bits):TH k x (2 ^ n-1)=x % 2 ^ n:=by
 unfold TH
 have h1:(BitVec.ofInt k.bits (2 ^ n-1)).toNat=2 ^ n-1:=by
  have h2:=RT k.bits (2 ^ n-1)
  have h3:((2:Int) ^ n-1) % 2 ^ k.bits=2 ^ n-1:=by
   have a:(0:Int)<2 ^ n:=by exact_mod_cast Nat.two_pow_pos n
   have b:(2:Int) ^ n<=2 ^ k.bits:=by exact_mod_cast lQa (by decide) (lZa hn)
   exact Int.emod_eq_of_lt Ab Ab
  rw [h3] at h2
  have h4:((2 ^ n-1:Nat):Int)=2 ^ n-1:=by
   rw [Int.ofNat_sub (Nat.one_le_two_pow)];norm_cast
  omega
 rw [BitVec.toNat_and,h1,Nat.and_two_pow_sub_one_eq_mod]
 have h5:(((BitVec.ofInt k.bits x).toNat % 2 ^ n:Nat):Int)=x % 2 ^ n:=by
  rw [Int.natCast_emod,RT]
  have:((2 ^ n:Nat):Int)=2 ^ n:=by norm_cast
  rw [this]
  exact Int.emod_emod_of_dvd x (by exact_mod_cast Nat.pow_dvd_pow 2 (lZa hn))
 rw [h5]
 have a:(0:Int)<2 ^ n:=by exact_mod_cast Nat.two_pow_pos n
 have h6:=Int.emod_nonneg x (Int.ne_of_gt a)
 have h7:=Int.emod_lt_of_pos x a
 have h8:(2:Int) ^ n<=2 ^ (k.bits-1):=by exact_mod_cast lQa (by decide) Ab
 have h9:=UC (k:=k) (n:=x % 2 ^ n) (by
   unfold IntKind.min;split
   .have:(0:Int)<2 ^ (k.bits-1):=by exact_mod_cast Nat.two_pow_pos _
    omega
   .exact h6) (by
   unfold IntKind.max
   have:(2:Int) ^ (k.bits-1)<=2 ^ k.bits:=by exact_mod_cast lQa (by decide) Ab
   split <;> omega)
 unfold ZO at h9
 exact h9
theorem afQ (k:IntKind) (a b:Nat) (n:Nat) (ha:a<2 ^ n) (hb:2 ^ n ∣ b) (hk:(a:Int)+b<=k.max):RW k a b=a+b:=by
 unfold RW
 have amN:k.max<2 ^ k.bits:=by cases k <;> decide
 have ea:(BitVec.ofInt k.bits (a:Int)).toNat=a:=by grind
 have eb:(BitVec.ofInt k.bits (b:Int)).toNat=b:=by grind
 obtain ⟨c,rfl⟩:=hb
 rw [BitVec.toNat_or,ea,eb,Nat.or_comm,<-Nat.two_pow_add_eq_or_of_lt ha]
 have:=UC (k:=k) (n:=((2 ^ n * c+a:Nat):Int)) (by
  have:k.min<=0:=by cases k <;> decide
  omega) Ab
 unfold ZO at this
 rw [this]
 omega
theorem afR (k:IntKind) (x:Int) (n:Nat) (hn:n<=k.bits):Wi k x n=ZO k (x * 2 ^ n):=by grind [Wi,ZO]
theorem LJ (k:IntKind) (x:Int):TH k x 127=x % 128:=aaA k x 7 (by cases k <;> decide)
theorem XD (k:IntKind) (n:Int):k.min<=ZO k n/\ZO k n<=k.max:=by
 unfold ZO
 cases k <;> simp [IntKind.wrap,IntKind.min,IntKind.max,IntKind.bits,IntKind.signed] <;> omega
end Y4
namespace X4
open Go Y4
def W6 (n:Nat):List UInt8:=if h:n<128 then [UInt8.ofNat n] else UInt8.ofNat (n % 128+128)::W6 (n / 128)
termination_by n
decreasing_by omega
def Ve (n:Int):List UInt8:=if h:-64<=n/\n<64 then [UInt8.ofNat (n % 128).toNat] else UInt8.ofNat ((n % 128).toNat+128)::Ve (n / 128)
termination_by n.natAbs
decreasing_by omega
theorem Qk {n:Nat} (h:n<128):W6 n=[UInt8.ofNat n]:=by rw [W6,dif_pos h]
theorem Qj {n:Nat} (h:128<=n):W6 n=UInt8.ofNat (n % 128+128)::W6 (n / 128):=by rw [W6,dif_neg Ab]
theorem Su {n:Int} (h:-64<=n/\n<64):Ve n=[UInt8.ofNat (n % 128).toNat]:=by rw [Ve,dif_pos h]
theorem RR {n:Int} (h:¬(-64<=n/\n<64)):Ve n=UInt8.ofNat ((n % 128).toNat+128)::Ve (n / 128):=by rw [Ve,dif_neg h]
theorem ad3 (n:Nat):0<(W6 n).length:=by grind [Qk,Qj]
theorem ad4 (n:Int):0<(Ve n).length:=by grind [Su,RR]
theorem NJ (k:Nat):∀n,n<128 ^ (k+1)->(W6 n).length<=k+1:=by
 induction k with
 | zero=>intro n h;rw [Qk Ab];simp
 | succ k ih =>
  intro n h
  by_cases h1:n<128
  .grind
  .grind [Qj,List.length_cons,Nat.pow_succ]
theorem NI (k:Nat):∀n:Int,-(64 * 128 ^ k:Nat)<=n->n<(64 * 128 ^ k:Nat)->(Ve n).length<=k+1:=by
 induction k with
 | zero=>intro n h h';rw [Su Ab];simp
 | succ k ih =>
  intro n h h'
  by_cases h1:-64<=n/\n<64
  .grind
  .rw [RR h1,lka]
   have e:64 * 128 ^ (k+1)=128 * (64 * 128 ^ k):=by omega
   rw [e] at h h'
   have:=ih (n / 128) Ab Ab
   omega
theorem VX {n:Nat} (h:n<256):(UInt8.ofNat n).toNat=n:=by grind [UInt8.toNat_ofNat']
def JJ (bits:Nat):List UInt8->Nat->Nat->Nat × Nat × Nat
 | [],_,_=>(0,0,3)
 | c::r,i,acc =>
  if bits<7 * i+7/\c.toNat / 2 ^ (bits-7 * i)≠0 then (0,0,4)
  else if c.toNat<128 then (acc+c.toNat % 128 * 2 ^ (7 * i),i+1,0)
  else JJ bits r (i+1) (acc+c.toNat % 128 * 2 ^ (7 * i))
def MD (c:Nat):Int:=if c % 128<64 then (c % 128:Nat) else (c % 128:Nat)-128
def F6 (bits i c:Nat):Prop:=bits<7 * i+7/\(128<=c\/MD c < -((2 ^ (bits-7 * i-1):Nat):Int)\/((2 ^ (bits-7 * i-1):Nat):Int)<=MD c)
instance (bits i c:Nat):Decidable (F6 bits i c):=by unfold F6;exact inferInstance
def LI (bits:Nat):List UInt8->Nat->Nat->Int × Nat × Nat
 | [],_,_=>(0,0,3)
 | c::r,i,acc =>
  if F6 bits i c.toNat then (0,0,4)
  else if c.toNat<128 then (acc+MD c.toNat * (2 ^ (7 * i):Nat),i+1,0)
  else LI bits r (i+1) (acc+c.toNat % 128 * 2 ^ (7 * i))
theorem Ub (i:Nat):2 ^ (7 * (i+1))=128 * 2 ^ (7 * i):=by grind
theorem ad5 (bits:Nat) (more:List UInt8):∀(m i acc:Nat),7 * i<bits->m<2 ^ (bits-7 * i) ->
  JJ bits (W6 m++more) i acc=(acc+m * 2 ^ (7 * i),i+(W6 m).length,0):=by
 intro m
 induction m using Nat.strongRecOn with
 | _ m ih =>
  intro i acc hi hm
  by_cases h:m<128
  .rw [Qk h,List.singleton_append,JJ,VX Ab,if_neg,if_pos h,Nat.mod_eq_of_lt h]
   .rfl
   .rintro ⟨_,h2⟩;exact h2 (Nat.div_eq_of_lt hm)
  .have h8:7 * i+8<=bits:=by
    rcases lAa bits (7 * i+8) with hl|hl
    .have:(2:Nat) ^ (bits-7 * i)<=2 ^ 7:=lQa (by decide) Ab
     omega
    .omega
   rw [Qj Ab,lGa,JJ,VX Ab,if_neg Ab,if_neg Ab]
   have e1:(m % 128+128) % 128=m % 128:=by omega
   rw [e1,ih (m / 128) Ab (i+1) _ Ab]
   .rw [Ub,lka]
    have e2:m % 128 * 2 ^ (7 * i)+m / 128 * (128 * 2 ^ (7 * i))=m * 2 ^ (7 * i):=by
     rw [<-Nat.mul_assoc,<-lDb];congr 1;omega
    refine Prod.ext Ab (Prod.ext ?_ rfl)
    .grind
   .have e3:2 ^ (bits-7 * i)=128 * 2 ^ (bits-7 * (i+1)):=by
     have:bits-7 * i=7+(bits-7 * (i+1)):=by omega
     rw [this,Nat.pow_add]
    rw [e3] at hm
    omega
theorem afS (bits:Nat):∀(m i acc j:Nat),7 * i<bits->m<2 ^ (bits-7 * i)->j<(W6 m).length->JJ bits ((W6 m).take j) i acc=(0,0,3):=by
 intro m
 induction m using Nat.strongRecOn with
 | _ m ih =>
  intro i acc j hi hm hj
  by_cases h:m<128
  .rw [Qk h] at hj ⊢
   have:j=0:=by grind
   subst this;rfl
  .have h8:7 * i+8<=bits:=by
    rcases lAa bits (7 * i+8) with hl|hl
    .have:(2:Nat) ^ (bits-7 * i)<=2 ^ 7:=lQa (by decide) Ab
     omega
    .omega
   rw [Qj Ab] at hj ⊢
   cases j with
   | zero=>rfl
   | succ j =>
    rw [List.take_succ_cons,JJ,VX Ab,if_neg Ab,if_neg Ab]
    have e3:2 ^ (bits-7 * i)=128 * 2 ^ (bits-7 * (i+1)):=by
     have:bits-7 * i=7+(bits-7 * (i+1)):=by omega
     rw [this,Nat.pow_add]
    exact ih (m / 128) Ab (i+1) _ j Ab Ab (by grind)
theorem adl (bits:Nat):∀(s:List UInt8) (i acc n k:Nat),acc<2 ^ (7 * i)->JJ bits s i acc=(n,k,0)->n<2 ^ (7 * k)/\i<k/\k<=i+s.length:=by
 intro s
 induction s with
 | nil=>intro i acc n k _ h;simp [JJ] at h
 | cons c r ih =>
  intro i acc n k ha h
  have hb:acc+c.toNat % 128 * 2 ^ (7 * i)<2 ^ (7 * (i+1)):=by
   rw [Ub]
   have h2:(c.toNat % 128+1) * 2 ^ (7 * i)<=128 * 2 ^ (7 * i):=lza _ Ab
   rw [lDb] at h2
   omega
  rw [JJ] at h
  split at h
  .grind
  .split at h
   .grind
   .obtain ⟨h1,h2,h3⟩:=ih (i+1) _ n k hb h
    exact ⟨h1,by omega,by simp;omega⟩
theorem ab8 {n k:Nat} (h:n<2 ^ (7 * k)) (hk:0<k):(W6 n).length<=k:=by
 obtain ⟨j,rfl⟩:∃j,k=j+1:=⟨k-1,by omega⟩
 exact NJ j n (by grind [Nat.pow_mul])
theorem ad6 (m:Int) (h:-64<=m/\m<64):MD (m % 128).toNat=m:=by grind [MD]
theorem abb (bits:Nat) (more:List UInt8):∀(k:Nat) (m:Int) (i acc:Nat),m.natAbs<=k->7 * i<bits->-((2 ^ (bits-7 * i-1):Nat):Int)<=m->m<((2 ^ (bits-7 * i-1):Nat):Int) ->
  LI bits (Ve m++more) i acc=(acc+m * (2 ^ (7 * i):Nat),i+(Ve m).length,0):=by
 intro k
 induction k with
 | zero =>
  intro m i acc hk hi h1 h2
  have:m=0:=by omega
  subst this
  rw [Su Ab,List.singleton_append,LI]
  have e:(UInt8.ofNat ((0:Int) % 128).toNat).toNat=0:=rfl
  have hp:=Nat.two_pow_pos (bits-7 * i-1)
  rw [e,if_neg (by unfold F6;rw [show MD 0=0 from rfl];omega),if_pos Ab]
  simp [MD]
 | succ k ih =>
  intro m i acc hk hi h1 h2
  by_cases h:-64<=m/\m<64
  .rw [Su h,List.singleton_append,LI,VX Ab,ad6 m h,if_neg,if_pos Ab]
   .rfl
   .rintro ⟨_,h'|h'⟩
    .omega
    .grind [ad6]
  .have h8:7 * i+7<bits:=by
    rcases lAa (7 * i+7) bits with hl|hl
    .omega
    .have:(2:Nat) ^ (bits-7 * i-1)<=2 ^ 6:=lQa (by decide) Ab
     omega
   rw [RR h,lGa,LI,VX Ab,if_neg (by rintro ⟨h,_⟩;omega),if_neg Ab]
   have e3:2 ^ (bits-7 * i-1)=128 * 2 ^ (bits-7 * (i+1)-1):=by
    have:bits-7 * i-1=7+(bits-7 * (i+1)-1):=by omega
    rw [this,Nat.pow_add]
   rw [e3] at h1 h2
   rw [ih (m / 128) (i+1) _ Ab Ab Ab Ab]
   have e1:((m % 128).toNat+128) % 128=(m % 128).toNat:=by omega
   rw [e1,Ub,lka]
   refine Prod.ext ?_ (Prod.ext ?_ rfl)
   .grind
   .grind
theorem acA (bits:Nat):∀(k:Nat) (m:Int) (i acc j:Nat),m.natAbs<=k->7 * i<bits->-((2 ^ (bits-7 * i-1):Nat):Int)<=m->m<((2 ^ (bits-7 * i-1):Nat):Int)->j<(Ve m).length ->
  LI bits ((Ve m).take j) i acc=(0,0,3):=by
 intro k
 induction k with
 | zero =>
  intro m i acc j hk hi h1 h2 hj
  have:m=0:=by omega
  subst this
  rw [Su Ab] at hj ⊢
  have:j=0:=by grind
  subst this;rfl
 | succ k ih =>
  intro m i acc j hk hi h1 h2 hj
  by_cases h:-64<=m/\m<64
  .rw [Su h] at hj ⊢
   have:j=0:=by grind
   subst this;rfl
  .have h8:7 * i+7<bits:=by
    rcases lAa (7 * i+7) bits with hl|hl
    .omega
    .have:(2:Nat) ^ (bits-7 * i-1)<=2 ^ 6:=lQa (by decide) Ab
     omega
   rw [RR h] at hj ⊢
   cases j with
   | zero=>rfl
   | succ j =>
    have e3:2 ^ (bits-7 * i-1)=128 * 2 ^ (bits-7 * (i+1)-1):=by
     have:bits-7 * i-1=7+(bits-7 * (i+1)-1):=by omega
     rw [this,Nat.pow_add]
    rw [e3] at h1 h2
    rw [List.take_succ_cons,LI,VX Ab,if_neg (by rintro ⟨h,_⟩;omega),if_neg Ab]
    exact ih (m / 128) (i+1) _ j Ab Ab Ab Ab (by grind)
theorem adm (bits:Nat):∀(s:List UInt8) (i acc:Nat) (n:Int) (k:Nat),acc<2 ^ (7 * i)->LI bits s i acc=(n,k,0) ->
  -((64 * 2 ^ (7 * (k-1)):Nat):Int)<=n/\n<((64 * 2 ^ (7 * (k-1)):Nat):Int)/\i<k/\k<=i+s.length:=by
 intro s
 induction s with
 | nil=>intro i acc n k _ h;simp [LI] at h
 | cons c r ih =>
  intro i acc n k ha h
  rw [LI] at h
  split at h
  .grind
  .split at h
   .simp only [Prod.mk.injEq] at h
    obtain ⟨rfl,rfl,_⟩:=h
    have hs:-64<=MD c.toNat/\MD c.toNat<=63:=by grind [MD]
    rw [lvb]
    generalize 2 ^ (7 * i)=p at *
    have a1:-64 * (p:Int)<=MD c.toNat * p:=lPb hs.1 Ab
    have a2:MD c.toNat * (p:Int)<=63 * p:=lPb hs.2 Ab
    refine ⟨?_,?_,by omega,by simp⟩ <;> push_cast <;> omega
   .have hb:acc+c.toNat % 128 * 2 ^ (7 * i)<2 ^ (7 * (i+1)):=by
     rw [Ub]
     have h2:(c.toNat % 128+1) * 2 ^ (7 * i)<=128 * 2 ^ (7 * i):=lza _ Ab
     rw [lDb] at h2
     omega
    obtain ⟨h1,h2,h3,h4⟩:=ih (i+1) _ n k hb h
    exact ⟨h1,h2,by omega,by simp;omega⟩
theorem ahW (bits:Nat):∀(s:List UInt8) (i acc:Nat),7 * i<bits->bits=32\/bits=64->acc<2 ^ (7 * i)->(JJ bits s i acc).1<2 ^ bits:=by
 intro s
 induction s with
 | nil=>intro i acc _ _ _;exact Nat.two_pow_pos _
 | cons c r ih =>
  intro i acc hi hb ha
  rw [JJ]
  split
  .grind
  .rename_i hno
   have e:(2:Nat) ^ bits=2 ^ (bits-7 * i) * 2 ^ (7 * i):=by rw [<-Nat.pow_add];congr 1;omega
   have h1:c.toNat % 128<2 ^ (bits-7 * i):=by
    by_cases h:bits<7 * i+7
    .grind
    .have:(2:Nat) ^ 7<=2 ^ (bits-7 * i):=lQa (by decide) Ab
     omega
   have h2:(c.toNat % 128+1) * 2 ^ (7 * i)<=2 ^ (bits-7 * i) * 2 ^ (7 * i):=lza _ h1
   split
   .grind
   .rename_i hc
    have h7:7 * (i+1)<bits:=by grind
    refine ih (i+1) _ h7 hb ?_
    rw [Ub]
    have h2:(c.toNat % 128+1) * 2 ^ (7 * i)<=128 * 2 ^ (7 * i):=lza _ Ab
    rw [lDb] at h2
    omega
theorem ahX (bits:Nat):∀(s:List UInt8) (i acc:Nat),7 * i<bits->bits=32\/bits=64->acc<2 ^ (7 * i) ->
  -((2 ^ (bits-1):Nat):Int)<=(LI bits s i acc).1/\(LI bits s i acc).1<((2 ^ (bits-1):Nat):Int):=by
 intro s
 have hz:=Nat.two_pow_pos (bits-1)
 induction s with
 | nil=>intro i acc _ _ _;exact ⟨by show _<=(0:Int);omega,by show (0:Int)<_;omega⟩
 | cons c r ih =>
  intro i acc hi hb ha
  rw [LI]
  split
  .omega
  .rename_i hno
   have e:(2:Nat) ^ (bits-1)=2 ^ (bits-7 * i-1) * 2 ^ (7 * i):=by rw [<-Nat.pow_add];congr 1;omega
   have hs:-64<=MD c.toNat/\MD c.toNat<=63:=by grind [MD]
   split
   .have h1:-((2 ^ (bits-7 * i-1):Nat):Int)<=MD c.toNat/\MD c.toNat+1<=((2 ^ (bits-7 * i-1):Nat):Int):=by
     by_cases h:bits<7 * i+7
     .constructor
      .apply Decidable.byContradiction;intro hh;exact hno ⟨h,.inr (.inl Ab)⟩
      .apply Decidable.byContradiction;intro hh;exact hno ⟨h,.inr (.inr Ab)⟩
     .have:(2:Nat) ^ 6<=2 ^ (bits-7 * i-1):=lQa (by decide) Ab
      omega
    rw [e]
    generalize 2 ^ (bits-7 * i-1)=M at *
    generalize 2 ^ (7 * i)=p at *
    have a1:-(M:Int) * p<=MD c.toNat * p:=lPb h1.1 Ab
    have a2:(MD c.toNat+1) * p<=(M:Int) * p:=lPb h1.2 Ab
    rw [Int.neg_mul] at a1
    rw [Int.add_mul,Int.one_mul] at a2
    rw [Int.natCast_mul]
    show _<=(acc:Int)+MD c.toNat * p/\(acc:Int)+MD c.toNat * p<_
    omega
   .rename_i hc
    have h7:7 * (i+1)<bits:=by
     by_cases h:bits<7 * i+7
     .exact absurd ⟨h,.inl Ab⟩ hno
     .omega
    refine ih (i+1) _ h7 hb ?_
    rw [Ub]
    have h2:(c.toNat % 128+1) * 2 ^ (7 * i)<=128 * 2 ^ (7 * i):=lza _ Ab
    rw [lDb] at h2
    omega
theorem ab9 {n:Int} {k:Nat} (h1:-((64 * 2 ^ (7 * (k-1)):Nat):Int)<=n) (h2:n<((64 * 2 ^ (7 * (k-1)):Nat):Int)) (hk:0<k):(Ve n).length<=k:=by
 obtain ⟨j,rfl⟩:∃j,k=j+1:=⟨k-1,by omega⟩
 rw [lvb,Nat.pow_mul] at h1 h2
 exact NI j n h1 h2
theorem ajP (m:Int) (more:List UInt8) (h:-9223372036854775808<=m/\m<=9223372036854775807):LI 64 (Ve m++more) 0 0=(m,(Ve m).length,0):=by
 have h1:=abb 64 more m.natAbs m 0 0 (lna _) (by decide) Ab Ab
 rw [h1];simp
theorem ajQ (m:Int) (more:List UInt8) (h:-2147483648<=m/\m<=2147483647):LI 32 (Ve m++more) 0 0=(m,(Ve m).length,0):=by
 have h1:=abb 32 more m.natAbs m 0 0 (lna _) (by decide) Ab Ab
 rw [h1];simp
theorem ajR (m:Nat) (more:List UInt8) (h:m<2 ^ 32):JJ 32 (W6 m++more) 0 0=(m,(W6 m).length,0):=by
 have h1:=ad5 32 more m 0 0 (by decide) Ab
 rw [h1];simp
end X4
namespace Y4
open Go Go.RowKit
def Still (w w':World):Prop:=∃d,w'={ w with drawn:=d }
theorem Still.refl (w:World):Still w w:=⟨w.drawn,rfl⟩
theorem Still.trans {a b c:World} (h:Still a b) (k:Still b c):Still a c:=by
 obtain ⟨d,rfl⟩:=h;obtain ⟨e,rfl⟩:=k;exact ⟨e,rfl⟩
theorem Still.drew (w:World):Still w w.drew:=⟨w.drawn+1,rfl⟩
theorem Still.heap {w w':World} (h:Still w w'):w'.heap=w.heap:=by obtain ⟨d,rfl⟩:=h;rfl
theorem Still.below {w w':World} (h:Still w w') (B:Nat):Below B w w':=by obtain ⟨d,rfl⟩:=h;exact ⟨rfl,rfl,rfl,lna _,fun _ _=>rfl⟩
inductive Ol (P:Program) (S:World->Prop) (m:Sem Value) (K:Value->Prop):Prop
 | mk (v:Value) (h:∀w,S w->m.run P w=.ok v w) (k:K v)
theorem Ol.of {P:Program} {S:World->Prop} {m:Sem Value} {K:Value->Prop} (v:Value) (h:∀w,S w->Ze P m w (fun u w'=>v=u/\w=w')) (k:K v):Ol P S m K :=
 ⟨v,fun w hS=>(by obtain ⟨u,w',hm,rfl,rfl⟩:=h w hS;exact hm),k⟩
theorem tk {P:Program} {S:World->Prop} {m:Sem Value} {K:Value->Prop} {v:Value} (h:∀w,S w->Ze P m w (fun u w'=>v=u/\w=w')) (k:K v):Ol P S m K:=Ol.of v h k
def Eo (P:Program) (S:World->Prop) (op:BinOp) (t:TypeId) (x y:Operand) (a b:Value) (K:Value->Prop):Prop :=
 match a with
 | .int k a=>match b with
  | .int k' b=>match op with
   | .shl=>YD b (WU (Wi k a b) fun n=>K (.int k n))
   | .shr=>YD b (WU (W3 k a b) fun n=>K (.int k n))
   | op=>match Bg k k' with
    | true=>Sw op k a b K
    | false=>False
  | b=>Ol P S (do eqGuard op t x y (.int k a) b;binOp op t (.int k a) b) K
 | a=>Ol P S (do eqGuard op t x y a b;binOp op t a b) K
def unT (P:Program) (S:World->Prop) (op:UnOp) (a:Value) (K:Value->Prop):Prop :=
 match op with
 | .not=>match a with
  | .bool b=>K (.bool (!b))
  | _=>False
 | .neg=>match a with
  | .int k n=>WU (ZO k (0-n)) fun m=>K (.int k m)
  | _=>False
 | op=>Ol P S (Op.unary op a) K
def ajS (v:Value) (K:Value->Prop):Prop :=
 match v with
 | .pointer p=>match p with
  | some a=>K (.pointer (some a))
  | none=>False
 | .func fn a b=>match fn with
  | .func f=>K (.func (.func f) a b)
  | _=>False
 | .iface t x=>K (.iface t x)
 | _=>False
def ajT (v:Value) (i:Nat) (K:Value->Prop):Prop :=
 match v with
 | .tuple vs=>Ks vs.toList i K
 | _=>False
def HU (P:Program) (S:World->Prop) (o:Oper) (ρ:List Value) (K:Value->Prop):Prop :=
 match o.op with
 | .move x=>VQ ρ x K
 | .assign x=>VQ ρ x K
 | .pick c a b=>VQ ρ c fun c=>match c with
  | .bool c=>NR c fun c=>match c with
   | true=>VQ ρ a K
   | false=>VQ ρ b K
  | _=>False
 | .build t parts=>Pg ρ parts.toList fun vs=>Ol P S (Instr.build t vs.toArray) K
 | .load t x=>VQ ρ x fun a=>Ol P S (Instr.loadAt t a) K
 | .nilCheck x=>VQ ρ x fun v=>ajS v K
 | .binOp op t x y _=>VQ ρ x fun a=>VQ ρ y fun b=>Eo P S op t x y a b K
 | .unOp op _ x=>VQ ρ x fun a=>unT P S op a K
 | .convert s d x=>VQ ρ x fun a=>Ol P S (convert s d a) K
 | .makeInterface t x=>VQ ρ x fun a=>Ol P S (Instr.makeInterface t a) K
 | .makeFunc fn first captured=>Uf ρ first.toList fun fs=>Uf ρ captured.toList fun cs=>K (.func fn fs.toArray cs.toArray)
 | .slice t x lo hi mx=>VQ ρ x fun a=>LW ρ lo fun lo=>LW ρ hi fun hi=>LW ρ mx fun mx=>Ol P S (Instr.sliceAt t a lo hi mx) K
 | .fieldAddr t x f=>VQ ρ x fun a=>Ol P S (Instr.fieldAt t a f) K
 | .field t x f=>VQ ρ x fun a=>Ol P S (Instr.field t a f) K
 | .indexAddr t x i=>VQ ρ x fun a=>VQ ρ i fun i=>Ol P S (Instr.indexAt t a i) K
 | .index t x i=>VQ ρ x fun a=>VQ ρ i fun i=>Ol P S (Instr.index t a i) K
 | .extract x i=>VQ ρ x fun v=>ajT v i K
 | .typeAssert x t u ok=>VQ ρ x fun a=>Ol P S (Instr.typeAssert a t u ok) K
 | .call c=>match c.callee with
  | .builtin .len=>Uf ρ c.args.toList fun vs=>Ol P S (Builtin.len_ c.argTypes o.type vs.toArray) K
  | .builtin .max=>Uf ρ c.args.toList fun vs=>Ol P S (Builtin.max_ c.argTypes o.type vs.toArray) K
  | .builtin .min=>Uf ρ c.args.toList fun vs=>Ol P S (Builtin.min_ c.argTypes o.type vs.toArray) K
  | _=>False
 | .lookup t x i ok=>VQ ρ x fun a=>VQ ρ i fun i=>Ol P S (Instr.lookup t a i ok) K
 | _=>False
section
variable {P:Program} {S:World->Prop}
theorem WD {o:Oper} {ρ:List Value} {m:Sem Value} {K:Value->Prop} (he:execOp (ev ρ) o=(do pure (.value (<-m)))) (h:Ol P S m K) :
  ∃v,(∀w,S w->(execOp (ev ρ) o).run P w=.ok (.value v) w)/\K v:=by
 obtain ⟨v,hm,k⟩:=h
 exact ⟨v,fun w hS=>by simp only [he,Sem.run_bind,hm w hS,Result.andThen_ok,Sem.run_pure],k⟩
theorem afT {op:BinOp} {k:IntKind} {t:TypeId} {x y:Operand} {a b:Int} {K:Value->Prop} (amE:op≠.shl) (amF:op≠.shr) (h:Sw op k a b K) :
  ∃v,(∀w,(do eqGuard op t x y (.int k a) (.int k b);binOp op t (.int k a) (.int k b):Sem Value).run P w=.ok v w)/\K v:=by
 have hg:∀w,(eqGuard op t x y (.int k a) (.int k b)).run P w=.ok () w:=fun w=>by simp [eqGuard]
 cases op <;> simp only [Sw] at h <;> first
  | (obtain ⟨hb,_,rfl,h⟩:=h;refine ⟨_,fun w=>?_,h⟩;simp only [Sem.run_bind,hg,Result.andThen_ok];simp [binOp,Op.intDiv,hb,Tq,SC];done)
  | (obtain ⟨_,rfl,h⟩:=h;refine ⟨_,fun w=>?_,h⟩;simp only [Sem.run_bind,hg,Result.andThen_ok];simp [binOp,Op.intArith,Op.intBits,Op.intCmp,ZO,TH,RW,QK,Rq,Sz,Sy,SB,SA];done)
  | (refine ⟨_,fun w=>?_,h⟩;simp only [Sem.run_bind,hg,Result.andThen_ok];simp [binOp,Op.intArith,Op.intBits,Op.intCmp,ZO,TH,RW,QK,Rq,Sz,Sy,SB,SA];done)
  | contradiction
  | exact h.elim
theorem acd {op:BinOp} {t:TypeId} {x y:Operand} {a b:Value} {K:Value->Prop} (h:Eo P S op t x y a b K):Ol P S (do eqGuard op t x y a b;binOp op t a b) K:=by
 unfold Eo at h
 split at h
 .split at h
  .split at h
   .obtain ⟨hb,_,rfl,h⟩:=h
    refine ⟨_,fun w _=>?_,h⟩
    simp only [eqGuard,Sem.run_bind];simp [binOp,Op.shift,Wi,Int.not_lt.2 hb]
   .obtain ⟨hb,_,rfl,h⟩:=h
    refine ⟨_,fun w _=>?_,h⟩
    simp only [eqGuard,Sem.run_bind];simp [binOp,Op.shift,W3,Int.not_lt.2 hb]
   .rename_i QX hk2
    split at h
    .rename_i hk
     obtain rfl:=adO hk
     obtain ⟨v,h1,h2⟩:=afT (P:=P) (t:=t) (x:=x) (y:=y) (fun e=>QX e) (fun e=>hk2 e) h
     exact ⟨v,fun w _=>h1 w,h2⟩
    .exact h.elim
  .exact h
 .exact h
theorem SY {o:Oper} {ρ:List Value} {K:Value->Prop} (h:HU P S o ρ K):∃v,(∀w,S w->(execOp (ev ρ) o).run P w=.ok (.value v) w)/\K v:=by
 unfold HU at h
 simp only [Ts,Og,Pe,LV,Ta] at h
 split at h
 case h_1 x ho=>exact ⟨_,fun w _=>by unfold execOp;rw [ho];rfl,h⟩
 case h_2 x ho=>exact ⟨_,fun w _=>by unfold execOp;rw [ho];rfl,h⟩
 case h_3 c a b ho =>
  split at h
  .rename_i cb hc
   split at h
   .exact ⟨_,fun w _=>by unfold execOp;rw [ho];simp [hc,asBool],h⟩
   .exact ⟨_,fun w _=>by unfold execOp;rw [ho];simp [hc,asBool],h⟩
  .grind
 case h_4 t ps ho =>
  exact WD (m:=Instr.build t ((ps.toList.map fun (i,x)=>(i,ev ρ x)).toArray)) (by unfold execOp;rw [ho];simp [<-Array.toList_map]) h
 case h_5 t x ho=>exact WD (by grind [execOp]) h
 case h_6 x ho =>
  unfold ajS at h
  split at h
  .rename_i p hp
   split at h
   .exact ⟨_,fun w _=>by unfold execOp;rw [ho];simp only [hp];rfl,h⟩
   .grind
  .rename_i fn a b hp
   split at h
   .exact ⟨_,fun w _=>by unfold execOp;rw [ho];simp only [hp];rfl,h⟩
   .grind
  .rename_i t v hp
   exact ⟨_,fun w _=>by unfold execOp;rw [ho];simp only [hp];rfl,h⟩
  .grind
 case h_7 op t x y yt ho=>exact WD (by grind [execOp]) (acd h)
 case h_8 op t x ho =>
  unfold unT at h
  split at h
  .split at h
   .rename_i b hb
    exact ⟨_,fun w _=>by unfold execOp;rw [ho];simp [hb,Op.unary],h⟩
   .grind
  .split at h
   .rename_i k n hb
    obtain ⟨_,rfl,h⟩:=h
    exact ⟨_,fun w _=>by unfold execOp;rw [ho];simp [hb,Op.unary,Op.intArith,ZO],h⟩
   .grind
  .exact WD (by grind [execOp]) h
 case h_9 s d x ho=>exact WD (by grind [execOp]) h
 case h_10 t x ho=>exact WD (by grind [execOp]) h
 case h_11 fn fs cs ho =>
  exact ⟨_,fun w _=>by unfold execOp;rw [ho];simp [Instr.makeFunc,<-Array.toList_map],h⟩
 case h_12 t x lo hi mx ho=>exact WD (by grind [execOp]) h
 case h_13 t x f ho=>exact WD (by grind [execOp]) h
 case h_14 t x f ho=>exact WD (by grind [execOp]) h
 case h_15 t x i ho=>exact WD (by grind [execOp]) h
 case h_16 t x i ho=>exact WD (by grind [execOp]) h
 case h_17 x i ho =>
  unfold ajT at h
  split at h
  .rename_i vs hv
   obtain ⟨u,hu,h⟩:=Oe h
   refine ⟨u,fun w _=>?_,h⟩
   unfold execOp;rw [ho]
   simp only [Array.getElem?_toList] at hu
   simp [hv,Instr.extract,hu]
  .grind
 case h_18 x t u ok ho=>exact WD (by grind [execOp]) h
 case h_19 c ho =>
  have hargs:∀(xs:Array Operand),(xs.toList.map (ev ρ)).toArray=xs.map (ev ρ):=fun xs=>by simp [<-Array.toList_map]
  split at h
  .rename_i hc
   exact WD (m:=Builtin.len_ c.argTypes o.type (c.args.map (ev ρ))) k_u k_r
  .rename_i hc
   exact WD (m:=Builtin.max_ c.argTypes o.type (c.args.map (ev ρ))) k_u k_r
  .rename_i hc
   exact WD (m:=Builtin.min_ c.argTypes o.type (c.args.map (ev ρ))) k_u k_r
  .grind
 case h_20 t x i ok ho=>exact WD (by grind [execOp]) h
 case h_21=>exact h.elim
end
inductive Y3 (S:Prop) (K:Prop):Prop
 | mk (h:S) (k:K)
def Qi (P:Program) (ops:List Oper) (S:World->Prop) (K:List Value->World->Prop) (plan:List (Nat × Bool)):List Value->World->Prop :=
 List.rec (motive:=fun _=>List Value->World->Prop) K (fun i _ ih ρ w=>match ops[i.1]? with
  | none=>False
  | some o=>match i.2 with
   | true=>X3 ops o.guard ρ fun b ρ=>match b with
    | true=>HU P S o ρ fun v=>Xx ρ o.dst v fun ρ=>ih ρ w
    | false=>Xx ρ o.dst undef fun ρ=>ih ρ w
   | false=>X3 ops o.guard ρ fun b ρ=>match b with
    | true=>LU P o ρ w fun v w'=>Y3 (S w') (Xx ρ o.dst v fun ρ=>ih ρ w')
    | false=>Xx ρ o.dst undef fun ρ=>ih ρ w) plan
theorem ace (P:Program) (ops:List Oper) (S:World->Prop) (K:List Value->World->Prop) (i:Nat × Bool) (r:List (Nat × Bool)) (ρ:List Value) (w:World) :
  Qi P ops S K (i::r) ρ w=match ops[i.1]? with
  | none=>False
  | some o=>match i.2 with
   | true=>X3 ops o.guard ρ fun b ρ=>match b with
    | true=>HU P S o ρ fun v=>Xx ρ o.dst v fun ρ=>Qi P ops S K r ρ w
    | false=>Xx ρ o.dst undef fun ρ=>Qi P ops S K r ρ w
   | false=>X3 ops o.guard ρ fun b ρ=>match b with
    | true=>LU P o ρ w fun v w'=>Y3 (S w') (Xx ρ o.dst v fun ρ=>Qi P ops S K r ρ w')
    | false=>Xx ρ o.dst undef fun ρ=>Qi P ops S K r ρ w:=rfl
noncomputable def O7 (ops:Array Oper) (plan:List (Nat × Bool)):Array Bool->Bool :=
 List.rec (motive:=fun _=>Array Bool->Bool) (fun listed=>(Region.ready .any ops listed).isEmpty) (fun i _ ih listed=>match ops[i.1]? with
  | none=>false
  | some o=>(match i.2 with
   | true=>Region.free .any ops listed i.1 && (Region.ready .any ops listed).contains i.1
   | false=>Region.ready .any ops listed == [i.1]) && ih (listed.setIfInBounds i.1 true)) plan
theorem RQ (ops:Array Oper) (i:Nat × Bool) (r:List (Nat × Bool)) (listed:Array Bool):O7 ops (i::r) listed=match ops[i.1]? with
  | none=>false
  | some o=>(match i.2 with
   | true=>Region.free .any ops listed i.1 && (Region.ready .any ops listed).contains i.1
   | false=>Region.ready .any ops listed == [i.1]) && O7 ops r (listed.setIfInBounds i.1 true):=rfl
noncomputable def RP (ops:Array Oper) (plan:List (Nat × Bool)):Bool:=Region.noSelect ops && plan.length == ops.size && O7 ops plan (Array.replicate ops.size false)
theorem QH (ds:List Nat) (ρ:List Value):agree ds ρ ρ:=⟨rfl,fun _ _=>rfl⟩
theorem XH {ds:List Nat} {ρ0 ρ:List Value} (h:agree ds ρ0 ρ) {d:Option Nat} (hd:∀n,d=some n->n∈ds) (v:Value):agree ds ρ0 (put ρ d v):=by
 obtain ⟨h1,h2⟩:=h
 cases d with
 | none=>exact ⟨h1,h2⟩
 | some n =>
  refine ⟨by simp [put,h1],fun i hi=>?_⟩
  have:n≠i:=fun e=>hi (e ▸ hd n rfl)
  simp only [put]
  rw [List.getElem?_set_ne this]
  exact h2 i hi
section
variable {P:Program} {ops:Array Oper} {S:World->Prop} {K:List Value->World->Prop} {ρ0:List Value} {ds:List Deferred}
theorem abc (hs:Region.noSelect ops=true) (plan:List (Nat × Bool)):∀(fuel:Nat) (listed:Array Bool) (ρ:List Value) (w:World),plan.length<=fuel->O7 ops plan listed=true->S w->agree (Ys ops.toList) ρ0 ρ ->
  Qi P ops.toList S K plan ρ w->wpAnyH P .any ops (fun e a w'=>e=.normal/\a.defers=ds/\agree (Ys ops.toList) ρ0 a.tmps.toList/\K a.tmps.toList w') S fuel listed ⟨ρ.toArray,ds⟩ w:=by
 induction plan with
 | nil =>
  intro fuel listed ρ w _ hok hS hag h
  exact wpAnyH_done (List.isEmpty_iff.1 hok) ⟨rfl,rfl,hag,h⟩ fuel
 | cons ib r ih =>
  obtain ⟨i,ahY⟩:=ib
  intro fuel listed ρ w hfl hok hS hag h
  obtain ⟨f,rfl⟩:∃f,fuel=f+1:=⟨fuel-1,by simp at hfl;omega⟩
  have HB:r.length<=f:=by grind
  rw [RQ] at hok
  rw [ace] at h
  simp only [Array.getElem?_toList] at h
  cases ho:ops[i]? with
  | none=>rw [ho] at hok;cases hok
  | some o =>
   rw [ho] at hok h
   simp only [Bool.and_eq_true] at hok h
   have hmem:∀n,o.dst=some n->n∈Ys ops.toList:=fun n hn=>by grind [Ys]
   cases hT:ahY with
   | true =>
    rw [hT] at hok h
    simp only [Bool.and_eq_true] at hok
    obtain ⟨⟨hfree,Wh⟩,VB⟩:=hok
    obtain ⟨b,hb,h⟩:=XX h
    have key:∀v,YieldsIf P ops S o v ⟨ρ.toArray,ds⟩->Qi P ops.toList S K r (put ρ o.dst v) w->wpAnyH P .any ops (fun e a w'=>e=.normal/\a.defers=ds/\agree (Ys ops.toList) ρ0 a.tmps.toList/\K a.tmps.toList w') S (f+1) listed ⟨ρ.toArray,ds⟩ w:=fun v hy hk =>
     wpAnyH_take ho hs hfree Wh (fun c a w hq=>by cases hq.1) hy hS (by
      rw [put_eq]
      exact ih f _ _ w HB VB hS (XH hag hmem v) hk)
    cases b
    .simp only [X7] at h
     exact key undef (.inr ⟨hb,rfl⟩) h
    .obtain ⟨v,hv,hk⟩:=SY h
     rw [X7] at hk
     exact key v (.inl ⟨hb,fun w hS=>by rw [Yo];exact hv w hS⟩) hk
   | false =>
    rw [hT] at hok h
    simp only [beq_iff_eq] at hok
    obtain ⟨Wh,VB⟩:=hok
    obtain ⟨b,hb,h⟩:=XX h
    refine wpAnyH_all Wh zZ fun j hj=>?_
    obtain rfl:j=i:=by grind
    unfold wpOp
    rw [ho]
    simp only [hb]
    cases b
    .simp only [Bool.false_eq_true,if_false,X7] at h ⊢
     rw [put_eq]
     exact ⟨hS,ih f _ _ w HB VB hS (XH hag hmem _) h⟩
    .simp only [if_true] at h ⊢
     refine .inl (UP h fun v w' ⟨EX,hk⟩=>?_)
     rw [X7] at hk
     rw [put_eq]
     exact ⟨EX,ih f _ _ w' HB VB EX (XH hag hmem v) hk⟩
theorem draw {id:Nat} {w:World} (S:World->Prop) (plan:List (Nat × Bool)) (hm:P.follows .mixedOrders=true) (hc:RP ops plan=true)
  (h:∀w1,w1=w.drew->S w1/\Qi P ops.toList S K plan ρ0 w1):Ox P id ops K ρ0 w:=by
 simp only [RP,Bool.and_eq_true,beq_iff_eq] at hc
 obtain ⟨⟨h1,h2⟩,h3⟩:=hc
 obtain ⟨hS,hk⟩:=h _ rfl
 exact ⟨fun ds=>wp_region_held hm (abc h1 plan _ _ _ _ (Nat.le_of_eq h2) h3 hS (QH _ _) hk)⟩
end
end Y4
namespace Y4
open Go Go.RowKit
variable {P:Program} {w:World}
theorem O6 (vs:List Value):∀(cs:List Value) (o i:Nat),o+vs.length<=cs.length->(VY cs o vs)[i]?=if o<=i/\i<o+vs.length then vs[i-o]? else cs[i]?:=by
 induction vs with
 | nil=>intro cs o i h;rw [if_neg zZ];rfl
 | cons v vs ih =>
  intro cs o i h
  simp only [List.length_cons] at h ⊢
  rw [VY,ih _ _ _ (by grind)]
  by_cases h2:o=i
  .grind
  .grind
theorem UB (vs cs:List Value) (o:Nat) (h:o+vs.length<=cs.length):VY cs o vs=cs.take o++vs++cs.drop (o+vs.length):=by
 apply lFa
 intro i
 rw [O6 vs cs o i h,lha]
 have hl:(cs.take o).length=o:=by grind
 by_cases h1:i<o
 .grind
 .grind
theorem afU {t:TypeId} {e:TypeId} {b o:Nat} {cs vs:List Value} {K:World->Prop} (hb:RZ w b cs e) (hs:(P.info? t).map (·.size)=some vs.length) (ho':Nat.ble (o+vs.length) cs.length=true) (hv:vs.all (·.oneCell')=true)
  (k:NO cs o vs fun cs'=>∀w',KB w w' b->RZ w' b cs' e->K w'):IK P (Instr.storeAt t (.pointer (some ⟨b,o,none⟩)) (.agg vs.toArray)) w K:=by
 have ho:o+vs.length<=cs.length:=lbb ho'
 rw [S6,UB _ _ _ ho] at k
 cases hi:P.info? t with
 | none=>simp [hi] at hs
 | some i =>
  have hl:i.size=vs.length:=by grind
  have hst:=run_storeCells_at (P:=P) b o e vs 0 cs.toArray w hb Ab (fun v hm=>ltb.1 hv v hm)
  simp only [Nat.add_zero] at hst
  have F8:RZ (w.setRow b (cs.take o++vs++cs.drop (o+vs.length)).toArray) b (cs.take o++vs++cs.drop (o+vs.length)) e:=setRow_heap w b _ _ e (0,0) hb
  have hw:KB w (w.setRow b (cs.take o++vs++cs.drop (o+vs.length)).toArray) b:=by
   refine ⟨rfl,rfl,rfl,by simp [World.setRow],fun j hj=>?_⟩
   unfold World.setRow
   simp only [Array.getElem?_modify]
   rw [if_neg (fun h=>hj h.symm)]
  refine ⟨_,?_,k _ hw F8⟩
  simp [Instr.storeAt,Instr.sureAddr,storeVar,sizeOf,typeInfo,hi,hl,Value.cells,hst]
theorem bl {a b:Nat} (h:Nat.ble (a+1) b=true):a<b:=lbb h
section
variable {w0 w':World} {b b' o:Nat} {cs vs cs':List Value} {e e':TypeId}
end
theorem rdA {t:TypeId} {d:TypeDesc} {b o:Nat} {vs:List Value} {K:Value->Prop} (h:At w b o vs) (hu:P.underlying t=some d) (hd:NM d=true) (hs:(P.info? t).map (·.size)=some vs.length) (k:K (.agg vs.toArray)) :
  II P (loadVar t ⟨b,o,none⟩) w K:=by
 refine ⟨_,?_,k⟩
 cases hi:P.info? t with
 | none=>simp [hi] at hs
 | some i =>
  have hl:i.size=vs.length:=by grind
  have:=run_loadCells_list (P:=P) w ⟨b,o,none⟩ vs (fun j v hv=>by rw [Addr.add_lit];exact h.cell hv)
  simp [loadVar,S5 hu,hd,sizeOf,typeInfo,hi,hl,this]
def RE {α:Type} (en:α->List Value) (ok:α->Prop):Hv->List Value->α->Prop:=fun _ cs x=>cs=en x/\ok x
theorem RE.mono' {α:Type} (en:α->List Value) (ok:α->Prop):Ep (RE en ok):=fun _ _ _ _ _ h=>h
end Y4
namespace Y4
open Go Go.RowKit
variable {P:Program} {α:Type}
def O5 (lo:Nat) (w:World) (e:TypeId) (s:Nat) (en:α->List Value) (v:Value) (xs:List α):Prop:=w.ownsRow lo e s v xs.length (xs.flatMap en)/\∀x,(en x).length=s
theorem Yw {en:α->List Value} {s:Nat} (h:∀x,(en x).length=s) (xs:List α):(xs.flatMap en).length=xs.length * s:=by
 induction xs with
 | nil=>simp
 | cons x xs ih=>rw [lNa,lca,h,ih,lka,lhb];omega
theorem SX {en:α->List Value} {s:Nat} (h:∀x,(en x).length=s):∀(xs:List α) (i:Nat) (x:α),xs[i]?=some x->((xs.flatMap en).drop (i * s)).take s=en x:=by
 intro xs
 induction xs with
 | nil=>intro i x hx;simp at hx
 | cons y ys ih =>
  intro i x hx
  cases i with
  | zero =>
   obtain rfl:=Option.some.inj hx
   rw [lNa,Nat.zero_mul,lVa,lwa (by grind),lua (by grind)]
  | succ i =>
   rw [lNa,lhb,Nat.add_comm,<-lYa,lob (by grind),lxa (l:=en y) (by grind),lOa]
   exact ih i x (by grind)
theorem O5.nil (lo:Nat) (w:World) (e:TypeId) {s:Nat} {en:α->List Value} (h:∀x,(en x).length=s):O5 lo w e s en (.slice none 0 0) []:=⟨World.ownsRow_nil w lo e s,h⟩
structure Gr (w w':World) (v v':Value):Prop where
 g:w.grownBy w' v.ownBlock
 at_:v'.ownBlock=v.ownBlock\/v'.ownBlock=none\/∃k,v'.ownBlock=some k/\w.heap.size<=k
theorem aa0 {w:World} {lo:Nat} {t ty e:TypeId} {i:TypeInfo} {z:Value} {s:Nat} (ht:P.underlying t=some (.slice e)) (hi:P.info? e=some i) (hz:i.zero=some z) (hs:i.size=s) (hzs:z.cells.size=s)
  {v:Value} {n:Nat} {xs:List Value} (hown:w.ownsRow lo e s v n xs) {a:Addr} {m c:Nat} {news:List Value} (hl:news.length=m * s) (hnews:∀j u,news[j]?=some u->w.cell? (a.add j)=some u) (h1:∀u∈news,u.oneCell'=true)
  (h63:n+m<=maxLen) (hbytes:(n+m) * i.bytes<=140737488355328) {v':Value} {w':World} (hr:(Builtin.append_ #[t,t] ty #[v,.slice (some a) m c]).run P w=.ok v' w') :
  v'.ownBlock=v.ownBlock\/v'.ownBlock=none\/v'.ownBlock=some w.heap.size:=by
 subst hs
 have hsmall:n+m<=9223372036854775807:=by grind [maxLen]
 have done:∀{u:Value} {w2:World},(Builtin.append_ #[t,t] ty #[v,.slice (some a) m c]).run P w=.ok u w2->v'=u:=fun h=>by grind
 rcases hown.2 with ⟨rfl,rfl⟩|⟨g,cap,cur,rfl,BL,hg,hnc,QW,hcs,aoE⟩
 .by_cases hm:m=0
  .subst hm
   have hn:news=[]:=lma Ab
   subst hn
   have:(Builtin.append_ #[t,t] ty #[.slice none 0 0,.slice (some a) 0 c]).run P w=.ok (.slice none 0 0) w:=by
    simp [Builtin.append_,run_underlying ht,sizeOf,typeInfo,hi,Builtin.lenOf,Builtin.firstCells,loadCells,loadCellsFrom]
   rw [done this];exact .inl rfl
  .have EW:=run_append_nil (P:=P) w t ty e i z ht hi hz a m c news hl hnews Ab Ab (by grind)
   rw [done EW];exact .inr (.inr rfl)
 .by_cases hroom:n+m<=cap
  .have hfit:n * i.size+news.length<=cur.size:=by rw [hl,hcs,<-lDb];exact lza _ hroom
   have EW:=run_append_room (P:=P) w t ty e i ht hi g n cap cur hg a m c news hl hnews h1 hroom hfit
   rw [done EW];exact .inl rfl
  .have holds:∀j u,xs[j]?=some u->w.cell? ((⟨g,0,none⟩:Addr).add j)=some u:=hown.cells (g:=g) rfl
   have EW:=run_append_grow (P:=P) w t ty e i z ht hi hz ⟨g,0,none⟩ n cap xs hown.1 holds a m c news hl hnews Ab Ab (growslice_fits Ab hbytes)
   rw [done EW];exact .inr (.inr rfl)
theorem ajU {w:World} {K:Value->World->Prop} {lo:Nat} {t ty e:TypeId} {en:α->List Value} {s:Nat} {v:Value} {xs ys:List α} {m c b o:Nat} (z:Value) (Qh:Nat) (hown:O5 lo w e s en v xs) (T7:At w b o (ys.flatMap en)) (hm:ys.length=m)
  (h1:∀y∈ys,((en y).all (·.oneCell'))=true) (hu:P.underlying t=some (.slice e)) (hz:(P.info? e).map (fun i=>(i.zero,i.size,i.bytes))=some (some z,s,Qh)) (hzs:z.cells.size=s) (hsz:0<s)
  (hb:(xs.length+m) * Qh<=140737488355328) (hml:xs.length+m<=140737488355328) (hlo:lo<=w.heap.size)
  (k:∀v' w',O5 lo w' e s en v' (xs++ys)->Gr w w' v v'->K v' w'):Ze P (Builtin.append_ #[t,t] ty #[v,.slice (some ⟨b,o,none⟩) m c]) w K:=by
 cases hi:P.info? e with
 | none=>simp [hi] at hz
 | some i =>
  simp only [hi,Option.map_some,Option.some.injEq,Prod.mk.injEq] at hz
  obtain ⟨h2,h3,h4⟩:=hz
  subst hm
  have hc:∀j u,(ys.flatMap en)[j]?=some u->w.cell? ((⟨b,o,none⟩:Addr).add j)=some u:=fun j u hj=>by rw [Addr.add_lit];exact T7.cell hj
  have ho:∀u∈ys.flatMap en,u.oneCell'=true:=fun u hu=>by grind
  obtain ⟨v',w',hr,a1,a2,a3⟩:=run_append_own (P:=P) w lo t ty e i z s Qh hu hi h2 h3 h4 hzs hsz v xs.length (xs.flatMap en) hown.1 ⟨b,o,none⟩ ys.length c (ys.flatMap en) (Yw hown.2 ys) hc ho (by grind [maxLen]) hb hlo
  have MC:=aa0 hu hi h2 h3 hzs hown.1 (Yw hown.2 ys) hc ho (by grind [maxLen]) (by grind) hr
  refine ⟨v',w',hr,k v' w' ⟨by rw [lca,lPa];exact a1,hown.2⟩ ⟨a2,?_⟩⟩
  rcases MC with h|h|h
  .grind
  .grind
  .grind
theorem O5.keep {lo:Nat} {w w':World} {e:TypeId} {s:Nat} {en:α->List Value} {v:Value} {xs:List α} (h:O5 lo w e s en v xs) (hb:∀k,v.ownBlock=some k->w'.heap[k]?=w.heap[k]?):O5 lo w' e s en v xs:=⟨ad1 h.1 hb,h.2⟩
theorem O5.lt {lo:Nat} {w:World} {e:TypeId} {s:Nat} {en:α->List Value} {v:Value} {xs:List α} (h:O5 lo w e s en v xs) {k:Nat} (hk:v.ownBlock=some k):lo<=k/\k<w.heap.size:=h.1.lt k hk
theorem O5.mono {lo lo':Nat} {w:World} {e:TypeId} {s:Nat} {en:α->List Value} {v:Value} {xs:List α} (h:O5 lo w e s en v xs) (hl:lo'<=lo):O5 lo' w e s en v xs:=⟨ad2 h.1 hl,h.2⟩
section
variable {lo s:Nat} {w0 w w':World} {e e':TypeId} {en:α->List Value} {v v' u:Value} {xs:List α} {cs:List Value} {b:Nat}
def Dj (u v:Value):Prop:=∀k,u.ownBlock=some k->v.ownBlock≠some k
theorem Dj.symm (h:Dj u v):Dj v u:=fun k hk hu=>h k hu hk
theorem Dj.nil (v:Value):Dj (.slice none 0 0) v:=fun k hk=>by cases hk
theorem O5.rd {ok:α->Prop} (h:O5 lo w e s en v xs) (hok:∀x∈xs,ok x) (hs0:0<s):VZ (RE en ok) s (Rg w lo w.heap.size) v xs:=by
 rcases h.1.2 with ⟨rfl,h0⟩|⟨g,cap,cur,rfl,hlo,hg,hnc,QW,hcs,ht⟩
 .have:xs=[]:=lma h0
  subst this;exact VZ.nil _ _ _
 .refine ⟨_,cap,rfl,⟨hnc,by unfold maxLen at QW;omega⟩,nofun,fun _=>⟨g,0,xs.flatMap en,rfl,⟨cur,e,(0,0),⟨hlo,(lva.1 hg).1,hg⟩,fun i x hx=>?_⟩,Yw h.2 xs,fun i x hx=>⟨SX h.2 xs i x hx,hok x (lda hx)⟩⟩⟩
  rw [<-ht,lJa] at hx
  split at hx
  .grind
  .grind
theorem O5.VC (h:O5 lo w e s en v xs) (hne:xs≠[]):∃g cap cur,v=.slice (some ⟨g,0,none⟩) xs.length cap/\lo<=g/\RZ w g cur e/\cur.take (xs.length * s)=xs.flatMap en/\xs.length * s<=cur.length/\xs.length<=cap/\cap<=9223372036854775807/\cur.length=cap * s:=by
 rcases h.1.2 with ⟨rfl,h0⟩|⟨g,cap,cur,rfl,hlo,hg,hnc,QW,hcs,ht⟩
 .grind
 .have hle:xs.length * s<=cap * s:=lza _ hnc
  have R9:cur.toList.length=cap * s:=by omega
  exact ⟨g,cap,cur.toList,rfl,hlo,hg,ht,by rw [R9];exact hle,hnc,by unfold maxLen at QW;omega,R9⟩
theorem O5.ahZ {g cap:Nat} {cur:List Value} (hlo:lo<=g) (hb:RZ w g cur e) (ht:cur.take (xs.length * s)=xs.flatMap en) (hn:xs.length<=cap) (hc:cap<=9223372036854775807) (hl:cur.length=cap * s) (hs:∀x,(en x).length=s) :
  O5 lo w e s en (.slice (some ⟨g,0,none⟩) xs.length cap) xs :=
 ⟨⟨Yw hs xs,.inr ⟨g,cap,cur.toArray,rfl,hlo,hb,hn,by unfold maxLen;omega,by simpa using hl,by simpa using ht⟩⟩,hs⟩
end
theorem abd {H:Hv} {R:Hv->List Value->α->Prop} {sz:Nat} {a:Option Addr} {cap:Nat} {xs:List α} {l h:Nat} (hs:VZ R sz H (.slice a xs.length cap) xs) (hl:l<=h) (hh:h<=xs.length) :
  VZ R sz H (.slice (if cap=l then a else a.map (·.add (l * sz))) (h-l) (cap-l)) ((xs.take h).drop l):=by
 obtain ⟨a',cap',he,h2,h3,h4⟩:=hs
 injection he with e1 e2 e3
 subst e1;subst e3
 have hlen:((xs.take h).drop l).length=h-l:=by rw [lHa,lCa];omega
 have hel:∀i,i<h-l->((xs.take h).drop l)[i]?=xs[l+i]?:=fun i hi=>by rw [lUa,lJa,if_pos Ab]
 refine ⟨_,cap-l,by rw [hlen],by rw [hlen];omega,fun hn=>?_,fun hne=>?_⟩
 .have:a=none:=by
   split at hn
   .exact hn
   .cases a with
    | none=>rfl
    | some x=>cases hn
  obtain ⟨rfl,rfl⟩:=h3 this
  simp
 .have hpos:0<h-l:=by rw [<-hlen];exact lFb.2 hne
  obtain ⟨b,o,news,rfl,k1,k2⟩:=h4 (by intro e;subst e;simp at hh;omega)
  have hc:cap≠l:=by omega
  refine ⟨b,o+l * sz,(news.drop (l * sz)).take ((h-l) * sz),by rw [if_neg hc];simp [Addr.add_lit],?_,?_,fun i x hx=>?_⟩
  .obtain ⟨cs,e,fz,k3,k4⟩:=k1
   refine ⟨cs,e,fz,k3,fun i v hv=>?_⟩
   rw [lJa] at hv
   split at hv
   .rw [lUa] at hv;rw [lRb];exact k4 _ _ hv
   .cases hv
  .rw [lCa,lHa,k2.1,hlen]
   have:=lza sz (show (h-l)+l<=xs.length by omega)
   rw [lDb] at this;omega
  .have hi:i<h-l:=by rw [<-hlen];exact (lba.1 hx).1
   rw [hel i hi] at hx
   have hr:=k2.2 (l+i) x hx
   have e:(((news.drop (l * sz)).take ((h-l) * sz)).drop (i * sz)).take sz=(news.drop ((l+i) * sz)).take sz:=by
    have:=lza sz (show i+1<=h-l by omega)
    rw [lhb] at this
    rw [lNb,lUb,lYa,lDb]
    congr 1;omega
   rw [e];exact hr
section
variable {w:World} {K:Value->World->Prop} {H:Hv} {R:Hv->List Value->α->Prop} {sz:Nat} {t e:TypeId} {v:Value} {xs:List α}
theorem rSl {lo hi:Option Value} (l h:Nat) (hs:VZ R sz H v xs) (ht:P.underlying t=some (.slice e)) (hsz:(P.info? e).map (fun i=>i.size)=some sz) (hl:l<=h) (hh:h<=xs.length)
  (hlo:lo=none/\l=0\/∃k,lo=some (.int k l)) (hhi:hi=none/\h=xs.length\/∃k,hi=some (.int k h)) (k:∀v',VZ R sz H v' ((xs.take h).drop l)->K v' w):Ze P (Instr.sliceAt t v lo hi none) w K:=by
 obtain ⟨a,cap,rfl,h2,h3,h4⟩:=hs
 refine ⟨_,w,?_,k _ (abd (sz:=sz) ⟨a,cap,rfl,h2,h3,h4⟩ hl hh)⟩
 have he:P.elem t=e:=by simp [Program.elem,ht]
 rw [run_sliceAt_slice (P:=P) w t _ _ _ _ (by rw [he];exact ht)]
 cases hi':P.info? e with
 | none=>simp [hi'] at hsz
 | some i' =>
  simp only [hi',Option.map_some,Option.some.injEq] at hsz
  have hb:(Instr.sliceBounds true xs.length cap lo hi none).run P w=.ok (l,h,cap) w:=by
   unfold Instr.sliceBounds
   rcases hlo with ⟨rfl,rfl⟩|⟨kl,rfl⟩ <;> rcases hhi with ⟨rfl,rfl⟩|⟨kh,rfl⟩
   .simp
   .exact k_t
   .simp [run_sliceBound (P:=P) w kl (l:Int) xs.length _ Ab Ab]
   .simp [run_sliceBound (P:=P) w kh (h:Int) cap _ Ab Ab,run_sliceBound (P:=P) w kl (l:Int) h _ Ab Ab]
  unfold Instr.slice
  simp only [Sem.run_bind,run_underlying ht,Result.andThen_ok,hb]
  simp [sizeOf,typeInfo,hi',hsz]
end
abbrev Rd (en:α->List Value) (ok:α->Prop) (s:Nat) (w:World) (v:Value) (xs:List α):Prop:=VZ (RE en ok) s (Rg w 0 w.heap.size) v xs
theorem Rd.next {en:α->List Value} {ok:α->Prop} {s:Nat} {w w':World} {v:Value} {xs:List α} (h:Rd en ok s w v xs) (b:Below w.heap.size w w'):Rd en ok s w' v xs :=
 h.mono (RE.mono' en ok) (Rg.mono (lna _) b.size fun k _ hk=>b.block k hk)
theorem VZ.wide {en:α->List Value} {ok:α->Prop} {s lo hi:Nat} {w:World} {v:Value} {xs:List α} (h:VZ (RE en ok) s (Rg w lo hi) v xs) (hh:hi<=w.heap.size):Rd en ok s w v xs :=
 h.mono (RE.mono' en ok) (Rg.mono (lIa _) hh fun _ _ _=>rfl)
theorem VZ.place {en:α->List Value} {ok:α->Prop} {w:World} (s:Nat) {lo hi:Nat} {t e:TypeId} {v:Value} {xs:List α} (h:VZ (RE en ok) s (Rg w lo hi) v xs) (j:Nat) (x:α) (hx:xs[j]?=some x)
  (ht:P.underlying t=some (.slice e)) (hs:(P.info? e).map (fun i=>i.size)=some s) :
  ∃b o,At w b o (en x)/\ok x/\lo<=b/\b<hi/\∀{K:Value->World->Prop} {w':World} {i:Int} {ki:IntKind},i=j->K (.pointer (some ⟨b,o,none⟩)) w'->Ze P (Instr.indexAt t v (.int ki i)) w' K:=by
 have hl:=(lba.1 hx).1
 obtain ⟨a,cap,rfl,h2,h3,h4⟩:=h
 obtain ⟨b,o,news,rfl,k1,k2⟩:=h4 (by grind)
 obtain ⟨hR,hok⟩:=k2.2 j x hx
 have T7:=(k1.at.sub (j * s) s)
 rw [hR] at T7
 obtain ⟨_,_,_,⟨SW,RO,_⟩,_⟩:=k1
 refine ⟨b,o+j * s,T7,hok,SW,RO,fun {K w' i ki} hi k=>?_⟩
 subst hi
 refine ⟨_,w',?_,k⟩
 cases hi':P.info? e with
 | none=>simp [hi'] at hs
 | some i' =>
  simp only [hi',Option.map_some,Option.some.injEq] at hs
  simp [Instr.indexAt,asIntOf,run_underlying ht,sizeOf,typeInfo,hi',hs,Addr.add_lit,hl]
theorem Ua {en:α->List Value} {s:Nat} (h:∀x,(en x).length=s) (xs:List α) (j:Nat) (hj:j<=xs.length):(xs.flatMap en).take (j * s)=(xs.take j).flatMap en:=by
 have e:xs.flatMap en=(xs.take j).flatMap en++(xs.drop j).flatMap en:=by rw [<-lPa,ldb]
 have hl:((xs.take j).flatMap en).length=j * s:=by grind [Yw,List.length_take,Nat.min_eq_left]
 rw [e,lwa Ab,lua Ab]
theorem SV {en:α->List Value} {s:Nat} (h:∀x,(en x).length=s) (xs:List α) (j:Nat) (hj:j<=xs.length):(xs.flatMap en).drop (j * s)=(xs.drop j).flatMap en:=by
 have e:xs.flatMap en=(xs.take j).flatMap en++(xs.drop j).flatMap en:=by rw [<-lPa,ldb]
 have hl:((xs.take j).flatMap en).length=j * s:=by grind [Yw,List.length_take,Nat.min_eq_left]
 rw [e,lob Ab,lxa Ab,lOa]
theorem O5.store {lo s:Nat} {w:World} {e:TypeId} {en:α->List Value} {v:Value} {xs:List α} (h:O5 lo w e s en v xs) (j:Nat) (hj:j<xs.length) :
  ∃g cap cur,v=.slice (some ⟨g,0,none⟩) xs.length cap/\lo<=g/\RZ w g cur e/\j * s+s<=cur.length/\∀(w':World) (x:α),RZ w' g (VY cur (j * s) (en x)) e->O5 lo w' e s en v (xs.set j x):=by
 obtain ⟨g,cap,cur,rfl,hlo,hb,ht,hlen,hcap,QW,R9⟩:=h.VC (by grind)
 have hle:j * s+s<=xs.length * s:=by rw [<-lhb];exact lza _ hj
 refine ⟨g,cap,cur,rfl,hlo,hb,by omega,fun w' x hb'=>?_⟩
 have hxl:(en x).length=s:=h.2 x
 have V4:xs.set j x=xs.take j++x::xs.drop (j+1):=by
  rw [List.set_eq_take_append_cons_drop,if_pos hj]
 have key:(VY cur (j * s) (en x)).take (xs.length * s)=(xs.set j x).flatMap en:=by
  rw [UB _ _ _ Ab,V4,lPa,lNa,<-Ua h.2 xs j (lZa hj),<-SV h.2 xs (j+1) hj,<-ht,hxl]
  apply lFa
  intro i
  simp only [List.getElem?_take,List.getElem?_append,List.length_append,List.length_take,List.getElem?_drop,List.append_assoc,hxl,Nat.succ_mul]
  rw [show min (j * s) cur.length=j * s by omega,show min (j * s) (min (xs.length * s) cur.length)=j * s by omega]
  by_cases h1:i<xs.length * s
  .grind
  .grind
 have:=O5.ahZ (lo:=lo) (xs:=xs.set j x) (s:=s) (en:=en) (cap:=cap) hlo hb' (by grind) (by grind) QW (by grind [VP]) h.2
 rw [lta] at this
 exact this
theorem abe {P:Program} {w:World} {t:TypeId} {e:TypeId} {b o:Nat} {cs vs:List Value} {K:World->Prop} (hb:RZ w b cs e) (hs:(P.info? t).map (·.size)=some vs.length) (ho:o+vs.length<=cs.length) (hv:vs.all (·.oneCell')=true)
  (k:∀w',KB w w' b->RZ w' b (VY cs o vs) e->K w'):IK P (Instr.storeAt t (.pointer (some ⟨b,o,none⟩)) (.agg vs.toArray)) w K :=
 afU hb hs (Nat.ble_eq_true_of_le ho) hv (by rw [S6];exact k)
end Y4
namespace Y4
open Go Go.RowKit
structure Ev (w w':World) (fp:Nat->Prop):Prop where
 os:w'.os=w.os
 tape:w'.tape=w.tape
 output:w'.output=w.output
 size:w.heap.size<=w'.heap.size
 block:∀k,k<w.heap.size->¬fp k->w'.heap[k]?=w.heap[k]?
def Fr (w:World) (fp fp':Nat->Prop):Prop:=∀k,fp' k->fp k\/w.heap.size<=k
def Ap (f g:Nat->Prop):Prop:=∀k,f k->¬g k
section
variable {w w' w0 w1:World} {fp fp' f g:Nat->Prop} {b:Nat} {v v':Value} {cs:List Value} {e:TypeId} {α:Type}
theorem Ev.refl (w:World) (fp:Nat->Prop):Ev w w fp:=⟨rfl,rfl,rfl,lna _,fun _ _ _=>rfl⟩
theorem Ev.new (n:Ij w w' cs e) (fp:Nat->Prop):Ev w w' fp:=⟨n.below.os,n.below.tape,n.below.output,n.below.size,fun k hk _=>n.below.block k hk⟩
theorem Ev.Gs (u:KB w w' b) (h:fp b):Ev w w' fp:=⟨u.os,u.tape,u.output,by rw [u.size];exact lna _,fun k _ hk=>u.block k (fun e=>hk (e ▸ h))⟩
theorem Ev.below (n:Below w.heap.size w w') (fp:Nat->Prop):Ev w w' fp:=⟨n.os,n.tape,n.output,n.size,fun k hk _=>n.block k hk⟩
theorem Ev.still (s:Still w w') (fp:Nat->Prop):Ev w w' fp:=by obtain ⟨d,rfl⟩:=s;exact ⟨rfl,rfl,rfl,lna _,fun _ _ _=>rfl⟩
theorem Ev.trans (a:Ev w w1 f) (c:Ev w1 w' g) (hf:∀k,f k->fp k) (hg:∀k,k<w.heap.size->g k->fp k):Ev w w' fp :=
 ⟨c.os.trans a.os,c.tape.trans a.tape,c.output.trans a.output,lDa a.size c.size,fun k hk hn=>(c.block k (Nat.lt_of_lt_of_le hk a.size) (fun h=>hn (hg k hk h))).trans (a.block k hk (fun h=>hn (hf k h)))⟩
theorem Ev.mono (a:Ev w w' f) (hf:∀k,f k->fp k):Ev w w' fp:=⟨a.os,a.tape,a.output,a.size,fun k hk hn=>a.block k hk (fun h=>hn (hf k h))⟩
theorem gE (G:Below w0.heap.size w0 w) (x:Ev w w' fp) (h:∀k,fp k->w0.heap.size<=k):Below w0.heap.size w0 w' :=
 ⟨x.os.trans G.os,x.tape.trans G.tape,x.output.trans G.output,lDa G.size x.size,fun k hk=>(x.block k (Nat.lt_of_lt_of_le hk G.size) (fun hf=>Nat.lt_irrefl _ (Nat.lt_of_lt_of_le hk (h k hf)))).trans (G.block k hk)⟩
theorem Fr.refl (w:World) (fp:Nat->Prop):Fr w fp fp:=fun _ h=>.inl h
theorem Fr.trans (a:Fr w f g) (x:w.heap.size<=w1.heap.size) (c:Fr w1 g fp):Fr w f fp:=fun k hk=>by
 rcases c k hk with h|h
 .exact a k h
 .omega
theorem Fr.low (a:Fr w f g) {lo:Nat} (hf:∀k,f k->lo<=k) (hw:lo<=w.heap.size):∀k,g k->lo<=k:=fun k hk=>by
 rcases a k hk with h|h
 .grind
 .omega
theorem Ap.fr (a:Ap f g) (x:Fr w g fp) (hl:∀k,f k->k<w.heap.size):Ap f fp:=fun k hk hp=>by
 rcases x k hp with h|h
 .exact a k hk h
 .grind
theorem Ap.symm (a:Ap f g):Ap g f:=fun k hk hf=>a k hf hk
end
theorem O5.one {α:Type} {lo s:Nat} {w:World} {e:TypeId} {en:α->List Value} {v:Value} {xs:List α} (h:O5 lo w e s en v xs):v.oneCell'=true:=by
 rcases h.1.2 with ⟨e,_⟩|⟨_,_,_,e,_⟩ <;> rw [e] <;> rfl
theorem O5.form {α:Type} {lo s:Nat} {w:World} {e:TypeId} {en:α->List Value} {v:Value} {xs:List α} (h:O5 lo w e s en v xs):∃a c,v=.slice a xs.length c:=by
 rcases h.1.2 with ⟨e,h0⟩|⟨g,cap,cur,e,_⟩
 .grind
 .grind
section
variable {P:Program} {w:World} {K:Value->World->Prop}
theorem Xf {t e:TypeId} {x y:Operand} {a:Option Addr} {n c:Nat} (ht:P.underlying t=some (.slice e)) (k:K (.bool a.isNone) w) :
  Ze P (do eqGuard .eql t x y (.slice a n c) (.slice none 0 0);binOp .eql t (.slice a n c) (.slice none 0 0)) w K:=by
 refine ⟨_,w,?_,k⟩
 have hg:(eqGuard .eql t x y (.slice a n c) (.slice none 0 0)).run P w=.ok () w:=by simp [eqGuard]
 simp only [Sem.run_bind,hg,Result.andThen_ok]
 simp only [binOp,Sem.run_bind,run_equal_slice_nil (P:=P) w t e a n c ht,Result.andThen_ok,Sem.run_pure]
end
end Y4
namespace Y4
open Go Go.RowKit
section
variable {P:Program} {w:World} {K:Value->World->Prop}
theorem F0 {t e:TypeId} {a:Option Addr} {n cap l h m sz:Nat} {lo hi mx:Option Value} (ht:P.underlying t=some (.slice e)) (hsz:(P.info? e).map (fun i=>i.size)=some sz)
  (hb:(Instr.sliceBounds true n cap lo hi mx).run P w=.ok (l,h,m) w) (k:K (.slice (if m=l then a else a.map (·.add (l * sz))) (h-l) (m-l)) w):Ze P (Instr.sliceAt t (.slice a n cap) lo hi mx) w K:=by
 refine ⟨_,w,?_,k⟩
 have he:P.elem t=e:=by grind [Program.elem]
 rw [run_sliceAt_slice (P:=P) w t _ _ _ _ (by grind)]
 cases hi':P.info? e with
 | none=>simp [hi'] at hsz
 | some i' =>
  simp only [hi',Option.map_some,Option.some.injEq] at hsz
  unfold Instr.slice
  simp only [Sem.run_bind,run_underlying ht,Result.andThen_ok,hb]
  simp [sizeOf,typeInfo,hi',hsz]
theorem amO {k:IntKind} {i:Int} {n cap h:Nat} (hi:i=h) (hh:h<=cap):(Instr.sliceBounds true n cap none (some (.int k i)) none).run P w=.ok (0,h,cap) w:=by
 subst hi
 simp [Instr.sliceBounds,run_sliceBound (P:=P) w k (h:Int) cap _ Ab Ab]
theorem St {w:World} {g o:Nat} {cur vs:List Value} {e:TypeId} (hb:RZ w g cur e) (h:o+vs.length<=cur.length) :
  KB w (w.setRow g (cur.take o++vs++cur.drop (o+vs.length)).toArray) g/\RZ (w.setRow g (cur.take o++vs++cur.drop (o+vs.length)).toArray) g (VY cur o vs) e:=by
 refine ⟨⟨rfl,rfl,rfl,by simp [World.setRow],fun j hj=>?_⟩,?_⟩
 .grind [World.setRow]
 .rw [UB _ _ _ h];exact setRow_heap w g _ _ e (0,0) hb
theorem amP {t e:TypeId} {g o n cap sz:Nat} {k:IntKind} {i:Int} (h:Nat) (ht:P.underlying t=some (.slice e)) (hsz:(P.info? e).map (fun i=>i.size)=some sz) (hi:i=h) (hh:h<=cap)
  (q:K (.slice (some ⟨g,o,none⟩) h cap) w):Ze P (Instr.sliceAt t (.slice (some ⟨g,o,none⟩) n cap) none (some (.int k i)) none) w K:=by
 refine F0 ht hsz (amO hi hh) ?_
 have:(if cap=0 then some ⟨g,o,none⟩ else (some ⟨g,o,none⟩:Option Addr).map (·.add (0 * sz)))=some ⟨g,o,none⟩:=by grind [Addr.add_lit]
 rw [this]
 exact q
end
theorem At.none {w:World} {b o:Nat} {cs:List Value} {e:TypeId} (h:RZ w b cs e):At w b o []:=⟨_,_,_,h,fun i v hv=>by simp at hv⟩
end Y4
namespace Y4
open Go Go.RowKit
section
variable {P:Program} {α:Type} {lo s:Nat} {w w' w0:World} {e e':TypeId} {en:α->List Value} {v v' u:Value} {xs ys:List α} {b:Nat} {cs:List Value} {K:Value->World->Prop}
def R8 (lo:Nat) (w:World) (e:TypeId) (s:Nat) (en:α->List Value) (v:Value) (xs:List α):Prop :=
 ((v=.slice none 0 0/\xs=[])\/∃g o cap cur,v=.slice (some ⟨g,o,none⟩) xs.length cap/\lo<=g/\RZ w g cur e/\o+cap * s<=cur.length/\xs.length<=cap/\cap<=9223372036854775807/\(cur.drop o).take (xs.length * s)=xs.flatMap en)/\∀x,(en x).length=s
theorem R8.nil (lo:Nat) (w:World) (e:TypeId) (h:∀x,(en x).length=s):R8 lo w e s en (.slice none 0 0) []:=⟨.inl ⟨rfl,rfl⟩,h⟩
theorem R8.lt (h:R8 lo w e s en v xs) {k:Nat} (hk:v.ownBlock=some k):lo<=k/\k<w.heap.size:=by
 rcases h.1 with ⟨rfl,_⟩|⟨g,o,cap,cur,rfl,hlo,hb,_⟩
 .cases hk
 .obtain rfl:=Option.some.inj hk;exact ⟨hlo,hb.lt⟩
theorem R8.keep (h:R8 lo w e s en v xs) (hb:∀k,v.ownBlock=some k->w'.heap[k]?=w.heap[k]?):R8 lo w' e s en v xs:=by
 refine ⟨?_,h.2⟩
 rcases h.1 with h|⟨g,o,cap,cur,rfl,hlo,hk,r⟩
 .grind
 .exact .inr ⟨g,o,cap,cur,rfl,hlo,hk.keep (hb g rfl),r⟩
theorem R8.ev {fp:Nat->Prop} (h:R8 lo w e s en v xs) (x:Ev w w' fp) (hn:∀k,v.ownBlock=some k->¬fp k):R8 lo w' e s en v xs:=h.keep fun k hk=>x.block k (h.lt hk).2 (hn k hk)
theorem R8.one (h:R8 lo w e s en v xs):v.oneCell'=true:=by
 rcases h.1 with ⟨rfl,_⟩|⟨_,_,_,_,rfl,_⟩ <;> rfl
theorem R8.form (h:R8 lo w e s en v xs):∃a c,v=.slice a xs.length c:=by
 rcases h.1 with ⟨rfl,rfl⟩|⟨_,_,_,_,rfl,_⟩
 .simp
 .simp
theorem R8.own (h:w.ownsRow lo e s v xs.length (xs.flatMap en)) (hs:∀x,(en x).length=s):R8 lo w e s en v xs:=by
 refine ⟨?_,hs⟩
 rcases h.2 with ⟨rfl,h0⟩|⟨g,cap,cur,rfl,hlo,hg,hnc,QW,hcs,ht⟩
 .grind
 .exact .inr ⟨g,0,cap,cur.toList,rfl,hlo,hg,by simp [hcs],hnc,by unfold maxLen at QW;omega,by simpa using ht⟩
theorem ajV {t ty:TypeId} {m c b o:Nat} (z:Value) (Qh:Nat) (hown:R8 lo w e s en v xs) (T7:At w b o (ys.flatMap en)) (hm:ys.length=m)
  (h1:∀y∈ys,((en y).all (·.oneCell'))=true) (hu:P.underlying t=some (.slice e)) (hz:(P.info? e).map (fun i=>(i.zero,i.size,i.bytes))=some (some z,s,Qh)) (hzs:z.cells.size=s) (hsz:0<s)
  (hb:(xs.length+m) * Qh<=140737488355328) (hml:xs.length+m<=140737488355328) (hlo:lo<=w.heap.size)
  (k:∀v' w',R8 lo w' e s en v' (xs++ys)->Gr w w' v v'->K v' w'):Ze P (Builtin.append_ #[t,t] ty #[v,.slice (some ⟨b,o,none⟩) m c]) w K:=by
 rcases hown.1 with ⟨rfl,rfl⟩|⟨g,of,cap,cur,rfl,CB,Kq,hfit,hnc,QW,ht⟩
 .refine ajU z Qh (O5.nil lo w e hown.2) T7 hm h1 hu hz hzs hsz hb hml hlo fun v' w' hO hG=>k v' w' ?_ hG
  exact R8.own hO.1 hO.2
 .have IF:(xs.flatMap en).length=xs.length * s:=Yw hown.2 xs
  have FZ:(ys.flatMap en).length=m * s:=by rw [<-hm];exact Yw hown.2 ys
  have ho:∀u∈ys.flatMap en,u.oneCell'=true:=fun u hu=>by grind
  cases hi:P.info? e with
  | none=>simp [hi] at hz
  | some i =>
   simp only [hi,Option.map_some,Option.some.injEq,Prod.mk.injEq] at hz
   obtain ⟨h2,h3,h4⟩:=hz
   subst h3
   by_cases hr:xs.length+m<=cap
   .have hcap:(xs.length+m) * i.size<=cap * i.size:=lza _ hr
    rw [lDb] at hcap
    have hst:=run_storeCells_at (P:=P) g (of+xs.length * i.size) e (ys.flatMap en) 0 cur.toArray w Kq (by grind) ho
    simp only [Nat.add_zero] at hst
    have EV:=run_firstCells_some (P:=P) w i.size m ⟨b,o,none⟩ m c (ys.flatMap en) FZ (fun j u hj=>by rw [Addr.add_lit];exact T7.cell hj)
    obtain ⟨hU,hB⟩:=St (o:=of+xs.length * i.size) (vs:=ys.flatMap en) Kq Ab
    refine ⟨.slice (some ⟨g,of,none⟩) (xs.length+m) cap,_,?_,k _ _ ⟨.inr ⟨g,of,cap,_,by rw [lca,hm],CB,hB,by rw [VP];exact hfit,by rw [lca,hm];exact hr,QW,?_⟩,hown.2⟩ ⟨⟨hU.os,hU.tape,hU.output,by rw [hU.size];exact lna _,fun k _ hk=>hU.block k (fun e=>hk (by rw [e];rfl))⟩,.inl rfl⟩⟩
    .simp [Builtin.append_,run_underlying hu,sizeOf,typeInfo,hi,Builtin.lenOf,hr,EV,Addr.add_lit,hst]
    .rw [lca,hm,lPa,<-ht,UB _ _ _ Ab,lha,lob (by grind),<-lha,lNb,
      show of+xs.length * i.size-of=xs.length * i.size by omega,lwa (by grind),lua (by grind)]
   .have Em:At w g of (xs.flatMap en):=by
     have:=Kq.at.sub of (xs.length * i.size);rw [ht,lKb] at this;exact this
    obtain ⟨v',w',hrun,r1,r2⟩:=run_append_arg_grows (P:=P) w t ty e i z i.size Qh hu hi h2 rfl h4 hzs hsz ⟨g,of,none⟩ xs.length cap (xs.flatMap en) IF (fun j u hj=>by rw [Addr.add_lit];exact Em.cell hj) ⟨b,o,none⟩ m c (ys.flatMap en) FZ (fun j u hj=>by rw [Addr.add_lit];exact T7.cell hj) Ab (by grind [maxLen]) hb
    have hO:R8 w.heap.size w' e i.size en v' (xs++ys):=R8.own (by grind) hown.2
    refine ⟨v',w',hrun,k v' w' ?_ ⟨⟨r2.os,r2.tape,r2.output,r2.size,fun k hk _=>r2.block k hk zZ⟩,?_⟩⟩
    .refine ⟨?_,hown.2⟩
     rcases hO.1 with h|⟨g',o',c',cu',a1,a2,a3⟩
     .grind
     .exact .inr ⟨g',o',c',cu',a1,lDa hlo a2,a3⟩
    .rcases hO.1 with ⟨h,_⟩|⟨g',o',c',cu',a1,a2,a3⟩
     .exact .inr (.inl (by rw [h];rfl))
     .exact .inr (.inr ⟨g',by rw [a1];rfl,a2⟩)
theorem R8.tail {x:α} {g o n cap:Nat} (h:R8 lo w e s en (.slice (some ⟨g,o,none⟩) n cap) (x::xs)):R8 lo w e s en (.slice (some ⟨g,if cap=1 then o else o+1 * s,none⟩) (n-1) (cap-1)) xs:=by
 rcases h.1 with ⟨_,h0⟩|⟨g',o',cap',cur,he,hlo,hb,hfit,hnc,QW,hct⟩
 .cases h0
 .injection he with h1 h2 h3
  injection h1 with h1
  injection h1 with h1 h4
  subst h1;subst h2;subst h3;subst h4
  simp only [List.length_cons] at hnc hct ⊢
  refine ⟨.inr ⟨g,if cap=1 then o else o+1 * s,cap-1,cur,by rw [lvb],hlo,hb,?_,by omega,by omega,?_⟩,h.2⟩
  .split
   .grind
   .have:(cap-1) * s+s=cap * s:=by rw [<-lhb];congr 1;omega
    omega
  .split
   .have:xs=[]:=lma Ab
    subst this;simp
   .have e1:=congrArg (List.drop s) hct
    rw [lNb,lYa,lNa,lob (by rw [h.2];exact lna _),lxa (l:=en x) (by rw [h.2];exact lna _),lOa,lhb,lvb] at e1
    rw [Nat.one_mul];exact e1
theorem R8.head {x:α} (h:R8 lo w e s en v (x::xs)):∃g o cap,v=.slice (some ⟨g,o,none⟩) (xs.length+1) cap/\lo<=g/\At w g o (en x):=by
 rcases h.1 with ⟨_,h0⟩|⟨g,o,cap,cur,rfl,hlo,hb,hfit,hnc,QW,hct⟩
 .grind
 .refine ⟨g,o,cap,rfl,hlo,?_⟩
  have:=hb.at.sub o s
  rw [lKb] at this
  have e1:=congrArg (List.take s) hct
  rw [lUb,lka,lkb (by grind),lNa,lwa (by rw [h.2];exact lna _)] at e1
  rw [e1,lua (by rw [h.2];exact lna _)] at this;exact this
end
theorem ad7 {P:Program} {w:World} {K:Value->World->Prop} {t e:TypeId} {b o n:Nat} {ki:IntKind} {i:Int} (sz j p:Nat) (hj:i=j) (hl:j<n) (hp:o+j * sz=p) (ht:P.underlying t=some (.array n e)) (hs:(P.info? e).map (fun i=>i.size)=some sz)
  (k:K (.pointer (some ⟨b,p,none⟩)) w):Ze P (Instr.indexAt t (.pointer (some ⟨b,o,none⟩)) (.int ki i)) w K:=by
 subst hj;subst hp
 refine ⟨_,w,?_,k⟩
 cases hi':P.info? e with
 | none=>simp [hi'] at hs
 | some i' =>
  simp only [hi',Option.map_some,Option.some.injEq] at hs
  simp [Instr.indexAt,Instr.sureAddr,asIntOf,run_underlying ht,sizeOf,typeInfo,hi',hs,Addr.add_lit,hl]
end Y4
namespace Y4
open Go
def VW (l:List Nat):Nat:=l.foldr (fun t m=>Nat.lor (Nat.shiftLeft 1 t) m) 0
theorem UL (l:List Nat) (j:Nat):(VW l).testBit j=true↔j∈l:=by
 induction l with
 | nil=>simp [VW]
 | cons t r ih =>
  have e:VW (t::r)=(1 <<< t) ||| VW r:=rfl
  rw [e,lzb,Bool.or_eq_true,ih,Nat.one_shiftLeft,lQb,List.mem_cons]
  simp;constructor
  .grind
  .grind
structure Rec where
 i:Nat
 take:Bool
 af:Nat
 lk:Nat
 ds:Nat
def Ui (o:Oper):Nat:=VW (o.after.toList.filterMap fun e=>if Region.binds .any e then some e.on else none)
def ahe (ops:Array Oper) (p:Nat × Bool):Option Rec:=(ops[p.1]?).map fun o=>⟨p.1,p.2,Ui o,VW (o.looksAt ops),VW o.dst.toList⟩
def HA (n:Nat):Bool:=Nat.beq n 0
def Qg (x y:Rec):Bool:=HA (Nat.land x.ds (Nat.lor y.lk y.ds)) && HA (Nat.land y.ds x.lk)
def Jx (m i:Nat):Bool:=Nat.beq (Nat.land (Nat.shiftRight m i) 1) 1
def T6:List Rec->Nat->Nat->Bool
 | [],listed,all=>Nat.beq listed all
 | r::rest,listed,all=>Nat.beq (Nat.land r.af listed) r.af && !Jx listed r.i &&
   (match r.take with
   | true=>rest.all fun q=>Jx q.af r.i || Qg r q
   | false=>rest.all fun q=>!Nat.beq (Nat.land q.af listed) q.af) && T6 rest (Nat.lor listed (Nat.shiftLeft 1 r.i)) all
def Ss (ops:Array Oper):List (Nat × Bool)->Option (List Rec)
 | []=>some []
 | p::r=>match ahe ops p with
  | none=>none
  | some x=>match Ss ops r with
   | none=>none
   | some l=>some (x::l)
def NH (ops:Array Oper) (plan:List (Nat × Bool)):Bool:=Region.noSelect ops && Nat.beq plan.length ops.size && match Ss ops plan with
 | none=>false
 | some l=>T6 l 0 (2 ^ ops.size-1)
theorem T5 (m i:Nat):Jx m i=m.testBit i:=by
 unfold Jx
 rw [show Nat.land (Nat.shiftRight m i) 1=(m >>> i) &&& 1 from rfl,Nat.and_one_is_mod]
 rw [Nat.testBit,Nat.one_and_eq_mod_two]
 rcases Nat.mod_two_eq_zero_or_one (m >>> i) with h|h <;> rw [h] <;> rfl
theorem Qf {a b:Nat} (h:Nat.beq (Nat.land a b) a=true) (j:Nat) (hj:a.testBit j=true):b.testBit j=true:=by
 have h:=lcb h
 have h2:(a &&& b).testBit j=a.testBit j:=congrArg (fun n=>Nat.testBit n j) h
 rw [Nat.testBit_and,hj] at h2
 simpa using h2
theorem ad8 {a b:Nat} (h:(!Nat.beq (Nat.land a b) a)=true):∃j,a.testBit j=true/\b.testBit j=false:=by
 apply Classical.byContradiction
 intro hn
 have e:a &&& b=a:=by
  apply Nat.eq_of_testBit_eq
  intro j
  rw [Nat.testBit_and]
  cases ha:a.testBit j
  .rfl
  .grind
 rw [show Nat.land a b=a from e] at h
 simp at h
theorem aaB {a b:Nat} (h:HA (Nat.land a b)=true) (j:Nat) (ha:a.testBit j=true):b.testBit j=false:=by
 have h:=lcb h
 have h2:(a &&& b).testBit j=false:=by rw [show a &&& b=0 from h];simp
 rw [Nat.testBit_and,ha] at h2
 simpa using h2
theorem Vp (o:Oper) (j:Nat):(Ui o).testBit j=true↔∃e∈o.after,Region.binds .any e=true/\e.on=j:=by
 unfold Ui
 rw [UL,List.mem_filterMap]
 constructor
 .simp
 .simp
theorem aaa {ops:Array Oper} {x y:Oper} {rx ry:Rec} (hx:rx.lk=VW (x.looksAt ops)) (hx':rx.ds=VW x.dst.toList) (hy:ry.lk=VW (y.looksAt ops)) (hy':ry.ds=VW y.dst.toList)
  (h:Qg rx ry=true):x.apart ops y=true:=by
 unfold Qg at h
 rw [Bool.and_eq_true] at h
 obtain ⟨h1,h2⟩:=h
 unfold Oper.apart
 rw [Bool.and_eq_true]
 constructor
 .split
  .rename_i d hd
   have hb:rx.ds.testBit d=true:=by grind [UL]
   have h3:=aaB h1 d hb
   rw [show Nat.lor ry.lk ry.ds=ry.lk ||| ry.ds from rfl,lzb,Bool.or_eq_false_iff] at h3
   obtain ⟨h4,h5⟩:=h3
   rw [Bool.and_eq_true]
   constructor
   .rw [Bool.not_eq_true',<-Bool.not_eq_true,List.contains_iff_mem]
    intro hm
    rw [hy,<-Bool.not_eq_true,UL] at h4
    exact h4 hm
   .grind
  .rfl
 .split
  .rename_i d hd
   have hb:ry.ds.testBit d=true:=by grind [UL]
   have h3:=aaB h2 d hb
   rw [Bool.not_eq_true',<-Bool.not_eq_true,List.contains_iff_mem]
   intro hm
   rw [hx,<-Bool.not_eq_true,UL] at h3
   exact h3 hm
  .rfl
theorem aaj {ops:Array Oper} {p:Nat × Bool} {r:List (Nat × Bool)} {l:List Rec} (h:Ss ops (p::r)=some l) :
  ∃x l' o,l=x::l'/\Ss ops r=some l'/\ops[p.1]?=some o/\x=⟨p.1,p.2,Ui o,VW (o.looksAt ops),VW o.dst.toList⟩:=by
 unfold Ss at h
 split at h
 .cases h
 .rename_i x hx
  split at h
  .cases h
  .rename_i l' hl
   obtain rfl:=Option.some.inj h
   unfold ahe at hx
   cases ho:ops[p.1]? with
   | none=>rw [ho] at hx;cases hx
   | some o=>rw [ho] at hx;exact ⟨x,l',o,rfl,hl,rfl,(Option.some.inj hx).symm⟩
theorem acf {ops:Array Oper}:∀{r:List (Nat × Bool)} {l:List Rec},Ss ops r=some l->∀q∈l,∃o,ops[q.i]?=some o/\q.af=Ui o/\q.lk=VW (o.looksAt ops)/\q.ds=VW o.dst.toList:=by
 intro r
 induction r with
 | nil=>intro l h q hq;unfold Ss at h;obtain rfl:=Option.some.inj h;cases hq
 | cons p r ih =>
  intro l h q hq
  obtain ⟨x,l',o,rfl,hl,ho,rfl⟩:=aaj h
  rcases List.mem_cons.1 hq with rfl|hq
  .grind
  .grind
theorem acg:∀(l:List Rec) (m all:Nat),T6 l m all=true->∀j,all.testBit j=true->m.testBit j=true\/∃q∈l,q.i=j:=by
 intro l
 induction l with
 | nil =>
  intro m all h j hj
  unfold T6 at h
  have:=lcb h
  subst this
  exact .inl hj
 | cons r l ih =>
  intro m all h j hj
  unfold T6 at h
  rw [Bool.and_eq_true] at h
  rcases ih _ _ h.2 j hj with h1|⟨q,hq,e⟩
  .rw [show Nat.lor m (Nat.shiftLeft 1 r.i)=m ||| (1 <<< r.i) from rfl,lzb,Bool.or_eq_true,Nat.one_shiftLeft,lQb] at h1
   rcases h1 with h1|h1
   .grind
   .grind
  .grind
theorem afV:∀{l:List Rec} {m n j:Nat},n<=j->T6 l m (2 ^ n-1)=true->m.testBit j=true->False:=by
 intro l
 induction l with
 | nil =>
  intro m n j hj h hb
  unfold T6 at h
  have:=lcb h
  rw [this,lCb] at hb
  simp at hb;omega
 | cons r l ih =>
  intro m n j hj h hb
  unfold T6 at h
  rw [Bool.and_eq_true] at h
  refine ih hj h.2 ?_
  rw [show Nat.lor m (Nat.shiftLeft 1 r.i)=m ||| (1 <<< r.i) from rfl,lzb,hb,Bool.true_or]
theorem abf {ops:Array Oper}:∀(plan:List (Nat × Bool)) (l:List Rec) (m:Nat) (listed:Array Bool),Ss ops plan=some l->T6 l m (2 ^ ops.size-1)=true->listed.size=ops.size ->
  (∀j,j<ops.size->listed.getD j true=m.testBit j)->O7 ops plan listed=true:=by
 intro plan
 induction plan with
 | nil =>
  intro l m listed hl hok hsz hm
  unfold Ss at hl
  obtain rfl:=Option.some.inj hl
  unfold T6 at hok
  have hok:=lcb hok
  show (Region.ready .any ops listed).isEmpty=true
  rw [List.isEmpty_iff,List.eq_nil_iff_forall_not_mem]
  intro j hj
  obtain ⟨h0,o,ho,_⟩:=mem_ready.1 hj
  have hlt:j<ops.size:=(lva.1 ho).1
  rw [hm j hlt,hok,lCb] at h0
  simp [hlt] at h0
 | cons p plan ih =>
  intro l m listed hl hok hsz hm
  obtain ⟨x,l',o,rfl,hl',ho,rfl⟩:=aaj hl
  have amQ:=acg _ _ _ hok
  unfold T6 at hok
  simp only [Bool.and_eq_true] at hok
  obtain ⟨⟨⟨hr,hun⟩,hk⟩,VB⟩:=hok
  have hlt:p.1<ops.size:=(lva.1 ho).1
  have amR:listed.getD p.1 true=false:=by grind [T5]
  have ah0:∀e∈o.after,Region.binds .any e=true->listed.getD e.on false=true:=fun e he hb=>by
   have h1:=Qf hr e.on ((Vp o e.on).2 ⟨e,he,hb,rfl⟩)
   have h3:e.on<ops.size:=by
    rcases lAa e.on ops.size with h|h
    .exact h
    .exact (afV h VB (by rw [show Nat.lor m (Nat.shiftLeft 1 p.1)=m ||| (1 <<< p.1) from rfl,lzb,h1,Bool.true_or])).elim
   have h2:=hm e.on h3
   rw [h1] at h2
   simp only [Array.getD_eq_getD_getElem?] at h2 ⊢
   rw [lgb Ab] at h2 ⊢
   simpa using h2
  have Wh:p.1∈Region.ready .any ops listed:=mem_ready.2 ⟨amR,o,ho,ah0⟩
  have acB:∀j oj,ops[j]?=some oj->j≠p.1->listed.getD j true=false->∃q∈l',q.i=j/\q.af=Ui oj/\q.lk=VW (oj.looksAt ops)/\q.ds=VW oj.dst.toList:=fun j oj hj hne hu=>by
   have hjl:j<ops.size:=(lva.1 hj).1
   rcases amQ j (by grind) with h1|⟨q,hq,e⟩
   .grind
   .rcases List.mem_cons.1 hq with rfl|hq
    .grind
    .obtain ⟨o',ho',h1,h2,h3⟩:=acf hl' q hq
     rw [e,hj] at ho'
     obtain rfl:=Option.some.inj ho'
     exact ⟨q,hq,e,h1,h2,h3⟩
  rw [RQ,ho]
  simp only [Bool.and_eq_true]
  refine ⟨?_,ih l' _ _ hl' VB (by grind) fun j hj=>?_⟩
  .obtain ⟨i,take⟩:=p
   dsimp only at *
   cases take with
   | true =>
    dsimp only at hk ⊢
    rw [Bool.and_eq_true]
    refine ⟨?_,by simpa using Wh⟩
    unfold Region.free
    rw [ho]
    simp only [List.all_eq_true,List.mem_range]
    intro j hj
    cases hji:(j == i)
    .cases hlj:listed.getD j true
     .rw [lgb hj]
      simp only [Bool.false_or]
      obtain ⟨q,hq,e,h1,h2,h3⟩:=acB j ops[j] (lgb hj) (by grind) hlj
      have h4:=ltb.1 hk q hq
      rw [Bool.or_eq_true] at h4 ⊢
      rcases h4 with h4|h4
      .grind [T5,Vp,Array.any_eq_true']
      .right
       exact aaa rfl rfl h2 h3 h4
     .simp
    .simp
   | false =>
    dsimp only at hk ⊢
    rw [beq_iff_eq]
    have ajW:∀j∈Region.ready .any ops listed,j=i:=fun j hj=>by
     apply Classical.byContradiction
     intro hne
     obtain ⟨h0,oj,MQ,hall⟩:=mem_ready.1 hj
     obtain ⟨q,hq,e,h1,h2,h3⟩:=acB j oj MQ hne h0
     have h4:=ltb.1 hk q hq
     obtain ⟨b,SW,RO⟩:=ad8 h4
     rw [h1,Vp] at SW
     obtain ⟨ed,he,hb,CA⟩:=SW
     have h5:=hall ed he hb
     rw [CA] at h5
     have MC:b<ops.size:=by grind
     have h6:=hm b MC
     rw [RO] at h6
     simp only [Array.getD_eq_getD_getElem?] at h5 h6
     rw [lgb Ab] at h5 h6
     simp at h5 h6
     rw [h5] at h6;cases h6
    have hnd:(Region.ready .any ops listed).Nodup:=by
     unfold Region.ready;exact List.Pairwise.filter _ List.nodup_range
    generalize Region.ready .any ops listed=R at *
    match R,hnd,ajW,Wh with
    | [],_,_,h=>cases h
    | [a],_,hu,_=>rw [hu a lxb]
    | a::b::r,hnd,hu,_ =>
     have h1:=hu a lxb
     have h2:=hu b zZ
     rw [List.nodup_cons] at hnd
     exact absurd (by grind) hnd.1
  .show (listed.setIfInBounds p.1 true).getD j true=(m ||| (1 <<< p.1)).testBit j
   rw [lzb,Nat.one_shiftLeft,lQb,<-hm j hj]
   by_cases h:p.1=j
   .subst h;simp [hsz,hj]
   .simp [Array.getElem?_setIfInBounds_ne h,h]
theorem aac {ops:Array Oper} {plan:List (Nat × Bool)} (h:NH ops plan=true):RP ops plan=true:=by
 unfold NH at h
 simp only [Bool.and_eq_true] at h
 obtain ⟨⟨h1,h2⟩,h3⟩:=h
 split at h3
 .grind
 .rename_i l hl
  unfold RP
  rw [h1,abf plan l 0 _ hl h3 zZ (fun j hj=>by simp [hj])]
  simp [Nat.eq_of_beq_eq_true h2]
theorem aoF {P:Program} {ops:Array Oper} {K:List Value->World->Prop} {ρ0:List Value} {id:Nat} {w:World} (S:World->Prop) (plan:List (Nat × Bool)) (hm:P.follows .mixedOrders=true) (hc:NH ops plan=true)
  (h:∀w1,w1=w.drew->S w1/\Qi P ops.toList S K plan ρ0 w1):Ox P id ops K ρ0 w:=draw S plan hm (aac hc) h
end Y4
namespace Y4
open Go Go.RowKit
section
variable {P:Program} {ops:Array Oper} {Q:Exit->Act->World->Prop} {md:Region.Mode} {S:World->Prop} {Z:Nat->Bool}
def RY (P:Program) (md:Region.Mode) (ops:Array Oper) (Q:Exit->Act->World->Prop) (S:World->Prop) (Z:Nat->Bool):Nat->Array Bool->Act->World->Prop
 | 0,listed,a,w=>Region.ready md ops listed=[]/\Q .normal a w
 | fuel+1,listed,a,w=>(Region.ready md ops listed=[]->Q .normal a w) /\
   ∀i∈Region.ready md ops listed,wpOp P ops Q i (fun a' w'=>(Z i=true\/(S w->S w'))/\RY P md ops Q S Z fuel (listed.setIfInBounds i true) a' w') a w
theorem abg:∀(fuel:Nat) (listed:Array Bool) (a:Act) (w:World),RY P md ops Q S Z fuel listed a w->wpAny P md ops Q fuel listed a w:=by
 intro fuel
 induction fuel with
 | zero=>exact fun _ _ _ h=>h
 | succ f ih=>exact fun _ _ _ h=>⟨h.1,fun i hi=>wpOp_mono (fun a' w' k=>ih _ a' w' k.2) (h.2 i hi)⟩
def Cl (md:Region.Mode) (ops:Array Oper) (listed:Array Bool):Prop:=∀(k:Nat) (ok:Oper),ops[k]?=some ok->listed.getD k false=true->∀e∈ok.after,Region.binds md e=true->listed.getD e.on false=true
inductive Pre (md:Region.Mode) (ops:Array Oper):Nat->Nat->Prop
 | one {j i:Nat} {oj:Oper} (hj:ops[j]?=some oj) {e:Edge} (he:e∈oj.after) (hb:Region.binds md e=true) (hi:e.on=i):Pre md ops j i
 | more {j i:Nat} {oj:Oper} (hj:ops[j]?=some oj) {e:Edge} (he:e∈oj.after) (hb:Region.binds md e=true) (hi:Pre md ops e.on i):Pre md ops j i
theorem Pre.trans {a b c:Nat} (h:Pre md ops a b) (k:Pre md ops b c):Pre md ops a c:=by
 induction h with
 | one hj he hb hi=>subst hi;exact .more hj he hb k
 | more hj he hb _ ih=>exact .more hj he hb (ih k)
theorem Cl.pre {listed:Array Bool} (hc:Cl md ops listed) {j i:Nat} (h:Pre md ops j i) (hl:listed.getD j false=true):listed.getD i false=true:=by
 induction h with
 | one hj he hb hi=>subst hi;exact hc _ _ hj hl _ he hb
 | more hj he hb _ ih=>exact ih (hc _ _ hj hl _ he hb)
theorem Cl.ready {listed:Array Bool} (hc:Cl md ops listed) {j i:Nat} (h:Pre md ops j i) (hr:j∈Region.ready md ops listed):listed.getD i false=true:=by
 obtain ⟨_,oj,MQ,hall⟩:=mem_ready.1 hr
 cases h with
 | one hj he hb hi=>subst hi;rw [hj] at MQ;obtain rfl:=Option.some.inj MQ;exact hall _ he hb
 | more hj he hb hp=>rw [hj] at MQ;obtain rfl:=Option.some.inj MQ;exact hc.pre hp (hall _ he hb)
theorem Cl.step {listed:Array Bool} (hc:Cl md ops listed) {j:Nat} (hr:j∈Region.ready md ops listed):Cl md ops (listed.setIfInBounds j true):=by
 obtain ⟨_,oj,MQ,hall⟩:=mem_ready.1 hr
 have up:∀k,listed.getD k false=true->(listed.setIfInBounds j true).getD k false=true:=fun k hk=>by
  simp only [Array.getD_eq_getD_getElem?] at hk ⊢
  rw [Array.getElem?_setIfInBounds]
  split
  .grind
  .omega
 intro k ok hk hl e he hb
 by_cases h:j=k
 .grind
 .refine up _ (hc k ok hk ?_ e he hb)
  simp only [Array.getD_eq_getD_getElem?] at hl ⊢
  rw [Array.getElem?_setIfInBounds,if_neg h] at hl;exact hl
theorem Cl.start (n:Nat):Cl md ops (Array.replicate n false):=fun k ok _ hl=>by
 simp only [Array.getD_eq_getD_getElem?,Array.getElem?_replicate] at hl
 split at hl <;> cases hl
theorem aaq {i:Nat} {oi:Oper} {v:Value} (hi:ops[i]?=some oi) (hsel:∀(j:Nat) (o:Oper) cs b,ops[j]?=some o->o.op≠.select cs b)
  (hQ:∀c a w,Q (.panic c) (a.put oi.dst v) w->Q (.panic c) a w) (hz:∀j oj,ops[j]?=some oj->Z j=true->Pre md ops j i) :
  ∀(fuel:Nat) (listed:Array Bool) (a:Act) (w:World),Cl md ops listed ->
   (∀j oj,ops[j]?=some oj->j≠i->listed.getD j true=false->(∀e∈oj.after,Region.binds md e=true->e.on≠i)->oi.apart ops oj=true) ->
   i∈Region.ready md ops listed->YieldsIf P ops S oi v a->S w ->
   RY P md ops Q S Z fuel (listed.setIfInBounds i true) (a.put oi.dst v) w->RY P md ops Q S Z (fuel+1) listed a w:=by
 intro fuel
 induction fuel with
 | zero =>
  intro listed a w _ _ hr hy hS H
  refine ⟨fun h=>absurd (h ▸ hr) (lSb),fun j hj=>?_⟩
  rcases Nat.decEq j i with hji|hji
  .exact absurd (H.1 ▸ ready_mono hj hji) (lSb)
  .subst hji;exact hy.wpOp hi hS ⟨.inr id,H⟩
 | succ fuel ih =>
  intro listed a w R9 hfree hr hy hS H
  refine ⟨fun h=>absurd (h ▸ hr) (lSb),fun j hj=>?_⟩
  rcases Nat.decEq j i with hji|hji
  .have h1:=H.2 j (ready_mono hj hji)
   obtain ⟨Ek,oj,MQ,hall⟩:=mem_ready.1 hj
   have Ii:=(mem_ready.1 hr).1
   have hnot:∀e∈oj.after,Region.binds md e=true->e.on≠i:=fun e he hb heq=>by grind
   have hZ:Z j≠true:=fun hzj=>by
    have h2:=R9.ready (hz j oj MQ hzj) hj
    simp only [Array.getD_eq_getD_getElem?] at h2 Ii
    cases hx:listed[i]? with
    | none=>rw [hx] at h2;simp at h2
    | some b=>rw [hx] at h2 Ii;simp at h2 Ii;rw [h2] at Ii;cases Ii
   have h2:=wpOp_putIf MQ (hfree j oj MQ hji Ek hnot) (fun cs b=>hsel i oi cs b hi) (fun cs b=>hsel j oj cs b MQ) hQ hy h1
   refine wpOp_mono (fun a' w' h3=>?_) h2
   have hSw:S w':=h3.2.1.resolve_left hZ hS
   refine ⟨.inr fun _=>hSw,ih (listed.setIfInBounds j true) a' w' (R9.step hj) (fun k ok hk hki hun hno=>hfree k ok hk hki ?_ hno) (ready_mono hr (Ne.symm hji)) h3.1 hSw ?_⟩
   .rcases Nat.decEq j k with h|h
    .rw [getD_set_ne true h] at hun;exact hun
    .grind
   .rw [Array.setIfInBounds_comm _ _ hji];exact h3.2.2
  .subst hji;exact hy.wpOp hi hS ⟨.inr id,H⟩
theorem aaC {i:Nat} {oi:Oper} {v:Value} (hi:ops[i]?=some oi) (hsel:∀(j:Nat) (o:Oper) cs b,ops[j]?=some o->o.op≠.select cs b)
  (hQ:∀c a w,Q (.panic c) (a.put oi.dst v) w->Q (.panic c) a w) :
  ∀(fuel:Nat) (listed:Array Bool) (a:Act) (w:World),
   (∀j oj,ops[j]?=some oj->j≠i->listed.getD j true=false->(∀e∈oj.after,Region.binds md e=true->e.on≠i)->oi.apart ops oj=true) ->
   i∈Region.ready md ops listed->YieldsIf P ops (fun _=>True) oi v a ->
   RY P md ops Q S Z fuel (listed.setIfInBounds i true) (a.put oi.dst v) w->RY P md ops Q S Z (fuel+1) listed a w:=by
 intro fuel
 induction fuel with
 | zero =>
  intro listed a w _ hr hy H
  refine ⟨fun h=>absurd (h ▸ hr) (lSb),fun j hj=>?_⟩
  rcases Nat.decEq j i with hji|hji
  .exact absurd (H.1 ▸ ready_mono hj hji) (lSb)
  .subst hji;exact hy.wpOp hi trivial ⟨.inr id,H⟩
 | succ fuel ih =>
  intro listed a w hfree hr hy H
  refine ⟨fun h=>absurd (h ▸ hr) (lSb),fun j hj=>?_⟩
  rcases Nat.decEq j i with hji|hji
  .have h1:=H.2 j (ready_mono hj hji)
   obtain ⟨Ek,oj,MQ,hall⟩:=mem_ready.1 hj
   have Ii:=(mem_ready.1 hr).1
   have hnot:∀e∈oj.after,Region.binds md e=true->e.on≠i:=fun e he hb heq=>by grind
   have h2:=wpOp_putIf MQ (hfree j oj MQ hji Ek hnot) (fun cs b=>hsel i oi cs b hi) (fun cs b=>hsel j oj cs b MQ) hQ hy h1
   refine wpOp_mono (fun a' w' h3=>?_) h2
   refine ⟨h3.2.1,ih (listed.setIfInBounds j true) a' w' (fun k ok hk hki hun hno=>hfree k ok hk hki ?_ hno) (ready_mono hr (Ne.symm hji)) h3.1 ?_⟩
   .rcases Nat.decEq j k with h|h
    .rw [getD_set_ne true h] at hun;exact hun
    .grind
   .rw [Array.setIfInBounds_comm _ _ hji];exact h3.2.2
  .subst hji;exact hy.wpOp hi trivial ⟨.inr id,H⟩
end
inductive Kd where
 | pure
 | held
 | forced
 | free
abbrev zUh0:Nat×Kd:=(0,.held)
abbrev zUp0:Nat×Kd:=(0,.pure)
abbrev zUf1:Nat×Kd:=(1,.forced)
abbrev zUh1:Nat×Kd:=(1,.held)
abbrev zUp1:Nat×Kd:=(1,.pure)
abbrev zUf2:Nat×Kd:=(2,.forced)
abbrev zUh2:Nat×Kd:=(2,.held)
abbrev zUp2:Nat×Kd:=(2,.pure)
abbrev zUf3:Nat×Kd:=(3,.forced)
abbrev zUh3:Nat×Kd:=(3,.held)
abbrev zUp3:Nat×Kd:=(3,.pure)
abbrev zUf4:Nat×Kd:=(4,.forced)
abbrev zUh4:Nat×Kd:=(4,.held)
abbrev zUp4:Nat×Kd:=(4,.pure)
abbrev zUf5:Nat×Kd:=(5,.forced)
abbrev zUfr5:Nat×Kd:=(5,.free)
abbrev zUh5:Nat×Kd:=(5,.held)
abbrev zUp5:Nat×Kd:=(5,.pure)
abbrev zUf6:Nat×Kd:=(6,.forced)
abbrev zUfr6:Nat×Kd:=(6,.free)
abbrev zUh6:Nat×Kd:=(6,.held)
abbrev zUp6:Nat×Kd:=(6,.pure)
abbrev zUf7:Nat×Kd:=(7,.forced)
abbrev zUfr7:Nat×Kd:=(7,.free)
abbrev zUh7:Nat×Kd:=(7,.held)
abbrev zUp7:Nat×Kd:=(7,.pure)
abbrev zUf8:Nat×Kd:=(8,.forced)
abbrev zUfr8:Nat×Kd:=(8,.free)
abbrev zUh8:Nat×Kd:=(8,.held)
abbrev zUp8:Nat×Kd:=(8,.pure)
abbrev zUf9:Nat×Kd:=(9,.forced)
abbrev zUfr9:Nat×Kd:=(9,.free)
abbrev zUh9:Nat×Kd:=(9,.held)
abbrev zUp9:Nat×Kd:=(9,.pure)
abbrev zUf10:Nat×Kd:=(10,.forced)
abbrev zUfr10:Nat×Kd:=(10,.free)
abbrev zUh10:Nat×Kd:=(10,.held)
abbrev zUp10:Nat×Kd:=(10,.pure)
abbrev zUf11:Nat×Kd:=(11,.forced)
abbrev zUfr11:Nat×Kd:=(11,.free)
abbrev zUh11:Nat×Kd:=(11,.held)
abbrev zUp11:Nat×Kd:=(11,.pure)
abbrev zUfr12:Nat×Kd:=(12,.free)
abbrev zUh12:Nat×Kd:=(12,.held)
abbrev zUp12:Nat×Kd:=(12,.pure)
abbrev zUfr13:Nat×Kd:=(13,.free)
abbrev zUh13:Nat×Kd:=(13,.held)
abbrev zUp13:Nat×Kd:=(13,.pure)
abbrev zUf14:Nat×Kd:=(14,.forced)
abbrev zUfr14:Nat×Kd:=(14,.free)
abbrev zUp14:Nat×Kd:=(14,.pure)
abbrev zUf15:Nat×Kd:=(15,.forced)
abbrev zUfr15:Nat×Kd:=(15,.free)
abbrev zUh15:Nat×Kd:=(15,.held)
abbrev zUp15:Nat×Kd:=(15,.pure)
abbrev zUfr16:Nat×Kd:=(16,.free)
abbrev zUh16:Nat×Kd:=(16,.held)
abbrev zUp16:Nat×Kd:=(16,.pure)
abbrev zUf17:Nat×Kd:=(17,.forced)
abbrev zUfr17:Nat×Kd:=(17,.free)
abbrev zUp17:Nat×Kd:=(17,.pure)
abbrev zUfr18:Nat×Kd:=(18,.free)
abbrev zUh18:Nat×Kd:=(18,.held)
abbrev zUp18:Nat×Kd:=(18,.pure)
abbrev zUfr19:Nat×Kd:=(19,.free)
abbrev zUp19:Nat×Kd:=(19,.pure)
abbrev zUh20:Nat×Kd:=(20,.held)
abbrev zUp20:Nat×Kd:=(20,.pure)
abbrev zUf21:Nat×Kd:=(21,.forced)
abbrev zUfr21:Nat×Kd:=(21,.free)
abbrev zUp21:Nat×Kd:=(21,.pure)
abbrev zUfr22:Nat×Kd:=(22,.free)
abbrev zUh22:Nat×Kd:=(22,.held)
abbrev zUfr23:Nat×Kd:=(23,.free)
abbrev zUp23:Nat×Kd:=(23,.pure)
abbrev zUp24:Nat×Kd:=(24,.pure)
abbrev zUfr25:Nat×Kd:=(25,.free)
def UA (P:Program) (ops:List Oper) (S:World->Prop) (K:List Value->World->Prop) (plan:List (Nat × Kd)):Bool->List Value->World->Prop :=
 List.rec (motive:=fun _=>Bool->List Value->World->Prop) (fun _=>K) (fun i _ ih live ρ w=>match ops[i.1]? with
  | none=>False
  | some o=>match i.2 with
   | .pure=>X3 ops o.guard ρ fun b ρ=>match b with
    | true=>HU P (fun _=>True) o ρ fun v=>Xx ρ o.dst v fun ρ=>ih live ρ w
    | false=>Xx ρ o.dst undef fun ρ=>ih live ρ w
   | .held=>match live with
    | true=>X3 ops o.guard ρ fun b ρ=>match b with
     | true=>HU P S o ρ fun v=>Xx ρ o.dst v fun ρ=>ih true ρ w
     | false=>Xx ρ o.dst undef fun ρ=>ih true ρ w
    | false=>False
   | .forced=>match live with
    | true=>X3 ops o.guard ρ fun b ρ=>match b with
     | true=>LU P o ρ w fun v w'=>Y3 (S w') (Xx ρ o.dst v fun ρ=>ih true ρ w')
     | false=>Xx ρ o.dst undef fun ρ=>ih true ρ w
    | false=>False
   | .free=>X3 ops o.guard ρ fun b ρ=>match b with
    | true=>LU P o ρ w fun v w'=>Xx ρ o.dst v fun ρ=>ih false ρ w'
    | false=>Xx ρ o.dst undef fun ρ=>ih false ρ w) plan
theorem ach (P:Program) (ops:List Oper) (S:World->Prop) (K:List Value->World->Prop) (i:Nat × Kd) (r:List (Nat × Kd)) (live:Bool) (ρ:List Value) (w:World) :
  UA P ops S K (i::r) live ρ w=match ops[i.1]? with
  | none=>False
  | some o=>match i.2 with
   | .pure=>X3 ops o.guard ρ fun b ρ=>match b with
    | true=>HU P (fun _=>True) o ρ fun v=>Xx ρ o.dst v fun ρ=>UA P ops S K r live ρ w
    | false=>Xx ρ o.dst undef fun ρ=>UA P ops S K r live ρ w
   | .held=>match live with
    | true=>X3 ops o.guard ρ fun b ρ=>match b with
     | true=>HU P S o ρ fun v=>Xx ρ o.dst v fun ρ=>UA P ops S K r true ρ w
     | false=>Xx ρ o.dst undef fun ρ=>UA P ops S K r true ρ w
    | false=>False
   | .forced=>match live with
    | true=>X3 ops o.guard ρ fun b ρ=>match b with
     | true=>LU P o ρ w fun v w'=>Y3 (S w') (Xx ρ o.dst v fun ρ=>UA P ops S K r true ρ w')
     | false=>Xx ρ o.dst undef fun ρ=>UA P ops S K r true ρ w
    | false=>False
   | .free=>X3 ops o.guard ρ fun b ρ=>match b with
    | true=>LU P o ρ w fun v w'=>Xx ρ o.dst v fun ρ=>UA P ops S K r false ρ w'
    | false=>Xx ρ o.dst undef fun ρ=>UA P ops S K r false ρ w:=rfl
def FY:Kd->Bool
 | .pure=>true
 | .held=>true
 | .forced=>false
 | .free=>false
def EU (plan:List (Nat × Kd)):List (Nat × Bool):=plan.map fun p=>(p.1,FY p.2)
def Jw (plan:List (Nat × Kd)):List Nat:=plan.filterMap fun p=>match p.2 with
 | .held=>some p.1
 | _=>none
def LH (plan:List (Nat × Kd)):List Nat:=plan.filterMap fun p=>match p.2 with
 | .free=>some p.1
 | _=>none
def reach (ops:List (Oper × Nat)) (m:Nat):Nat:=ops.foldl (fun m p=>match Jx m p.2 with
 | true=>Nat.lor m (Ui p.1)
 | false=>m) m
theorem aci {ops:Array Oper} {z:Nat}:∀(l:List (Oper × Nat)) (m:Nat),(∀p∈l,ops[p.2]?=some p.1)->(∀i,m.testBit i=true->Pre .any ops z i)->∀i,(reach l m).testBit i=true->Pre .any ops z i:=by
 intro l
 induction l with
 | nil=>exact fun m _ h=>h
 | cons p l ih =>
  intro m hl h
  refine ih _ (fun q hq=>hl q (lsb0 _ hq)) fun i hi=>?_
  dsimp only at hi
  cases hb:Jx m p.2 with
  | false=>rw [hb] at hi;exact h i hi
  | true =>
   rw [hb] at hi
   have hi:(m ||| Ui p.1).testBit i=true:=hi
   rw [lzb,Bool.or_eq_true] at hi
   rcases hi with hi|hi
   .grind
   .obtain ⟨e,he,RO,CA⟩:=(Vp p.1 i).1 hi
    exact (h p.2 (by grind [T5])).trans (.one (hl p (lxb ..)) he RO CA)
def Cz (ops:Array Oper) (Wf zs:List Nat):Bool:=zs.all fun z=>match ops[z]? with
 | none=>false
 | some o=>Nat.beq (Nat.land (VW Wf) (Ui o)) (VW Wf) || Nat.beq (Nat.land (VW Wf) (reach ops.toList.zipIdx.reverse (Ui o))) (VW Wf)
theorem NG {ops:Array Oper} {Wf zs:List Nat} (h:Cz ops Wf zs=true) {i:Nat} (hi:i∈Wf):∀j oj,ops[j]?=some oj->zs.contains j=true->Pre .any ops j i:=by
 intro j oj hj hz
 have h1:=ltb.1 h j (by grind)
 rw [hj] at h1
 rw [Bool.or_eq_true] at h1
 have d:∀k,(Ui oj).testBit k=true->Pre .any ops j k:=fun k hk=>by
  obtain ⟨e,he,hb,CA⟩:=(Vp oj k).1 hk
  exact .one hj he hb CA
 rcases h1 with h1|h1
 .exact d i (Qf h1 i ((UL Wf i).2 hi))
 .refine aci ops.toList.zipIdx.reverse (Ui oj) (fun p hp=>?_) d i (Qf h1 i ((UL Wf i).2 hi))
  have hp2:=List.mem_reverse.1 hp
  have:=List.mem_zipIdx' hp2
  rw [<-lTa]
  rw [lba]
  exact ⟨this.1,this.2.symm⟩
section
variable {P:Program} {ops:Array Oper} {S:World->Prop} {K:List Value->World->Prop} {ρ0:List Value} {Z:Nat->Bool} {ds:List Deferred}
theorem abh (hs:Region.noSelect ops=true) (plan:List (Nat × Kd)):∀(fuel:Nat) (listed:Array Bool) (live:Bool) (ρ:List Value) (w:World),plan.length<=fuel ->
  (∀i,(i,Kd.held)∈plan->∀j oj,ops[j]?=some oj->Z j=true->Pre .any ops j i) ->
  (∀i,(i,Kd.free)∈plan->Z i=true) ->
  O7 ops (EU plan) listed=true->(live=true->S w)->agree (Ys ops.toList) ρ0 ρ ->
  Cl .any ops listed->UA P ops.toList S K plan live ρ w->RY P .any ops (fun e a w'=>e=.normal/\a.defers=ds/\agree (Ys ops.toList) ρ0 a.tmps.toList/\K a.tmps.toList w') S Z fuel listed ⟨ρ.toArray,ds⟩ w:=by
 induction plan with
 | nil =>
  intro fuel listed live ρ w _ _ _ hok _ hag _ h
  have hr:=List.isEmpty_iff.1 hok
  cases fuel with
  | zero=>exact ⟨hr,rfl,rfl,hag,h⟩
  | succ f=>exact ⟨fun _=>⟨rfl,rfl,hag,h⟩,by rw [hr];simp⟩
 | cons ib r ih =>
  obtain ⟨i,kd⟩:=ib
  intro fuel listed live ρ w hfl Jy Gq hok hS hag R9 h
  obtain ⟨f,rfl⟩:∃f,fuel=f+1:=⟨fuel-1,by simp at hfl;omega⟩
  have HB:r.length<=f:=by grind
  have Ej:∀i,(i,Kd.held)∈r->∀j oj,ops[j]?=some oj->Z j=true->Pre .any ops j i:=fun k hk=>Jy k (by simp [hk])
  have Ei:∀i,(i,Kd.free)∈r->Z i=true:=fun k hk=>Gq k (by simp [hk])
  unfold EU at hok
  rw [leb,RQ] at hok
  rw [ach] at h
  simp only [Array.getElem?_toList] at h
  cases ho:ops[i]? with
  | none=>rw [ho] at hok;cases hok
  | some o =>
   rw [ho] at hok h
   simp only [Bool.and_eq_true] at hok h
   have hmem:∀n,o.dst=some n->n∈Ys ops.toList:=fun n hn=>by grind [Ys]
   have Im:=fun live ρ w=>ih f (listed.setIfInBounds i true) live ρ w HB Ej Ei
   cases kd with
   | pure =>
    simp only [FY,Bool.and_eq_true] at hok
    obtain ⟨⟨hfree,Wh⟩,VB⟩:=hok
    obtain ⟨b,hb,h⟩:=XX h
    have key:∀v,YieldsIf P ops (fun _=>True) o v ⟨ρ.toArray,ds⟩->UA P ops.toList S K r live (put ρ o.dst v) w->RY P .any ops (fun e a w'=>e=.normal/\a.defers=ds/\agree (Ys ops.toList) ρ0 a.tmps.toList/\K a.tmps.toList w') S Z (f+1) listed ⟨ρ.toArray,ds⟩ w:=fun v hy hk =>
     aaC ho (Region.noSelect_spec hs) (fun c a w hq=>by cases hq.1) f listed _ _ (Region.free_spec ho hfree) (by grind) hy (by
      rw [put_eq]
      exact Im live _ w VB hS (XH hag hmem v) (R9.step (by grind)) hk)
    cases b
    .simp only [X7] at h
     exact key undef (.inr ⟨hb,rfl⟩) h
    .obtain ⟨v,hv,hk⟩:=SY h
     rw [X7] at hk
     exact key v (.inl ⟨hb,fun w hS=>by rw [Yo];exact hv w hS⟩) hk
   | held =>
    simp only [FY,Bool.and_eq_true] at hok
    obtain ⟨⟨hfree,Wh⟩,VB⟩:=hok
    cases live with
    | false=>exact h.elim
    | true =>
     obtain ⟨b,hb,h⟩:=XX h
     have key:∀v,YieldsIf P ops S o v ⟨ρ.toArray,ds⟩->UA P ops.toList S K r true (put ρ o.dst v) w->RY P .any ops (fun e a w'=>e=.normal/\a.defers=ds/\agree (Ys ops.toList) ρ0 a.tmps.toList/\K a.tmps.toList w') S Z (f+1) listed ⟨ρ.toArray,ds⟩ w:=fun v hy hk =>
      aaq ho (Region.noSelect_spec hs) (fun c a w hq=>by cases hq.1) (Jy i zZ) f listed _ _ R9 (Region.free_spec ho hfree) (by grind) hy (hS rfl) (by
       rw [put_eq]
       exact Im true _ w VB hS (XH hag hmem v) (R9.step (by grind)) hk)
     cases b
     .simp only [X7] at h
      exact key undef (.inr ⟨hb,rfl⟩) h
     .obtain ⟨v,hv,hk⟩:=SY h
      rw [X7] at hk
      exact key v (.inl ⟨hb,fun w hS=>by rw [Yo];exact hv w hS⟩) hk
   | forced =>
    simp only [FY,beq_iff_eq] at hok
    obtain ⟨Wh,VB⟩:=hok
    cases live with
    | false=>exact h.elim
    | true =>
     obtain ⟨b,hb,h⟩:=XX h
     refine ⟨fun h0=>by rw [Wh] at h0;simp at h0,fun j hj=>?_⟩
     obtain rfl:j=i:=by grind
     unfold wpOp
     rw [ho]
     simp only [hb]
     cases b
     .simp only [Bool.false_eq_true,if_false,X7] at h ⊢
      rw [put_eq]
      exact ⟨.inr id,Im true _ w VB hS (XH hag hmem _) (R9.step hj) h⟩
     .simp only [if_true] at h ⊢
      refine .inl (UP h fun v w' ⟨EX,hk⟩=>?_)
      rw [X7] at hk
      rw [put_eq]
      exact ⟨.inr fun _=>EX,Im true _ w' VB (fun _=>EX) (XH hag hmem v) (R9.step hj) hk⟩
   | free =>
    simp only [FY,beq_iff_eq] at hok
    obtain ⟨Wh,VB⟩:=hok
    have hz:Z i=true:=Gq i zZ
    obtain ⟨b,hb,h⟩:=XX h
    refine ⟨fun h0=>by rw [Wh] at h0;simp at h0,fun j hj=>?_⟩
    obtain rfl:j=i:=by grind
    unfold wpOp
    rw [ho]
    simp only [hb]
    cases b
    .simp only [Bool.false_eq_true,if_false,X7] at h ⊢
     rw [put_eq]
     exact ⟨.inl hz,Im false _ w VB nofun (XH hag hmem _) (R9.step hj) h⟩
    .simp only [if_true] at h ⊢
     refine .inl (UP h fun v w' hk=>?_)
     rw [X7] at hk
     rw [put_eq]
     exact ⟨.inl hz,Im false _ w' VB nofun (XH hag hmem v) (R9.step hj) hk⟩
theorem ajX {id:Nat} {w:World} (S:World->Prop) (plan:List (Nat × Kd)) (hm:P.follows .mixedOrders=true) (hc:NH ops (EU plan)=true) (hz:Cz ops (Jw plan) (LH plan)=true)
  (h:∀w1,w1=w.drew->S w1/\UA P ops.toList S K plan true ρ0 w1):Ox P id ops K ρ0 w:=by
 have Df:=aac hc
 simp only [RP,Bool.and_eq_true,beq_iff_eq] at Df
 obtain ⟨⟨h1,h2⟩,h3⟩:=Df
 obtain ⟨hS,hk⟩:=h _ rfl
 have hl:plan.length<=ops.size:=by grind [EU]
 refine ⟨fun ds=>wp_region_any hm (abg (S:=S) (Z:=fun i=>(LH plan).contains i) _ _ _ _ (abh h1 plan _ _ true _ _ hl (fun i hi=>NG hz ?_) (fun i hi=>?_) h3 (fun _=>hS) (QH _ _) (Cl.start _) hk))⟩
 .grind [Jw]
 .grind [LH]
end
end Y4
end Go.Proofs.YtakpnepblgfknaaGreatDoor
