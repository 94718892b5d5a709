/- Texts of this claim, one behind the other. -/
import Derived.Tactics
import Derived.Below
import Derived.ScopeJumps
import Derived.Laws.Slices
import Derived.Laws.Small
import Derived.Laws.StructEq
import Derived.Laws.Pointers
import Derived.Laws.Cover3
import Derived.Laws.Strings
import Derived.Laws.BytesString
import Derived.Laws.Build
import Derived.Laws.OwnMore
import Derived.Laws.MakeOwn
import Derived.Laws.CopyOwn
import Derived.Laws.BytesArg
import Derived.KernelRfl
import Derived.OrdersHeld
import Derived.Laws.CopyRow
import Derived.Laws.AppendOwn
import Derived.ArgAppend
set_option linter.unusedVariables false
set_option linter.unusedSimpArgs false
set_option linter.defProp false
namespace Go.Proofs.YtakpnepblgfknaaGreatDoor
theorem zO {P:Prop} (h:P:=by omega):P:=h
theorem zN {P:Prop} (h:P:=by assumption):P:=h
theorem zM {P:Prop} (h:P:=by simp):P:=h
abbrev zm:=List Int
abbrev zl:=List UInt8
abbrev zk:=List Go.Value
theorem zy {α β γ:Type} {a:α} {b:β} {c:γ}:a=a/\b=b/\c=c:=⟨rfl,rfl,rfl⟩
theorem zD {α β γ δ:Type} {a:α} {b:β} {c:γ} {d:δ}:a=a/\b=b/\c=c/\d=d:=⟨rfl,rfl,rfl,rfl⟩
theorem zK {α β:Type _} {a:α} {b:β}:a=a/\b=b:=⟨rfl,rfl⟩
abbrev zJ (n:Int):Go.Value:=.int .i64 n
abbrev zI (n:Nat):Go.Value:=.pointer (some ⟨n,0,none⟩)
theorem k_a {P:Prop} (h:P:=by repeat first|exact ZV|refine ZL rfl ?_|refine Zr rfl (by first|omega|(simp only;omega)|(simp;omega)|(simp;done)) ?_):P:=h
theorem k_b {P:Prop} (h:P:=by simp only [List.all_cons,List.all_nil,Z6.one hg1,Z6.one U9,Z6.one T9,Z6.one UI,Z6.one U7,Z6.one Vi,Z6.one hs1,Z6.one h5,Z6.one h4,Z6.one h3,Z6.one h2,Z6.one ht1,Z6.one Pg,Z6.one TH,Z6.one QI,Z6.one hts,Z6.one ho,Z6.one hn,Z6.one ha];rfl):P:=h
theorem k_c {P:Prop} (h:P:=by first|omega|(simp only;omega)|(simp;omega)|(simp;done)):P:=h
theorem k_d {P:Prop} (h:P:=by (subst_vars;unfold Vm;(repeat first|rw [if_pos zO]|rw [if_neg zO]);(try simp only [YR,XL,XS,YM]);(try rfl))):P:=h
theorem k_e {P:Prop} (h:P:=by kernel_rfl):P:=h
theorem k_f {P:Prop} (h:P:=by (unfold UT;(repeat first|rw [if_pos zO]|rw [if_neg zO]);(try simp only [YR] at *);subst_vars;(try rfl);done)):P:=h
theorem k_g {P:Prop} (h:P:=by (subst_vars;first|omega|(rw [lca,lga];omega))):P:=h
theorem k_h {P:Prop} (h:P:=by simp only [List.all_cons,List.all_nil,H.one 2 rfl,H.one 3 rfl,H.one 4 rfl,H.one 5 rfl,Z6.one YG,Z6.one hx];rfl):P:=h
theorem k_i {P:Prop} (h:P:=by (simp only [List.length_append,List.length_set,List.length_cons,List.length_nil];omega)):P:=h
theorem k_j {P:Prop} (h:P:=by exact Xy.more zN zO):P:=h
theorem k_k {P:Prop} (h:P:=by rw [Yo];unfold execOp;rw [ho]):P:=h
theorem k_l {P:Prop} (h:P:=by simp only [List.all_cons,List.all_nil,H.one 2 rfl,H.one 3 rfl,Z6.one X5,Z6.one ML,Z6.one JA,Z6.one O9,Z6.one K7,Z6.one YX,Z6.one YK,Z6.one FP,Z6.one Zi];rfl):P:=h
theorem k_m {P:Prop} (h:P:=by simp only [List.all_cons,List.all_nil,H.one 4 rfl,H.one 5 rfl,Z6.one Xc,Z6.one Xd,Z6.one ZQ,Z6.one ht];rfl):P:=h
theorem k_n {P:Prop} (h:P:=by exact congrArg Value.bool (rfl)):P:=h
theorem k_o {P:Prop} (h:P:=by simp only [Bool.and_true,H.one 1 rfl,H.one 2 rfl,H.one 6 rfl,hvs,Z6.one ZP,Z6.one Zv,Z6.one ZQ,hvl]):P:=h
theorem k_p {P:Prop} (h:P:=by exact FR (by decide) (by decide) zN):P:=h
theorem k_q {P:Prop} (h:P:=by simp only [List.all_cons,List.all_nil,H.one 2 rfl,Z6.one YG,Z6.one GX,Z6.one hs,Z6.one hL,Z6.one he,Z6.one hb];rfl):P:=h
theorem k_r {P:Prop} (h:P:=by first|omega|(simp only;omega)|(simp;omega)):P:=h
theorem k_s {P:Prop} (h:P:=by simp [run_sliceBound (P:=P) w kh (h:Int) cap _ zO zO,run_sliceBound (P:=P) w kl (a:Int) h _ zO zO]):P:=h
theorem k_t {P:Prop} (h:P:=by rw [<-hargs];exact h):P:=h
theorem k_u {P:Prop} (h:P:=by exact ⟨rfl,rfl,rfl,rfl,fun _=>rfl⟩):P:=h
theorem k_v {P:Prop} (h:P:=by simp [run_sliceBound (P:=P) w kh (h:Int) cap _ zO zO]):P:=h
theorem k_w {P:Prop} (h:P:=by unfold execOp;rw [ho];simp only [resolve,hc,pure_bind,invoke,builtin]):P:=h
theorem k_x {P:Prop} (h:P:=by simp only [Bool.and_true,H.one 2 rfl,H.one 3 rfl,Vw.one V2,Z6.one ht]):P:=h
def laa:=@List.getElem?_eq_getElem
def lba:=@List.getElem?_eq_some_iff
def lca:=@List.length_append
def lda:=@List.mem_of_getElem?
def lea:=@List.all_cons
def lfa:=@List.length_map
def lga:=@List.length_replicate
def lha:=@List.all_nil
def lia0:=@Int.toNat_natCast
def lja:=@List.getD_eq_getElem?_getD
def lka:=@List.append_assoc
def lla:=@List.length_cons
def lma:=@List.eq_nil_of_length_eq_zero
def lna:=@Nat.le_refl
def loa:=@List.append_nil
def lpa:=@List.length_singleton
def lqa:=@List.drop_eq_getElem_cons
def lra:=@Int.eq_ofNat_of_zero_le
def lsa:=@List.mem_singleton
def lta:=@List.take_of_length_le
def lua:=@List.length_set
def lva:=@Array.getElem?_eq_some_iff
def lwa:=@List.drop_of_length_le
def lxa:=@List.take_append_of_le_length
def lya:=@List.getElem?_map
def lza:=@Nat.mul_le_mul_right
def lAa:=@List.length_take
def lBa:=@Nat.lt_or_ge
def lCa:=@List.length_nil
def lDa:=@Array.getD_eq_getD_getElem?
def lEa:=@Nat.le_trans
def lFa:=@List.ext_getElem?
def lGa:=@List.cons_append
def lHa:=@List.mem_append
def lIa:=@List.getElem?_append
def lJa:=@List.getElem?_take
def lKa:=@Nat.zero_le
def lLa:=@List.length_drop
def lMa:=@List.getElem?_set
def lNa:=@List.flatMap_cons
def lOa:=@List.getElem?_append_left
def lPa:=@List.nil_append
def lQa:=@List.flatMap_append
def lRa:=@Nat.pow_le_pow_right
def lSa:=@Option.map_some
def lTa:=@Array.getElem?_toList
def lUa:=@List.getElem?_drop
def lVa:=@Option.bind_eq_some_iff
def lWa:=@List.mem_map
def lXa:=@List.drop_zero
def lYa:=@List.drop_drop
def lZa:=@Nat.le_of_lt
def lab0:=@List.mem_append_left
def lbb:=@Nat.le_of_ble_eq_true
def lcb:=@Nat.eq_of_beq_eq_true
def ldb:=@List.take_append_drop
def leb:=@List.map_cons
def lfb:=@List.drop_succ_cons
def lgb:=@Array.getElem?_eq_getElem
def lhb:=@Nat.succ_mul
def lib:=@List.set_cons_succ
def ljb:=@List.set_cons_zero
def lkb:=@Nat.min_eq_left
def llb:=@List.map_append
def lmb:=@List.getElem_mem
def lnb:=@List.drop_append_of_le_length
def lob:=@Nat.le_succ
def lpb:=@List.mem_append_right
def lqb:=@List.eq_nil_or_concat
def lrb:=@List.mem_cons_of_mem
def lsb0:=@List.take_length
def ltb:=@List.all_eq_true
def lub0:=@List.getElem?_append_right
def lvb:=@Nat.add_sub_cancel
def lwb:=@List.singleton_inj
def lxb:=@List.mem_cons_self
def lyb:=@List.mem_of_mem_take
def lzb:=@List.mem_iff_getElem
def lAb:=@Nat.testBit_or
def lBb:=@List.take_left
def lCb:=@List.take_add_one
def lDb:=@Nat.testBit_two_pow_sub_one
def lEb:=@Nat.add_mul
def lFb:=@List.replicate_succ
def lGb:=@List.length_pos_iff
def lHb:=@Option.bind_some
def lIb:=@Nat.succ_le_succ
def lJb:=@List.drop_append
def lKb:=@Array.toList_map
def lLb:=@Nat.zero_add
def lMb:=@Nat.eq_zero_or_pos
def lNb:=@List.concat_eq_append
def lOb:=@List.drop_take
def lPb:=@Int.mul_le_mul_of_nonneg_right
def lQb:=@Nat.testBit_two_pow
def lRb:=@Nat.add_assoc
def lSb:=@List.not_mem_nil
def lTb:=@Int.mul_le_mul_of_nonneg_left
def lUb:=@List.take_take
namespace Y2
open Go
def gt:zk->Nat->Value
 | [],_=>undef
 | v::_,0=>v
 | _::r,n+1=>gt r n
def D6 (l:zk):Nat->(Value->Prop)->Prop :=
 List.rec (motive:=fun _=>Nat->(Value->Prop)->Prop) (fun _ k=>k undef) (fun v _ ih n k=>Nat.rec (motive:=fun _=>Prop) (k v) (fun m _=>ih m k) n) l
def Iv (l:zk):Nat->Value->(zk->Prop)->Prop :=
 List.rec (motive:=fun _=>Nat->Value->(zk->Prop)->Prop) (fun _ _ k=>k []) (fun x r ih n v k=>Nat.rec (motive:=fun _=>Prop) (k (v::r)) (fun m _=>ih m v (fun r'=>k (x::r'))) n) l
theorem afL (n:Nat) (v:Value) (k:zk->Prop):Iv [] n v k=k []:=rfl
theorem adJ (x:Value) (r:zk) (n:Nat) (v:Value) (k:zk->Prop):Iv (x::r) (n+1) v k=Iv r n v (fun r'=>k (x::r')):=rfl
def ev (ρ:zk):Operand->Value
 | .tmp t=>gt ρ t
 | .const v=>v
 | .global g=>.pointer (some ⟨g,0,none⟩)
 | .func f=>.func (.func f) #[] #[]
def VL (ρ:zk):Operand->(Value->Prop)->Prop
 | .tmp t,k=>D6 ρ t k
 | .const v,k=>k v
 | .global g,k=>k (.pointer (some ⟨g,0,none⟩))
 | .func f,k=>k (.func (.func f) #[] #[])
def T5 (ρ:zk) (l:List Operand):(zk->Prop)->Prop :=
 List.rec (motive:=fun _=>(zk->Prop)->Prop) (fun k=>k []) (fun x _ ih k=>VL ρ x fun v=>ih fun vs=>k (v::vs)) l
theorem ada (ρ:zk) (x:Operand) (r:List Operand) (k:zk->Prop):T5 ρ (x::r) k=VL ρ x fun v=>T5 ρ r fun vs=>k (v::vs):=rfl
def Xx (ρ:zk) (d:Option Nat) (v:Value) (k:zk->Prop):Prop :=
 match d with
 | none=>k ρ
 | some d=>Iv ρ d v k
theorem O1 (ρ:zk) (n:Nat) (k:Value->Prop):D6 ρ n k=k (gt ρ n):=by
 induction ρ generalizing n with
 | nil=>rfl
 | cons v r ih=>cases n with
  | zero=>rfl
  | succ n=>exact ih n
theorem Tg (ρ:zk) (n:Nat) (v:Value) (k:zk->Prop):Iv ρ n v k=k (ρ.set n v):=by
 induction ρ generalizing n k with
 | nil=>simp [afL]
 | cons x r ih=>cases n with
  | zero=>rfl
  | succ n=>simp [adJ,ih]
theorem Tf (ρ:zk) (x:Operand) (k:Value->Prop):VL ρ x k=k (ev ρ x):=by
 cases x <;> simp [VL,ev,O1]
theorem N6 (ρ:zk) (xs:List Operand) (k:zk->Prop):T5 ρ xs k=k (xs.map (ev ρ)):=by
 induction xs generalizing k with
 | nil=>rfl
 | cons x r ih=>simp [ada,Tf,ih]
def put (ρ:zk) (d:Option Nat) (v:Value):zk :=
 match d with
 | none=>ρ
 | some d=>ρ.set d v
theorem X7 (ρ:zk) (d:Option Nat) (v:Value) (k:zk->Prop):Xx ρ d v k=k (put ρ d v):=by
 cases d <;> simp [Xx,put,Tg]
theorem Qc (ρ:zk) (n:Nat):gt ρ n=ρ.toArray.getD n undef:=by
 induction ρ generalizing n with
 | nil=>simp [gt]
 | cons v r ih=>cases n with
  | zero=>simp [gt]
  | succ n=>simp [gt,ih]
theorem Yo (ρ:zk) {ds:List Deferred}:(⟨ρ.toArray,ds⟩:Act).eval=ev ρ:=by
 funext x;cases x <;> simp [Act.eval,ev,Qc]
theorem put_eq (ρ:zk) (d:Option Nat) (v:Value) {ds:List Deferred}:(⟨ρ.toArray,ds⟩:Act).put d v=⟨(put ρ d v).toArray,ds⟩:=by
 cases d <;> simp [Act.put,put]
def Tu (k:IntKind) (x y:Int):Int:=k.wrap (BitVec.ofInt k.bits x &&& BitVec.ofInt k.bits y).toNat
def RH (k:IntKind) (x y:Int):Int:=k.wrap (BitVec.ofInt k.bits x ||| BitVec.ofInt k.bits y).toNat
def Qy (k:IntKind) (x y:Int):Int:=k.wrap (BitVec.ofInt k.bits x ^^^ BitVec.ofInt k.bits y).toNat
def Rc (k:IntKind) (x y:Int):Int:=k.wrap (BitVec.ofInt k.bits x &&& ~~~(BitVec.ofInt k.bits y)).toNat
def Wd (k:IntKind) (x y:Int):Int:=k.wrap (x * 2 ^ min y.toNat k.bits)
def W4 (k:IntKind) (x y:Int):Int:=x.fdiv (2 ^ min y.toNat k.bits)
def ZO (k:IntKind) (x:Int):Int:=k.wrap x
def Te (k:IntKind) (x y:Int):Int:=k.wrap (x.tdiv y)
def Sq (x y:Int):Int:=x.tmod y
theorem adK:∃f:Int->Int->Bool,∀x y,f x y=decide (x<y):=⟨_,fun _ _=>rfl⟩
theorem adL:∃f:Int->Int->Bool,∀x y,f x y=decide (x<=y):=⟨_,fun _ _=>rfl⟩
theorem adM:∃f:Int->Int->Bool,∀x y,f x y=(x == y):=⟨_,fun _ _=>rfl⟩
theorem adN:∃f:Int->Int->Bool,∀x y,f x y=(x != y):=⟨_,fun _ _=>rfl⟩
noncomputable def Gc:Int->Int->Bool:=Classical.choose adK
noncomputable def Jw:Int->Int->Bool:=Classical.choose adL
noncomputable def Kf:Int->Int->Bool:=Classical.choose adM
noncomputable def EH:Int->Int->Bool:=Classical.choose adN
theorem Sp (x y:Int):Gc x y=decide (x<y):=Classical.choose_spec adK x y
theorem So (x y:Int):Jw x y=decide (x<=y):=Classical.choose_spec adL x y
theorem Sn (x y:Int):Kf x y=(x == y):=Classical.choose_spec adM x y
theorem Sm (x y:Int):EH x y=(x != y):=Classical.choose_spec adN x y
attribute [irreducible] Tu RH Qy Rc Wd W4 ZO Te Sq Gc Jw Kf EH
def AX:IntKind->IntKind->Bool
 | .i8,.i8|.i16,.i16|.i32,.i32|.i64,.i64|.u8,.u8|.u16,.u16|.u32,.u32|.u64,.u64=>true
 | _,_=>false
theorem adO {k k':IntKind} (h:AX k k'=true):k=k':=by cases k <;> cases k' <;> first|rfl|cases h
inductive Zd (P:Program) (m:Sem Value) (w:World) (K:Value->World->Prop):Prop
 | mk (v:Value) (w':World) (h:m.run P w=.ok v w') (k:K v w')
inductive Iu (P:Program) (m:Sem Unit) (w:World) (K:World->Prop):Prop
 | mk (w':World) (h:m.run P w=.ok () w') (k:K w')
structure Fc (P:Program) (f:FuncId) (args:Array Value) (w:World) (R:Value->World->Prop):Prop where
 N5:(callFunc f args).run P w=.ok (.enter f args) w
 calls:Calls P f args w fun e w'=>∃v,e=.returned v/\R v w'
inductive Z8 (P:Program) (f:FuncId) (args:Array Value) (w:World) (K:Value->World->Prop):Prop
 | mk (h:Fc P f args w K)
inductive Ke (P:Program) (recv:Value) (name:String) (args:Array Value) (w:World) (K:Value->World->Prop):Prop
 | mk (f:FuncId) (r:Value) (w1:World) (t:TypeId) (v:Value) (hr:recv=.iface t v)
   (hm:(method (P.types.size+Made.depth) t v name).run P w=.ok (f,r) w1) (h:Fc P f (#[r]++args) w1 K)
def NF (b:Bool) (k:Bool->Prop):Prop:=match b with
 | true=>k true
 | false=>k false
theorem SO (b:Bool) (k:Bool->Prop):NF b k=k b:=by cases b <;> rfl
theorem br {b:Bool} {X Y:Prop} (t:b=true->X) (f:b=false->Y):NF.match_1 (fun _=>Prop) b (fun _=>X) (fun _=>Y):=by
 cases b
 .exact f rfl
 .exact t rfl
theorem Wp {b:Bool} {X Y:Prop} (h:b=true) (t:X):NF.match_1 (fun _=>Prop) b (fun _=>X) (fun _=>Y):=by subst h;exact t
theorem WU {b:Bool} {X Y:Prop} (h:b=false) (f:Y):NF.match_1 (fun _=>Prop) b (fun _=>X) (fun _=>Y):=by subst h;exact f
inductive VX (b:Int) (K:Prop):Prop
 | mk (h:b≠0) (k:K)
inductive YC (b:Int) (K:Prop):Prop
 | mk (h:0<=b) (k:K)
inductive WT (e:Int) (K:Int->Prop):Prop
 | mk (m:Int) (h:e=m) (k:K m)
theorem WT.keep {e:Int} {K:Int->Prop} (k:K e):WT e K:=⟨e,rfl,k⟩
theorem WT.imp {e:Int} {K K':Int->Prop} (h:WT e K) (hk:∀m,K m->K' m):WT e K':=by obtain ⟨m,e,k⟩:=h;exact ⟨m,e,hk _ k⟩
def Sk (op:BinOp) (k:IntKind) (a b:Int) (K:Value->Prop):Prop :=
 match op with
 | .add=>WT (ZO k (a+b)) fun n=>K (.int k n)
 | .sub=>WT (ZO k (a-b)) fun n=>K (.int k n)
 | .mul=>WT (ZO k (a * b)) fun n=>K (.int k n)
 | .quo=>VX b (WT (Te k a b) fun n=>K (.int k n))
 | .rem=>VX b (WT (Sq a b) fun n=>K (.int k n))
 | .and=>WT (Tu k a b) fun n=>K (.int k n)
 | .or=>WT (RH k a b) fun n=>K (.int k n)
 | .xor=>WT (Qy k a b) fun n=>K (.int k n)
 | .andNot=>WT (Rc k a b) fun n=>K (.int k n)
 | .eql=>K (.bool (Kf a b))
 | .neq=>K (.bool (EH a b))
 | .lss=>K (.bool (Gc a b))
 | .leq=>K (.bool (Jw a b))
 | .gtr=>K (.bool (Gc b a))
 | .geq=>K (.bool (Jw b a))
 | _=>False
def H9 (P:Program) (op:BinOp) (t:TypeId) (x y:Operand) (a b:Value) (w:World) (K:Value->World->Prop):Prop :=
 match a with
 | .int k a=>match b with
  | .int k' b=>match op with
   | .shl=>YC b (WT (Wd k a b) fun n=>K (.int k n) w)
   | .shr=>YC b (WT (W4 k a b) fun n=>K (.int k n) w)
   | op=>match AX k k' with
    | true=>Sk op k a b fun v=>K v w
    | false=>False
  | b=>Zd P (do eqGuard op t x y (.int k a) b;binOp op t (.int k a) b) w K
 | a=>Zd P (do eqGuard op t x y a b;binOp op t a b) w K
def O0 (l:zk):zk->(zk->Prop)->Prop :=
 List.rec (motive:=fun _=>zk->(zk->Prop)->Prop) (fun ys k=>k ys) (fun x _ ih ys k=>ih ys fun zs=>k (x::zs)) l
theorem adb (x:Value) (xs ys:zk) (k:zk->Prop):O0 (x::xs) ys k=O0 xs ys fun zs=>k (x::zs):=rfl
theorem Sj (xs ys:zk) (k:zk->Prop):O0 xs ys k=k (xs++ys):=by
 induction xs generalizing k with
 | nil=>rfl
 | cons x xs ih=>simp [adb,ih]
def Qb (P:Program) (f:Value) (args:zk) (w:World) (K:Value->World->Prop):Prop :=
 match f with
 | .func fn first captured=>match fn with
  | .func id=>O0 args captured.toList fun a=>O0 first.toList a fun a=>Z8 P id a.toArray w K
  | _=>False
 | _=>False
def Kc (l:zk):Nat->(Value->Prop)->Prop :=
 List.rec (motive:=fun _=>Nat->(Value->Prop)->Prop) (fun _ _=>False) (fun v _ ih n k=>Nat.rec (motive:=fun _=>Prop) (k v) (fun m _=>ih m k) n) l
theorem N4 {l:zk} {n:Nat} {k:Value->Prop} (h:Kc l n k):∃v,l[n]?=some v/\k v:=by
 induction l generalizing n with
 | nil=>exact h.elim
 | cons x r ih=>cases n with
  | zero=>exact ⟨x,rfl,h⟩
  | succ n=>simpa using ih (n:=n) h
theorem adP {l:zk} {n:Nat} {k k':Value->Prop} (h:Kc l n k) (hk:∀v,k v->k' v):Kc l n k':=by
 induction l generalizing n with
 | nil=>exact h.elim
 | cons x r ih=>cases n with
  | zero=>exact hk _ h
  | succ n=>exact ih (n:=n) h
def Co (P:Program) (op:UnOp) (a:Value) (w:World) (K:Value->World->Prop):Prop :=
 match op with
 | .not=>match a with
  | .bool b=>K (.bool (!b)) w
  | _=>False
 | .neg=>match a with
  | .int k n=>WT (ZO k (0-n)) fun m=>K (.int k m) w
  | _=>False
 | op=>Zd P (Op.unary op a) w K
def ajM (P:Program) (src dst:TypeId) (a:Value) (w:World) (K:Value->World->Prop):Prop :=
 Zd P (convert src dst a) w K
def H8 (v:Value) (w:World) (K:Value->World->Prop):Prop :=
 match v with
 | .pointer p=>match p with
  | some a=>K (.pointer (some a)) w
  | none=>False
 | .func fn a b=>match fn with
  | .func f=>K (.func (.func f) a b) w
  | _=>False
 | .iface t x=>K (.iface t x) w
 | _=>False
def OZ (ρ:zk) (l:List (Nat × Operand)):(List (Nat × Value)->Prop)->Prop :=
 List.rec (motive:=fun _=>(List (Nat × Value)->Prop)->Prop) (fun k=>k []) (fun p _ ih k=>match p with
  | (i,x)=>VL ρ x fun v=>ih fun vs=>k ((i,v)::vs)) l
theorem aa1 (ρ:zk) (i:Nat) (x:Operand) (r:List (Nat × Operand)) (k:List (Nat × Value)->Prop):OZ ρ ((i,x)::r) k=VL ρ x fun v=>OZ ρ r fun vs=>k ((i,v)::vs):=rfl
theorem OY (ρ:zk) (xs:List (Nat × Operand)) (k:List (Nat × Value)->Prop) :
  OZ ρ xs k=k (xs.map fun (i,x)=>(i,ev ρ x)):=by
 induction xs generalizing k with
 | nil=>rfl
 | cons x r ih=>obtain ⟨i,x⟩:=x;simp [aa1,Tf,ih]
def LF (ρ:zk):Option Operand->(Option Value->Prop)->Prop
 | none,k=>k none
 | some x,k=>VL ρ x fun v=>k (some v)
theorem LD (ρ:zk) (x:Option Operand) (k:Option Value->Prop):LF ρ x k=k (x.map (ev ρ)):=by
 cases x <;> simp [LF,Tf]
def Ho (v:Value) (i:Nat) (w:World) (K:Value->World->Prop):Prop :=
 match v with
 | .tuple vs=>Kc vs.toList i fun v=>K v w
 | _=>False
def LC (P:Program) (o:Oper) (ρ:zk) (w:World) (K:Value->World->Prop):Prop :=
 match o.op with
 | .move x=>VL ρ x fun v=>K v w
 | .assign x=>VL ρ x fun v=>K v w
 | .pick c a b=>VL ρ c fun c=>match c with
  | .bool c=>NF c fun c=>match c with
   | true=>VL ρ a fun v=>K v w
   | false=>VL ρ b fun v=>K v w
  | _=>False
 | .alloc t=>Zd P (Instr.alloc t true (.tuple #[])) w K
 | .box t x=>VL ρ x fun v=>Zd P (Instr.box t v) w K
 | .build t parts=>OZ ρ parts.toList fun vs=>Zd P (Instr.build t vs.toArray) w K
 | .buildSlice t n parts=>OZ ρ parts.toList fun vs=>Zd P (Instr.buildSlice t n vs.toArray) w K
 | .load t x=>VL ρ x fun a=>Zd P (Instr.loadAt t a) w K
 | .store t x y=>VL ρ x fun a=>VL ρ y fun v=>Iu P (Instr.storeAt t a v) w (K undef)
 | .nilCheck x=>VL ρ x fun v=>H8 v w K
 | .binOp op t x y _=>VL ρ x fun a=>VL ρ y fun b=>H9 P op t x y a b w K
 | .unOp op _ x=>VL ρ x fun a=>Co P op a w K
 | .convert s d x=>VL ρ x fun a=>ajM P s d a w K
 | .makeInterface t x=>VL ρ x fun a=>Zd P (Instr.makeInterface t a) w K
 | .makeFunc fn first captured=>T5 ρ first.toList fun fs=>T5 ρ captured.toList fun cs=>K (.func fn fs.toArray cs.toArray) w
 | .makeSlice t l c=>VL ρ l fun l=>VL ρ c fun c=>Zd P (Instr.makeSlice t l c) w K
 | .slice t x lo hi mx=>VL ρ x fun a=>LF ρ lo fun lo=>LF ρ hi fun hi=>LF ρ mx fun mx=>Zd P (Instr.sliceAt t a lo hi mx) w K
 | .fieldAddr t x f=>VL ρ x fun a=>Zd P (Instr.fieldAt t a f) w K
 | .field t x f=>VL ρ x fun a=>Zd P (Instr.field t a f) w K
 | .indexAddr t x i=>VL ρ x fun a=>VL ρ i fun i=>Zd P (Instr.indexAt t a i) w K
 | .index t x i=>VL ρ x fun a=>VL ρ i fun i=>Zd P (Instr.index t a i) w K
 | .extract x i=>VL ρ x fun v=>Ho v i w K
 | .typeAssert x t u ok=>VL ρ x fun a=>Zd P (Instr.typeAssert a t u ok) w K
 | .call c=>match c.callee with
  | .value f=>VL ρ f fun f=>T5 ρ c.args.toList fun vs=>Qb P f vs w K
  | .builtin .append=>T5 ρ c.args.toList fun vs=>Zd P (Builtin.append_ c.argTypes o.type vs.toArray) w K
  | .builtin .len=>T5 ρ c.args.toList fun vs=>Zd P (Builtin.len_ c.argTypes o.type vs.toArray) w K
  | .builtin .copy=>T5 ρ c.args.toList fun vs=>Zd P (Builtin.copy_ c.argTypes o.type vs.toArray) w K
  | .builtin .max=>T5 ρ c.args.toList fun vs=>Zd P (Builtin.max_ c.argTypes o.type vs.toArray) w K
  | .builtin .min=>T5 ρ c.args.toList fun vs=>Zd P (Builtin.min_ c.argTypes o.type vs.toArray) w K
  | .builtin .cap=>T5 ρ c.args.toList fun vs=>Zd P (Builtin.cap_ c.argTypes o.type vs.toArray) w K
  | .builtin .clear=>T5 ρ c.args.toList fun vs=>Zd P (Builtin.clear_ c.argTypes o.type vs.toArray) w K
  | .builtin .delete=>T5 ρ c.args.toList fun vs=>Zd P (Builtin.delete_ c.argTypes o.type vs.toArray) w K
  | .builtin .unsafeSliceData=>T5 ρ c.args.toList fun vs=>Zd P (Builtin.unsafeSliceData_ c.argTypes o.type vs.toArray) w K
  | .builtin .unsafeString=>T5 ρ c.args.toList fun vs=>Zd P (Builtin.unsafeString_ c.argTypes o.type vs.toArray) w K
  | .invoke r name=>VL ρ r fun r=>T5 ρ c.args.toList fun vs=>Ke P r name vs.toArray w K
  | _=>False
 | .makeMap t r=>LF ρ r fun r=>Zd P (Instr.makeMap t r) w K
 | .lookup t x i ok=>VL ρ x fun a=>VL ρ i fun i=>Zd P (Instr.lookup t a i ok) w K
 | .mapUpdate t m k x=>VL ρ m fun m=>VL ρ k fun k=>VL ρ x fun x=>Iu P (Instr.mapUpdate t m k x) w (K undef)
 | .range t x=>VL ρ x fun a=>Zd P (Instr.range t a) w K
 | .next it st=>VL ρ it fun a=>Zd P (Instr.next a st o.type) w K
 | .entry it=>VL ρ it fun a=>Zd P (Instr.entry a) w K
 | _=>False
theorem Zd.imp {P:Program} {m:Sem Value} {w:World} {K K':Value->World->Prop} (h:Zd P m w K) (hk:∀v w',K v w'->K' v w'):Zd P m w K':=by
 obtain ⟨v,w',h,k⟩:=h;exact ⟨v,w',h,hk _ _ k⟩
theorem Iu.imp {P:Program} {m:Sem Unit} {w:World} {K K':World->Prop} (h:Iu P m w K) (hk:∀w',K w'->K' w'):Iu P m w K':=by
 obtain ⟨w',h,k⟩:=h;exact ⟨w',h,hk _ k⟩
theorem Fc.imp {P:Program} {f:FuncId} {args:Array Value} {w:World} {R R':Value->World->Prop} (h:Fc P f args w R) (hk:∀v w',R v w'->R' v w'):Fc P f args w R' :=
 ⟨h.N5,h.calls.mono fun _ _ ⟨v,he,hr⟩=>⟨v,he,hk _ _ hr⟩⟩
theorem Z8.imp {P:Program} {f:FuncId} {args:Array Value} {w:World} {R R':Value->World->Prop} (h:Z8 P f args w R) (hk:∀v w',R v w'->R' v w'):Z8 P f args w R':=by
 obtain ⟨h⟩:=h;exact ⟨h.imp hk⟩
theorem Ke.imp {P:Program} {r:Value} {n:String} {args:Array Value} {w:World} {R R':Value->World->Prop} (h:Ke P r n args w R) (hk:∀v w',R v w'->R' v w'):Ke P r n args w R':=by
 obtain ⟨f,r,w1,t,v,hr,hm,h⟩:=h;exact ⟨f,r,w1,t,v,hr,hm,h.imp hk⟩
theorem abU {op:BinOp} {k:IntKind} {a b:Int} {K K':Value->Prop} (h:Sk op k a b K) (hk:∀v,K v->K' v):Sk op k a b K':=by
 cases op <;> simp only [Sk] at h⊢<;> first|exact hk _ h|exact h.imp fun m=>hk _|(obtain ⟨h,k⟩:=h;exact ⟨h,k.imp fun m=>hk _⟩)|exact h
theorem adQ {P:Program} {op:BinOp} {t:TypeId} {x y:Operand} {a b:Value} {w:World} {K K':Value->World->Prop}
  (h:H9 P op t x y a b w K) (hk:∀v w',K v w'->K' v w'):H9 P op t x y a b w K':=by
 unfold H9 at h ⊢
 split at h
 .split at h
  .split at h
   .obtain ⟨h,k⟩:=h;exact ⟨h,k.imp fun m=>hk _ _⟩
   .obtain ⟨h,k⟩:=h;exact ⟨h,k.imp fun m=>hk _ _⟩
   .split at h
    .exact abU h fun v=>hk v w
    .exact h
  .exact h.imp hk
 .exact h.imp hk
theorem afM {P:Program} {op:UnOp} {a:Value} {w:World} {K K':Value->World->Prop}
  (h:Co P op a w K) (hk:∀v w',K v w'->K' v w'):Co P op a w K':=by
 unfold Co at h ⊢
 split at h
 .split at h
  .grind
  .exact h
 .split at h
  .exact h.imp fun m=>hk _ _
  .exact h
 .exact h.imp hk
theorem adR {a:Value} {w:World} {K K':Value->World->Prop}
  (h:H8 a w K) (hk:∀v w',K v w'->K' v w'):H8 a w K':=by
 unfold H8 at h ⊢
 split at h
 .split at h
  .grind
  .exact h
 .split at h
  .grind
  .exact h
 .grind
 .exact h
theorem adS {a:Value} {i:Nat} {w:World} {K K':Value->World->Prop}
  (h:Ho a i w K) (hk:∀v w',K v w'->K' v w'):Ho a i w K':=by
 unfold Ho at h ⊢
 split at h
 .exact adP h fun v=>hk v w
 .exact h
theorem aa2 {P:Program} {f:Value} {vs:zk} {w:World} {K K':Value->World->Prop}
  (h:Qb P f vs w K) (hk:∀v w',K v w'->K' v w'):Qb P f vs w K':=by
 unfold Qb at h ⊢
 simp only [Sj] at h ⊢
 split at h
 .split at h
  .exact h.imp hk
  .exact h
 .exact h
theorem LB {P:Program} {o:Oper} {ρ:zk} {w:World} {K K':Value->World->Prop}
  (h:LC P o ρ w K) (hk:∀v w',K v w'->K' v w'):LC P o ρ w K':=by
 unfold LC at h ⊢
 simp only [Tf,N6,OY,LD,SO] at h ⊢
 split at h <;> first
  | exact h.imp hk
  | exact hk _ _ h
  | exact adQ h hk
  | exact afM h hk
  | exact Zd.imp h hk
  | exact adR h hk
  | exact adS h hk
  | exact h.imp fun w'=>hk _ w'
  | exact h
  | (split at h <;> first|exact aa2 h hk|exact Zd.imp h hk|exact Ke.imp h hk|exact h|(split at h <;> exact hk _ _ h))
theorem YY {P:Program} {o:Oper} {a:Act} {m:Sem Value} {w:World} {next:Act->World->Prop} {Q:Exit->Act->World->Prop}
  (he:execOp a.eval o=(do pure (.value (<-m)))) (h:Zd P m w fun v w'=>next (a.put o.dst v) w'):o.wp P a w next Q:=by
 obtain ⟨v,w',hm,k⟩:=h
 simp only [Oper.wp,he,Sem.run_bind,hm,Result.andThen_ok,Sem.run_pure,Oper.upon]
 exact k
theorem U6 {P:Program} {o:Oper} {a:Act} {v:Value} {w w':World} {next:Act->World->Prop} {Q:Exit->Act->World->Prop}
  (he:(execOp a.eval o).run P w=.ok (.value v) w') (h:next (a.put o.dst v) w'):o.wp P a w next Q:=by grind [Oper.wp,Oper.upon]
theorem ade {P:Program} {o:Oper} {a:Act} {f:FuncId} {args:Array Value} {w:World} {next:Act->World->Prop} {Q:Exit->Act->World->Prop}
  (he:(execOp a.eval o).run P w=(callFunc f args).run P w) (h:Fc P f args w fun v w'=>next (a.put o.dst v) w'):o.wp P a w next Q:=by
 obtain ⟨h1,h2⟩:=h
 simp only [Oper.wp,he,h1,Oper.upon]
 refine h2.mono ?_
 rintro e w' ⟨v,rfl,hr⟩
 exact hr
theorem aaS {P:Program} {op:BinOp} {k:IntKind} {t:TypeId} {x y:Operand} {a b:Int} {w:World} {K:Value->Prop} (amL:op≠.shl) (amM:op≠.shr)
  (h:Sk op k a b K):Zd P (do eqGuard op t x y (.int k a) (.int k b);binOp op t (.int k a) (.int k b)) w fun v w'=>w'=w/\K v:=by
 have hg:(eqGuard op t x y (.int k a) (.int k b)).run P w=.ok () w:=by simp [eqGuard]
 cases op <;> simp only [Sk] at h <;> first
  | (obtain ⟨hb,_,rfl,h⟩:=h;refine ⟨_,w,?_,rfl,h⟩;simp only [Sem.run_bind,hg,Result.andThen_ok];simp [binOp,Op.intDiv,hb,Te,Sq])
  | (obtain ⟨_,rfl,h⟩:=h;refine ⟨_,w,?_,rfl,h⟩;simp only [Sem.run_bind,hg,Result.andThen_ok];simp [binOp,Op.intArith,Op.intBits,Op.intCmp,ZO,Tu,RH,Qy,Rc,Sn,Sm,Sp,So])
  | (refine ⟨_,w,?_,rfl,h⟩;simp only [Sem.run_bind,hg,Result.andThen_ok];simp [binOp,Op.intArith,Op.intBits,Op.intCmp,ZO,Tu,RH,Qy,Rc,Sn,Sm,Sp,So])
  | contradiction
  | exact h.elim
theorem abV {P:Program} {op:BinOp} {t:TypeId} {x y:Operand} {a b:Value} {w:World} {K:Value->World->Prop}
  (h:H9 P op t x y a b w K):Zd P (do eqGuard op t x y a b;binOp op t a b) w K:=by
 unfold H9 at h
 split at h
 .split at h
  .split at h
   .obtain ⟨hb,_,rfl,h⟩:=h
    refine ⟨_,w,?_,h⟩
    simp only [eqGuard,Sem.run_bind];simp [binOp,Op.shift,Wd,Int.not_lt.2 hb]
   .obtain ⟨hb,_,rfl,h⟩:=h
    refine ⟨_,w,?_,h⟩
    simp only [eqGuard,Sem.run_bind];simp [binOp,Op.shift,W4,Int.not_lt.2 hb]
   .rename_i Qx hk2
    split at h
    .rename_i hk
     obtain rfl:=adO hk
     exact (aaS (fun e=>Qx e) (fun e=>hk2 e) h).imp fun v w' ⟨e,k⟩=>e ▸ k
    .exact h.elim
  .exact h
 .exact h
theorem UH {ds:List Deferred} {P:Program} {o:Oper} {ρ:zk} {w:World} {K:Value->World->Prop} {next:Act->World->Prop} {Q:Exit->Act->World->Prop}
  (h:LC P o ρ w K) (hn:∀v w',K v w'->next ((⟨ρ.toArray,ds⟩:Act).put o.dst v) w'):o.wp P ⟨ρ.toArray,ds⟩ w next Q:=by
 have h:=LB h hn
 clear hn
 unfold LC at h
 simp only [Tf,N6,OY,LD,SO] at h
 split at h
 case h_1 x ho=>exact U6 (v:=ev ρ x) (w':=w) (by rw [Yo];unfold execOp;rw [ho];rfl) h
 case h_2 x ho=>exact U6 (v:=ev ρ x) (w':=w) (by rw [Yo];unfold execOp;rw [ho];rfl) h
 case h_3 c a b ho =>
  split at h
  .rename_i cb hc
   split at h
   .exact U6 (v:=ev ρ a) (w':=w) (by rw [Yo];unfold execOp;rw [ho];simp [hc,asBool]) h
   .exact U6 (v:=ev ρ b) (w':=w) (by rw [Yo];unfold execOp;rw [ho];simp [hc,asBool]) h
  .grind
 case h_4 t ho=>exact YY (by grind [execOp]) h
 case h_5 t x ho=>exact YY k_k h
 case h_6 t ps ho =>
  refine YY (m:=Instr.build t ((ps.toList.map fun (i,x)=>(i,ev ρ x)).toArray)) (by rw [Yo];unfold execOp;rw [ho];simp [<-Array.toList_map]) h
 case h_7 t n ps ho =>
  refine YY (m:=Instr.buildSlice t n ((ps.toList.map fun (i,x)=>(i,ev ρ x)).toArray)) (by rw [Yo];unfold execOp;rw [ho];simp [<-Array.toList_map]) h
 case h_8 t x ho=>exact YY k_k h
 case h_9 t x y ho =>
  obtain ⟨w',hm,k⟩:=h
  have he:(execOp (⟨ρ.toArray,ds⟩:Act).eval o).run P w=.ok .skip w':=by
   rw [Yo];unfold execOp;rw [ho];simp only [Sem.run_bind,hm,Result.andThen_ok,Sem.run_pure]
  simp only [Oper.wp,he,Oper.upon]
  exact k
 case h_10 x ho =>
  have he:∀u,H8 (ev ρ x) w u->∃v,(execOp (ev ρ) o).run P w=.ok (.value v) w/\u v w:=by
   intro u hu
   unfold H8 at hu
   unfold execOp
   rw [ho]
   simp only
   split at hu
   .rename_i p hp
    split at hu
    .exact ⟨_,by rw [hp];rfl,hu⟩
    .grind
   .rename_i fn a b hp
    split at hu
    .exact ⟨_,by rw [hp];rfl,hu⟩
    .grind
   .rename_i t v hp
    exact ⟨_,by rw [hp];rfl,hu⟩
   .grind
  obtain ⟨v,h1,h2⟩:=he _ h
  exact U6 (by grind [Yo]) h2
 case h_11 op t x y yt ho=>exact YY k_k (abV h)
 case h_12 op t x ho =>
  unfold Co at h
  split at h
  .split at h
   .rename_i b hb
    refine U6 (v:=.bool (!b)) (w':=w) ?_ h
    rw [Yo];unfold execOp;rw [ho];simp [hb,Op.unary]
   .grind
  .split at h
   .rename_i k n hb
    obtain ⟨_,rfl,h⟩:=h
    refine U6 (v:=.int k (ZO k (0-n))) (w':=w) ?_ h
    rw [Yo];unfold execOp;rw [ho];simp [hb,Op.unary,Op.intArith,ZO]
   .grind
  .exact YY k_k h
 case h_13 s d x ho=>exact YY k_k h
 case h_14 t x ho=>exact YY k_k h
 case h_15 fn fs cs ho =>
  refine U6 (w':=w) ?_ h
  rw [Yo];unfold execOp;rw [ho];simp [Instr.makeFunc,<-Array.toList_map]
 case h_16 t l c ho=>exact YY k_k h
 case h_17 t x lo hi mx ho=>exact YY k_k h
 case h_18 t x f ho=>exact YY k_k h
 case h_19 t x f ho=>exact YY k_k h
 case h_20 t x i ho=>exact YY k_k h
 case h_21 t x i ho=>exact YY k_k h
 case h_22 x i ho =>
  unfold Ho at h
  split at h
  .rename_i vs hv
   obtain ⟨u,hu,h⟩:=N4 h
   refine U6 (v:=u) (w':=w) ?_ h
   rw [Yo];unfold execOp;rw [ho]
   simp only [Array.getElem?_toList] at hu
   simp [hv,Instr.extract,hu]
  .grind
 case h_23 x t u ok ho=>exact YY k_k h
 case h_24 c ho =>
  have hargs:∀(xs:Array Operand),(xs.toList.map (ev ρ)).toArray=xs.map (ev ρ):=fun xs=>by simp [<-Array.toList_map]
  split at h
  .rename_i f hf
   unfold Qb at h
   simp only [Sj] at h
   split at h
   .rename_i fn fst cap hv
    split at h
    .rename_i id
     obtain ⟨h⟩:=h
     refine ade (f:=id) ?_ h
     have he:(fst.toList++(List.map (ev ρ) c.args.toList++cap.toList)).toArray=fst++Array.map (ev ρ) c.args++cap:=by simp
     rw [Yo];unfold execOp;rw [ho]
     simp only [resolve,hf,hv,Deferred.ofValue,Sem.run_bind,Sem.run_pure,Result.andThen_ok,invoke,he]
    .grind
   .grind
  .rename_i hc
   refine YY (m:=Builtin.append_ c.argTypes o.type (c.args.map (ev ρ))) ?_ k_t
   rw [Yo];unfold execOp;rw [ho];simp only [resolve,hc,pure_bind,invoke,builtin]
  .rename_i hc
   refine YY (m:=Builtin.len_ c.argTypes o.type (c.args.map (ev ρ))) ?_ k_t
   rw [Yo];unfold execOp;rw [ho];simp only [resolve,hc,pure_bind,invoke,builtin]
  .rename_i hc
   refine YY (m:=Builtin.copy_ c.argTypes o.type (c.args.map (ev ρ))) ?_ k_t
   rw [Yo];unfold execOp;rw [ho];simp only [resolve,hc,pure_bind,invoke,builtin]
  .rename_i hc
   refine YY (m:=Builtin.max_ c.argTypes o.type (c.args.map (ev ρ))) ?_ k_t
   rw [Yo];unfold execOp;rw [ho];simp only [resolve,hc,pure_bind,invoke,builtin]
  .rename_i hc
   refine YY (m:=Builtin.min_ c.argTypes o.type (c.args.map (ev ρ))) ?_ k_t
   rw [Yo];unfold execOp;rw [ho];simp only [resolve,hc,pure_bind,invoke,builtin]
  .rename_i hc
   refine YY (m:=Builtin.cap_ c.argTypes o.type (c.args.map (ev ρ))) ?_ k_t
   rw [Yo];unfold execOp;rw [ho];simp only [resolve,hc,pure_bind,invoke,builtin]
  .rename_i hc
   refine YY (m:=Builtin.clear_ c.argTypes o.type (c.args.map (ev ρ))) ?_ k_t
   rw [Yo];unfold execOp;rw [ho];simp only [resolve,hc,pure_bind,invoke,builtin]
  .rename_i hc
   refine YY (m:=Builtin.delete_ c.argTypes o.type (c.args.map (ev ρ))) ?_ k_t
   rw [Yo];unfold execOp;rw [ho];simp only [resolve,hc,pure_bind,invoke,builtin]
  .rename_i hc
   refine YY (m:=Builtin.unsafeSliceData_ c.argTypes o.type (c.args.map (ev ρ))) ?_ k_t
   rw [Yo];unfold execOp;rw [ho];simp only [resolve,hc,pure_bind,invoke,builtin]
  .rename_i hc
   refine YY (m:=Builtin.unsafeString_ c.argTypes o.type (c.args.map (ev ρ))) ?_ k_t
   rw [Yo];unfold execOp;rw [ho];simp only [resolve,hc,pure_bind,invoke,builtin]
  .rename_i r name hc
   obtain ⟨f,rv,w1,t,v,hr,hm,h⟩:=h
   obtain ⟨h1,h2⟩:=h
   have he:(execOp (⟨ρ.toArray,ds⟩:Act).eval o).run P w=.ok (.enter f (#[rv]++(c.args.toList.map (ev ρ)).toArray)) w1:=by
    rw [Yo];unfold execOp;rw [ho]
    simp only [resolve,hc,pure_bind,invoke,hr]
    have e1:(#[Value.iface t v]++Array.map (ev ρ) c.args)[0]?=some (.iface t v):=by grind
    have e2:(#[Value.iface t v]++Array.map (ev ρ) c.args).extract 1 (#[Value.iface t v]++Array.map (ev ρ) c.args).size=Array.map (ev ρ) c.args:=by simp
    simp only [e1,e2,callMethod]
    have e3:∀(k:FuncId × Value->Sem Next),(do let __do_lift <-program;let x <-method (__do_lift.types.size+Made.depth) t v name;k x:Sem Next).run P w=(k (f,rv)).run P w1:=by
     intro k
     show (method (P.types.size+Made.depth) t v name >>= fun x=>k x).run P w=_
     rw [Sem.run_bind,hm];rfl
    rw [hargs] at h1 ⊢
    exact (e3 _).trans h1
   simp only [Oper.wp,he,Oper.upon]
   refine h2.mono ?_
   rintro e w' ⟨v,rfl,hr⟩
   exact hr
  .grind
 case h_25 t r ho=>exact YY k_k h
 case h_26 t x i ok ho=>exact YY k_k h
 case h_27 t m k x ho =>
  obtain ⟨w',hm,k⟩:=h
  have he:(execOp (⟨ρ.toArray,ds⟩:Act).eval o).run P w=.ok .skip w':=by
   rw [Yo];unfold execOp;rw [ho];simp only [Sem.run_bind,hm,Result.andThen_ok,Sem.run_pure]
  simp only [Oper.wp,he,Oper.upon]
  exact k
 case h_28 t x ho=>exact YY k_k h
 case h_29 it st ho=>exact YY k_k h
 case h_30 it ho=>exact YY k_k h
 case h_31=>exact h.elim
def X3 (ops:List Oper) (g:Option (Nat × Bool)) (ρ:zk) (k:Bool->zk->Prop):Prop :=
 match g with
 | none=>k true ρ
 | some (j,want)=>match ops[j]? with
  | none=>False
  | some oj=>match oj.dst with
   | none=>False
   | some d=>D6 ρ d fun v=>match v with
    | .bool b=>NF b fun b=>Iv ρ d (.bool b) fun ρ=>match b with
     | true=>match want with
      | true=>k true ρ
      | false=>k false ρ
     | false=>match want with
      | true=>k false ρ
      | false=>k true ρ
    | .tuple _=>k false ρ
    | _=>False
def Mv (P:Program) (ops:List Oper) (K:zk->World->Prop) (l:List Oper):zk->World->Prop :=
 List.rec (motive:=fun _=>zk->World->Prop) K (fun o _ ih ρ w=>X3 ops o.guard ρ fun b ρ=>match b with
  | true=>LC P o ρ w fun v w=>Xx ρ o.dst v fun ρ=>ih ρ w
  | false=>Xx ρ o.dst undef fun ρ=>ih ρ w) l
theorem adT (P:Program) (ops:List Oper) (K:zk->World->Prop) (ρ:zk) (w:World):Mv P ops K [] ρ w=K ρ w:=rfl
theorem OX (P:Program) (ops:List Oper) (K:zk->World->Prop) (o:Oper) (r:List Oper) (ρ:zk) (w:World):Mv P ops K (o::r) ρ w=X3 ops o.guard ρ fun b ρ=>match b with
  | true=>LC P o ρ w fun v w=>Xx ρ o.dst v fun ρ=>Mv P ops K r ρ w
  | false=>Xx ρ o.dst undef fun ρ=>Mv P ops K r ρ w:=rfl
def VD (next:zk->World->Prop) (Q:Exit->zk->World->Prop) (e:Exit) (ρ:zk) (w:World):Prop :=
 match e with
 | .normal=>next ρ w
 | e=>Q e ρ w
def Td (id:Nat) (Q:Exit->zk->World->Prop) (e:Exit) (ρ:zk) (w:World):Prop :=
 match e with
 | .exit id'=>match id' == id with
  | true=>Q .normal ρ w
  | false=>Q (.exit id') ρ w
 | e=>Q e ρ w
def Rb (Q:Exit->zk->World->Prop) (e:Exit) (ρ:zk) (w:World):Prop :=
 match e with
 | .goto _=>False
 | e=>Q e ρ w
def Qa (l:Nat) (J:zk->World->Prop) (Q:Exit->zk->World->Prop) (e:Exit) (ρ:zk) (w:World):Prop :=
 match e with
 | .goto l'=>l'=l/\J ρ w
 | e=>Q e ρ w
abbrev Jv:=(Exit->zk->World->Prop)->zk->World->Prop
inductive YO (P:Program) (c:Code) (B:Jv) (Q:Exit->zk->World->Prop) (ρ:zk) (w:World):Prop
 | mk (I:zk->World->Prop) (μ:zk->World->Nat) (h0:I ρ w)
   (round:∀ρ w,I ρ w->B (VD (fun ρ' w'=>I ρ' w'/\μ ρ' w'<μ ρ w) Q) ρ w)
inductive ND (P:Program) (x y:Code) (B C:Jv) (b:Bool) (Q:Exit->zk->World->Prop) (ρ:zk) (w:World):Prop
 | mk (t:b=true->B Q ρ w) (f:b=false->C Q ρ w)
inductive FN (P:Program) (c:Code) (B:Jv) (id:Nat) (Q:Exit->zk->World->Prop) (ρ:zk) (w:World):Prop
 | mk (h:B (Td id Q) ρ w)
theorem cT {P:Program} {x y:Code} {B C:Jv} {b:Bool} {Q:Exit->zk->World->Prop} {ρ:zk} {w:World} (h:b=true) (k:B Q ρ w):ND P x y B C b Q ρ w :=
 ⟨fun _=>k,fun e=>(by grind)⟩
theorem cF {P:Program} {x y:Code} {B C:Jv} {b:Bool} {Q:Exit->zk->World->Prop} {ρ:zk} {w:World} (h:b=false) (k:C Q ρ w):ND P x y B C b Q ρ w :=
 ⟨fun e=>(by grind),fun _=>k⟩
theorem cI {P:Program} {x y:Code} {B C:Jv} {b:Bool} {Q:Exit->zk->World->Prop} {ρ:zk} {w:World} (t:b=true->B Q ρ w) (f:b=false->C Q ρ w):ND P x y B C b Q ρ w:=⟨t,f⟩
theorem bk {P:Program} {c:Code} {B:Jv} {id:Nat} {Q:Exit->zk->World->Prop} {ρ:zk} {w:World} (h:B (Td id Q) ρ w):FN P c B id Q ρ w:=⟨h⟩
def Ys (ops:List Oper):List Nat:=ops.filterMap fun o=>o.dst
def agree (ds:List Nat) (ρ ρ':zk):Prop:=ρ'.length=ρ.length/\∀i,i∉ds->ρ'[i]?=ρ[i]?
def Vz:Code->List Nat
 | .seq x y=>Vz x++Vz y
 | .cond _ x y=>Vz x++Vz y
 | .block _ c=>Vz c
 | .loop c=>Vz c
 | .scope c=>Vz c
 | .region _ ops _=>Ys ops.toList
 | _=>[]
theorem aa3 {l:Nat}:∀{c rest:Code},findLabel c l=some rest->∀i,i∈Vz rest->i∈Vz c:=by
 intro c
 induction c with
 | seq x y LA Ma =>
  intro rest h i hi
  unfold findLabel at h
  cases hx:findLabel x l with
  | some r =>
   rw [hx] at h
   obtain rfl:=Option.some.inj h
   rcases lHa.1 hi with hi|hi
   .exact lab0 _ (LA hx i hi)
   .exact lpb _ hi
  | none=>rw [hx] at h;exact lpb _ (Ma h i hi)
 | label l' =>
  intro rest h i hi
  unfold findLabel at h
  split at h
  .obtain rfl:=Option.some.inj h;cases hi
  .cases h
 | _=>intro rest h;simp [findLabel] at h
def lift (ds:List Deferred) (Q:Exit->zk->World->Prop) (e:Exit) (a:Act) (w:World):Prop:=a.defers=ds/\Q e a.tmps.toList w
structure amN (P:Program) (c:Code) (M:Jv):Prop where
 sound:∀{Q:Exit->zk->World->Prop} {ρ:zk} {w:World} {ds:List Deferred},M Q ρ w->c.wp P (lift ds Q) ⟨ρ.toArray,ds⟩ w
 imp:∀{Q Q':Exit->zk->World->Prop} {ρ:zk} {w:World},M Q ρ w->(∀e ρ w,Q e ρ w->Q' e ρ w)->M Q' ρ w
 frame:∀{Q:Exit->zk->World->Prop} {ρ:zk} {w:World},M Q ρ w->M (fun e ρ' w'=>Q e ρ' w'/\agree (Vz c) ρ ρ') ρ w
inductive adU (P:Program) (c:Code) (B:Jv) (Q:Exit->zk->World->Prop) (ρ:zk) (w:World):Prop
 | RF (h:B (Rb Q) ρ w)
 | jumps (l:Nat) (rest:Code) (M:Jv) (hM:amN P rest M) (J:zk->World->Prop) (μ:zk->World->Nat) (hf:findLabel c l=some rest) (first:B (Qa l J Q) ρ w)
   (pass:∀ρ w,J ρ w->M (Qa l (fun ρ' w'=>J ρ' w'/\μ ρ' w'<μ ρ w) Q) ρ w)
inductive Oi (P:Program) (id:Nat) (ops:Array Oper) (K:zk->World->Prop) (ρ:zk) (w:World):Prop
 | mk (h:∀ds,(Code.region id ops true).wp P (fun e a w'=>e=.normal/\a.defers=ds/\agree (Ys ops.toList) ρ a.tmps.toList/\K a.tmps.toList w') ⟨ρ.toArray,ds⟩ w)
def O6 (P:Program) (c:Code):Jv :=
 Code.rec (motive:=fun _=>Jv)
  (fun Q ρ w=>Q .normal ρ w)
  (fun id ops draw Q ρ w=>match draw with
   | false=>Mv P ops.toList (Q .normal) ops.toList ρ w
   | true=>Oi P id ops (Q .normal) ρ w)
  (fun _ _ LA Ma Q ρ w=>LA (VD (Ma Q) Q) ρ w)
  (fun c x y LA Ma Q ρ w=>VL ρ c fun v=>match v with
   | .bool b=>ND P x y LA Ma b Q ρ w
   | _=>False)
  (fun id c ih Q ρ w=>match c with
   | .loop _=>ih (Td id Q) ρ w
   | c=>FN P c ih id Q ρ w)
  (fun c ih Q ρ w=>YO P c ih Q ρ w)
  (fun _ _ _ _ _ _ _ _ _=>False)
  (fun id Q ρ w=>Q (.exit id) ρ w)
  (fun c ih Q ρ w=>adU P c ih Q ρ w)
  (fun _ Q ρ w=>Q .normal ρ w)
  (fun l Q ρ w=>Q (.goto l) ρ w)
  (fun Q ρ w=>Q .ret ρ w)
  (fun _ _ _ _=>False) c
section
variable (P:Program) (Q:Exit->zk->World->Prop) (ρ:zk) (w:World)
theorem Lz (x y:Code):O6 P (.seq x y) Q ρ w=O6 P x (VD (O6 P y Q) Q) ρ w:=rfl
theorem NC (c:Operand) (x y:Code):O6 P (.cond c x y) Q ρ w=VL ρ c fun v=>match v with
   | .bool b=>ND P x y (O6 P x) (O6 P y) b Q ρ w
   | _=>False:=rfl
theorem OW (id:Nat) (c:Code):O6 P (.block id c) Q ρ w↔O6 P c (Td id Q) ρ w:=by
 have h:FN P c (O6 P c) id Q ρ w↔O6 P c (Td id Q) ρ w:=⟨fun ⟨h⟩=>h,fun h=>⟨h⟩⟩
 cases c <;> first|exact h|exact Iff.rfl
end
theorem OV {P:Program} {Q:Exit->zk->World->Prop} {ρ:zk} {w:World} (c:Code):O6 P (.scope c) Q ρ w=adU P c (O6 P c) Q ρ w:=rfl
theorem aa4 {Q Q':Exit->zk->World->Prop} (hq:∀e ρ w,Q e ρ w->Q' e ρ w):∀e ρ w,Rb Q e ρ w->Rb Q' e ρ w:=fun e ρ w h=>by
 cases e <;> simp only [Rb] at h⊢<;> exact hq _ _ _ h
theorem aaw {l:Nat} {J J':zk->World->Prop} {Q Q':Exit->zk->World->Prop} (hj:∀ρ w,J ρ w->J' ρ w) (hq:∀e ρ w,Q e ρ w->Q' e ρ w):∀e ρ w,Qa l J Q e ρ w->Qa l J' Q' e ρ w:=fun e ρ w h=>by
 cases e <;> simp only [Qa] at h⊢<;> first|exact ⟨h.1,hj _ _ h.2⟩|exact hq _ _ _ h
theorem OU {P:Program} {x y:Code} {B C:Jv} {b:Bool} {Q:Exit->zk->World->Prop} {ρ:zk} {w:World}:ND P x y B C b Q ρ w↔if b then B Q ρ w else C Q ρ w:=by
 constructor
 .rintro ⟨t,f⟩;cases b
  .grind
  .grind
 .intro h;cases b
  .exact cF rfl h
  .exact cT rfl h
theorem aao {ops:List Oper} {g:Option (Nat × Bool)} {ρ:zk} {k k':Bool->zk->Prop} (h:X3 ops g ρ k) (hk:∀b ρ,k b ρ->k' b ρ):X3 ops g ρ k':=by
 unfold X3 at h ⊢
 split at h
 .grind
 .simp only [O1,Tg,SO] at h ⊢
  split at h
  .omega
  .split at h
   .omega
   .split at h
    .split at h <;> (split at h <;> exact hk _ _ h)
    .grind
    .omega
theorem adV {P:Program} {ops:List Oper} {K K':zk->World->Prop} (hk:∀ρ w,K ρ w->K' ρ w) (l:List Oper) :
  ∀{ρ:zk} {w:World},Mv P ops K l ρ w->Mv P ops K' l ρ w:=by
 induction l with
 | nil=>exact fun h=>hk _ _ h
 | cons o r ih =>
  intro ρ w h
  simp only [OX] at h ⊢
  refine aao h fun b ρ h=>?_
  cases b
  .simp only [X7] at h ⊢;exact ih h
  .simp only [X7] at h ⊢;exact LB h fun v w h=>ih h
theorem Vs {P:Program} (c:Code):∀{Q Q':Exit->zk->World->Prop} {ρ:zk} {w:World},O6 P c Q ρ w->(∀e ρ w,Q e ρ w->Q' e ρ w)->O6 P c Q' ρ w:=by
 induction c with
 | skip=>exact fun h hq=>hq _ _ _ h
 | label l=>exact fun h hq=>hq _ _ _ h
 | exit i=>exact fun h hq=>hq _ _ _ h
 | ret=>exact fun h hq=>hq _ _ _ h
 | seq x y LA Ma =>
  intro Q Q' ρ w h hq
  simp only [Lz] at h ⊢
  refine LA h fun e ρ w he=>?_
  cases e <;> simp only [VD] at he⊢<;> first|exact Ma he hq|exact hq _ _ _ he
 | cond c x y LA Ma =>
  intro Q Q' ρ w h hq
  simp only [NC,Tf,OU] at h ⊢
  split at h
  .grind
  .omega
 | block id c ih =>
  intro Q Q' ρ w h hq
  rw [OW] at h ⊢
  refine ih h fun e ρ w he=>?_
  cases e <;> simp only [Td] at he⊢<;> first|exact hq _ _ _ he|(split at he <;> exact hq _ _ _ he)
 | region id ops draw =>
  intro Q Q' ρ w h hq
  cases draw
  .exact adV (fun ρ w=>hq .normal ρ w) _ h
  .obtain ⟨h⟩:=h
   exact ⟨fun ds=>Code.wp_mono (fun e a w ⟨h1,h2,h3,h4⟩=>⟨h1,h2,h3,hq _ _ _ h4⟩) (h ds)⟩
 | loop c ih =>
  intro Q Q' ρ w h hq
  obtain ⟨I,μ,h0,hr⟩:=h
  refine ⟨I,μ,h0,fun ρ w hI=>ih (hr ρ w hI) fun e ρ w he=>?_⟩
  cases e <;> simp only [VD] at he⊢<;> first|exact hq _ _ _ he|exact he
 | rangeFunc=>exact fun h=>h.elim
 | scope c ih =>
  intro Q Q' ρ w h hq
  rw [OV] at h ⊢
  cases h with
  | RF h=>exact .RF (ih h (aa4 hq))
  | jumps l rest M hM J μ hf first pass=>exact .jumps l rest M hM J μ hf (ih first (aaw (fun _ _ h=>h) hq)) fun ρ w hJ=>hM.imp (pass ρ w hJ) (aaw (fun _ _ h=>h) hq)
 | goto=>exact fun h hq=>hq _ _ _ h
 | refuse=>exact fun h=>h.elim
theorem Ra {a:Act} {ds:List Deferred} (h:a.defers=ds):a=⟨a.tmps.toList.toArray,ds⟩:=by
 cases a;simp only at h;subst h;simp
theorem XX {ops:Array Oper} {o:Oper} {ρ:zk} {k:Bool->zk->Prop} (h:X3 ops.toList o.guard ρ k) :
  ∃b,Region.wanted o (yielded ops ρ.toArray)=b/\k b ρ:=by
 unfold X3 at h
 split at h
 .grind [Region.wanted]
 .rename_i j want hg
  simp only [O1,Tg,SO] at h
  split at h
  .grind
  .rename_i oj hj
   split at h
   .grind
   .rename_i d hd
    split at h
    .rename_i b hb
     have VW:ρ.set d (.bool b)=ρ:=by
      apply lFa
      intro i
      rw [lMa]
      split
      .rename_i e;subst e
       by_cases hl:d<ρ.length
       .rw [if_pos hl]
        rw [Qc] at hb
        simp only [Array.getD_eq_getD_getElem?,List.getElem?_toArray] at hb
        rw [laa hl] at hb ⊢
        simp only [Option.getD_some] at hb
        rw [hb]
       .grind
      .rfl
     have hy:yielded ops ρ.toArray j=some b:=by
      have hl:d<ρ.length:=by grind [Qc,Array.getD_eq_getD_getElem?,List.getElem?_eq_none,undef]
      rw [Qc] at hb
      simp only [Array.getD_eq_getD_getElem?,List.getElem?_toArray,List.getElem?_eq_getElem hl,Option.getD_some] at hb
      simp only [Array.getElem?_toList] at hj
      simp [yielded,hj,hd,List.getElem?_eq_getElem hl,hb]
     rw [VW] at h
     cases b <;> cases want <;> simp only at h <;> exact ⟨_,by simp [Region.wanted,hg,hy],h⟩
    .rename_i vs hb
     refine ⟨false,?_,h⟩
     have hy:yielded ops ρ.toArray j=none:=by
      simp only [Array.getElem?_toList] at hj
      rw [Qc] at hb
      simp only [yielded,hj,Option.bind_some,hd]
      cases hl:ρ[d]? with
      | none=>simp [hl]
      | some v =>
       simp [Array.getD_eq_getD_getElem?,hl] at hb
       simp [hl,hb]
     simp [Region.wanted,hg,hy]
    .grind
theorem abW {P:Program} {ops:Array Oper} {Q:Exit->zk->World->Prop} (l:List Oper) :
  ∀{ρ:zk} {w:World} {ds:List Deferred},Mv P ops.toList (Q .normal) l ρ w->wpList P ops (lift ds Q) l ⟨ρ.toArray,ds⟩ w:=by
 induction l with
 | nil=>exact fun h=>⟨rfl,by simpa [adT] using h⟩
 | cons o r ih =>
  intro ρ w ds h
  simp only [OX,X7] at h
  obtain ⟨b,hb,h⟩:=XX h
  unfold wpList
  cases b
  .rw [if_neg (by simp [hb]),put_eq]
   exact ih h
  .rw [if_pos hb]
   exact .inl (UH h fun v w' h=>by rw [put_eq];exact ih h)
theorem UG {P:Program} (c:Code):∀{Q:Exit->zk->World->Prop} {ρ:zk} {w:World} {ds:List Deferred},O6 P c Q ρ w->c.wp P (lift ds Q) ⟨ρ.toArray,ds⟩ w:=by
 induction c with
 | skip=>exact fun h=>wp_skip ⟨rfl,h⟩
 | label l=>exact fun h=>wp_label ⟨rfl,h⟩
 | exit i=>exact fun h=>wp_exit ⟨rfl,h⟩
 | ret=>exact fun h=>wp_ret ⟨rfl,h⟩
 | seq x y LA Ma =>
  intro Q ρ w ds h
  simp only [Lz] at h
  refine wp_seq (wp_mono (LA h) ?_)
  rintro e a w ⟨hd,he⟩
  cases e <;> simp only [VD] at he <;> simp only [Exit.then]
  .grind [Ra]
  all_goals exact ⟨hd,he⟩
 | cond c x y LA Ma =>
  intro Q ρ w ds h
  simp only [NC,Tf,OU] at h
  split at h
  .rename_i b hb
   refine wp_cond (t:=b) (by rw [Yo];exact hb) ?_
   split at h
   .grind
   .grind
  .grind
 | block id c ih =>
  intro Q ρ w ds h
  rw [OW] at h
  refine wp_block (wp_mono (ih h) ?_)
  rintro e a w ⟨hd,he⟩
  cases e <;> simp only [Td] at he <;> simp only [Exit.inBlock]
  case exit id' =>
   by_cases hi:id'=id
   .subst hi;simp only [beq_self_eq_true] at he;rw [if_pos rfl];exact ⟨hd,he⟩
   .have:(id' == id)=false:=by grind
    simp only [this] at he;rw [if_neg hi];exact ⟨hd,he⟩
  all_goals exact ⟨hd,he⟩
 | region id ops draw =>
  intro Q ρ w ds h
  cases draw
  .exact wp_region_list (abW _ h)
  .obtain ⟨h⟩:=h
   exact wp_mono (h _) fun e a w ⟨h1,h2,_,h4⟩=>by subst h1;exact ⟨h2,h4⟩
 | loop c ih =>
  intro Q ρ w ds h
  obtain ⟨I,μ,h0,hr⟩:=h
  refine wp_loop (fun a w=>a.defers=ds/\I a.tmps.toList w) (fun a w=>μ a.tmps.toList w) ⟨rfl,h0⟩ ?_
  rintro a w ⟨hd,hI⟩
  rw [Ra hd]
  refine wp_mono (ih (hr _ _ hI)) ?_
  rintro e a' w' ⟨hd',he⟩
  cases e <;> simp only [VD] at he <;> simp only [Exit.then]
  .grind
  all_goals exact ⟨hd',he⟩
 | rangeFunc=>exact fun h=>h.elim
 | scope c ih =>
  intro Q ρ w ds h
  rw [OV] at h
  cases h with
  | RF h =>
   refine wp_scope_straight (wp_mono (ih h) ?_)
   rintro e a w ⟨hd,he⟩
   cases e <;> simp only [Rb] at he <;> exact ⟨hd,he⟩
  | jumps l rest M hM J μ hf first pass =>
   refine wp_scope_jumps l (fun a w=>a.defers=ds/\J a.tmps.toList w) (fun a w=>μ a.tmps.toList w) hf (wp_mono (ih first) ?_) ?_
   .rintro e a w ⟨hd,he⟩
    cases e <;> simp only [Qa] at he <;> first|exact ⟨he.1,hd,he.2⟩|exact ⟨hd,he⟩
   .rintro a w ⟨hd,hJ⟩
    rw [Ra hd]
    refine wp_mono (hM.sound (pass _ _ hJ)) ?_
    rintro e a' w' ⟨hd',he⟩
    cases e <;> simp only [Qa] at he <;> first|exact ⟨he.1,⟨hd',he.2.1⟩,he.2.2⟩|exact ⟨hd',he⟩
 | goto=>exact fun h=>wp_goto ⟨rfl,h⟩
 | refuse=>exact fun h=>h.elim
theorem agree.refl (ds:List Nat) (ρ:zk):agree ds ρ ρ:=⟨rfl,fun _ _=>rfl⟩
theorem agree.trans {ds:List Nat} {a b c:zk} (h:agree ds a b) (k:agree ds b c):agree ds a c :=
 ⟨k.1.trans h.1,fun i hi=>(k.2 i hi).trans (h.2 i hi)⟩
theorem agree.mono {ds ds':List Nat} {a b:zk} (h:agree ds a b) (hs:∀i,i∈ds->i∈ds'):agree ds' a b :=
 ⟨h.1,fun i hi=>h.2 i fun hh=>hi (hs i hh)⟩
theorem agree.put {ds:List Nat} {a b:zk} (h:agree ds a b) (d:Option Nat) (hd:∀i,d=some i->i∈ds) (v:Value):agree ds a (put b d v):=by
 cases d with
 | none=>exact h
 | some d =>
  refine ⟨by simp [Y2.put,h.1],fun i hi=>?_⟩
  have:d≠i:=fun e=>hi (e ▸ hd d rfl)
  simp only [Y2.put,List.getElem?_set,if_neg this]
  exact h.2 i hi
theorem aaT {ops:List Oper} {g:Option (Nat × Bool)} {ρ:zk} {k:Bool->zk->Prop} (h:X3 ops g ρ k) :
  X3 ops g ρ fun b ρ'=>k b ρ'/\agree (Ys ops) ρ ρ':=by
 unfold X3 at h ⊢
 split at h
 .exact ⟨h,agree.refl _ _⟩
 .simp only [O1,Tg,SO] at h ⊢
  split at h
  .omega
  .rename_i oj hj
   split at h
   .omega
   .rename_i d hd
    have hmem:d∈Ys ops:=by grind [Ys]
    split at h
    .rename_i b hb
     split at h <;> (split at h <;> exact ⟨h,(agree.refl _ _).put (some d) (fun i e=>by cases e;exact hmem) _⟩)
    .exact ⟨h,agree.refl _ _⟩
    .omega
theorem abX {P:Program} {ops:List Oper} {K:zk->World->Prop} (l:List Oper) (hl:∀o,o∈l->o∈ops) :
  ∀{ρ0 ρ:zk} {w:World},agree (Ys ops) ρ0 ρ->Mv P ops K l ρ w->Mv P ops (fun ρ' w'=>K ρ' w'/\agree (Ys ops) ρ0 ρ') l ρ w:=by
 induction l with
 | nil=>exact fun ha h=>⟨h,ha⟩
 | cons o r ih =>
  intro ρ0 ρ w ha h
  simp only [OX] at h ⊢
  refine aao (aaT h) fun b ρ1 ⟨h,C4⟩=>?_
  have hmem:∀i,o.dst=some i->i∈Ys ops:=fun i e=>by grind [Ys]
  have H7:=fun {ρ:zk} {w:World}=>@ih (fun o ho=>hl o (lrb _ ho)) ρ0 ρ w
  cases b
  .simp only [X7] at h ⊢
   exact H7 ((ha.trans C4).put _ hmem _) h
  .simp only [X7] at h ⊢
   exact LB h fun v w h=>H7 ((ha.trans C4).put _ hmem _) h
theorem Q9 {P:Program} (c:Code):∀{Q:Exit->zk->World->Prop} {ρ:zk} {w:World},O6 P c Q ρ w ->
  O6 P c (fun e ρ' w'=>Q e ρ' w'/\agree (Vz c) ρ ρ') ρ w:=by
 induction c with
 | skip=>exact fun h=>⟨h,agree.refl _ _⟩
 | label l=>exact fun h=>⟨h,agree.refl _ _⟩
 | exit i=>exact fun h=>⟨h,agree.refl _ _⟩
 | ret=>exact fun h=>⟨h,agree.refl _ _⟩
 | seq x y LA Ma =>
  intro Q ρ w h
  simp only [Lz] at h ⊢
  refine Vs x (LA h) fun e ρ1 w1 ⟨he,ha⟩=>?_
  have ha':agree (Vz (.seq x y)) ρ ρ1:=ha.mono fun i hi=>lab0 _ hi
  cases e <;> simp only [VD] at he ⊢
  .exact Vs y (Ma he) fun e ρ2 w2 ⟨h2,h3⟩=>⟨h2,ha'.trans (h3.mono fun i hi=>lpb _ hi)⟩
  all_goals exact ⟨he,ha'⟩
 | cond c x y LA Ma =>
  intro Q ρ w h
  simp only [NC,Tf,OU] at h ⊢
  split at h
  .split at h
   .rw [if_pos zN]
    exact Vs x (LA h) fun e ρ2 w2 ⟨h2,h3⟩=>⟨h2,h3.mono fun i hi=>lab0 _ hi⟩
   .rw [if_neg zN]
    exact Vs y (Ma h) fun e ρ2 w2 ⟨h2,h3⟩=>⟨h2,h3.mono fun i hi=>lpb _ hi⟩
  .omega
 | block id c ih =>
  intro Q ρ w h
  rw [OW] at h ⊢
  refine Vs c (ih h) fun e ρ1 w1 ⟨he,ha⟩=>?_
  cases e <;> simp only [Td] at he ⊢
  case exit i=>split at he <;> exact ⟨he,ha⟩
  all_goals exact ⟨he,ha⟩
 | region id ops draw =>
  intro Q ρ w h
  cases draw
  .exact abX _ (fun _ h=>h) (agree.refl _ _) h
  .obtain ⟨h⟩:=h
   exact ⟨fun ds=>Code.wp_mono (fun e a w ⟨h1,h2,h3,h4⟩=>⟨h1,h2,h3,h4,h3⟩) (h ds)⟩
 | loop c ih =>
  intro Q ρ w h
  obtain ⟨I,μ,h0,hr⟩:=h
  refine ⟨fun ρ' w'=>I ρ' w'/\agree (Vz c) ρ ρ',μ,⟨h0,agree.refl _ _⟩,fun ρ1 w1 ⟨hI,ha⟩=>Vs c (ih (hr ρ1 w1 hI)) fun e ρ2 w2 ⟨he,It⟩=>?_⟩
  cases e <;> simp only [VD] at he ⊢
  .exact ⟨⟨he.1,ha.trans It⟩,he.2⟩
  all_goals exact ⟨he,ha.trans It⟩
 | rangeFunc=>exact fun h=>h.elim
 | scope c ih =>
  intro Q ρ w h
  rw [OV] at h ⊢
  cases h with
  | RF h=>exact .RF (Vs c (ih h) fun e ρ1 w1 ⟨he,ha⟩=>by cases e <;> simp only [Rb] at he⊢<;> exact ⟨he,ha⟩)
  | jumps l rest M hM J μ hf first pass =>
   refine .jumps l rest M hM (fun ρ' w'=>J ρ' w'/\agree (Vz c) ρ ρ') μ hf (Vs c (ih first) fun e ρ1 w1 ⟨he,ha⟩=>?_) fun ρ1 w1 ⟨hJ,ha⟩=>hM.imp (hM.frame (pass ρ1 w1 hJ)) fun e ρ2 w2 ⟨he,It⟩=>?_
   .cases e <;> simp only [Qa] at he⊢<;> first|exact ⟨he.1,he.2,ha⟩|exact ⟨he,ha⟩
   .have ha3:agree (Vz c) ρ ρ2:=ha.trans (It.mono fun i hi=>aa3 hf i hi)
    cases e <;> simp only [Qa] at he⊢<;> first|exact ⟨he.1,⟨he.2.1,ha3⟩,he.2.2⟩|exact ⟨he,ha3⟩
 | goto=>exact fun h=>⟨h,agree.refl _ _⟩
 | refuse=>exact fun h=>h.elim
def C3 (l:List Nat) (f:Nat->Value):zk->(zk->Prop)->Prop :=
 List.rec (motive:=fun _=>zk->(zk->Prop)->Prop) (fun ρ k=>k ρ) (fun d _ ih ρ k=>Iv ρ d (f d) fun ρ=>ih ρ k) l
theorem adW (d:Nat) (ds:List Nat) (f:Nat->Value) (ρ:zk) (k:zk->Prop):C3 (d::ds) f ρ k=Iv ρ d (f d) fun ρ=>C3 ds f ρ k:=rfl
def C2 (l:List (Nat × Value)):zk->(zk->Prop)->Prop :=
 List.rec (motive:=fun _=>zk->(zk->Prop)->Prop) (fun ρ k=>k ρ) (fun p _ ih ρ k=>match p with
  | (i,v)=>Iv ρ i v fun ρ=>ih ρ k) l
theorem adX (i:Nat) (v:Value) (r:List (Nat × Value)) (ρ:zk) (k:zk->Prop):C2 ((i,v)::r) ρ k=Iv ρ i v fun ρ=>C2 r ρ k:=rfl
def mt:List (Nat × Value)->zk->Prop
 | [],_=>True
 | (i,v)::r,ρ=>gt ρ i=v/\mt r ρ
theorem ZV {ρ:zk}:mt [] ρ:=trivial
theorem ZL {i:Nat} {v:Value} {r:List (Nat × Value)} {ρ:zk} (h:gt ρ i=v) (k:mt r ρ):mt ((i,v)::r) ρ:=⟨h,k⟩
theorem Zr {i:Nat} {k:IntKind} {a b:Int} {r:List (Nat × Value)} {ρ:zk} (hg:gt ρ i=.int k a) (h:a=b) (t:mt r ρ):mt ((i,.int k b)::r) ρ:=⟨by rw [hg,h],t⟩
theorem int_eq {k:IntKind} {a b:Int} (h:a=b):Value.int k a=.int k b:=by rw [h]
theorem Q8 {ρ':zk} (ds:List Nat) {k:zk->Prop}:∀{ρ1:zk},agree ds ρ1 ρ'->C3 ds (gt ρ') ρ1 k->k ρ':=by
 induction ds with
 | nil =>
  intro ρ1 ha h
  have:ρ'=ρ1:=lFa fun i=>ha.2 i zM
  rw [this];exact h
 | cons d ds ih =>
  intro ρ1 ha h
  simp only [adW,Tg] at h
  refine ih ?_ h
  refine ⟨by simpa using ha.1,fun i hi=>?_⟩
  rw [lMa]
  split
  .rename_i e;subst e
   split
   .rename_i hl
    have hl':d<ρ'.length:=by rw [ha.1];exact hl
    rw [Qc]
    simp [Array.getD_eq_getD_getElem?,List.getElem?_eq_getElem hl']
   .rename_i hl
    rw [List.getElem?_eq_none (by rw [ha.1];exact Nat.le_of_not_lt hl)]
  .rename_i hne
   exact ha.2 i fun hm=>by cases hm <;> contradiction
theorem Ly {ρ:zk} (sl:List (Nat × Value)) {k:zk->Prop} (hm:mt sl ρ) (h:C2 sl ρ k):k ρ:=by
 induction sl with
 | nil=>exact h
 | cons p r ih =>
  obtain ⟨i,v⟩:=p
  obtain ⟨hv,hm⟩:=hm
  simp only [adX,Tg] at h
  have:ρ.set i v=ρ:=by
   apply lFa
   intro j
   rw [lMa]
   split
   .rename_i e;subst e
    split
    .rename_i hl
     rw [Qc] at hv
     simp only [Array.getD_eq_getD_getElem?,List.getElem?_toArray,List.getElem?_eq_getElem hl,Option.getD_some] at hv
     rw [laa hl,hv]
    .grind
   .rfl
  rw [this] at h
  exact ih hm h
inductive WM {α:Type} (sl:α->List (Nat × Value)) (inv:α->World->Prop) (p:α->Prop) (ρ:zk) (w:World):Prop
 | mk (y:α) (hm:mt (sl y) ρ) (hi:inv y w) (hp:p y)
inductive Jn {α:Type} (sl:α->List (Nat × Value)) (inv:α->World->Prop) (ρ:zk) (w:World):Prop
 | mk (y:α) (hm:mt (sl y) ρ) (hi:inv y w)
theorem YO.rule {P:Program} {c:Code} {B:Jv} {Q:Exit->zk->World->Prop} {ρ:zk} {w:World} {α:Type} (x0:α) (sl:α->List (Nat × Value)) (inv:α->World->Prop) (μ:α->Nat)
  (hm:mt (sl x0) ρ) (h0:inv x0 w)
  (round:∀x (f:Nat->Value) w',inv x w'->C3 (Vz c) f ρ fun ρ=>C2 (sl x) ρ fun ρ =>
   B (VD (fun ρ' w''=>WM sl inv (fun y=>μ y<μ x) ρ' w'') Q) ρ w') (hB:B=O6 P c:=by rfl):YO P c B Q ρ w:=by
 subst hB
 classical
 have hex:∀(p:Nat->Prop),(∃n,p n)->∃n,p n/\∀m,p m->n<=m:=fun p ⟨n,hn⟩=>by
  induction n using Nat.strongRecOn with
  | _ n ih =>
   by_cases h:∃m,m<n/\p m
   .grind
   .grind
 let p:zk->World->Nat->Prop:=fun ρ' w' n=>∃x,μ x=n/\mt (sl x) ρ'/\inv x w'
 let M:zk->World->Nat:=fun ρ' w'=>if h:∃n,p ρ' w' n then Classical.choose (hex _ h) else 0
 have hM:∀ρ' w',(∃n,p ρ' w' n)->p ρ' w' (M ρ' w')/\∀m,p ρ' w' m->M ρ' w'<=m:=fun ρ' w' h=>by grind
 refine ⟨fun ρ' w'=>(∃n,p ρ' w' n)/\agree (Vz c) ρ ρ',M,⟨⟨_,x0,rfl,hm,h0⟩,agree.refl _ _⟩,?_⟩
 rintro ρ1 w1 ⟨hp,ha⟩
 obtain ⟨⟨x,hx,Hl,D5⟩,-⟩:=hM ρ1 w1 hp
 have hb:=round x (gt ρ1) w1 D5
 have hb:=Ly _ Hl (Q8 _ ha hb)
 refine Vs c (Q9 c hb) ?_
 rintro e ρ2 w2 ⟨he,It⟩
 cases e <;> simp only [VD] at he ⊢
 .obtain ⟨y,AW,AV,hlt⟩:=he
  refine ⟨⟨⟨_,y,rfl,AW,AV⟩,ha.trans It⟩,?_⟩
  have:=(hM ρ2 w2 ⟨_,y,rfl,AW,AV⟩).2 _ ⟨y,rfl,AW,AV⟩
  omega
 all_goals exact he
theorem OT {P:Program} {x y:Code} {B C:Jv} {K:zk->World->Prop} {Q:Exit->zk->World->Prop} {ρ:zk} {w:World} {b:Bool} {α:Type} (sl:α->List (Nat × Value)) (inv:α->World->Prop)
  (hx:b=true->B (VD (fun ρ' w'=>Jn sl inv ρ' w') Q) ρ w)
  (hy:b=false->C (VD (fun ρ' w'=>Jn sl inv ρ' w') Q) ρ w)
  (hk:∀a (f:Nat->Value) w',inv a w'->C3 (Vz x++Vz y) f ρ fun ρ=>C2 (sl a) ρ fun ρ=>K ρ w') (hB:B=O6 P x:=by rfl) (hC:C=O6 P y:=by rfl) :
  ND P x y B C b (VD K Q) ρ w:=by
 subst hB
 subst hC
 refine ⟨fun hb=>?_,fun hb=>?_⟩
 .refine Vs x (Q9 x (hx hb)) ?_
  rintro e ρ2 w2 ⟨he,ha⟩
  cases e <;> simp only [VD] at he ⊢
  .obtain ⟨a,hm,hi⟩:=he
   exact Ly _ hm (Q8 _ (ha.mono fun i hi=>lab0 _ hi) (hk a (gt ρ2) w2 hi))
  all_goals exact he
 .refine Vs y (Q9 y (hy hb)) ?_
  rintro e ρ2 w2 ⟨he,ha⟩
  cases e <;> simp only [VD] at he ⊢
  .obtain ⟨a,hm,hi⟩:=he
   exact Ly _ hm (Q8 _ (ha.mono fun i hi=>lpb _ hi) (hk a (gt ρ2) w2 hi))
  all_goals exact he
theorem aap {P:Program} {c:Code} {B:Jv} {id:Nat} {K:zk->World->Prop} {Q:Exit->zk->World->Prop} {ρ:zk} {w:World} {α:Type} (sl:α->List (Nat × Value)) (inv:α->World->Prop)
  (hx:B (Td id (VD (fun ρ' w'=>Jn sl inv ρ' w') Q)) ρ w)
  (hk:∀a (f:Nat->Value) w',inv a w'->C3 (Vz c) f ρ fun ρ=>C2 (sl a) ρ fun ρ=>K ρ w') (hB:B=O6 P c:=by rfl) :
  FN P c B id (VD K Q) ρ w:=by
 subst hB
 refine ⟨Vs c (Q9 c hx) ?_⟩
 have key:∀ρ2 w2,Jn sl inv ρ2 w2->agree (Vz c) ρ ρ2->K ρ2 w2:=fun ρ2 w2 ⟨a,hm,hi⟩ ha =>
  Ly _ hm (Q8 _ ha (hk a (gt ρ2) w2 hi))
 rintro e ρ2 w2 ⟨he,ha⟩
 cases e <;> simp only [Td,VD] at he ⊢
 .grind
 .split at he
  .grind
  .omega
 all_goals exact he
inductive Z5 (R:Value->World->Prop) (v:Value) (w:World):Prop
 | mk (h:R v w)
inductive Ir (P:Program) (m:Sem Value) (w:World) (K:Value->Prop):Prop
 | mk (v:Value) (h:m.run P w=.ok v w) (k:K v)
def Hj (n:Nat):zk->(zk->Prop)->Prop :=
 Nat.rec (motive:=fun _=>zk->(zk->Prop)->Prop) (fun acc k=>k acc) (fun _ ih acc k=>ih (undef::acc) k) n
theorem adf (n:Nat) (acc:zk) (k:zk->Prop):Hj (n+1) acc k=Hj n (undef::acc) k:=rfl
def Mu (P:Program) (ρ:zk) (w:World) (l:List ResultVar):(zk->Prop)->Prop :=
 List.rec (motive:=fun _=>(zk->Prop)->Prop) (fun k=>k []) (fun x _ ih k=>match x with
  | .tmp t=>D6 ρ t fun v=>ih fun vs=>k (v::vs)
  | .cell a t=>D6 ρ a fun v=>match v with
   | .pointer p=>match p with
    | some a=>Ir P (loadVar t a) w fun v=>ih fun vs=>k (v::vs)
    | none=>False
   | _=>False) l
theorem adY (P:Program) (ρ:zk) (w:World) (t:Nat) (r:List ResultVar) (k:zk->Prop):Mu P ρ w (.tmp t::r) k=D6 ρ t fun v=>Mu P ρ w r fun vs=>k (v::vs):=rfl
theorem adg (P:Program) (ρ:zk) (w:World) (a:Nat) (t:TypeId) (r:List ResultVar) (k:zk->Prop):Mu P ρ w (.cell a t::r) k=D6 ρ a fun v=>match v with
   | .pointer p=>match p with
    | some a=>Ir P (loadVar t a) w fun v=>Mu P ρ w r fun vs=>k (v::vs)
    | none=>False
   | _=>False:=rfl
def H6 (R:Value->World->Prop) (w:World) (vs:zk):Prop :=
 match vs with
 | [v]=>Z5 R v w
 | []=>Z5 R (.tuple #[]) w
 | u::v::r=>Z5 R (.tuple (u::v::r).toArray) w
def Hi (P:Program) (rs:List ResultVar) (R:Value->World->Prop) (e:Exit) (ρ:zk) (w:World):Prop :=
 match e with
 | .normal=>Mu P ρ w rs fun vs=>H6 R w vs
 | .ret=>Mu P ρ w rs fun vs=>H6 R w vs
 | _=>False
def FM (P:Program) (fn:Func) (c:Code) (args:zk) (w:World) (R:Value->World->Prop):Prop :=
 Hj (fn.ntmps-args.length) [] fun us=>O0 args us fun ρ=>O6 P c (Hi P fn.results.toList R) ρ w
theorem Lx (n:Nat) (acc:zk) (k:zk->Prop):Hj n acc k=k (List.replicate n undef++acc):=by
 induction n generalizing acc with
 | zero=>rfl
 | succ n ih=>simp only [adf,ih];congr 1;rw [List.replicate_succ',lka];rfl
def HZ (tmps:Array Value):ResultVar->Sem Value
 | .tmp t=>pure (tmps.getD t undef)
 | .cell a t=>do loadVar t (<-asAddr (tmps.getD a undef))
theorem Qw (fn:Func) (tmps:Array Value):results fn tmps=(do let vs <-fn.results.mapM (HZ tmps);pure (if h:vs.size=1 then vs[0] else .tuple vs)):=by
 have:(fun (x:ResultVar)=>(match x with
  | .tmp t=>pure (tmps.getD t undef)
  | .cell a t=>do loadVar t (<-asAddr (tmps.getD a undef)):Sem Value))=HZ tmps:=by
  funext x;cases x <;> rfl
 unfold results
 rw [<-this]
 rfl
theorem abY {P:Program} {ρ:zk} {w:World}:∀(rs:List ResultVar) {k:zk->Prop},Mu P ρ w rs k ->
  ∃vs,(rs.mapM (HZ ρ.toArray)).run P w=.ok vs w/\k vs:=by
 intro rs
 induction rs with
 | nil=>exact fun h=>⟨[],by simp,h⟩
 | cons x r ih =>
  intro k h
  cases x with
  | tmp t =>
   simp only [adY,O1] at h
   obtain ⟨vs,h1,h2⟩:=ih h
   exact ⟨gt ρ t::vs,by rw [List.mapM_cons];simp only [HZ,Sem.run_bind,Sem.run_pure,Result.andThen_ok,h1,Qc],h2⟩
  | cell a t =>
   simp only [adg,O1] at h
   split at h
   .rename_i p hp
    split at h
    .rename_i ad
     obtain ⟨v,hv,h⟩:=h
     obtain ⟨vs,h1,h2⟩:=ih h
     refine ⟨_,?_,h2⟩
     rw [List.mapM_cons]
     rw [Qc] at hp
     simp only [HZ,hp,asAddr,pure_bind,Sem.run_bind,Sem.run_pure,Result.andThen_ok,hv,h1]
    .grind
   .grind
theorem RD {P:Program} {fn:Func} {R:Value->World->Prop} {e:Exit} {a:Act} {w:World} (h:lift [] (Hi P fn.results.toList R) e a w) :
  bodyPost P fn (fun e w'=>∃v,e=.returned v/\R v w') e a w:=by
 obtain ⟨hd,h⟩:=h
 rw [Ra hd]
 have key:(Mu P a.tmps.toList w fn.results.toList fun vs=>H6 R w vs) ->
   ∃v,(results fn a.tmps.toList.toArray).run P w=.ok v w/\∃v',Ending.returned v=.returned v'/\R v' w:=by
  intro h
  obtain ⟨vs,h1,h2⟩:=abY _ h
  have hm:(fn.results.mapM (HZ a.tmps.toList.toArray)).run P w=.ok vs.toArray w:=by grind [Array.mapM_eq_mapM_toList,Sem.run_map,Result.andThen_ok]
  unfold H6 at h2
  split at h2
  .rename_i v
   obtain ⟨h2⟩:=h2
   exact ⟨v,by rw [Qw];simp only [Sem.run_bind,hm,Result.andThen_ok];rfl,v,rfl,h2⟩
  .obtain ⟨h2⟩:=h2
   exact ⟨_,by rw [Qw];simp only [Sem.run_bind,hm,Result.andThen_ok];rfl,_,rfl,h2⟩
  .rename_i u v r
   obtain ⟨h2⟩:=h2
   refine ⟨.tuple (u::v::r).toArray,?_,_,rfl,h2⟩
   rw [Qw];simp only [Sem.run_bind,hm,Result.andThen_ok,Sem.run_pure]
   rw [dif_neg zM]
 cases e
 case normal=>obtain ⟨v,h1,h2⟩:=key h;exact ⟨rfl,v,h1,h2⟩
 case ret=>obtain ⟨v,h1,h2⟩:=key h;exact ⟨rfl,v,h1,h2⟩
 all_goals exact False.elim h
theorem Fc.of {P:Program} {f:FuncId} {fn:Func} {c:Code} {args:Array Value} {w:World} {R:Value->World->Prop}
  (hf:P.funcs[f]?=some fn) (hb:fn.body=some c) (hn:(fn.name == "runtime.NumGoroutine")=false) (h:FM P fn c args.toList w R):Fc P f args w R:=by
 refine ⟨?_,?_⟩
 .simp only [callFunc,Sem.run_bind,program,Sem.run,Result.andThen_ok,hf]
  rw [if_neg (by grind),if_neg (by grind)]
  rfl
 .refine calls_of_wp hf hb ?_
  unfold FM at h
  rw [Lx,Sj,loa] at h
  have:=UG (ds:=[]) c h
  have e:(args.toList++List.replicate (fn.ntmps-args.toList.length) undef).toArray=args++Array.replicate (fn.ntmps-args.size) undef:=by simp
  rw [e] at this
  exact wp_mono this fun e a w h=>RD h
end Y2
namespace Y2
open Go Go.RowKit
variable {P:Program} {w:World} {K:Value->World->Prop}
theorem Ut {k:IntKind} {n:Int} (h0:k.min<=n) (h1:n<=k.max):ZO k n=n:=by
 unfold ZO
 cases k <;> simp [IntKind.wrap,IntKind.min,IntKind.max,IntKind.bits,IntKind.signed] at * <;> omega
theorem Si {n:Int} (h:-9223372036854775808<=n/\n<=9223372036854775807):ZO .i64 n=n:=Ut (by grind [IntKind.min,IntKind.signed,IntKind.bits]) (by grind [IntKind.max,IntKind.signed,IntKind.bits])
theorem amO {n:Int} (h:-2147483648<=n/\n<=2147483647):ZO .i32 n=n:=Ut (by grind [IntKind.min,IntKind.signed,IntKind.bits]) (by grind [IntKind.max,IntKind.signed,IntKind.bits])
theorem D4 {n:Int} (h:0<=n/\n<=18446744073709551615):ZO .u64 n=n:=Ut (by grind [IntKind.min,IntKind.signed,IntKind.bits]) (by grind [IntKind.max,IntKind.signed,IntKind.bits])
theorem amP {n:Int} (h:0<=n/\n<=4294967295):ZO .u32 n=n:=Ut (by grind [IntKind.min,IntKind.signed,IntKind.bits]) (by grind [IntKind.max,IntKind.signed,IntKind.bits])
theorem wu8 {n:Int} (h:0<=n/\n<=255):ZO .u8 n=n:=Ut (by grind [IntKind.min,IntKind.signed,IntKind.bits]) (by grind [IntKind.max,IntKind.signed,IntKind.bits])
theorem YE {a b:Int} (h:Gc a b=true):a<b:=by grind [Sp]
theorem YD {a b:Int} (h:Gc a b=false):b<=a:=by grind [Sp]
theorem Xt {a b:Int} (h:Jw a b=true):a<=b:=by grind [So]
theorem Xs {a b:Int} (h:Jw a b=false):b<a:=by grind [So]
theorem ZS {a b:Int} (h:Kf a b=true):a=b:=by grind [Sn]
theorem ZR {a b:Int} (h:Kf a b=false):a≠b:=by grind [Sn]
theorem YI {a b:Int} (h:EH a b=true):a≠b:=by grind [Sm]
theorem YH {a b:Int} (h:EH a b=false):a=b:=by grind [Sm]
theorem zv {P:Go.Program} {x y:Go.Code} {B C:Jv} {a b:Int} {Q:Go.Exit->List Go.Value->Go.World->Prop} {ρ:List Go.Value} {w:Go.World} (t:a<b->B Q ρ w) (f:b<=a->C Q ρ w):ND P x y B C (Gc a b) Q ρ w:=cI (fun h=>t (YE h)) fun h=>f (YD h)
theorem zu {P:Go.Program} {x y:Go.Code} {B C:Jv} {a b:Int} {Q:Go.Exit->List Go.Value->Go.World->Prop} {ρ:List Go.Value} {w:Go.World} (t:a<=b->B Q ρ w) (f:b<a->C Q ρ w):ND P x y B C (Jw a b) Q ρ w:=cI (fun h=>t (Xt h)) fun h=>f (Xs h)
theorem zq {P:Go.Program} {x y:Go.Code} {B C:Jv} {a b:Int} {Q:Go.Exit->List Go.Value->Go.World->Prop} {ρ:List Go.Value} {w:Go.World} (t:a=b->B Q ρ w) (f:a≠b->C Q ρ w):ND P x y B C (Kf a b) Q ρ w:=cI (fun h=>t (ZS h)) fun h=>f (ZR h)
theorem zo {P:Go.Program} {x y:Go.Code} {B C:Jv} {a b:Int} {Q:Go.Exit->List Go.Value->Go.World->Prop} {ρ:List Go.Value} {w:Go.World} (t:a≠b->B Q ρ w) (f:a=b->C Q ρ w):ND P x y B C (EH a b) Q ρ w:=cI (fun h=>t (YI h)) fun h=>f (YH h)
theorem XS {a b:Int}:Gc a b=decide (a<b):=Sp _ _
theorem YM {a b:Int}:Jw a b=decide (a<=b):=So _ _
theorem YR {a b:Int}:Kf a b=decide (a=b):=by rw [Sn];rw [Bool.eq_iff_iff];simp
theorem XL {a b:Int}:EH a b=!decide (a=b):=by rw [Sm];rw [Bool.eq_iff_iff];simp
theorem Zt {s d:TypeId} {k0 k:IntKind} {n:Int} (hs:(P.underlying s).isSome=true) (hd:P.underlying d=some (.int k)) (h:K (.int k (ZO k n)) w) :
  Zd P (convert s d (.int k0 n)) w K:=by
 obtain ⟨ds,hds⟩:=Option.isSome_iff_exists.1 hs
 refine ⟨_,w,?_,h⟩
 unfold convert
 simp only [Sem.run_bind,run_underlying hds,run_underlying hd,Result.andThen_ok,Conv.intToInt]
 unfold ZO;rfl
theorem UF {s d:TypeId} {k0 k:IntKind} {n:Int} (m:Int) (e:ZO k n=m) (hs:(P.underlying s).isSome=true) (hd:P.underlying d=some (.int k)) (h:K (.int k m) w) :
  Zd P (convert s d (.int k0 n)) w K:=Zt hs hd (e ▸ h)
theorem ajN {t:Array TypeId} {ty:TypeId} {k k':IntKind} {a b:Int} (h:K (.int k (min a b)) w):Zd P (Builtin.min_ t ty #[.int k a,.int k' b]) w K:=by
 refine ⟨_,w,?_,h⟩
 have:(if b<a then b else a)=min a b:=by omega
 simp [Builtin.min_,Builtin.min2,this]
def bs (l:zl):ByteArray:=⟨l.toArray⟩
theorem Ts (l:zl):(bs l).size=l.length:=by simp [bs,ByteArray.size]
theorem ajO (s:ByteArray):s=bs s.data.toList:=by cases s;simp [bs]
theorem adh (l:zl):(bs l).toList=l:=by simp [bs]
theorem abZ (l:zl) (i j:Nat):(bs l).extract i j=bs ((l.take j).drop i):=by
 apply ByteArray.ext
 simp only [bs,ByteArray.data_extract]
 apply Array.ext'
 simp [List.drop_take]
theorem adi (a b:zl):bs a++bs b=bs (a++b):=by
 apply ByteArray.ext
 simp [bs]
theorem adZ {a b:zl} (h:bs a=bs b):a=b:=by grind [bs]
theorem XE {t ty:TypeId} {s:zl} (ht:P.underlying t=some .string) (h:K (.int .i64 s.length) w):Zd P (Builtin.len_ #[t] ty #[.string (bs s)]) w K :=
 ⟨_,w,run_len_string (P:=P) w t ty (bs s) ht,by rw [Ts];exact h⟩
theorem UE {t ty e:TypeId} {a:Option Addr} {n c:Nat} (ht:P.underlying t=some (.slice e)) (h:K (.int .i64 n) w):Zd P (Builtin.len_ #[t] ty #[.slice a n c]) w K :=
 ⟨_,w,by simp [Builtin.len_,run_underlying ht,goInt],h⟩
theorem N3 {t:TypeId} {s:zl} {k:IntKind} {i:Int} (ht:P.underlying t=some .string) (j:Nat) (hj:i=j) (hl:j<s.length) (h:K (.int .u8 (s[j].toNat:Int)) w) :
  Zd P (Instr.index t (.string (bs s)) (.int k i)) w K:=by
 subst hj
 refine ⟨_,w,?_,h⟩
 rw [run_index_string (P:=P) w t (bs s) k j ht,dif_pos ⟨by omega,by rw [Ts];omega⟩]
 rfl
theorem ajP {t:TypeId} {s:zl} {kl:IntKind} {l:Int} (ht:P.underlying t=some .string) (i:Nat) (hi:l=i) (hl:i<=s.length)
  (k:K (.string (bs (s.drop i))) w):Zd P (Instr.sliceAt t (.string (bs s)) (some (.int kl l)) none none) w K:=by
 subst hi
 refine ⟨_,w,?_,k⟩
 have hb:(bs s).size=s.length:=Ts s
 rw [run_sliceAt_string (P:=P) w t _ _ _ _ ht,run_slice_string_l (P:=P) w t _ ht kl i zO zO]
 simp [hb,abZ]
theorem amQ {t:TypeId} {x y:Operand} {a b:zl} (hl:a.length+b.length<=9223372036854775807) (k:K (.string (bs (a++b))) w) :
  Zd P (do eqGuard .add t x y (.string (bs a)) (.string (bs b));binOp .add t (.string (bs a)) (.string (bs b))) w K:=by
 refine ⟨_,w,?_,k⟩
 simp only [eqGuard_add,pure_bind,binOp_string_add,Op.stringOp]
 rw [if_neg (by simp [Ts];omega)]
 simp [adi]
theorem ad0 {t:TypeId} {x y:Operand} {a b:zl} (k:K (.bool (decide (a=b))) w) :
  Zd P (do eqGuard .eql t x y (.string (bs a)) (.string (bs b));binOp .eql t (.string (bs a)) (.string (bs b))) w K:=by
 refine ⟨_,w,?_,k⟩
 simp only [eqGuard_at_string,pure_bind,binOp_string_eql,adh,Sem.run_pure]
 congr 2
 rw [Bool.eq_iff_iff];simp
def Tc (v:Value) (k:zk->Prop):Prop :=
 match v with
 | .agg cs=>k cs.toList
 | v=>k [v]
theorem Wf (v:Value) (k:zk->Prop):Tc v k=k v.cells.toList:=by
 cases v <;> rfl
theorem ajQ {t:TypeId} {v:Value} (h:Tc v fun cs=>K (.pointer (some ⟨w.heap.size,0,none⟩)) (w.alloc (.cells cs.toArray t))):Zd P (Instr.box t v) w K:=by
 rw [Wf] at h
 exact ⟨_,_,rfl,by simpa using h⟩
theorem afN {t:TypeId} {z:Value} (hz:(P.info? t).bind (fun i=>i.zero)=some z) (h:Tc z fun cs=>K (.pointer (some ⟨w.heap.size,0,none⟩)) (w.alloc (.cells cs.toArray t))) :
  Zd P (Instr.alloc t true (.tuple #[])) w K:=by
 rw [Wf] at h
 cases hi:P.info? t with
 | none=>simp [hi] at hz
 | some i =>
  simp only [hi,Option.bind_some] at hz
  refine ⟨_,_,?_,h⟩
  simp [Instr.alloc,zeroValue,typeInfo,hi,hz,newVar,newRow]
def NB (cs:zk) (o:Nat) (l:zk) (k:zk->Prop):Prop :=
 List.rec (motive:=fun _=>zk->Nat->Prop) (fun cs _=>k cs) (fun v _ ih cs o=>Iv cs o v fun cs=>ih cs (o+1)) l cs o
theorem ab0 (cs:zk) (o:Nat) (v:Value) (vs:zk) (k:zk->Prop):NB cs o (v::vs) k=Iv cs o v fun cs=>NB cs (o+1) vs k:=rfl
def VT:zk->Nat->zk->zk
 | cs,_,[]=>cs
 | cs,o,v::vs=>VT (cs.set o v) (o+1) vs
theorem SN (vs:zk):∀(cs:zk) (o:Nat) (k:zk->Prop),NB cs o vs k=k (VT cs o vs):=by
 induction vs with
 | nil=>intros;rfl
 | cons v vs ih=>intro cs o k;simp only [ab0,VT,Tg,ih]
theorem VK (vs:zk):∀(cs:zk) (o:Nat),(VT cs o vs).length=cs.length:=by
 induction vs with
 | nil=>intros;rfl
 | cons v vs ih=>intro cs o;simp [VT,ih]
def Iq (b:Bool) (k:Prop):Prop:=match b with
 | true=>k
 | false=>False
theorem NA {b:Bool} {k:Prop} (h:Iq b k):b=true/\k:=by cases b;exact h.elim;exact ⟨rfl,h⟩
def P9 (place:Nat->Option (Nat × Nat)) (l:List (Nat × Value)) (cs:zk) (k:zk->Prop):Prop :=
 List.rec (motive:=fun _=>zk->Prop) k (fun p _ ih cs=>match p with
  | (i,v)=>match place i with
   | none=>False
   | some p=>match p with
    | (o,n)=>Tc v fun vs=>Iq (Nat.beq vs.length n && Nat.ble (o+n) cs.length) (NB cs o vs fun cs=>ih cs)) l cs
theorem Qv (place:Nat->Option (Nat × Nat)) (i:Nat) (v:Value) (r:List (Nat × Value)) (cs:zk) (k:zk->Prop):P9 place ((i,v)::r) cs k=match place i with
   | none=>False
   | some p=>match p with
    | (o,n)=>Tc v fun vs=>Iq (Nat.beq vs.length n && Nat.ble (o+n) cs.length) (NB cs o vs fun cs=>P9 place r cs k):=rfl
theorem ab1 (vs:zk) (o:Nat):∀(j:Nat) (cs:Array Value),(vs.zipIdx j).foldl (fun cs (c,i)=>cs.setIfInBounds (o+i) c) cs=(VT cs.toList (o+j) vs).toArray:=by
 induction vs with
 | nil=>intro j cs;simp [VT]
 | cons v vs ih=>intro j cs;simp only [List.zipIdx_cons,List.foldl_cons,ih,VT];simp [Nat.add_assoc]
theorem aah {place:Nat->Option (Nat × Nat)} (ps:List (Nat × Value)):∀{cs:zk} {k:zk->Prop},P9 place ps cs k ->
  ∃cs',Instr.fill place cs.toArray ps=some cs'/\k cs'.toList:=by
 induction ps with
 | nil=>exact fun h=>⟨_,rfl,h⟩
 | cons p r ih =>
  obtain ⟨i,v⟩:=p
  intro cs k h
  simp only [Qv,Wf,SN] at h
  split at h
  .grind
  .rename_i pr hp
   obtain ⟨o,n⟩:=pr
   dsimp only at h
   obtain ⟨hb,h⟩:=NA h
   simp only [Bool.and_eq_true,Nat.beq_eq,Nat.ble_eq] at hb
   obtain ⟨cs',h1,h2⟩:=ih h
   refine ⟨cs',?_,h2⟩
   have hs:v.cells.size=n:=by grind
   simp only [Instr.fill,hp]
   rw [if_neg (by grind)]
   rw [<-h1]
   congr 1
   have:=ab1 v.cells.toList o 0 cs.toArray
   simp only [Nat.add_zero] at this
   rw [<-this,<-Array.foldl_toList,Array.toList_zipIdx]
def OS (n:Nat) (z:zk):(zk->Prop)->Prop :=
 Nat.rec (motive:=fun _=>(zk->Prop)->Prop) (fun k=>k []) (fun _ ih k=>ih fun cs=>O0 z cs k) n
theorem aa5 (n:Nat) (z:zk) (k:zk->Prop):OS (n+1) z k=OS n z fun cs=>O0 z cs k:=rfl
theorem Q7 (n:Nat) (z:zk) (k:zk->Prop):OS n z k=k (List.replicate n z).flatten:=by
 induction n generalizing k with
 | zero=>rfl
 | succ n ih=>simp only [aa5,ih,Sj,List.replicate_succ,List.flatten_cons]
theorem aa6 (n:Nat) (z:Array Value):((Array.range (n * z.size)).map fun i=>z[i % z.size]!)=(List.replicate n z.toList).flatten.toArray:=by
 apply Array.ext'
 simp only [Array.toList_map,Array.toList_range]
 induction n with
 | zero=>simp
 | succ n ih =>
  rw [lhb,List.range_add,llb,ih,List.replicate_succ',List.flatten_append]
  congr 1
  simp only [List.flatten_cons,List.flatten_nil,List.append_nil,List.map_map]
  apply List.ext_getElem
  .simp
  .intro i h1 h2
   simp only [List.length_map,List.length_range] at h1
   simp only [List.getElem_map,List.getElem_range,Function.comp]
   rw [Nat.mul_comm,Nat.mul_add_mod,Nat.mod_eq_of_lt h1]
   simp [h1]
theorem aaU {t e:TypeId} {n sz:Nat} {z:Value} {ps:Array (Nat × Value)} (hu:P.underlying t=some (.slice e)) (hz:(P.info? e).map (fun i=>(i.size,i.zero))=some (sz,some z))
  (hsz:z.cells.size=sz) (hn:n * sz<=16777216)
  (h:OS n z.cells.toList fun zs=>P9 (fun i=>some (i * sz,sz)) ps.toList zs fun cs=>K (.slice (some ⟨w.heap.size,0,none⟩) n n) (w.alloc (.cells cs.toArray e))) :
  Zd P (Instr.buildSlice t n ps) w K:=by
 rw [Q7] at h
 cases hi:P.info? e with
 | none=>simp [hi] at hz
 | some i =>
  simp only [hi,Option.map_some,Option.some.injEq,Prod.mk.injEq] at hz
  obtain ⟨h1,h2⟩:=hz
  obtain ⟨cs,hf,k⟩:=aah _ h
  refine ⟨_,_,?_,k⟩
  have hb:¬(16777216<n * sz):=by omega
  by_cases h0:n * sz=0
  .have:(List.replicate n z.cells.toList).flatten=[]:=by
    apply lma
    simp [hsz,h0]
   rw [this] at hf
   have hr:Array.range 0=#[]:=rfl
   simp [Instr.buildSlice,hr,run_underlying hu,sizeOf,typeInfo,hi,h1,h0,hf,newRow]
  .have Jl:=aa6 n z.cells
   rw [hsz] at Jl
   simp [Instr.buildSlice,run_underlying hu,sizeOf,typeInfo,zeroValue,hi,h1,h0,h2,hb,hsz,Jl,hf,newRow]
def RM (w:World) (b:Nat) (cs:zk) (e:TypeId):Prop:=w.heap[b]?=some (.cells cs.toArray e (0,0))
def At (w:World) (b o:Nat) (vs:zk):Prop:=∃cs e fz,w.heap[b]?=some (.cells cs e fz)/\∀i v,vs[i]?=some v->cs[o+i]?=some v
structure HY (w w':World) (cs:zk) (e:TypeId):Prop where
 Vy:RM w' w.heap.size cs e
 below:Below w.heap.size w w'
 size:w'.heap.size=w.heap.size+1
structure Km (w w':World) (b:Nat):Prop where
 os:w'.os=w.os
 tape:w'.tape=w.tape
 output:w'.output=w.output
 size:w'.heap.size=w.heap.size
 block:∀k,k≠b->w'.heap[k]?=w.heap[k]?
theorem HY.mk' (w:World) (cs:zk) (e:TypeId):HY w (w.alloc (.cells cs.toArray e)) cs e :=
 ⟨heap_alloc_new w _,(Below.refl _ _).alloc (lna _) _,by simp⟩
theorem Km.below {B:Nat} {w0 w w':World} {b:Nat} (h:Km w w' b) (hb:Below B w0 w) (hB:B<=b):Below B w0 w' :=
 ⟨h.os.trans hb.os,h.tape.trans hb.tape,h.output.trans hb.output,by rw [h.size];exact hb.size,fun k hk=>(h.block k zO).trans (hb.block k hk)⟩
theorem RM.at {w:World} {b:Nat} {cs:zk} {e:TypeId} (h:RM w b cs e):At w b 0 cs :=
 ⟨_,_,_,h,fun i v hi=>by simpa using hi⟩
theorem RM.lt {w:World} {b:Nat} {cs:zk} {e:TypeId} (h:RM w b cs e):b<w.heap.size:=(lva.1 h).1
theorem At.lt {w:World} {b o:Nat} {vs:zk} (h:At w b o vs):b<w.heap.size:=by
 obtain ⟨_,_,_,h,_⟩:=h;exact (lva.1 h).1
theorem RM.keep {w w':World} {b:Nat} {cs:zk} {e:TypeId} (h:RM w b cs e) (hk:w'.heap[b]?=w.heap[b]?):RM w' b cs e:=hk.trans h
theorem RM.below {B:Nat} {w w':World} {b:Nat} {cs:zk} {e:TypeId} (h:RM w b cs e) (hb:Below B w w') (hB:b<B):RM w' b cs e:=h.keep (hb.block b hB)
theorem At.keep {w w':World} {b o:Nat} {vs:zk} (h:At w b o vs) (hk:w'.heap[b]?=w.heap[b]?):At w' b o vs:=by
 obtain ⟨cs,e,fz,h1,h2⟩:=h;exact ⟨cs,e,fz,hk.trans h1,h2⟩
theorem At.below {B:Nat} {w w':World} {b o:Nat} {vs:zk} (h:At w b o vs) (hb:Below B w w') (hB:b<B):At w' b o vs:=h.keep (hb.block b hB)
theorem At.sub {w:World} {b o:Nat} {vs:zk} (h:At w b o vs) (i n:Nat):At w b (o+i) ((vs.drop i).take n):=by
 obtain ⟨cs,e,fz,h1,h2⟩:=h
 refine ⟨cs,e,fz,h1,fun j v hj=>?_⟩
 rw [lJa] at hj
 split at hj
 .grind
 .grind
theorem amR {t:TypeId} {v:Value} (h:Tc v fun cs=>∀w',HY w w' cs t->K (.pointer (some ⟨w.heap.size,0,none⟩)) w'):Zd P (Instr.box t v) w K :=
 ajQ (by rw [Wf] at h ⊢;exact h _ (HY.mk' _ _ _))
theorem ahV {t:TypeId} {z:Value} (hz:(P.info? t).bind (fun i=>i.zero)=some z) (h:Tc z fun cs=>∀w',HY w w' cs t->K (.pointer (some ⟨w.heap.size,0,none⟩)) w') :
  Zd P (Instr.alloc t true (.tuple #[])) w K :=
 afN hz (by rw [Wf] at h ⊢;exact h _ (HY.mk' _ _ _))
theorem aax {place:Nat->Option (Nat × Nat)} (ps:List (Nat × Value)):∀{cs:zk} {k k':zk->Prop},P9 place ps cs k->(∀cs,k cs->k' cs)->P9 place ps cs k':=by
 induction ps with
 | nil=>exact fun h hk=>hk _ h
 | cons p r ih =>
  obtain ⟨i,v⟩:=p
  intro cs k k' h hk
  simp only [Qv,Wf,SN] at h ⊢
  split at h
  .omega
  .rename_i pr hp
   obtain ⟨o,n⟩:=pr
   dsimp only at h ⊢
   obtain ⟨hb,h⟩:=NA h
   rw [hb];exact ih h hk
theorem aai {t e:TypeId} {n sz:Nat} {z:Value} {ps:Array (Nat × Value)} (hu:P.underlying t=some (.slice e)) (hz:(P.info? e).map (fun i=>(i.size,i.zero))=some (sz,some z))
  (hsz:z.cells.size=sz) (hn:n * sz<=16777216)
  (h:OS n z.cells.toList fun zs=>P9 (fun i=>some (i * sz,sz)) ps.toList zs fun cs=>∀w',HY w w' cs e->K (.slice (some ⟨w.heap.size,0,none⟩) n n) w') :
  Zd P (Instr.buildSlice t n ps) w K :=
 aaU hu hz hsz hn (by rw [Q7] at h ⊢;exact aax _ h fun cs h=>h _ (HY.mk' _ _ _))
def Nz:TypeDesc->Bool
 | .struct _|.array _ _=>true
 | _=>false
theorem SM {t:TypeId} {d:TypeDesc} (hu:P.underlying t=some d):(isAgg t).run P w=.ok (Nz d) w:=by
 unfold isAgg
 rw [Sem.run_bind,run_underlying hu w]
 cases d <;> rfl
theorem At.cell {w:World} {b o:Nat} {vs:zk} (h:At w b o vs) {i:Nat} {v:Value} (hi:vs[i]?=some v):w.cell? ⟨b,o+i,none⟩=some v:=by
 obtain ⟨cs,e,fz,h1,h2⟩:=h
 rw [cell_of_row w b (o+i) cs e fz h1];exact h2 i v hi
theorem ahW {t:TypeId} {d:TypeDesc} {b o:Nat} {v:Value} (hc:w.cell? ⟨b,o,none⟩=some v) (hu:P.underlying t=some d) (hd:Nz d=false) (k:K v w) :
  Zd P (Instr.loadAt t (.pointer (some ⟨b,o,none⟩))) w K:=by
 refine ⟨v,w,?_,k⟩
 simp [Instr.loadAt,Instr.sureAddr,loadVar,SM hu,hd,hc]
theorem ajR {t:TypeId} {d:TypeDesc} {b o:Nat} {vs:zk} (h:At w b o vs) (i:Nat) (hu:P.underlying t=some d) (hd:Nz d=false) (k:Kc vs i fun v=>K v w) :
  Zd P (Instr.loadAt t (.pointer (some ⟨b,o+i,none⟩))) w K:=by
 obtain ⟨v,hv,k⟩:=N4 k
 exact ahW (h.cell hv) hu hd k
theorem afO {t:TypeId} {d:TypeDesc} {b o:Nat} {vs:zk} (h:At w b o vs) (hu:P.underlying t=some d) (hd:Nz d=true) (hs:(P.info? t).map (·.size)=some vs.length) (k:K (.agg vs.toArray) w) :
  Zd P (Instr.loadAt t (.pointer (some ⟨b,o,none⟩))) w K:=by
 refine ⟨_,w,?_,k⟩
 cases hi:P.info? t with
 | none=>simp [hi] at hs
 | some i =>
  have hl:i.size=vs.length:=by grind
  have:=run_loadCells_list (P:=P) w ⟨b,o,none⟩ vs (fun j v hv=>by rw [Addr.add_lit];exact h.cell hv)
  simp [Instr.loadAt,Instr.sureAddr,loadVar,SM hu,hd,sizeOf,typeInfo,hi,hl,this]
def Ny (l:zk):Nat->(zk->Prop)->Prop :=
 List.rec (motive:=fun _=>Nat->(zk->Prop)->Prop) (fun _ k=>k []) (fun x r ih n k=>Nat.rec (motive:=fun _=>Prop) (k (x::r)) (fun m _=>ih m k) n) l
theorem ab2 (x:Value) (r:zk) (n:Nat) (k:zk->Prop):Ny (x::r) (n+1) k=Ny r n k:=rfl
def L9 (l:zk):Nat->(zk->Prop)->Prop :=
 List.rec (motive:=fun _=>Nat->(zk->Prop)->Prop) (fun n k=>Nat.rec (motive:=fun _=>Prop) (k []) (fun _ _=>False) n) (fun x _ ih n k=>Nat.rec (motive:=fun _=>Prop) (k []) (fun m _=>ih m fun l=>k (x::l)) n) l
theorem P8 (l:zk) (n:Nat) (k:zk->Prop):Ny l n k=k (l.drop n):=by
 induction l generalizing n with
 | nil=>cases n <;> rfl
 | cons x r ih=>cases n with
  | zero=>rfl
  | succ n=>simp [ab2,ih]
theorem Nx {l:zk} {n:Nat} {k:zk->Prop} (h:L9 l n k):n<=l.length/\k (l.take n):=by
 induction l generalizing n k with
 | nil=>cases n with
  | zero=>exact ⟨lna _,h⟩
  | succ n=>exact h.elim
 | cons x r ih=>cases n with
  | zero=>exact ⟨lKa _,h⟩
  | succ n=>obtain ⟨h1,h2⟩:=ih (n:=n) h;exact ⟨by simp;omega,by simpa using h2⟩
theorem ahX {t:TypeId} {d:TypeDesc} {b o:Nat} {vs:zk} (h:At w b o vs) (i:Nat) (hu:P.underlying t=some d) (hd:Nz d=true)
  (k:Ny vs i fun r=>L9 r (P.cellsOf t) fun us=>K (.agg us.toArray) w) :
  Zd P (Instr.loadAt t (.pointer (some ⟨b,o+i,none⟩))) w K:=by
 rw [P8] at k
 obtain ⟨h1,h2⟩:=Nx k
 refine afO (h.sub i (P.cellsOf t)) hu hd ?_ h2
 cases hi:P.info? t with
 | none=>simp [Program.underlying,hi] at hu
 | some j=>simp [Program.cellsOf,hi] at h1 ⊢;omega
theorem afP {t:TypeId} {e:TypeId} {b o:Nat} {cs:zk} {v:Value} {K:World->Prop} (hb:RM w b cs e) (ho:o<cs.length) (hs:(P.info? t).map (·.size)=some 1) (hv:v.oneCell'=true)
  (k:Iv cs o v fun cs'=>∀w',Km w w' b->RM w' b cs' e->K w'):Iu P (Instr.storeAt t (.pointer (some ⟨b,o,none⟩)) v) w K:=by
 rw [Tg] at k
 cases hi:P.info? t with
 | none=>simp [hi] at hs
 | some i =>
  have hl:i.size=1:=by grind
  have hvc:v.cells=#[v]:=by cases v <;> first|rfl|(simp [Value.oneCell'] at hv)
  have hc:w.cell? ⟨b,o,none⟩=some cs[o]:=by
   rw [cell_of_row w b o _ e (0,0) hb];simp [ho]
  have hf:w.frozen? ⟨b,o,none⟩=false:=frozen_of_row w b o _ e hb
  have hw:Km w (w.setCell ⟨b,o,none⟩ v) b:=⟨rfl,rfl,rfl,by simp,fun k hk=>heap_setCell_other w _ k v hk⟩
  have FL:RM (w.setCell ⟨b,o,none⟩ v) b (cs.set o v) e:=by
   unfold RM
   rw [heap_setCell_same w b o _ e v hb];simp
  refine ⟨_,?_,k _ hw FL⟩
  have hst:(store ⟨b,o,none⟩ v).run P w=.ok () (w.setCell ⟨b,o,none⟩ v):=by
   cases v <;> first|(simp [Value.oneCell'] at hv;done)|simp [store,Sem.run,hc,hf]
  simp [Instr.storeAt,Instr.sureAddr,storeVar,sizeOf,typeInfo,hi,hl,hvc,storeCells,Addr.add_zero',hst]
theorem acv {t:TypeId} {e:TypeId} {b o:Nat} {cs:zk} {v:Value} {K:World->Prop} (hb:RM w b cs e) (ho:o<cs.length) (hs:(P.info? t).map (·.size)=some 1) (hv:v.oneCell'=true)
  (k:∀w',Km w w' b->RM w' b (cs.set o v) e->K w'):Iu P (Instr.storeAt t (.pointer (some ⟨b,o,none⟩)) v) w K :=
 afP hb ho hs hv (by rw [Tg];exact k)
theorem amS {t e:TypeId} {b o len cap:Nat} {ki:IntKind} {i:Int} (sz j p:Nat) (hj:i=j) (hl:j<len) (hp:o+j * sz=p) (ht:P.underlying t=some (.slice e)) (hs:(P.info? e).map (fun i=>i.size)=some sz)
  (k:K (.pointer (some ⟨b,p,none⟩)) w):Zd P (Instr.indexAt t (.slice (some ⟨b,o,none⟩) len cap) (.int ki i)) w K:=by
 subst hj;subst hp
 refine ⟨_,w,?_,k⟩
 cases hi':P.info? e with
 | none=>simp [hi'] at hs
 | some i' =>
  simp only [hi',Option.map_some,Option.some.injEq] at hs
  simp [Instr.indexAt,asIntOf,run_underlying ht,sizeOf,typeInfo,hi',hs,Addr.add_lit,hl]
theorem Km.trans {w w' w'':World} {b:Nat} (h:Km w w' b) (k:Km w' w'' b):Km w w'' b :=
 ⟨k.os.trans h.os,k.tape.trans h.tape,k.output.trans h.output,k.size.trans h.size,fun i hi=>(k.block i hi).trans (h.block i hi)⟩
theorem Km.refl (w:World) (b:Nat):Km w w b:=⟨rfl,rfl,rfl,rfl,fun _ _=>rfl⟩
def D3 (l:List Field):Nat->(TypeId->Nat->Prop)->Prop :=
 List.rec (motive:=fun _=>Nat->(TypeId->Nat->Prop)->Prop) (fun _ _=>False) (fun f _ ih n k=>Nat.rec (motive:=fun _=>Prop) (match f with
  | ⟨_,ty,off,_,_,_,_⟩=>k ty off) (fun m _=>ih m k) n) l
theorem acw {l:List Field} {i:Nat} {k:TypeId->Nat->Prop} (h:D3 l i k):∃f,l[i]?=some f/\k f.type f.offset:=by
 induction l generalizing i with
 | nil=>exact h.elim
 | cons f r ih=>cases i with
  | zero=>exact ⟨f,rfl,h⟩
  | succ i=>simpa using ih (i:=i) h
theorem Z9 {s:TypeId} {fs:Array Field} {i b o:Nat} (hu:P.underlying s=some (.struct fs)) (h:D3 fs.toList i fun ty off=>Iq (Nat.ble 1 (P.cellsOf ty)) (K (.pointer (some ⟨b,o+off,none⟩)) w)) :
  Zd P (Instr.fieldAt s (.pointer (some ⟨b,o,none⟩)) i) w K:=by
 obtain ⟨f,hf,h⟩:=acw h
 obtain ⟨h1,h2⟩:=NA h
 refine ⟨_,w,?_,h2⟩
 simp only [Array.getElem?_toList] at hf
 have h1:1<=P.cellsOf f.type:=by simpa using h1
 cases hi:P.info? f.type with
 | none=>simp [Program.cellsOf,hi] at h1
 | some j =>
  have:j.size≠0:=by grind [Program.cellsOf]
  simp [Instr.fieldAt,run_underlying hu,hf,Instr.sureAddr,fieldPlace,sizeOf,typeInfo,hi,this,Addr.add_lit]
def Hh (P:Program) (ty:TypeId) (cs:zk) (off:Nat) (k:Value->Prop):Prop :=
 match P.underlying ty with
 | some d=>match Nz d with
  | true=>Ny cs off fun r=>L9 r (P.cellsOf ty) fun vs=>k (.agg vs.toArray)
  | false=>Kc cs off k
 | none=>False
theorem aa7 {ty:TypeId} {cs:zk} {off:Nat} {k:Value->Prop} (h:Hh P ty cs off k):∃v,(part ty cs.toArray off).run P w=.ok v w/\k v:=by
 unfold Hh at h
 split at h
 .rename_i d hu
  split at h
  .rename_i hd
   rw [P8] at h
   obtain ⟨h1,h2⟩:=Nx h
   refine ⟨_,?_,h2⟩
   cases hi:P.info? ty with
   | none=>simp [Program.underlying,hi] at hu
   | some i =>
    simp [part,SM hu,hd,sizeOf,typeInfo,hi,Program.cellsOf]
  .rename_i hd
   obtain ⟨v,hv,h⟩:=N4 h
   exact ⟨v,by simp [part,SM hu,hd,hv],h⟩
 .grind
theorem Lw {s:TypeId} {fs:Array Field} {i:Nat} {cs:Array Value} (hu:P.underlying s=some (.struct fs)) (h:D3 fs.toList i fun ty off=>Hh P ty cs.toList off fun v=>K v w) :
  Zd P (Instr.field s (.agg cs) i) w K:=by
 obtain ⟨f,hf,h⟩:=acw h
 obtain ⟨v,hv,h⟩:=aa7 (w:=w) h
 refine ⟨v,w,?_,h⟩
 simp only [Array.getElem?_toList] at hf
 simp only [Array.toArray_toList] at hv
 simp [Instr.field,run_underlying hu,hf,asAgg,hv]
def N2 (P:Program) (l:List Field):(List (Nat × Nat)->Prop)->Prop :=
 List.rec (motive:=fun _=>(List (Nat × Nat)->Prop)->Prop) (fun k=>k []) (fun f _ ih k=>match f with
  | ⟨_,ty,off,_,_,_,_⟩=>ih fun l=>k ((off,P.cellsOf ty)::l)) l
theorem aaV (f:Field) (r:List Field) (k:List (Nat × Nat)->Prop):N2 P (f::r) k=N2 P r fun l=>k ((f.offset,P.cellsOf f.type)::l):=by cases f;rfl
theorem ab3 (l:List Field) (k:List (Nat × Nat)->Prop):N2 P l k=k (l.map fun f=>(f.offset,P.cellsOf f.type)):=by
 induction l generalizing k with
 | nil=>rfl
 | cons f r ih=>simp [aaV,ih]
theorem aa8 {α β:Type} {g:α->Sem β} {h:α->β}:∀(l:List α),(∀a,a∈l->(g a).run P w=.ok (h a) w)->(l.mapM g).run P w=.ok (l.map h) w
 | [],_=>by simp
 | a::r,hl=>by
  rw [List.mapM_cons]
  simp only [Sem.run_bind,hl a (List.mem_cons_self ..),Result.andThen_ok,aa8 r fun b hb=>hl b (List.mem_cons_of_mem _ hb),Sem.run_pure,List.map_cons]
theorem ab4 {t:TypeId} (h:(P.info? t).isSome=true):(sizeOf t).run P w=.ok (P.cellsOf t) w:=by
 obtain ⟨j,hj⟩:=Option.isSome_iff_exists.1 h
 simp [sizeOf,typeInfo,hj,Program.cellsOf]
theorem Zq {t:TypeId} {fs:Array Field} {z:Value} {ps:Array (Nat × Value)} (hu:P.underlying t=some (.struct fs)) (hz:(P.info? t).bind (fun i=>i.zero)=some z)
  (hf:fs.toList.all (fun f=>(P.info? f.type).isSome)=true)
  (h:N2 P fs.toList fun pl=>Tc z fun zs=>P9 (fun i=>pl[i]?) ps.toList zs fun cs=>K (.agg cs.toArray) w):Zd P (Instr.build t ps) w K:=by
 rw [ab3,Wf] at h
 obtain ⟨cs,h1,h2⟩:=aah _ h
 refine ⟨_,w,?_,h2⟩
 cases hi:P.info? t with
 | none=>simp [hi] at hz
 | some i =>
  simp only [hi,Option.bind_some] at hz
  have hm:(fs.mapM (m:=Sem) fun f=>do pure (f.offset,<-sizeOf f.type)).run P w=.ok (fs.toList.map fun f=>(f.offset,P.cellsOf f.type)).toArray w:=by
   rw [Array.mapM_eq_mapM_toList]
   rw [Sem.run_map,aa8 (h:=fun f=>(f.offset,P.cellsOf f.type)) _ (fun f hm=>?_)]
   .rfl
   .grind [Sem.run_bind,ab4,Result.andThen_ok,Sem.run_pure]
  have hzv:(zeroValue t).run P w=.ok z w:=by simp [zeroValue,typeInfo,hi,hz]
  simp only [Array.toArray_toList] at h1
  unfold Instr.build
  simp only [Sem.run_bind,hzv,Result.andThen_ok,run_underlying hu,hm,List.getElem?_toArray,h1,Sem.run_pure,Array.toArray_toList]
end Y2
namespace Y2
open Go Go.RowKit
variable {P:Program} {w:World} {K:Value->World->Prop}
theorem ad1 {lo:Nat} {w w':World} {e:TypeId} {sz:Nat} {v:Value} {n:Nat} {xs:zk} (h:w.ownsRow lo e sz v n xs) (hb:∀k,v.ownBlock=some k->w'.heap[k]?=w.heap[k]?):w'.ownsRow lo e sz v n xs:=by
 refine ⟨h.1,?_⟩
 rcases h.2 with hn|⟨g,cap,cur,rfl,Bx,hgg,rest⟩
 .grind
 .refine .inr ⟨g,cap,cur,rfl,Bx,?_,rest⟩
  rw [hb g rfl];exact hgg
theorem ad2 {lo lo':Nat} {w:World} {e:TypeId} {sz:Nat} {v:Value} {n:Nat} {xs:zk} (h:w.ownsRow lo e sz v n xs) (hl:lo'<=lo):w.ownsRow lo' e sz v n xs:=by
 refine ⟨h.1,?_⟩
 rcases h.2 with hn|⟨g,cap,cur,rfl,Bx,rest⟩
 .grind
 .exact .inr ⟨g,cap,cur,rfl,lEa hl Bx,rest⟩
theorem HY.own {w w':World} {cs:zk} {e:TypeId} (h:HY w w' cs e) (n sz:Nat) (hn:cs.length=n * sz) (hm:n<=140737488355328):w'.ownsRow w.heap.size e sz (.slice (some ⟨w.heap.size,0,none⟩) n n) n cs :=
 ⟨hn,.inr ⟨w.heap.size,n,cs.toArray,rfl,lna _,h.Vy,lna _,by simp [maxLen];omega,by simpa using hn,lta (by simp [hn])⟩⟩
abbrev Hv:=Nat->Obj->Prop
def Rg (w:World) (lo hi:Nat):Hv:=fun b o=>lo<=b/\b<hi/\w.heap[b]?=some o
def Kb (H H':Hv):Prop:=∀b o,H b o->H' b o
theorem Kb.refl (H:Hv):Kb H H:=fun _ _ h=>h
theorem Rg.mono {w w':World} {lo hi lo' hi':Nat} (hlo:lo'<=lo) (hhi:hi<=hi') (hs:∀b,lo<=b->b<hi->w'.heap[b]?=w.heap[b]?):Kb (Rg w lo hi) (Rg w' lo' hi') :=
 fun b o ⟨h1,h2,h3⟩=>⟨lEa hlo h1,Nat.lt_of_lt_of_le h2 hhi,(hs b h1 h2).trans h3⟩
theorem Rg.below {w w':World} {lo hi B:Nat} (hb:Below B w w') (h:hi<=B):Kb (Rg w lo hi) (Rg w' lo hi):=Rg.mono (lna _) (lna _) fun b _ h2=>hb.block b (Nat.lt_of_lt_of_le h2 h)
def EF (H:Hv) (b o:Nat) (vs:zk):Prop:=∃cs e fz,H b (.cells cs e fz)/\∀i v,vs[i]?=some v->cs[o+i]?=some v
theorem EF.at {w:World} {lo hi b o:Nat} {vs:zk} (h:EF (Rg w lo hi) b o vs):At w b o vs:=by
 obtain ⟨cs,e,fz,⟨_,_,h1⟩,h2⟩:=h;exact ⟨cs,e,fz,h1,h2⟩
theorem EF.mono {H H':Hv} {b o:Nat} {vs:zk} (h:EF H b o vs) (hh:Kb H H'):EF H' b o vs:=by
 obtain ⟨cs,e,fz,h1,h2⟩:=h;exact ⟨cs,e,fz,hh _ _ h1,h2⟩
section
variable {α:Type}
def FK (R:Hv->zk->α->Prop) (sz:Nat) (H:Hv) (cells:zk) (xs:List α):Prop :=
 cells.length=xs.length * sz/\∀i x,xs[i]?=some x->R H ((cells.drop (i * sz)).take sz) x
def VU (R:Hv->zk->α->Prop) (sz:Nat) (H:Hv) (v:Value) (xs:List α):Prop :=
 ∃a cap,v=.slice a xs.length cap/\(xs.length<=cap/\cap<=9223372036854775807)/\(a=none->xs=[]/\cap=0) /\
  (xs≠[]->∃b o news,a=some ⟨b,o,none⟩/\EF H b o news/\FK R sz H news xs)
def D2 (R:Hv->zk->α->Prop):Prop:=∀H H' vs x,Kb H H'->R H vs x->R H' vs x
theorem FK.mono {R:Hv->zk->α->Prop} {sz:Nat} {H H':Hv} {cells:zk} {xs:List α} (hR:D2 R) (h:FK R sz H cells xs) (hh:Kb H H'):FK R sz H' cells xs :=
 ⟨h.1,fun i x hx=>hR _ _ _ _ hh (h.2 i x hx)⟩
theorem VU.mono {R:Hv->zk->α->Prop} {sz:Nat} {H H':Hv} {v:Value} {xs:List α} (hR:D2 R) (h:VU R sz H v xs) (hh:Kb H H'):VU R sz H' v xs:=by
 obtain ⟨a,cap,h1,h2,h3,h4⟩:=h
 exact ⟨a,cap,h1,h2,h3,fun hx=>let ⟨b,o,news,e,k1,k2⟩:=h4 hx;⟨b,o,news,e,k1.mono hh,k2.mono hR hh⟩⟩
theorem VU.len {R:Hv->zk->α->Prop} {sz:Nat} {H:Hv} {v:Value} {xs:List α} (h:VU R sz H v xs):xs.length<=9223372036854775807:=by
 obtain ⟨a,cap,h1,h2,h3,h4⟩:=h;omega
theorem VU.nil (R:Hv->zk->α->Prop) (sz:Nat) (H:Hv):VU R sz H (.slice none 0 0) [] :=
 ⟨none,0,rfl,by simp,fun _=>⟨rfl,rfl⟩,fun h=>absurd rfl h⟩
theorem ajS {R:Hv->zk->α->Prop} {sz:Nat} {H:Hv} {t ty e:TypeId} {v:Value} {xs:List α} (h:VU R sz H v xs) (ht:P.underlying t=some (.slice e)) (k:K (.int .i64 xs.length) w) :
  Zd P (Builtin.len_ #[t] ty #[v]) w K:=by
 obtain ⟨a,cap,rfl,h2,h3,h4⟩:=h
 exact UE ht k
end
end Y2
namespace Y2
open Go
theorem afQ (k:IntKind) (x:Int) (n:Nat) (hn:n<=k.bits):W4 k x n=x / 2 ^ n:=by grind [W4]
theorem RC (n:Nat) (x:Int):((BitVec.ofInt n x).toNat:Int)=x % 2 ^ n:=by
 rw [BitVec.toNat_ofInt]
 have h:0<=x % ((2 ^ n:Nat):Int):=Int.emod_nonneg _ (by exact_mod_cast Nat.ne_of_gt (Nat.two_pow_pos n))
 rw [Int.toNat_of_nonneg h]
 norm_cast
theorem aay (k:IntKind) (x:Int) (n:Nat) (hn:n<k.bits):Tu k x (2 ^ n-1)=x % 2 ^ n:=by
 unfold Tu
 have h1:(BitVec.ofInt k.bits (2 ^ n-1)).toNat=2 ^ n-1:=by
  have h2:=RC k.bits (2 ^ n-1)
  have h3:((2:Int) ^ n-1) % 2 ^ k.bits=2 ^ n-1:=by
   have a:(0:Int)<2 ^ n:=by exact_mod_cast Nat.two_pow_pos n
   have b:(2:Int) ^ n<=2 ^ k.bits:=by exact_mod_cast lRa (by decide) (lZa hn)
   exact Int.emod_eq_of_lt zO zO
  rw [h3] at h2
  have h4:((2 ^ n-1:Nat):Int)=2 ^ n-1:=by
   rw [Int.ofNat_sub (Nat.one_le_two_pow)];norm_cast
  omega
 rw [BitVec.toNat_and,h1,Nat.and_two_pow_sub_one_eq_mod]
 have h5:(((BitVec.ofInt k.bits x).toNat % 2 ^ n:Nat):Int)=x % 2 ^ n:=by
  rw [Int.natCast_emod,RC]
  have:((2 ^ n:Nat):Int)=2 ^ n:=by norm_cast
  rw [this]
  exact Int.emod_emod_of_dvd x (by exact_mod_cast Nat.pow_dvd_pow 2 (lZa hn))
 rw [h5]
 have a:(0:Int)<2 ^ n:=by exact_mod_cast Nat.two_pow_pos n
 have h6:=Int.emod_nonneg x (Int.ne_of_gt a)
 have h7:=Int.emod_lt_of_pos x a
 have h8:(2:Int) ^ n<=2 ^ (k.bits-1):=by exact_mod_cast lRa (by decide) zO
 have h9:=Ut (k:=k) (n:=x % 2 ^ n) (by
   unfold IntKind.min;split
   .have:(0:Int)<2 ^ (k.bits-1):=by exact_mod_cast Nat.two_pow_pos _
    omega
   .exact h6) (by
   unfold IntKind.max
   have:(2:Int) ^ (k.bits-1)<=2 ^ k.bits:=by exact_mod_cast lRa (by decide) zO
   split <;> omega)
 unfold ZO at h9
 exact h9
theorem afR (k:IntKind) (a b:Nat) (n:Nat) (ha:a<2 ^ n) (hb:2 ^ n ∣ b) (hk:(a:Int)+b<=k.max):RH k a b=a+b:=by
 unfold RH
 have amT:k.max<2 ^ k.bits:=by cases k <;> decide
 have ea:(BitVec.ofInt k.bits (a:Int)).toNat=a:=by grind
 have eb:(BitVec.ofInt k.bits (b:Int)).toNat=b:=by grind
 obtain ⟨c,rfl⟩:=hb
 rw [BitVec.toNat_or,ea,eb,Nat.or_comm,<-Nat.two_pow_add_eq_or_of_lt ha]
 have:=Ut (k:=k) (n:=((2 ^ n * c+a:Nat):Int)) (by
  have:k.min<=0:=by cases k <;> decide
  omega) zO
 unfold ZO at this
 rw [this]
 omega
theorem afS (k:IntKind) (x:Int) (n:Nat) (hn:n<=k.bits):Wd k x n=ZO k (x * 2 ^ n):=by grind [Wd,ZO]
theorem Lu (k:IntKind) (x:Int):Tu k x 127=x % 128:=aay k x 7 (by cases k <;> decide)
theorem XB (k:IntKind) (n:Int):k.min<=ZO k n/\ZO k n<=k.max:=by
 unfold ZO
 cases k <;> simp [IntKind.wrap,IntKind.min,IntKind.max,IntKind.bits,IntKind.signed] <;> omega
end Y2
namespace X4
open Go Y2
def W7 (n:Nat):zl:=if h:n<128 then [UInt8.ofNat n] else UInt8.ofNat (n % 128+128)::W7 (n / 128)
termination_by n
decreasing_by omega
def U5 (n:Int):zl:=if h:-64<=n/\n<64 then [UInt8.ofNat (n % 128).toNat] else UInt8.ofNat ((n % 128).toNat+128)::U5 (n / 128)
termination_by n.natAbs
decreasing_by omega
theorem P7 {n:Nat} (h:n<128):W7 n=[UInt8.ofNat n]:=by rw [W7,dif_pos h]
theorem P6 {n:Nat} (h:128<=n):W7 n=UInt8.ofNat (n % 128+128)::W7 (n / 128):=by rw [W7,dif_neg zO]
theorem Sh {n:Int} (h:-64<=n/\n<64):U5 n=[UInt8.ofNat (n % 128).toNat]:=by rw [U5,dif_pos h]
theorem RB {n:Int} (h:¬(-64<=n/\n<64)):U5 n=UInt8.ofNat ((n % 128).toNat+128)::U5 (n / 128):=by rw [U5,dif_neg h]
theorem ad3 (n:Nat):0<(W7 n).length:=by grind [P7,P6]
theorem ad4 (n:Int):0<(U5 n).length:=by grind [Sh,RB]
theorem Nw (k:Nat):∀n,n<128 ^ (k+1)->(W7 n).length<=k+1:=by
 induction k with
 | zero=>intro n h;rw [P7 zO];simp
 | succ k ih =>
  intro n h
  by_cases h1:n<128
  .grind
  .grind [P6,List.length_cons,Nat.pow_succ]
theorem Nv (k:Nat):∀n:Int,-(64 * 128 ^ k:Nat)<=n->n<(64 * 128 ^ k:Nat)->(U5 n).length<=k+1:=by
 induction k with
 | zero=>intro n h h';rw [Sh zO];simp
 | succ k ih =>
  intro n h h'
  by_cases h1:-64<=n/\n<64
  .grind
  .rw [RB h1,lla]
   have e:64 * 128 ^ (k+1)=128 * (64 * 128 ^ k):=by omega
   rw [e] at h h'
   have:=ih (n / 128) zO zO
   omega
theorem VS {n:Nat} (h:n<256):(UInt8.ofNat n).toNat=n:=by grind [UInt8.toNat_ofNat']
def Ju (bits:Nat):zl->Nat->Nat->Nat × Nat × Nat
 | [],_,_=>(0,0,3)
 | c::r,i,acc =>
  if bits<7 * i+7/\c.toNat / 2 ^ (bits-7 * i)≠0 then (0,0,4)
  else if c.toNat<128 then (acc+c.toNat % 128 * 2 ^ (7 * i),i+1,0)
  else Ju bits r (i+1) (acc+c.toNat % 128 * 2 ^ (7 * i))
def Mt (c:Nat):Int:=if c % 128<64 then (c % 128:Nat) else (c % 128:Nat)-128
def FJ (bits i c:Nat):Prop:=bits<7 * i+7/\(128<=c\/Mt c < -((2 ^ (bits-7 * i-1):Nat):Int)\/((2 ^ (bits-7 * i-1):Nat):Int)<=Mt c)
instance (bits i c:Nat):Decidable (FJ bits i c):=by unfold FJ;exact inferInstance
def Lt (bits:Nat):zl->Nat->Nat->Int × Nat × Nat
 | [],_,_=>(0,0,3)
 | c::r,i,acc =>
  if FJ bits i c.toNat then (0,0,4)
  else if c.toNat<128 then (acc+Mt c.toNat * (2 ^ (7 * i):Nat),i+1,0)
  else Lt bits r (i+1) (acc+c.toNat % 128 * 2 ^ (7 * i))
theorem TZ (i:Nat):2 ^ (7 * (i+1))=128 * 2 ^ (7 * i):=by grind
theorem ad5 (bits:Nat) (more:zl):∀(m i acc:Nat),7 * i<bits->m<2 ^ (bits-7 * i) ->
  Ju bits (W7 m++more) i acc=(acc+m * 2 ^ (7 * i),i+(W7 m).length,0):=by
 intro m
 induction m using Nat.strongRecOn with
 | _ m ih =>
  intro i acc hi hm
  by_cases h:m<128
  .rw [P7 h,List.singleton_append,Ju,VS zO,if_neg,if_pos h,Nat.mod_eq_of_lt h]
   .rfl
   .rintro ⟨_,h2⟩;exact h2 (Nat.div_eq_of_lt hm)
  .have h8:7 * i+8<=bits:=by
    rcases lBa bits (7 * i+8) with hl|hl
    .have:(2:Nat) ^ (bits-7 * i)<=2 ^ 7:=lRa (by decide) zO
     omega
    .omega
   rw [P6 zO,lGa,Ju,VS zO,if_neg zO,if_neg zO]
   have e1:(m % 128+128) % 128=m % 128:=by omega
   rw [e1,ih (m / 128) zO (i+1) _ zO]
   .rw [TZ,lla]
    have e2:m % 128 * 2 ^ (7 * i)+m / 128 * (128 * 2 ^ (7 * i))=m * 2 ^ (7 * i):=by
     rw [<-Nat.mul_assoc,<-lEb];congr 1;omega
    refine Prod.ext zO (Prod.ext ?_ rfl)
    .grind
   .have e3:2 ^ (bits-7 * i)=128 * 2 ^ (bits-7 * (i+1)):=by
     have:bits-7 * i=7+(bits-7 * (i+1)):=by omega
     rw [this,Nat.pow_add]
    rw [e3] at hm
    omega
theorem afT (bits:Nat):∀(m i acc j:Nat),7 * i<bits->m<2 ^ (bits-7 * i)->j<(W7 m).length->Ju bits ((W7 m).take j) i acc=(0,0,3):=by
 intro m
 induction m using Nat.strongRecOn with
 | _ m ih =>
  intro i acc j hi hm hj
  by_cases h:m<128
  .rw [P7 h] at hj ⊢
   have:j=0:=by grind
   subst this;rfl
  .have h8:7 * i+8<=bits:=by
    rcases lBa bits (7 * i+8) with hl|hl
    .have:(2:Nat) ^ (bits-7 * i)<=2 ^ 7:=lRa (by decide) zO
     omega
    .omega
   rw [P6 zO] at hj ⊢
   cases j with
   | zero=>rfl
   | succ j =>
    rw [List.take_succ_cons,Ju,VS zO,if_neg zO,if_neg zO]
    have e3:2 ^ (bits-7 * i)=128 * 2 ^ (bits-7 * (i+1)):=by
     have:bits-7 * i=7+(bits-7 * (i+1)):=by omega
     rw [this,Nat.pow_add]
    exact ih (m / 128) zO (i+1) _ j zO zO (by grind)
theorem adj (bits:Nat):∀(s:zl) (i acc n k:Nat),acc<2 ^ (7 * i)->Ju bits s i acc=(n,k,0)->n<2 ^ (7 * k)/\i<k/\k<=i+s.length:=by
 intro s
 induction s with
 | nil=>intro i acc n k _ h;simp [Ju] at h
 | cons c r ih =>
  intro i acc n k ha h
  have hb:acc+c.toNat % 128 * 2 ^ (7 * i)<2 ^ (7 * (i+1)):=by
   rw [TZ]
   have h2:(c.toNat % 128+1) * 2 ^ (7 * i)<=128 * 2 ^ (7 * i):=lza _ zO
   rw [lEb] at h2
   omega
  rw [Ju] at h
  split at h
  .grind
  .split at h
   .grind
   .obtain ⟨h1,h2,h3⟩:=ih (i+1) _ n k hb h
    exact ⟨h1,by omega,by simp;omega⟩
theorem ab5 {n k:Nat} (h:n<2 ^ (7 * k)) (hk:0<k):(W7 n).length<=k:=by
 obtain ⟨j,rfl⟩:∃j,k=j+1:=⟨k-1,by omega⟩
 exact Nw j n (by grind [Nat.pow_mul])
theorem ad6 (m:Int) (h:-64<=m/\m<64):Mt (m % 128).toNat=m:=by grind [Mt]
theorem aa9 (bits:Nat) (more:zl):∀(k:Nat) (m:Int) (i acc:Nat),m.natAbs<=k->7 * i<bits->-((2 ^ (bits-7 * i-1):Nat):Int)<=m->m<((2 ^ (bits-7 * i-1):Nat):Int) ->
  Lt bits (U5 m++more) i acc=(acc+m * (2 ^ (7 * i):Nat),i+(U5 m).length,0):=by
 intro k
 induction k with
 | zero =>
  intro m i acc hk hi h1 h2
  have:m=0:=by omega
  subst this
  rw [Sh zO,List.singleton_append,Lt]
  have e:(UInt8.ofNat ((0:Int) % 128).toNat).toNat=0:=rfl
  have hp:=Nat.two_pow_pos (bits-7 * i-1)
  rw [e,if_neg (by unfold FJ;rw [show Mt 0=0 from rfl];omega),if_pos zO]
  simp [Mt]
 | succ k ih =>
  intro m i acc hk hi h1 h2
  by_cases h:-64<=m/\m<64
  .rw [Sh h,List.singleton_append,Lt,VS zO,ad6 m h,if_neg,if_pos zO]
   .rfl
   .rintro ⟨_,h'|h'⟩
    .omega
    .grind [ad6]
  .have h8:7 * i+7<bits:=by
    rcases lBa (7 * i+7) bits with hl|hl
    .omega
    .have:(2:Nat) ^ (bits-7 * i-1)<=2 ^ 6:=lRa (by decide) zO
     omega
   rw [RB h,lGa,Lt,VS zO,if_neg (by rintro ⟨h,_⟩;omega),if_neg zO]
   have e3:2 ^ (bits-7 * i-1)=128 * 2 ^ (bits-7 * (i+1)-1):=by
    have:bits-7 * i-1=7+(bits-7 * (i+1)-1):=by omega
    rw [this,Nat.pow_add]
   rw [e3] at h1 h2
   rw [ih (m / 128) (i+1) _ zO zO zO zO]
   have e1:((m % 128).toNat+128) % 128=(m % 128).toNat:=by omega
   rw [e1,TZ,lla]
   refine Prod.ext ?_ (Prod.ext ?_ rfl)
   .grind
   .grind
theorem acy (bits:Nat):∀(k:Nat) (m:Int) (i acc j:Nat),m.natAbs<=k->7 * i<bits->-((2 ^ (bits-7 * i-1):Nat):Int)<=m->m<((2 ^ (bits-7 * i-1):Nat):Int)->j<(U5 m).length ->
  Lt bits ((U5 m).take j) i acc=(0,0,3):=by
 intro k
 induction k with
 | zero =>
  intro m i acc j hk hi h1 h2 hj
  have:m=0:=by omega
  subst this
  rw [Sh zO] at hj ⊢
  have:j=0:=by grind
  subst this;rfl
 | succ k ih =>
  intro m i acc j hk hi h1 h2 hj
  by_cases h:-64<=m/\m<64
  .rw [Sh h] at hj ⊢
   have:j=0:=by grind
   subst this;rfl
  .have h8:7 * i+7<bits:=by
    rcases lBa (7 * i+7) bits with hl|hl
    .omega
    .have:(2:Nat) ^ (bits-7 * i-1)<=2 ^ 6:=lRa (by decide) zO
     omega
   rw [RB h] at hj ⊢
   cases j with
   | zero=>rfl
   | succ j =>
    have e3:2 ^ (bits-7 * i-1)=128 * 2 ^ (bits-7 * (i+1)-1):=by
     have:bits-7 * i-1=7+(bits-7 * (i+1)-1):=by omega
     rw [this,Nat.pow_add]
    rw [e3] at h1 h2
    rw [List.take_succ_cons,Lt,VS zO,if_neg (by rintro ⟨h,_⟩;omega),if_neg zO]
    exact ih (m / 128) (i+1) _ j zO zO zO zO (by grind)
theorem adk (bits:Nat):∀(s:zl) (i acc:Nat) (n:Int) (k:Nat),acc<2 ^ (7 * i)->Lt bits s i acc=(n,k,0) ->
  -((64 * 2 ^ (7 * (k-1)):Nat):Int)<=n/\n<((64 * 2 ^ (7 * (k-1)):Nat):Int)/\i<k/\k<=i+s.length:=by
 intro s
 induction s with
 | nil=>intro i acc n k _ h;simp [Lt] at h
 | cons c r ih =>
  intro i acc n k ha h
  rw [Lt] at h
  split at h
  .grind
  .split at h
   .simp only [Prod.mk.injEq] at h
    obtain ⟨rfl,rfl,_⟩:=h
    have hs:-64<=Mt c.toNat/\Mt c.toNat<=63:=by grind [Mt]
    rw [lvb]
    generalize 2 ^ (7 * i)=p at *
    have a1:-64 * (p:Int)<=Mt c.toNat * p:=lPb hs.1 zO
    have a2:Mt c.toNat * (p:Int)<=63 * p:=lPb hs.2 zO
    refine ⟨?_,?_,by omega,by simp⟩ <;> push_cast <;> omega
   .have hb:acc+c.toNat % 128 * 2 ^ (7 * i)<2 ^ (7 * (i+1)):=by
     rw [TZ]
     have h2:(c.toNat % 128+1) * 2 ^ (7 * i)<=128 * 2 ^ (7 * i):=lza _ zO
     rw [lEb] at h2
     omega
    obtain ⟨h1,h2,h3,h4⟩:=ih (i+1) _ n k hb h
    exact ⟨h1,h2,by omega,by simp;omega⟩
theorem ahY (bits:Nat):∀(s:zl) (i acc:Nat),7 * i<bits->bits=32\/bits=64->acc<2 ^ (7 * i)->(Ju bits s i acc).1<2 ^ bits:=by
 intro s
 induction s with
 | nil=>intro i acc _ _ _;exact Nat.two_pow_pos _
 | cons c r ih =>
  intro i acc hi hb ha
  rw [Ju]
  split
  .grind
  .rename_i hno
   have e:(2:Nat) ^ bits=2 ^ (bits-7 * i) * 2 ^ (7 * i):=by rw [<-Nat.pow_add];congr 1;omega
   have h1:c.toNat % 128<2 ^ (bits-7 * i):=by
    by_cases h:bits<7 * i+7
    .grind
    .have:(2:Nat) ^ 7<=2 ^ (bits-7 * i):=lRa (by decide) zO
     omega
   have h2:(c.toNat % 128+1) * 2 ^ (7 * i)<=2 ^ (bits-7 * i) * 2 ^ (7 * i):=lza _ h1
   split
   .grind
   .rename_i hc
    have h7:7 * (i+1)<bits:=by grind
    refine ih (i+1) _ h7 hb ?_
    rw [TZ]
    have h2:(c.toNat % 128+1) * 2 ^ (7 * i)<=128 * 2 ^ (7 * i):=lza _ zO
    rw [lEb] at h2
    omega
theorem ahZ (bits:Nat):∀(s:zl) (i acc:Nat),7 * i<bits->bits=32\/bits=64->acc<2 ^ (7 * i) ->
  -((2 ^ (bits-1):Nat):Int)<=(Lt bits s i acc).1/\(Lt bits s i acc).1<((2 ^ (bits-1):Nat):Int):=by
 intro s
 have hz:=Nat.two_pow_pos (bits-1)
 induction s with
 | nil=>intro i acc _ _ _;exact ⟨by show _<=(0:Int);omega,by show (0:Int)<_;omega⟩
 | cons c r ih =>
  intro i acc hi hb ha
  rw [Lt]
  split
  .omega
  .rename_i hno
   have e:(2:Nat) ^ (bits-1)=2 ^ (bits-7 * i-1) * 2 ^ (7 * i):=by rw [<-Nat.pow_add];congr 1;omega
   have hs:-64<=Mt c.toNat/\Mt c.toNat<=63:=by grind [Mt]
   split
   .have h1:-((2 ^ (bits-7 * i-1):Nat):Int)<=Mt c.toNat/\Mt c.toNat+1<=((2 ^ (bits-7 * i-1):Nat):Int):=by
     by_cases h:bits<7 * i+7
     .constructor
      .apply Decidable.byContradiction;intro hh;exact hno ⟨h,.inr (.inl zO)⟩
      .apply Decidable.byContradiction;intro hh;exact hno ⟨h,.inr (.inr zO)⟩
     .have:(2:Nat) ^ 6<=2 ^ (bits-7 * i-1):=lRa (by decide) zO
      omega
    rw [e]
    generalize 2 ^ (bits-7 * i-1)=M at *
    generalize 2 ^ (7 * i)=p at *
    have a1:-(M:Int) * p<=Mt c.toNat * p:=lPb h1.1 zO
    have a2:(Mt c.toNat+1) * p<=(M:Int) * p:=lPb h1.2 zO
    rw [Int.neg_mul] at a1
    rw [Int.add_mul,Int.one_mul] at a2
    rw [Int.natCast_mul]
    show _<=(acc:Int)+Mt c.toNat * p/\(acc:Int)+Mt c.toNat * p<_
    omega
   .rename_i hc
    have h7:7 * (i+1)<bits:=by
     by_cases h:bits<7 * i+7
     .exact absurd ⟨h,.inl zO⟩ hno
     .omega
    refine ih (i+1) _ h7 hb ?_
    rw [TZ]
    have h2:(c.toNat % 128+1) * 2 ^ (7 * i)<=128 * 2 ^ (7 * i):=lza _ zO
    rw [lEb] at h2
    omega
theorem ab6 {n:Int} {k:Nat} (h1:-((64 * 2 ^ (7 * (k-1)):Nat):Int)<=n) (h2:n<((64 * 2 ^ (7 * (k-1)):Nat):Int)) (hk:0<k):(U5 n).length<=k:=by
 obtain ⟨j,rfl⟩:∃j,k=j+1:=⟨k-1,by omega⟩
 rw [lvb,Nat.pow_mul] at h1 h2
 exact Nv j n h1 h2
theorem ajT (m:Int) (more:zl) (h:-9223372036854775808<=m/\m<=9223372036854775807):Lt 64 (U5 m++more) 0 0=(m,(U5 m).length,0):=by
 have h1:=aa9 64 more m.natAbs m 0 0 (lna _) (by decide) zO zO
 rw [h1];simp
theorem ajU (m:Int) (more:zl) (h:-2147483648<=m/\m<=2147483647):Lt 32 (U5 m++more) 0 0=(m,(U5 m).length,0):=by
 have h1:=aa9 32 more m.natAbs m 0 0 (lna _) (by decide) zO zO
 rw [h1];simp
theorem ajV (m:Nat) (more:zl) (h:m<2 ^ 32):Ju 32 (W7 m++more) 0 0=(m,(W7 m).length,0):=by
 have h1:=ad5 32 more m 0 0 (by decide) zO
 rw [h1];simp
end X4
namespace Y2
open Go Go.RowKit
def Still (w w':World):Prop:=∃d,w'={ w with drawn:=d }
theorem Still.refl (w:World):Still w w:=⟨w.drawn,rfl⟩
theorem Still.trans {a b c:World} (h:Still a b) (k:Still b c):Still a c:=by
 obtain ⟨d,rfl⟩:=h;obtain ⟨e,rfl⟩:=k;exact ⟨e,rfl⟩
theorem Still.drew (w:World):Still w w.drew:=⟨w.drawn+1,rfl⟩
theorem Still.heap {w w':World} (h:Still w w'):w'.heap=w.heap:=by obtain ⟨d,rfl⟩:=h;rfl
theorem Still.below {w w':World} (h:Still w w') (B:Nat):Below B w w':=by obtain ⟨d,rfl⟩:=h;exact ⟨rfl,rfl,rfl,lna _,fun _ _=>rfl⟩
inductive N9 (P:Program) (S:World->Prop) (m:Sem Value) (K:Value->Prop):Prop
 | mk (v:Value) (h:∀w,S w->m.run P w=.ok v w) (k:K v)
theorem N9.of {P:Program} {S:World->Prop} {m:Sem Value} {K:Value->Prop} (v:Value) (h:∀w,S w->Zd P m w (fun u w'=>v=u/\w=w')) (k:K v):N9 P S m K :=
 ⟨v,fun w hS=>(by obtain ⟨u,w',hm,rfl,rfl⟩:=h w hS;exact hm),k⟩
theorem tk {P:Program} {S:World->Prop} {m:Sem Value} {K:Value->Prop} {v:Value} (h:∀w,S w->Zd P m w (fun u w'=>v=u/\w=w')) (k:K v):N9 P S m K:=N9.of v h k
def D1 (P:Program) (S:World->Prop) (op:BinOp) (t:TypeId) (x y:Operand) (a b:Value) (K:Value->Prop):Prop :=
 match a with
 | .int k a=>match b with
  | .int k' b=>match op with
   | .shl=>YC b (WT (Wd k a b) fun n=>K (.int k n))
   | .shr=>YC b (WT (W4 k a b) fun n=>K (.int k n))
   | op=>match AX k k' with
    | true=>Sk op k a b K
    | false=>False
  | b=>N9 P S (do eqGuard op t x y (.int k a) b;binOp op t (.int k a) b) K
 | a=>N9 P S (do eqGuard op t x y a b;binOp op t a b) K
def unT (P:Program) (S:World->Prop) (op:UnOp) (a:Value) (K:Value->Prop):Prop :=
 match op with
 | .not=>match a with
  | .bool b=>K (.bool (!b))
  | _=>False
 | .neg=>match a with
  | .int k n=>WT (ZO k (0-n)) fun m=>K (.int k m)
  | _=>False
 | op=>N9 P S (Op.unary op a) K
def ajW (v:Value) (K:Value->Prop):Prop :=
 match v with
 | .pointer p=>match p with
  | some a=>K (.pointer (some a))
  | none=>False
 | .func fn a b=>match fn with
  | .func f=>K (.func (.func f) a b)
  | _=>False
 | .iface t x=>K (.iface t x)
 | _=>False
def ajX (v:Value) (i:Nat) (K:Value->Prop):Prop :=
 match v with
 | .tuple vs=>Kc vs.toList i K
 | _=>False
def HB (P:Program) (S:World->Prop) (o:Oper) (ρ:zk) (K:Value->Prop):Prop :=
 match o.op with
 | .move x=>VL ρ x K
 | .assign x=>VL ρ x K
 | .pick c a b=>VL ρ c fun c=>match c with
  | .bool c=>NF c fun c=>match c with
   | true=>VL ρ a K
   | false=>VL ρ b K
  | _=>False
 | .build t parts=>OZ ρ parts.toList fun vs=>N9 P S (Instr.build t vs.toArray) K
 | .load t x=>VL ρ x fun a=>N9 P S (Instr.loadAt t a) K
 | .nilCheck x=>VL ρ x fun v=>ajW v K
 | .binOp op t x y _=>VL ρ x fun a=>VL ρ y fun b=>D1 P S op t x y a b K
 | .unOp op _ x=>VL ρ x fun a=>unT P S op a K
 | .convert s d x=>VL ρ x fun a=>N9 P S (convert s d a) K
 | .makeInterface t x=>VL ρ x fun a=>N9 P S (Instr.makeInterface t a) K
 | .makeFunc fn first captured=>T5 ρ first.toList fun fs=>T5 ρ captured.toList fun cs=>K (.func fn fs.toArray cs.toArray)
 | .slice t x lo hi mx=>VL ρ x fun a=>LF ρ lo fun lo=>LF ρ hi fun hi=>LF ρ mx fun mx=>N9 P S (Instr.sliceAt t a lo hi mx) K
 | .fieldAddr t x f=>VL ρ x fun a=>N9 P S (Instr.fieldAt t a f) K
 | .field t x f=>VL ρ x fun a=>N9 P S (Instr.field t a f) K
 | .indexAddr t x i=>VL ρ x fun a=>VL ρ i fun i=>N9 P S (Instr.indexAt t a i) K
 | .index t x i=>VL ρ x fun a=>VL ρ i fun i=>N9 P S (Instr.index t a i) K
 | .extract x i=>VL ρ x fun v=>ajX v i K
 | .typeAssert x t u ok=>VL ρ x fun a=>N9 P S (Instr.typeAssert a t u ok) K
 | .call c=>match c.callee with
  | .builtin .len=>T5 ρ c.args.toList fun vs=>N9 P S (Builtin.len_ c.argTypes o.type vs.toArray) K
  | .builtin .max=>T5 ρ c.args.toList fun vs=>N9 P S (Builtin.max_ c.argTypes o.type vs.toArray) K
  | .builtin .min=>T5 ρ c.args.toList fun vs=>N9 P S (Builtin.min_ c.argTypes o.type vs.toArray) K
  | _=>False
 | .lookup t x i ok=>VL ρ x fun a=>VL ρ i fun i=>N9 P S (Instr.lookup t a i ok) K
 | _=>False
section
variable {P:Program} {S:World->Prop}
theorem WA {o:Oper} {ρ:zk} {m:Sem Value} {K:Value->Prop} (he:execOp (ev ρ) o=(do pure (.value (<-m)))) (h:N9 P S m K) :
  ∃v,(∀w,S w->(execOp (ev ρ) o).run P w=.ok (.value v) w)/\K v:=by
 obtain ⟨v,hm,k⟩:=h
 exact ⟨v,fun w hS=>by simp only [he,Sem.run_bind,hm w hS,Result.andThen_ok,Sem.run_pure],k⟩
theorem afU {op:BinOp} {k:IntKind} {t:TypeId} {x y:Operand} {a b:Int} {K:Value->Prop} (amL:op≠.shl) (amM:op≠.shr) (h:Sk op k a b K) :
  ∃v,(∀w,(do eqGuard op t x y (.int k a) (.int k b);binOp op t (.int k a) (.int k b):Sem Value).run P w=.ok v w)/\K v:=by
 have hg:∀w,(eqGuard op t x y (.int k a) (.int k b)).run P w=.ok () w:=fun w=>by simp [eqGuard]
 cases op <;> simp only [Sk] at h <;> first
  | (obtain ⟨hb,_,rfl,h⟩:=h;refine ⟨_,fun w=>?_,h⟩;simp only [Sem.run_bind,hg,Result.andThen_ok];simp [binOp,Op.intDiv,hb,Te,Sq];done)
  | (obtain ⟨_,rfl,h⟩:=h;refine ⟨_,fun w=>?_,h⟩;simp only [Sem.run_bind,hg,Result.andThen_ok];simp [binOp,Op.intArith,Op.intBits,Op.intCmp,ZO,Tu,RH,Qy,Rc,Sn,Sm,Sp,So];done)
  | (refine ⟨_,fun w=>?_,h⟩;simp only [Sem.run_bind,hg,Result.andThen_ok];simp [binOp,Op.intArith,Op.intBits,Op.intCmp,ZO,Tu,RH,Qy,Rc,Sn,Sm,Sp,So];done)
  | contradiction
  | exact h.elim
theorem ab7 {op:BinOp} {t:TypeId} {x y:Operand} {a b:Value} {K:Value->Prop} (h:D1 P S op t x y a b K):N9 P S (do eqGuard op t x y a b;binOp op t a b) K:=by
 unfold D1 at h
 split at h
 .split at h
  .split at h
   .obtain ⟨hb,_,rfl,h⟩:=h
    refine ⟨_,fun w _=>?_,h⟩
    simp only [eqGuard,Sem.run_bind];simp [binOp,Op.shift,Wd,Int.not_lt.2 hb]
   .obtain ⟨hb,_,rfl,h⟩:=h
    refine ⟨_,fun w _=>?_,h⟩
    simp only [eqGuard,Sem.run_bind];simp [binOp,Op.shift,W4,Int.not_lt.2 hb]
   .rename_i Qx hk2
    split at h
    .rename_i hk
     obtain rfl:=adO hk
     obtain ⟨v,h1,h2⟩:=afU (P:=P) (t:=t) (x:=x) (y:=y) (fun e=>Qx e) (fun e=>hk2 e) h
     exact ⟨v,fun w _=>h1 w,h2⟩
    .exact h.elim
  .exact h
 .exact h
theorem SL {o:Oper} {ρ:zk} {K:Value->Prop} (h:HB P S o ρ K):∃v,(∀w,S w->(execOp (ev ρ) o).run P w=.ok (.value v) w)/\K v:=by
 unfold HB at h
 simp only [Tf,N6,OY,LD,SO] at h
 split at h
 case h_1 x ho=>exact ⟨_,fun w _=>by unfold execOp;rw [ho];rfl,h⟩
 case h_2 x ho=>exact ⟨_,fun w _=>by unfold execOp;rw [ho];rfl,h⟩
 case h_3 c a b ho =>
  split at h
  .rename_i cb hc
   split at h
   .exact ⟨_,fun w _=>by unfold execOp;rw [ho];simp [hc,asBool],h⟩
   .exact ⟨_,fun w _=>by unfold execOp;rw [ho];simp [hc,asBool],h⟩
  .grind
 case h_4 t ps ho =>
  exact WA (m:=Instr.build t ((ps.toList.map fun (i,x)=>(i,ev ρ x)).toArray)) (by unfold execOp;rw [ho];simp [<-Array.toList_map]) h
 case h_5 t x ho=>exact WA (by grind [execOp]) h
 case h_6 x ho =>
  unfold ajW at h
  split at h
  .rename_i p hp
   split at h
   .exact ⟨_,fun w _=>by unfold execOp;rw [ho];simp only [hp];rfl,h⟩
   .grind
  .rename_i fn a b hp
   split at h
   .exact ⟨_,fun w _=>by unfold execOp;rw [ho];simp only [hp];rfl,h⟩
   .grind
  .rename_i t v hp
   exact ⟨_,fun w _=>by unfold execOp;rw [ho];simp only [hp];rfl,h⟩
  .grind
 case h_7 op t x y yt ho=>exact WA (by grind [execOp]) (ab7 h)
 case h_8 op t x ho =>
  unfold unT at h
  split at h
  .split at h
   .rename_i b hb
    exact ⟨_,fun w _=>by unfold execOp;rw [ho];simp [hb,Op.unary],h⟩
   .grind
  .split at h
   .rename_i k n hb
    obtain ⟨_,rfl,h⟩:=h
    exact ⟨_,fun w _=>by unfold execOp;rw [ho];simp [hb,Op.unary,Op.intArith,ZO],h⟩
   .grind
  .exact WA (by grind [execOp]) h
 case h_9 s d x ho=>exact WA (by grind [execOp]) h
 case h_10 t x ho=>exact WA (by grind [execOp]) h
 case h_11 fn fs cs ho =>
  exact ⟨_,fun w _=>by unfold execOp;rw [ho];simp [Instr.makeFunc,<-Array.toList_map],h⟩
 case h_12 t x lo hi mx ho=>exact WA (by grind [execOp]) h
 case h_13 t x f ho=>exact WA (by grind [execOp]) h
 case h_14 t x f ho=>exact WA (by grind [execOp]) h
 case h_15 t x i ho=>exact WA (by grind [execOp]) h
 case h_16 t x i ho=>exact WA (by grind [execOp]) h
 case h_17 x i ho =>
  unfold ajX at h
  split at h
  .rename_i vs hv
   obtain ⟨u,hu,h⟩:=N4 h
   refine ⟨u,fun w _=>?_,h⟩
   unfold execOp;rw [ho]
   simp only [Array.getElem?_toList] at hu
   simp [hv,Instr.extract,hu]
  .grind
 case h_18 x t u ok ho=>exact WA (by grind [execOp]) h
 case h_19 c ho =>
  have hargs:∀(xs:Array Operand),(xs.toList.map (ev ρ)).toArray=xs.map (ev ρ):=fun xs=>by simp [<-Array.toList_map]
  split at h
  .rename_i hc
   exact WA (m:=Builtin.len_ c.argTypes o.type (c.args.map (ev ρ))) k_w k_t
  .rename_i hc
   exact WA (m:=Builtin.max_ c.argTypes o.type (c.args.map (ev ρ))) k_w k_t
  .rename_i hc
   exact WA (m:=Builtin.min_ c.argTypes o.type (c.args.map (ev ρ))) k_w k_t
  .grind
 case h_20 t x i ok ho=>exact WA (by grind [execOp]) h
 case h_21=>exact h.elim
end
inductive Zs (S:Prop) (K:Prop):Prop
 | mk (h:S) (k:K)
def P5 (P:Program) (ops:List Oper) (S:World->Prop) (K:zk->World->Prop) (plan:List (Nat × Bool)):zk->World->Prop :=
 List.rec (motive:=fun _=>zk->World->Prop) K (fun i _ ih ρ w=>match ops[i.1]? with
  | none=>False
  | some o=>match i.2 with
   | true=>X3 ops o.guard ρ fun b ρ=>match b with
    | true=>HB P S o ρ fun v=>Xx ρ o.dst v fun ρ=>ih ρ w
    | false=>Xx ρ o.dst undef fun ρ=>ih ρ w
   | false=>X3 ops o.guard ρ fun b ρ=>match b with
    | true=>LC P o ρ w fun v w'=>Zs (S w') (Xx ρ o.dst v fun ρ=>ih ρ w')
    | false=>Xx ρ o.dst undef fun ρ=>ih ρ w) plan
theorem ab8 (P:Program) (ops:List Oper) (S:World->Prop) (K:zk->World->Prop) (i:Nat × Bool) (r:List (Nat × Bool)) (ρ:zk) (w:World) :
  P5 P ops S K (i::r) ρ w=match ops[i.1]? with
  | none=>False
  | some o=>match i.2 with
   | true=>X3 ops o.guard ρ fun b ρ=>match b with
    | true=>HB P S o ρ fun v=>Xx ρ o.dst v fun ρ=>P5 P ops S K r ρ w
    | false=>Xx ρ o.dst undef fun ρ=>P5 P ops S K r ρ w
   | false=>X3 ops o.guard ρ fun b ρ=>match b with
    | true=>LC P o ρ w fun v w'=>Zs (S w') (Xx ρ o.dst v fun ρ=>P5 P ops S K r ρ w')
    | false=>Xx ρ o.dst undef fun ρ=>P5 P ops S K r ρ w:=rfl
noncomputable def OR (ops:Array Oper) (plan:List (Nat × Bool)):Array Bool->Bool :=
 List.rec (motive:=fun _=>Array Bool->Bool) (fun listed=>(Region.ready .any ops listed).isEmpty) (fun i _ ih listed=>match ops[i.1]? with
  | none=>false
  | some o=>(match i.2 with
   | true=>Region.free .any ops listed i.1 && (Region.ready .any ops listed).contains i.1
   | false=>Region.ready .any ops listed == [i.1]) && ih (listed.setIfInBounds i.1 true)) plan
theorem RA (ops:Array Oper) (i:Nat × Bool) (r:List (Nat × Bool)) (listed:Array Bool):OR ops (i::r) listed=match ops[i.1]? with
  | none=>false
  | some o=>(match i.2 with
   | true=>Region.free .any ops listed i.1 && (Region.ready .any ops listed).contains i.1
   | false=>Region.ready .any ops listed == [i.1]) && OR ops r (listed.setIfInBounds i.1 true):=rfl
noncomputable def Rz (ops:Array Oper) (plan:List (Nat × Bool)):Bool:=Region.noSelect ops && plan.length == ops.size && OR ops plan (Array.replicate ops.size false)
theorem Qu (ds:List Nat) (ρ:zk):agree ds ρ ρ:=⟨rfl,fun _ _=>rfl⟩
theorem XG {ds:List Nat} {ρ0 ρ:zk} (h:agree ds ρ0 ρ) {d:Option Nat} (hd:∀n,d=some n->n∈ds) (v:Value):agree ds ρ0 (put ρ d v):=by
 obtain ⟨h1,h2⟩:=h
 cases d with
 | none=>exact ⟨h1,h2⟩
 | some n =>
  refine ⟨by simp [put,h1],fun i hi=>?_⟩
  have:n≠i:=fun e=>hi (e ▸ hd n rfl)
  simp only [put]
  rw [List.getElem?_set_ne this]
  exact h2 i hi
section
variable {P:Program} {ops:Array Oper} {S:World->Prop} {K:zk->World->Prop} {ρ0:zk} {ds:List Deferred}
theorem aba (hs:Region.noSelect ops=true) (plan:List (Nat × Bool)):∀(fuel:Nat) (listed:Array Bool) (ρ:zk) (w:World),plan.length<=fuel->OR ops plan listed=true->S w->agree (Ys ops.toList) ρ0 ρ ->
  P5 P ops.toList S K plan ρ w->wpAnyH P .any ops (fun e a w'=>e=.normal/\a.defers=ds/\agree (Ys ops.toList) ρ0 a.tmps.toList/\K a.tmps.toList w') S fuel listed ⟨ρ.toArray,ds⟩ w:=by
 induction plan with
 | nil =>
  intro fuel listed ρ w _ hok hS hag h
  exact wpAnyH_done (List.isEmpty_iff.1 hok) ⟨rfl,rfl,hag,h⟩ fuel
 | cons ib r ih =>
  obtain ⟨i,ah0⟩:=ib
  intro fuel listed ρ w hfl hok hS hag h
  obtain ⟨f,rfl⟩:∃f,fuel=f+1:=⟨fuel-1,by simp at hfl;omega⟩
  have Hg:r.length<=f:=by grind
  rw [RA] at hok
  rw [ab8] at h
  simp only [Array.getElem?_toList] at h
  cases ho:ops[i]? with
  | none=>rw [ho] at hok;cases hok
  | some o =>
   rw [ho] at hok h
   simp only [Bool.and_eq_true] at hok h
   have hmem:∀n,o.dst=some n->n∈Ys ops.toList:=fun n hn=>by grind [Ys]
   cases hT:ah0 with
   | true =>
    rw [hT] at hok h
    simp only [Bool.and_eq_true] at hok
    obtain ⟨⟨hfree,Wc⟩,Vx⟩:=hok
    obtain ⟨b,hb,h⟩:=XX h
    have key:∀v,YieldsIf P ops S o v ⟨ρ.toArray,ds⟩->P5 P ops.toList S K r (put ρ o.dst v) w->wpAnyH P .any ops (fun e a w'=>e=.normal/\a.defers=ds/\agree (Ys ops.toList) ρ0 a.tmps.toList/\K a.tmps.toList w') S (f+1) listed ⟨ρ.toArray,ds⟩ w:=fun v hy hk =>
     wpAnyH_take ho hs hfree Wc (fun c a w hq=>by cases hq.1) hy hS (by
      rw [put_eq]
      exact ih f _ _ w Hg Vx hS (XG hag hmem v) hk)
    cases b
    .simp only [X7] at h
     exact key undef (.inr ⟨hb,rfl⟩) h
    .obtain ⟨v,hv,hk⟩:=SL h
     rw [X7] at hk
     exact key v (.inl ⟨hb,fun w hS=>by rw [Yo];exact hv w hS⟩) hk
   | false =>
    rw [hT] at hok h
    simp only [beq_iff_eq] at hok
    obtain ⟨Wc,Vx⟩:=hok
    obtain ⟨b,hb,h⟩:=XX h
    refine wpAnyH_all Wc zM fun j hj=>?_
    obtain rfl:j=i:=by grind
    unfold wpOp
    rw [ho]
    simp only [hb]
    cases b
    .simp only [Bool.false_eq_true,if_false,X7] at h ⊢
     rw [put_eq]
     exact ⟨hS,ih f _ _ w Hg Vx hS (XG hag hmem _) h⟩
    .simp only [if_true] at h ⊢
     refine .inl (UH h fun v w' ⟨ED,hk⟩=>?_)
     rw [X7] at hk
     rw [put_eq]
     exact ⟨ED,ih f _ _ w' Hg Vx ED (XG hag hmem v) hk⟩
theorem draw {id:Nat} {w:World} (S:World->Prop) (plan:List (Nat × Bool)) (hm:P.follows .mixedOrders=true) (hc:Rz ops plan=true)
  (h:∀w1,w1=w.drew->S w1/\P5 P ops.toList S K plan ρ0 w1):Oi P id ops K ρ0 w:=by
 simp only [Rz,Bool.and_eq_true,beq_iff_eq] at hc
 obtain ⟨⟨h1,h2⟩,h3⟩:=hc
 obtain ⟨hS,hk⟩:=h _ rfl
 exact ⟨fun ds=>wp_region_held hm (aba h1 plan _ _ _ _ (Nat.le_of_eq h2) h3 hS (Qu _ _) hk)⟩
end
end Y2
namespace Y2
open Go Go.RowKit
variable {P:Program} {w:World}
theorem OQ (vs:zk):∀(cs:zk) (o i:Nat),o+vs.length<=cs.length->(VT cs o vs)[i]?=if o<=i/\i<o+vs.length then vs[i-o]? else cs[i]?:=by
 induction vs with
 | nil=>intro cs o i h;rw [if_neg zM];rfl
 | cons v vs ih =>
  intro cs o i h
  simp only [List.length_cons] at h ⊢
  rw [VT,ih _ _ _ (by grind)]
  by_cases h2:o=i
  .grind
  .grind
theorem Us (vs cs:zk) (o:Nat) (h:o+vs.length<=cs.length):VT cs o vs=cs.take o++vs++cs.drop (o+vs.length):=by
 apply lFa
 intro i
 rw [OQ vs cs o i h,lka]
 have hl:(cs.take o).length=o:=by grind
 by_cases h1:i<o
 .grind
 .grind
theorem afV {t:TypeId} {e:TypeId} {b o:Nat} {cs vs:zk} {K:World->Prop} (hb:RM w b cs e) (hs:(P.info? t).map (·.size)=some vs.length) (ho':Nat.ble (o+vs.length) cs.length=true) (hv:vs.all (·.oneCell')=true)
  (k:NB cs o vs fun cs'=>∀w',Km w w' b->RM w' b cs' e->K w'):Iu P (Instr.storeAt t (.pointer (some ⟨b,o,none⟩)) (.agg vs.toArray)) w K:=by
 have ho:o+vs.length<=cs.length:=lbb ho'
 rw [SN,Us _ _ _ ho] at k
 cases hi:P.info? t with
 | none=>simp [hi] at hs
 | some i =>
  have hl:i.size=vs.length:=by grind
  have hst:=run_storeCells_at (P:=P) b o e vs 0 cs.toArray w hb zO (fun v hm=>ltb.1 hv v hm)
  simp only [Nat.add_zero] at hst
  have FL:RM (w.setRow b (cs.take o++vs++cs.drop (o+vs.length)).toArray) b (cs.take o++vs++cs.drop (o+vs.length)) e:=setRow_heap w b _ _ e (0,0) hb
  have hw:Km w (w.setRow b (cs.take o++vs++cs.drop (o+vs.length)).toArray) b:=by
   refine ⟨rfl,rfl,rfl,by simp [World.setRow],fun j hj=>?_⟩
   unfold World.setRow
   simp only [Array.getElem?_modify]
   rw [if_neg (fun h=>hj h.symm)]
  refine ⟨_,?_,k _ hw FL⟩
  simp [Instr.storeAt,Instr.sureAddr,storeVar,sizeOf,typeInfo,hi,hl,Value.cells,hst]
theorem bl {a b:Nat} (h:Nat.ble (a+1) b=true):a<b:=lbb h
section
variable {w0 w':World} {b b' o:Nat} {cs vs cs':zk} {e e':TypeId}
end
theorem rdA {t:TypeId} {d:TypeDesc} {b o:Nat} {vs:zk} {K:Value->Prop} (h:At w b o vs) (hu:P.underlying t=some d) (hd:Nz d=true) (hs:(P.info? t).map (·.size)=some vs.length) (k:K (.agg vs.toArray)) :
  Ir P (loadVar t ⟨b,o,none⟩) w K:=by
 refine ⟨_,?_,k⟩
 cases hi:P.info? t with
 | none=>simp [hi] at hs
 | some i =>
  have hl:i.size=vs.length:=by grind
  have:=run_loadCells_list (P:=P) w ⟨b,o,none⟩ vs (fun j v hv=>by rw [Addr.add_lit];exact h.cell hv)
  simp [loadVar,SM hu,hd,sizeOf,typeInfo,hi,hl,this]
def RE {α:Type} (en:α->zk) (ok:α->Prop):Hv->zk->α->Prop:=fun _ cs x=>cs=en x/\ok x
theorem RE.mono' {α:Type} (en:α->zk) (ok:α->Prop):D2 (RE en ok):=fun _ _ _ _ _ h=>h
end Y2
namespace Y2
open Go Go.RowKit
variable {P:Program} {α:Type}
def OP (lo:Nat) (w:World) (e:TypeId) (s:Nat) (en:α->zk) (v:Value) (xs:List α):Prop:=w.ownsRow lo e s v xs.length (xs.flatMap en)/\∀x,(en x).length=s
theorem Yv {en:α->zk} {s:Nat} (h:∀x,(en x).length=s) (xs:List α):(xs.flatMap en).length=xs.length * s:=by
 induction xs with
 | nil=>simp
 | cons x xs ih=>rw [lNa,lca,h,ih,lla,lhb];omega
theorem SK {en:α->zk} {s:Nat} (h:∀x,(en x).length=s):∀(xs:List α) (i:Nat) (x:α),xs[i]?=some x->((xs.flatMap en).drop (i * s)).take s=en x:=by
 intro xs
 induction xs with
 | nil=>intro i x hx;simp at hx
 | cons y ys ih =>
  intro i x hx
  cases i with
  | zero =>
   obtain rfl:=Option.some.inj hx
   rw [lNa,Nat.zero_mul,lXa,lxa (by grind),lta (by grind)]
  | succ i =>
   rw [lNa,lhb,Nat.add_comm,<-lYa,lnb (by grind),lwa (l:=en y) (by grind),lPa]
   exact ih i x (by grind)
theorem OP.nil (lo:Nat) (w:World) (e:TypeId) {s:Nat} {en:α->zk} (h:∀x,(en x).length=s):OP lo w e s en (.slice none 0 0) []:=⟨World.ownsRow_nil w lo e s,h⟩
structure Gr (w w':World) (v v':Value):Prop where
 g:w.grownBy w' v.ownBlock
 at_:v'.ownBlock=v.ownBlock\/v'.ownBlock=none\/∃k,v'.ownBlock=some k/\w.heap.size<=k
theorem aaW {w:World} {lo:Nat} {t ty e:TypeId} {i:TypeInfo} {z:Value} {s:Nat} (ht:P.underlying t=some (.slice e)) (hi:P.info? e=some i) (hz:i.zero=some z) (hs:i.size=s) (hzs:z.cells.size=s)
  {v:Value} {n:Nat} {xs:zk} (hown:w.ownsRow lo e s v n xs) {a:Addr} {m c:Nat} {news:zk} (hl:news.length=m * s) (hnews:∀j u,news[j]?=some u->w.cell? (a.add j)=some u) (h1:∀u∈news,u.oneCell'=true)
  (h63:n+m<=maxLen) (hbytes:(n+m) * i.bytes<=140737488355328) {v':Value} {w':World} (hr:(Builtin.append_ #[t,t] ty #[v,.slice (some a) m c]).run P w=.ok v' w') :
  v'.ownBlock=v.ownBlock\/v'.ownBlock=none\/v'.ownBlock=some w.heap.size:=by
 subst hs
 have hsmall:n+m<=9223372036854775807:=by grind [maxLen]
 have done:∀{u:Value} {w2:World},(Builtin.append_ #[t,t] ty #[v,.slice (some a) m c]).run P w=.ok u w2->v'=u:=fun h=>by grind
 rcases hown.2 with ⟨rfl,rfl⟩|⟨g,cap,cur,rfl,Bx,hg,hnc,QG,hcs,aoK⟩
 .by_cases hm:m=0
  .subst hm
   have hn:news=[]:=lma zO
   subst hn
   have:(Builtin.append_ #[t,t] ty #[.slice none 0 0,.slice (some a) 0 c]).run P w=.ok (.slice none 0 0) w:=by
    simp [Builtin.append_,run_underlying ht,sizeOf,typeInfo,hi,Builtin.lenOf,Builtin.firstCells,loadCells,loadCellsFrom]
   rw [done this];exact .inl rfl
  .have EC:=run_append_nil (P:=P) w t ty e i z ht hi hz a m c news hl hnews zO zO (by grind)
   rw [done EC];exact .inr (.inr rfl)
 .by_cases hroom:n+m<=cap
  .have hfit:n * i.size+news.length<=cur.size:=by rw [hl,hcs,<-lEb];exact lza _ hroom
   have EC:=run_append_room (P:=P) w t ty e i ht hi g n cap cur hg a m c news hl hnews h1 hroom hfit
   rw [done EC];exact .inl rfl
  .have holds:∀j u,xs[j]?=some u->w.cell? ((⟨g,0,none⟩:Addr).add j)=some u:=hown.cells (g:=g) rfl
   have EC:=run_append_grow (P:=P) w t ty e i z ht hi hz ⟨g,0,none⟩ n cap xs hown.1 holds a m c news hl hnews zO zO (growslice_fits zO hbytes)
   rw [done EC];exact .inr (.inr rfl)
theorem ajY {w:World} {K:Value->World->Prop} {lo:Nat} {t ty e:TypeId} {en:α->zk} {s:Nat} {v:Value} {xs ys:List α} {m c b o:Nat} (z:Value) (P0:Nat) (hown:OP lo w e s en v xs) (TU:At w b o (ys.flatMap en)) (hm:ys.length=m)
  (h1:∀y∈ys,((en y).all (·.oneCell'))=true) (hu:P.underlying t=some (.slice e)) (hz:(P.info? e).map (fun i=>(i.zero,i.size,i.bytes))=some (some z,s,P0)) (hzs:z.cells.size=s) (hsz:0<s)
  (hb:(xs.length+m) * P0<=140737488355328) (hml:xs.length+m<=140737488355328) (hlo:lo<=w.heap.size)
  (k:∀v' w',OP lo w' e s en v' (xs++ys)->Gr w w' v v'->K v' w'):Zd P (Builtin.append_ #[t,t] ty #[v,.slice (some ⟨b,o,none⟩) m c]) w K:=by
 cases hi:P.info? e with
 | none=>simp [hi] at hz
 | some i =>
  simp only [hi,Option.map_some,Option.some.injEq,Prod.mk.injEq] at hz
  obtain ⟨h2,h3,h4⟩:=hz
  subst hm
  have hc:∀j u,(ys.flatMap en)[j]?=some u->w.cell? ((⟨b,o,none⟩:Addr).add j)=some u:=fun j u hj=>by rw [Addr.add_lit];exact TU.cell hj
  have ho:∀u∈ys.flatMap en,u.oneCell'=true:=fun u hu=>by grind
  obtain ⟨v',w',hr,a1,a2,a3⟩:=run_append_own (P:=P) w lo t ty e i z s P0 hu hi h2 h3 h4 hzs hsz v xs.length (xs.flatMap en) hown.1 ⟨b,o,none⟩ ys.length c (ys.flatMap en) (Yv hown.2 ys) hc ho (by grind [maxLen]) hb hlo
  have Ms:=aaW hu hi h2 h3 hzs hown.1 (Yv hown.2 ys) hc ho (by grind [maxLen]) (by grind) hr
  refine ⟨v',w',hr,k v' w' ⟨by rw [lca,lQa];exact a1,hown.2⟩ ⟨a2,?_⟩⟩
  rcases Ms with h|h|h
  .grind
  .grind
  .grind
theorem OP.keep {lo:Nat} {w w':World} {e:TypeId} {s:Nat} {en:α->zk} {v:Value} {xs:List α} (h:OP lo w e s en v xs) (hb:∀k,v.ownBlock=some k->w'.heap[k]?=w.heap[k]?):OP lo w' e s en v xs:=⟨ad1 h.1 hb,h.2⟩
theorem OP.lt {lo:Nat} {w:World} {e:TypeId} {s:Nat} {en:α->zk} {v:Value} {xs:List α} (h:OP lo w e s en v xs) {k:Nat} (hk:v.ownBlock=some k):lo<=k/\k<w.heap.size:=h.1.lt k hk
theorem OP.mono {lo lo':Nat} {w:World} {e:TypeId} {s:Nat} {en:α->zk} {v:Value} {xs:List α} (h:OP lo w e s en v xs) (hl:lo'<=lo):OP lo' w e s en v xs:=⟨ad2 h.1 hl,h.2⟩
section
variable {lo s:Nat} {w0 w w':World} {e e':TypeId} {en:α->zk} {v v' u:Value} {xs:List α} {cs:zk} {b:Nat}
def Dj (u v:Value):Prop:=∀k,u.ownBlock=some k->v.ownBlock≠some k
theorem Dj.symm (h:Dj u v):Dj v u:=fun k hk hu=>h k hu hk
theorem Dj.nil (v:Value):Dj (.slice none 0 0) v:=fun k hk=>by cases hk
theorem OP.rd {ok:α->Prop} (h:OP lo w e s en v xs) (hok:∀x∈xs,ok x) (hs0:0<s):VU (RE en ok) s (Rg w lo w.heap.size) v xs:=by
 rcases h.1.2 with ⟨rfl,h0⟩|⟨g,cap,cur,rfl,hlo,hg,hnc,QG,hcs,ht⟩
 .have:xs=[]:=lma h0
  subst this;exact VU.nil _ _ _
 .refine ⟨_,cap,rfl,⟨hnc,by unfold maxLen at QG;omega⟩,nofun,fun _=>⟨g,0,xs.flatMap en,rfl,⟨cur,e,(0,0),⟨hlo,(lva.1 hg).1,hg⟩,fun i x hx=>?_⟩,Yv h.2 xs,fun i x hx=>⟨SK h.2 xs i x hx,hok x (lda hx)⟩⟩⟩
  rw [<-ht,lJa] at hx
  split at hx
  .grind
  .grind
theorem OP.Vy (h:OP lo w e s en v xs) (hne:xs≠[]):∃g cap cur,v=.slice (some ⟨g,0,none⟩) xs.length cap/\lo<=g/\RM w g cur e/\cur.take (xs.length * s)=xs.flatMap en/\xs.length * s<=cur.length/\xs.length<=cap/\cap<=9223372036854775807/\cur.length=cap * s:=by
 rcases h.1.2 with ⟨rfl,h0⟩|⟨g,cap,cur,rfl,hlo,hg,hnc,QG,hcs,ht⟩
 .grind
 .have hle:xs.length * s<=cap * s:=lza _ hnc
  have Sf:cur.toList.length=cap * s:=by omega
  exact ⟨g,cap,cur.toList,rfl,hlo,hg,ht,by rw [Sf];exact hle,hnc,by unfold maxLen at QG;omega,Sf⟩
theorem OP.ah1 {g cap:Nat} {cur:zk} (hlo:lo<=g) (hb:RM w g cur e) (ht:cur.take (xs.length * s)=xs.flatMap en) (hn:xs.length<=cap) (hc:cap<=9223372036854775807) (hl:cur.length=cap * s) (hs:∀x,(en x).length=s) :
  OP lo w e s en (.slice (some ⟨g,0,none⟩) xs.length cap) xs :=
 ⟨⟨Yv hs xs,.inr ⟨g,cap,cur.toArray,rfl,hlo,hb,hn,by unfold maxLen;omega,by simpa using hl,by simpa using ht⟩⟩,hs⟩
end
theorem abb {H:Hv} {R:Hv->zk->α->Prop} {sz:Nat} {a:Option Addr} {cap:Nat} {xs:List α} {l h:Nat} (hs:VU R sz H (.slice a xs.length cap) xs) (hl:l<=h) (hh:h<=xs.length) :
  VU R sz H (.slice (if cap=l then a else a.map (·.add (l * sz))) (h-l) (cap-l)) ((xs.take h).drop l):=by
 obtain ⟨a',cap',he,h2,h3,h4⟩:=hs
 injection he with e1 e2 e3
 subst e1;subst e3
 have hlen:((xs.take h).drop l).length=h-l:=by rw [lLa,lAa];omega
 have hel:∀i,i<h-l->((xs.take h).drop l)[i]?=xs[l+i]?:=fun i hi=>by rw [lUa,lJa,if_pos zO]
 refine ⟨_,cap-l,by rw [hlen],by rw [hlen];omega,fun hn=>?_,fun hne=>?_⟩
 .have:a=none:=by
   split at hn
   .exact hn
   .cases a with
    | none=>rfl
    | some x=>cases hn
  obtain ⟨rfl,rfl⟩:=h3 this
  simp
 .have hpos:0<h-l:=by rw [<-hlen];exact lGb.2 hne
  obtain ⟨b,o,news,rfl,k1,k2⟩:=h4 (by intro e;subst e;simp at hh;omega)
  have hc:cap≠l:=by omega
  refine ⟨b,o+l * sz,(news.drop (l * sz)).take ((h-l) * sz),by rw [if_neg hc];simp [Addr.add_lit],?_,?_,fun i x hx=>?_⟩
  .obtain ⟨cs,e,fz,k3,k4⟩:=k1
   refine ⟨cs,e,fz,k3,fun i v hv=>?_⟩
   rw [lJa] at hv
   split at hv
   .rw [lUa] at hv;rw [lRb];exact k4 _ _ hv
   .cases hv
  .rw [lAa,lLa,k2.1,hlen]
   have:=lza sz (show (h-l)+l<=xs.length by omega)
   rw [lEb] at this;omega
  .have hi:i<h-l:=by rw [<-hlen];exact (lba.1 hx).1
   rw [hel i hi] at hx
   have hr:=k2.2 (l+i) x hx
   have e:(((news.drop (l * sz)).take ((h-l) * sz)).drop (i * sz)).take sz=(news.drop ((l+i) * sz)).take sz:=by
    have:=lza sz (show i+1<=h-l by omega)
    rw [lhb] at this
    rw [lOb,lUb,lYa,lEb]
    congr 1;omega
   rw [e];exact hr
section
variable {w:World} {K:Value->World->Prop} {H:Hv} {R:Hv->zk->α->Prop} {sz:Nat} {t e:TypeId} {v:Value} {xs:List α}
theorem rSl {lo hi:Option Value} (l h:Nat) (hs:VU R sz H v xs) (ht:P.underlying t=some (.slice e)) (hsz:(P.info? e).map (fun i=>i.size)=some sz) (hl:l<=h) (hh:h<=xs.length)
  (hlo:lo=none/\l=0\/∃k,lo=some (.int k l)) (hhi:hi=none/\h=xs.length\/∃k,hi=some (.int k h)) (k:∀v',VU R sz H v' ((xs.take h).drop l)->K v' w):Zd P (Instr.sliceAt t v lo hi none) w K:=by
 obtain ⟨a,cap,rfl,h2,h3,h4⟩:=hs
 refine ⟨_,w,?_,k _ (abb (sz:=sz) ⟨a,cap,rfl,h2,h3,h4⟩ hl hh)⟩
 have he:P.elem t=e:=by simp [Program.elem,ht]
 rw [run_sliceAt_slice (P:=P) w t _ _ _ _ (by rw [he];exact ht)]
 cases hi':P.info? e with
 | none=>simp [hi'] at hsz
 | some i' =>
  simp only [hi',Option.map_some,Option.some.injEq] at hsz
  have hb:(Instr.sliceBounds true xs.length cap lo hi none).run P w=.ok (l,h,cap) w:=by
   unfold Instr.sliceBounds
   rcases hlo with ⟨rfl,rfl⟩|⟨kl,rfl⟩ <;> rcases hhi with ⟨rfl,rfl⟩|⟨kh,rfl⟩
   .simp
   .exact k_v
   .simp [run_sliceBound (P:=P) w kl (l:Int) xs.length _ zO zO]
   .simp [run_sliceBound (P:=P) w kh (h:Int) cap _ zO zO,run_sliceBound (P:=P) w kl (l:Int) h _ zO zO]
  unfold Instr.slice
  simp only [Sem.run_bind,run_underlying ht,Result.andThen_ok,hb]
  simp [sizeOf,typeInfo,hi',hsz]
end
abbrev Rd (en:α->zk) (ok:α->Prop) (s:Nat) (w:World) (v:Value) (xs:List α):Prop:=VU (RE en ok) s (Rg w 0 w.heap.size) v xs
theorem Rd.next {en:α->zk} {ok:α->Prop} {s:Nat} {w w':World} {v:Value} {xs:List α} (h:Rd en ok s w v xs) (b:Below w.heap.size w w'):Rd en ok s w' v xs :=
 h.mono (RE.mono' en ok) (Rg.mono (lna _) b.size fun k _ hk=>b.block k hk)
theorem VU.wide {en:α->zk} {ok:α->Prop} {s lo hi:Nat} {w:World} {v:Value} {xs:List α} (h:VU (RE en ok) s (Rg w lo hi) v xs) (hh:hi<=w.heap.size):Rd en ok s w v xs :=
 h.mono (RE.mono' en ok) (Rg.mono (lKa _) hh fun _ _ _=>rfl)
theorem VU.place {en:α->zk} {ok:α->Prop} {w:World} (s:Nat) {lo hi:Nat} {t e:TypeId} {v:Value} {xs:List α} (h:VU (RE en ok) s (Rg w lo hi) v xs) (j:Nat) (x:α) (hx:xs[j]?=some x)
  (ht:P.underlying t=some (.slice e)) (hs:(P.info? e).map (fun i=>i.size)=some s) :
  ∃b o,At w b o (en x)/\ok x/\lo<=b/\b<hi/\∀{K:Value->World->Prop} {w':World} {i:Int} {ki:IntKind},i=j->K (.pointer (some ⟨b,o,none⟩)) w'->Zd P (Instr.indexAt t v (.int ki i)) w' K:=by
 have hl:=(lba.1 hx).1
 obtain ⟨a,cap,rfl,h2,h3,h4⟩:=h
 obtain ⟨b,o,news,rfl,k1,k2⟩:=h4 (by grind)
 obtain ⟨hR,hok⟩:=k2.2 j x hx
 have TU:=(k1.at.sub (j * s) s)
 rw [hR] at TU
 obtain ⟨_,_,_,⟨SJ,Qt,_⟩,_⟩:=k1
 refine ⟨b,o+j * s,TU,hok,SJ,Qt,fun {K w' i ki} hi k=>?_⟩
 subst hi
 refine ⟨_,w',?_,k⟩
 cases hi':P.info? e with
 | none=>simp [hi'] at hs
 | some i' =>
  simp only [hi',Option.map_some,Option.some.injEq] at hs
  simp [Instr.indexAt,asIntOf,run_underlying ht,sizeOf,typeInfo,hi',hs,Addr.add_lit,hl]
theorem TX {en:α->zk} {s:Nat} (h:∀x,(en x).length=s) (xs:List α) (j:Nat) (hj:j<=xs.length):(xs.flatMap en).take (j * s)=(xs.take j).flatMap en:=by
 have e:xs.flatMap en=(xs.take j).flatMap en++(xs.drop j).flatMap en:=by rw [<-lQa,ldb]
 have hl:((xs.take j).flatMap en).length=j * s:=by grind [Yv,List.length_take,Nat.min_eq_left]
 rw [e,lxa zO,lta zO]
theorem SI {en:α->zk} {s:Nat} (h:∀x,(en x).length=s) (xs:List α) (j:Nat) (hj:j<=xs.length):(xs.flatMap en).drop (j * s)=(xs.drop j).flatMap en:=by
 have e:xs.flatMap en=(xs.take j).flatMap en++(xs.drop j).flatMap en:=by rw [<-lQa,ldb]
 have hl:((xs.take j).flatMap en).length=j * s:=by grind [Yv,List.length_take,Nat.min_eq_left]
 rw [e,lnb zO,lwa zO,lPa]
theorem OP.store {lo s:Nat} {w:World} {e:TypeId} {en:α->zk} {v:Value} {xs:List α} (h:OP lo w e s en v xs) (j:Nat) (hj:j<xs.length) :
  ∃g cap cur,v=.slice (some ⟨g,0,none⟩) xs.length cap/\lo<=g/\RM w g cur e/\j * s+s<=cur.length/\∀(w':World) (x:α),RM w' g (VT cur (j * s) (en x)) e->OP lo w' e s en v (xs.set j x):=by
 obtain ⟨g,cap,cur,rfl,hlo,hb,ht,hlen,hcap,QG,Sf⟩:=h.Vy (by grind)
 have hle:j * s+s<=xs.length * s:=by rw [<-lhb];exact lza _ hj
 refine ⟨g,cap,cur,rfl,hlo,hb,by omega,fun w' x hb'=>?_⟩
 have hxl:(en x).length=s:=h.2 x
 have VW:xs.set j x=xs.take j++x::xs.drop (j+1):=by
  rw [List.set_eq_take_append_cons_drop,if_pos hj]
 have key:(VT cur (j * s) (en x)).take (xs.length * s)=(xs.set j x).flatMap en:=by
  rw [Us _ _ _ zO,VW,lQa,lNa,<-TX h.2 xs j (lZa hj),<-SI h.2 xs (j+1) hj,<-ht,hxl]
  apply lFa
  intro i
  simp only [List.getElem?_take,List.getElem?_append,List.length_append,List.length_take,List.getElem?_drop,List.append_assoc,hxl,Nat.succ_mul]
  rw [show min (j * s) cur.length=j * s by omega,show min (j * s) (min (xs.length * s) cur.length)=j * s by omega]
  by_cases h1:i<xs.length * s
  .grind
  .grind
 have:=OP.ah1 (lo:=lo) (xs:=xs.set j x) (s:=s) (en:=en) (cap:=cap) hlo hb' (by grind) (by grind) QG (by grind [VK]) h.2
 rw [lua] at this
 exact this
theorem abc {P:Program} {w:World} {t:TypeId} {e:TypeId} {b o:Nat} {cs vs:zk} {K:World->Prop} (hb:RM w b cs e) (hs:(P.info? t).map (·.size)=some vs.length) (ho:o+vs.length<=cs.length) (hv:vs.all (·.oneCell')=true)
  (k:∀w',Km w w' b->RM w' b (VT cs o vs) e->K w'):Iu P (Instr.storeAt t (.pointer (some ⟨b,o,none⟩)) (.agg vs.toArray)) w K :=
 afV hb hs (Nat.ble_eq_true_of_le ho) hv (by rw [SN];exact k)
end Y2
namespace Y2
open Go Go.RowKit
structure Ev (w w':World) (fp:Nat->Prop):Prop where
 os:w'.os=w.os
 tape:w'.tape=w.tape
 output:w'.output=w.output
 size:w.heap.size<=w'.heap.size
 block:∀k,k<w.heap.size->¬fp k->w'.heap[k]?=w.heap[k]?
def Fr (w:World) (fp fp':Nat->Prop):Prop:=∀k,fp' k->fp k\/w.heap.size<=k
def Ap (f g:Nat->Prop):Prop:=∀k,f k->¬g k
section
variable {w w' w0 w1:World} {fp fp' f g:Nat->Prop} {b:Nat} {v v':Value} {cs:zk} {e:TypeId} {α:Type}
theorem Ev.refl (w:World) (fp:Nat->Prop):Ev w w fp:=⟨rfl,rfl,rfl,lna _,fun _ _ _=>rfl⟩
theorem Ev.new (n:HY w w' cs e) (fp:Nat->Prop):Ev w w' fp:=⟨n.below.os,n.below.tape,n.below.output,n.below.size,fun k hk _=>n.below.block k hk⟩
theorem Ev.Gb (u:Km w w' b) (h:fp b):Ev w w' fp:=⟨u.os,u.tape,u.output,by rw [u.size];exact lna _,fun k _ hk=>u.block k (fun e=>hk (e ▸ h))⟩
theorem Ev.below (n:Below w.heap.size w w') (fp:Nat->Prop):Ev w w' fp:=⟨n.os,n.tape,n.output,n.size,fun k hk _=>n.block k hk⟩
theorem Ev.still (s:Still w w') (fp:Nat->Prop):Ev w w' fp:=by obtain ⟨d,rfl⟩:=s;exact ⟨rfl,rfl,rfl,lna _,fun _ _ _=>rfl⟩
theorem Ev.trans (a:Ev w w1 f) (c:Ev w1 w' g) (hf:∀k,f k->fp k) (hg:∀k,k<w.heap.size->g k->fp k):Ev w w' fp :=
 ⟨c.os.trans a.os,c.tape.trans a.tape,c.output.trans a.output,lEa a.size c.size,fun k hk hn=>(c.block k (Nat.lt_of_lt_of_le hk a.size) (fun h=>hn (hg k hk h))).trans (a.block k hk (fun h=>hn (hf k h)))⟩
theorem Ev.mono (a:Ev w w' f) (hf:∀k,f k->fp k):Ev w w' fp:=⟨a.os,a.tape,a.output,a.size,fun k hk hn=>a.block k hk (fun h=>hn (hf k h))⟩
theorem gE (G:Below w0.heap.size w0 w) (x:Ev w w' fp) (h:∀k,fp k->w0.heap.size<=k):Below w0.heap.size w0 w' :=
 ⟨x.os.trans G.os,x.tape.trans G.tape,x.output.trans G.output,lEa G.size x.size,fun k hk=>(x.block k (Nat.lt_of_lt_of_le hk G.size) (fun hf=>Nat.lt_irrefl _ (Nat.lt_of_lt_of_le hk (h k hf)))).trans (G.block k hk)⟩
theorem Fr.refl (w:World) (fp:Nat->Prop):Fr w fp fp:=fun _ h=>.inl h
theorem Fr.trans (a:Fr w f g) (x:w.heap.size<=w1.heap.size) (c:Fr w1 g fp):Fr w f fp:=fun k hk=>by
 rcases c k hk with h|h
 .exact a k h
 .omega
theorem Fr.low (a:Fr w f g) {lo:Nat} (hf:∀k,f k->lo<=k) (hw:lo<=w.heap.size):∀k,g k->lo<=k:=fun k hk=>by
 rcases a k hk with h|h
 .grind
 .omega
theorem Ap.fr (a:Ap f g) (x:Fr w g fp) (hl:∀k,f k->k<w.heap.size):Ap f fp:=fun k hk hp=>by
 rcases x k hp with h|h
 .exact a k hk h
 .grind
theorem Ap.symm (a:Ap f g):Ap g f:=fun k hk hf=>a k hf hk
end
theorem OP.one {α:Type} {lo s:Nat} {w:World} {e:TypeId} {en:α->zk} {v:Value} {xs:List α} (h:OP lo w e s en v xs):v.oneCell'=true:=by
 rcases h.1.2 with ⟨e,_⟩|⟨_,_,_,e,_⟩ <;> rw [e] <;> rfl
theorem OP.form {α:Type} {lo s:Nat} {w:World} {e:TypeId} {en:α->zk} {v:Value} {xs:List α} (h:OP lo w e s en v xs):∃a c,v=.slice a xs.length c:=by
 rcases h.1.2 with ⟨e,h0⟩|⟨g,cap,cur,e,_⟩
 .grind
 .grind
section
variable {P:Program} {w:World} {K:Value->World->Prop}
theorem Xh {t e:TypeId} {x y:Operand} {a:Option Addr} {n c:Nat} (ht:P.underlying t=some (.slice e)) (k:K (.bool a.isNone) w) :
  Zd P (do eqGuard .eql t x y (.slice a n c) (.slice none 0 0);binOp .eql t (.slice a n c) (.slice none 0 0)) w K:=by
 refine ⟨_,w,?_,k⟩
 have hg:(eqGuard .eql t x y (.slice a n c) (.slice none 0 0)).run P w=.ok () w:=by simp [eqGuard]
 simp only [Sem.run_bind,hg,Result.andThen_ok]
 simp only [binOp,Sem.run_bind,run_equal_slice_nil (P:=P) w t e a n c ht,Result.andThen_ok,Sem.run_pure]
end
end Y2
namespace Y2
open Go Go.RowKit
section
variable {P:Program} {w:World} {K:Value->World->Prop}
theorem FI {t e:TypeId} {a:Option Addr} {n cap l h m sz:Nat} {lo hi mx:Option Value} (ht:P.underlying t=some (.slice e)) (hsz:(P.info? e).map (fun i=>i.size)=some sz)
  (hb:(Instr.sliceBounds true n cap lo hi mx).run P w=.ok (l,h,m) w) (k:K (.slice (if m=l then a else a.map (·.add (l * sz))) (h-l) (m-l)) w):Zd P (Instr.sliceAt t (.slice a n cap) lo hi mx) w K:=by
 refine ⟨_,w,?_,k⟩
 have he:P.elem t=e:=by grind [Program.elem]
 rw [run_sliceAt_slice (P:=P) w t _ _ _ _ (by grind)]
 cases hi':P.info? e with
 | none=>simp [hi'] at hsz
 | some i' =>
  simp only [hi',Option.map_some,Option.some.injEq] at hsz
  unfold Instr.slice
  simp only [Sem.run_bind,run_underlying ht,Result.andThen_ok,hb]
  simp [sizeOf,typeInfo,hi',hsz]
theorem amU {k:IntKind} {i:Int} {n cap h:Nat} (hi:i=h) (hh:h<=cap):(Instr.sliceBounds true n cap none (some (.int k i)) none).run P w=.ok (0,h,cap) w:=by
 subst hi
 simp [Instr.sliceBounds,run_sliceBound (P:=P) w k (h:Int) cap _ zO zO]
theorem Se {w:World} {g o:Nat} {cur vs:zk} {e:TypeId} (hb:RM w g cur e) (h:o+vs.length<=cur.length) :
  Km w (w.setRow g (cur.take o++vs++cur.drop (o+vs.length)).toArray) g/\RM (w.setRow g (cur.take o++vs++cur.drop (o+vs.length)).toArray) g (VT cur o vs) e:=by
 refine ⟨⟨rfl,rfl,rfl,by simp [World.setRow],fun j hj=>?_⟩,?_⟩
 .grind [World.setRow]
 .rw [Us _ _ _ h];exact setRow_heap w g _ _ e (0,0) hb
theorem amV {t e:TypeId} {g o n cap sz:Nat} {k:IntKind} {i:Int} (h:Nat) (ht:P.underlying t=some (.slice e)) (hsz:(P.info? e).map (fun i=>i.size)=some sz) (hi:i=h) (hh:h<=cap)
  (q:K (.slice (some ⟨g,o,none⟩) h cap) w):Zd P (Instr.sliceAt t (.slice (some ⟨g,o,none⟩) n cap) none (some (.int k i)) none) w K:=by
 refine FI ht hsz (amU hi hh) ?_
 have:(if cap=0 then some ⟨g,o,none⟩ else (some ⟨g,o,none⟩:Option Addr).map (·.add (0 * sz)))=some ⟨g,o,none⟩:=by grind [Addr.add_lit]
 rw [this]
 exact q
end
theorem At.none {w:World} {b o:Nat} {cs:zk} {e:TypeId} (h:RM w b cs e):At w b o []:=⟨_,_,_,h,fun i v hv=>by simp at hv⟩
end Y2
namespace Y2
open Go Go.RowKit
section
variable {P:Program} {α:Type} {lo s:Nat} {w w' w0:World} {e e':TypeId} {en:α->zk} {v v' u:Value} {xs ys:List α} {b:Nat} {cs:zk} {K:Value->World->Prop}
def RT (lo:Nat) (w:World) (e:TypeId) (s:Nat) (en:α->zk) (v:Value) (xs:List α):Prop :=
 ((v=.slice none 0 0/\xs=[])\/∃g o cap cur,v=.slice (some ⟨g,o,none⟩) xs.length cap/\lo<=g/\RM w g cur e/\o+cap * s<=cur.length/\xs.length<=cap/\cap<=9223372036854775807/\(cur.drop o).take (xs.length * s)=xs.flatMap en)/\∀x,(en x).length=s
theorem RT.nil (lo:Nat) (w:World) (e:TypeId) (h:∀x,(en x).length=s):RT lo w e s en (.slice none 0 0) []:=⟨.inl ⟨rfl,rfl⟩,h⟩
theorem RT.lt (h:RT lo w e s en v xs) {k:Nat} (hk:v.ownBlock=some k):lo<=k/\k<w.heap.size:=by
 rcases h.1 with ⟨rfl,_⟩|⟨g,o,cap,cur,rfl,hlo,hb,_⟩
 .cases hk
 .obtain rfl:=Option.some.inj hk;exact ⟨hlo,hb.lt⟩
theorem RT.keep (h:RT lo w e s en v xs) (hb:∀k,v.ownBlock=some k->w'.heap[k]?=w.heap[k]?):RT lo w' e s en v xs:=by
 refine ⟨?_,h.2⟩
 rcases h.1 with h|⟨g,o,cap,cur,rfl,hlo,hk,r⟩
 .grind
 .exact .inr ⟨g,o,cap,cur,rfl,hlo,hk.keep (hb g rfl),r⟩
theorem RT.ev {fp:Nat->Prop} (h:RT lo w e s en v xs) (x:Ev w w' fp) (hn:∀k,v.ownBlock=some k->¬fp k):RT lo w' e s en v xs:=h.keep fun k hk=>x.block k (h.lt hk).2 (hn k hk)
theorem RT.one (h:RT lo w e s en v xs):v.oneCell'=true:=by
 rcases h.1 with ⟨rfl,_⟩|⟨_,_,_,_,rfl,_⟩ <;> rfl
theorem RT.form (h:RT lo w e s en v xs):∃a c,v=.slice a xs.length c:=by
 rcases h.1 with ⟨rfl,rfl⟩|⟨_,_,_,_,rfl,_⟩
 .simp
 .simp
theorem RT.own (h:w.ownsRow lo e s v xs.length (xs.flatMap en)) (hs:∀x,(en x).length=s):RT lo w e s en v xs:=by
 refine ⟨?_,hs⟩
 rcases h.2 with ⟨rfl,h0⟩|⟨g,cap,cur,rfl,hlo,hg,hnc,QG,hcs,ht⟩
 .grind
 .exact .inr ⟨g,0,cap,cur.toList,rfl,hlo,hg,by simp [hcs],hnc,by unfold maxLen at QG;omega,by simpa using ht⟩
theorem ajZ {t ty:TypeId} {m c b o:Nat} (z:Value) (P0:Nat) (hown:RT lo w e s en v xs) (TU:At w b o (ys.flatMap en)) (hm:ys.length=m)
  (h1:∀y∈ys,((en y).all (·.oneCell'))=true) (hu:P.underlying t=some (.slice e)) (hz:(P.info? e).map (fun i=>(i.zero,i.size,i.bytes))=some (some z,s,P0)) (hzs:z.cells.size=s) (hsz:0<s)
  (hb:(xs.length+m) * P0<=140737488355328) (hml:xs.length+m<=140737488355328) (hlo:lo<=w.heap.size)
  (k:∀v' w',RT lo w' e s en v' (xs++ys)->Gr w w' v v'->K v' w'):Zd P (Builtin.append_ #[t,t] ty #[v,.slice (some ⟨b,o,none⟩) m c]) w K:=by
 rcases hown.1 with ⟨rfl,rfl⟩|⟨g,of,cap,cur,rfl,Cn,Ka,hfit,hnc,QG,ht⟩
 .refine ajY z P0 (OP.nil lo w e hown.2) TU hm h1 hu hz hzs hsz hb hml hlo fun v' w' hO hG=>k v' w' ?_ hG
  exact RT.own hO.1 hO.2
 .have Jk:(xs.flatMap en).length=xs.length * s:=Yv hown.2 xs
  have Ga:(ys.flatMap en).length=m * s:=by rw [<-hm];exact Yv hown.2 ys
  have ho:∀u∈ys.flatMap en,u.oneCell'=true:=fun u hu=>by grind
  cases hi:P.info? e with
  | none=>simp [hi] at hz
  | some i =>
   simp only [hi,Option.map_some,Option.some.injEq,Prod.mk.injEq] at hz
   obtain ⟨h2,h3,h4⟩:=hz
   subst h3
   by_cases hr:xs.length+m<=cap
   .have hcap:(xs.length+m) * i.size<=cap * i.size:=lza _ hr
    rw [lEb] at hcap
    have hst:=run_storeCells_at (P:=P) g (of+xs.length * i.size) e (ys.flatMap en) 0 cur.toArray w Ka (by grind) ho
    simp only [Nat.add_zero] at hst
    have EB:=run_firstCells_some (P:=P) w i.size m ⟨b,o,none⟩ m c (ys.flatMap en) Ga (fun j u hj=>by rw [Addr.add_lit];exact TU.cell hj)
    obtain ⟨hU,hB⟩:=Se (o:=of+xs.length * i.size) (vs:=ys.flatMap en) Ka zO
    refine ⟨.slice (some ⟨g,of,none⟩) (xs.length+m) cap,_,?_,k _ _ ⟨.inr ⟨g,of,cap,_,by rw [lca,hm],Cn,hB,by rw [VK];exact hfit,by rw [lca,hm];exact hr,QG,?_⟩,hown.2⟩ ⟨⟨hU.os,hU.tape,hU.output,by rw [hU.size];exact lna _,fun k _ hk=>hU.block k (fun e=>hk (by rw [e];rfl))⟩,.inl rfl⟩⟩
    .simp [Builtin.append_,run_underlying hu,sizeOf,typeInfo,hi,Builtin.lenOf,hr,EB,Addr.add_lit,hst]
    .rw [lca,hm,lQa,<-ht,Us _ _ _ zO,lka,lnb (by grind),<-lka,lOb,
      show of+xs.length * i.size-of=xs.length * i.size by omega,lxa (by grind),lta (by grind)]
   .have D0:At w g of (xs.flatMap en):=by
     have:=Ka.at.sub of (xs.length * i.size);rw [ht,lLb] at this;exact this
    obtain ⟨v',w',hrun,r1,r2⟩:=run_append_arg_grows (P:=P) w t ty e i z i.size P0 hu hi h2 rfl h4 hzs hsz ⟨g,of,none⟩ xs.length cap (xs.flatMap en) Jk (fun j u hj=>by rw [Addr.add_lit];exact D0.cell hj) ⟨b,o,none⟩ m c (ys.flatMap en) Ga (fun j u hj=>by rw [Addr.add_lit];exact TU.cell hj) zO (by grind [maxLen]) hb
    have hO:RT w.heap.size w' e i.size en v' (xs++ys):=RT.own (by grind) hown.2
    refine ⟨v',w',hrun,k v' w' ?_ ⟨⟨r2.os,r2.tape,r2.output,r2.size,fun k hk _=>r2.block k hk zM⟩,?_⟩⟩
    .refine ⟨?_,hown.2⟩
     rcases hO.1 with h|⟨g',o',c',cu',a1,a2,a3⟩
     .grind
     .exact .inr ⟨g',o',c',cu',a1,lEa hlo a2,a3⟩
    .rcases hO.1 with ⟨h,_⟩|⟨g',o',c',cu',a1,a2,a3⟩
     .exact .inr (.inl (by rw [h];rfl))
     .exact .inr (.inr ⟨g',by rw [a1];rfl,a2⟩)
theorem RT.tail {x:α} {g o n cap:Nat} (h:RT lo w e s en (.slice (some ⟨g,o,none⟩) n cap) (x::xs)):RT lo w e s en (.slice (some ⟨g,if cap=1 then o else o+1 * s,none⟩) (n-1) (cap-1)) xs:=by
 rcases h.1 with ⟨_,h0⟩|⟨g',o',cap',cur,he,hlo,hb,hfit,hnc,QG,hct⟩
 .cases h0
 .injection he with h1 h2 h3
  injection h1 with h1
  injection h1 with h1 h4
  subst h1;subst h2;subst h3;subst h4
  simp only [List.length_cons] at hnc hct ⊢
  refine ⟨.inr ⟨g,if cap=1 then o else o+1 * s,cap-1,cur,by rw [lvb],hlo,hb,?_,by omega,by omega,?_⟩,h.2⟩
  .split
   .grind
   .have:(cap-1) * s+s=cap * s:=by rw [<-lhb];congr 1;omega
    omega
  .split
   .have:xs=[]:=lma zO
    subst this;simp
   .have e1:=congrArg (List.drop s) hct
    rw [lOb,lYa,lNa,lnb (by rw [h.2];exact lna _),lwa (l:=en x) (by rw [h.2];exact lna _),lPa,lhb,lvb] at e1
    rw [Nat.one_mul];exact e1
theorem RT.head {x:α} (h:RT lo w e s en v (x::xs)):∃g o cap,v=.slice (some ⟨g,o,none⟩) (xs.length+1) cap/\lo<=g/\At w g o (en x):=by
 rcases h.1 with ⟨_,h0⟩|⟨g,o,cap,cur,rfl,hlo,hb,hfit,hnc,QG,hct⟩
 .grind
 .refine ⟨g,o,cap,rfl,hlo,?_⟩
  have:=hb.at.sub o s
  rw [lLb] at this
  have e1:=congrArg (List.take s) hct
  rw [lUb,lla,lkb (by grind),lNa,lxa (by rw [h.2];exact lna _)] at e1
  rw [e1,lta (by rw [h.2];exact lna _)] at this;exact this
end
theorem ad7 {P:Program} {w:World} {K:Value->World->Prop} {t e:TypeId} {b o n:Nat} {ki:IntKind} {i:Int} (sz j p:Nat) (hj:i=j) (hl:j<n) (hp:o+j * sz=p) (ht:P.underlying t=some (.array n e)) (hs:(P.info? e).map (fun i=>i.size)=some sz)
  (k:K (.pointer (some ⟨b,p,none⟩)) w):Zd P (Instr.indexAt t (.pointer (some ⟨b,o,none⟩)) (.int ki i)) w K:=by
 subst hj;subst hp
 refine ⟨_,w,?_,k⟩
 cases hi':P.info? e with
 | none=>simp [hi'] at hs
 | some i' =>
  simp only [hi',Option.map_some,Option.some.injEq] at hs
  simp [Instr.indexAt,Instr.sureAddr,asIntOf,run_underlying ht,sizeOf,typeInfo,hi',hs,Addr.add_lit,hl]
end Y2
namespace Y2
open Go
def VR (l:List Nat):Nat:=l.foldr (fun t m=>Nat.lor (Nat.shiftLeft 1 t) m) 0
theorem UD (l:List Nat) (j:Nat):(VR l).testBit j=true↔j∈l:=by
 induction l with
 | nil=>simp [VR]
 | cons t r ih =>
  have e:VR (t::r)=(1 <<< t) ||| VR r:=rfl
  rw [e,lAb,Bool.or_eq_true,ih,Nat.one_shiftLeft,lQb,List.mem_cons]
  simp;constructor
  .grind
  .grind
structure Rec where
 i:Nat
 take:Bool
 af:Nat
 lk:Nat
 ds:Nat
def T8 (o:Oper):Nat:=VR (o.after.toList.filterMap fun e=>if Region.binds .any e then some e.on else none)
def ahf (ops:Array Oper) (p:Nat × Bool):Option Rec:=(ops[p.1]?).map fun o=>⟨p.1,p.2,T8 o,VR (o.looksAt ops),VR o.dst.toList⟩
def Hf (n:Nat):Bool:=Nat.beq n 0
def PZ (x y:Rec):Bool:=Hf (Nat.land x.ds (Nat.lor y.lk y.ds)) && Hf (Nat.land y.ds x.lk)
def Jj (m i:Nat):Bool:=Nat.beq (Nat.land (Nat.shiftRight m i) 1) 1
def TT:List Rec->Nat->Nat->Bool
 | [],listed,all=>Nat.beq listed all
 | r::rest,listed,all=>Nat.beq (Nat.land r.af listed) r.af && !Jj listed r.i &&
   (match r.take with
   | true=>rest.all fun q=>Jj q.af r.i || PZ r q
   | false=>rest.all fun q=>!Nat.beq (Nat.land q.af listed) q.af) && TT rest (Nat.lor listed (Nat.shiftLeft 1 r.i)) all
def Sd (ops:Array Oper):List (Nat × Bool)->Option (List Rec)
 | []=>some []
 | p::r=>match ahf ops p with
  | none=>none
  | some x=>match Sd ops r with
   | none=>none
   | some l=>some (x::l)
def Nu (ops:Array Oper) (plan:List (Nat × Bool)):Bool:=Region.noSelect ops && Nat.beq plan.length ops.size && match Sd ops plan with
 | none=>false
 | some l=>TT l 0 (2 ^ ops.size-1)
theorem TS (m i:Nat):Jj m i=m.testBit i:=by
 unfold Jj
 rw [show Nat.land (Nat.shiftRight m i) 1=(m >>> i) &&& 1 from rfl,Nat.and_one_is_mod]
 rw [Nat.testBit,Nat.one_and_eq_mod_two]
 rcases Nat.mod_two_eq_zero_or_one (m >>> i) with h|h <;> rw [h] <;> rfl
theorem PY {a b:Nat} (h:Nat.beq (Nat.land a b) a=true) (j:Nat) (hj:a.testBit j=true):b.testBit j=true:=by
 have h:=lcb h
 have h2:(a &&& b).testBit j=a.testBit j:=congrArg (fun n=>Nat.testBit n j) h
 rw [Nat.testBit_and,hj] at h2
 simpa using h2
theorem ad8 {a b:Nat} (h:(!Nat.beq (Nat.land a b) a)=true):∃j,a.testBit j=true/\b.testBit j=false:=by
 apply Classical.byContradiction
 intro hn
 have e:a &&& b=a:=by
  apply Nat.eq_of_testBit_eq
  intro j
  rw [Nat.testBit_and]
  cases ha:a.testBit j
  .rfl
  .grind
 rw [show Nat.land a b=a from e] at h
 simp at h
theorem aaz {a b:Nat} (h:Hf (Nat.land a b)=true) (j:Nat) (ha:a.testBit j=true):b.testBit j=false:=by
 have h:=lcb h
 have h2:(a &&& b).testBit j=false:=by rw [show a &&& b=0 from h];simp
 rw [Nat.testBit_and,ha] at h2
 simpa using h2
theorem Vh (o:Oper) (j:Nat):(T8 o).testBit j=true↔∃e∈o.after,Region.binds .any e=true/\e.on=j:=by
 unfold T8
 rw [UD,List.mem_filterMap]
 constructor
 .simp
 .simp
theorem aaa {ops:Array Oper} {x y:Oper} {rx ry:Rec} (hx:rx.lk=VR (x.looksAt ops)) (hx':rx.ds=VR x.dst.toList) (hy:ry.lk=VR (y.looksAt ops)) (hy':ry.ds=VR y.dst.toList)
  (h:PZ rx ry=true):x.apart ops y=true:=by
 unfold PZ at h
 rw [Bool.and_eq_true] at h
 obtain ⟨h1,h2⟩:=h
 unfold Oper.apart
 rw [Bool.and_eq_true]
 constructor
 .split
  .rename_i d hd
   have hb:rx.ds.testBit d=true:=by grind [UD]
   have h3:=aaz h1 d hb
   rw [show Nat.lor ry.lk ry.ds=ry.lk ||| ry.ds from rfl,lAb,Bool.or_eq_false_iff] at h3
   obtain ⟨h4,h5⟩:=h3
   rw [Bool.and_eq_true]
   constructor
   .rw [Bool.not_eq_true',<-Bool.not_eq_true,List.contains_iff_mem]
    intro hm
    rw [hy,<-Bool.not_eq_true,UD] at h4
    exact h4 hm
   .grind
  .rfl
 .split
  .rename_i d hd
   have hb:ry.ds.testBit d=true:=by grind [UD]
   have h3:=aaz h2 d hb
   rw [Bool.not_eq_true',<-Bool.not_eq_true,List.contains_iff_mem]
   intro hm
   rw [hx,<-Bool.not_eq_true,UD] at h3
   exact h3 hm
  .rfl
theorem aaj {ops:Array Oper} {p:Nat × Bool} {r:List (Nat × Bool)} {l:List Rec} (h:Sd ops (p::r)=some l) :
  ∃x l' o,l=x::l'/\Sd ops r=some l'/\ops[p.1]?=some o/\x=⟨p.1,p.2,T8 o,VR (o.looksAt ops),VR o.dst.toList⟩:=by
 unfold Sd at h
 split at h
 .cases h
 .rename_i x hx
  split at h
  .cases h
  .rename_i l' hl
   obtain rfl:=Option.some.inj h
   unfold ahf at hx
   cases ho:ops[p.1]? with
   | none=>rw [ho] at hx;cases hx
   | some o=>rw [ho] at hx;exact ⟨x,l',o,rfl,hl,rfl,(Option.some.inj hx).symm⟩
theorem ab9 {ops:Array Oper}:∀{r:List (Nat × Bool)} {l:List Rec},Sd ops r=some l->∀q∈l,∃o,ops[q.i]?=some o/\q.af=T8 o/\q.lk=VR (o.looksAt ops)/\q.ds=VR o.dst.toList:=by
 intro r
 induction r with
 | nil=>intro l h q hq;unfold Sd at h;obtain rfl:=Option.some.inj h;cases hq
 | cons p r ih =>
  intro l h q hq
  obtain ⟨x,l',o,rfl,hl,ho,rfl⟩:=aaj h
  rcases List.mem_cons.1 hq with rfl|hq
  .grind
  .grind
theorem acd:∀(l:List Rec) (m all:Nat),TT l m all=true->∀j,all.testBit j=true->m.testBit j=true\/∃q∈l,q.i=j:=by
 intro l
 induction l with
 | nil =>
  intro m all h j hj
  unfold TT at h
  have:=lcb h
  subst this
  exact .inl hj
 | cons r l ih =>
  intro m all h j hj
  unfold TT at h
  rw [Bool.and_eq_true] at h
  rcases ih _ _ h.2 j hj with h1|⟨q,hq,e⟩
  .rw [show Nat.lor m (Nat.shiftLeft 1 r.i)=m ||| (1 <<< r.i) from rfl,lAb,Bool.or_eq_true,Nat.one_shiftLeft,lQb] at h1
   rcases h1 with h1|h1
   .grind
   .grind
  .grind
theorem afW:∀{l:List Rec} {m n j:Nat},n<=j->TT l m (2 ^ n-1)=true->m.testBit j=true->False:=by
 intro l
 induction l with
 | nil =>
  intro m n j hj h hb
  unfold TT at h
  have:=lcb h
  rw [this,lDb] at hb
  simp at hb;omega
 | cons r l ih =>
  intro m n j hj h hb
  unfold TT at h
  rw [Bool.and_eq_true] at h
  refine ih hj h.2 ?_
  rw [show Nat.lor m (Nat.shiftLeft 1 r.i)=m ||| (1 <<< r.i) from rfl,lAb,hb,Bool.true_or]
theorem abd {ops:Array Oper}:∀(plan:List (Nat × Bool)) (l:List Rec) (m:Nat) (listed:Array Bool),Sd ops plan=some l->TT l m (2 ^ ops.size-1)=true->listed.size=ops.size ->
  (∀j,j<ops.size->listed.getD j true=m.testBit j)->OR ops plan listed=true:=by
 intro plan
 induction plan with
 | nil =>
  intro l m listed hl hok hsz hm
  unfold Sd at hl
  obtain rfl:=Option.some.inj hl
  unfold TT at hok
  have hok:=lcb hok
  show (Region.ready .any ops listed).isEmpty=true
  rw [List.isEmpty_iff,List.eq_nil_iff_forall_not_mem]
  intro j hj
  obtain ⟨h0,o,ho,_⟩:=mem_ready.1 hj
  have hlt:j<ops.size:=(lva.1 ho).1
  rw [hm j hlt,hok,lDb] at h0
  simp [hlt] at h0
 | cons p plan ih =>
  intro l m listed hl hok hsz hm
  obtain ⟨x,l',o,rfl,hl',ho,rfl⟩:=aaj hl
  have amW:=acd _ _ _ hok
  unfold TT at hok
  simp only [Bool.and_eq_true] at hok
  obtain ⟨⟨⟨hr,hun⟩,hk⟩,Vx⟩:=hok
  have hlt:p.1<ops.size:=(lva.1 ho).1
  have amX:listed.getD p.1 true=false:=by grind [TS]
  have ah2:∀e∈o.after,Region.binds .any e=true->listed.getD e.on false=true:=fun e he hb=>by
   have h1:=PY hr e.on ((Vh o e.on).2 ⟨e,he,hb,rfl⟩)
   have h3:e.on<ops.size:=by
    rcases lBa e.on ops.size with h|h
    .exact h
    .exact (afW h Vx (by rw [show Nat.lor m (Nat.shiftLeft 1 p.1)=m ||| (1 <<< p.1) from rfl,lAb,h1,Bool.true_or])).elim
   have h2:=hm e.on h3
   rw [h1] at h2
   simp only [Array.getD_eq_getD_getElem?] at h2 ⊢
   rw [lgb zO] at h2 ⊢
   simpa using h2
  have Wc:p.1∈Region.ready .any ops listed:=mem_ready.2 ⟨amX,o,ho,ah2⟩
  have acz:∀j oj,ops[j]?=some oj->j≠p.1->listed.getD j true=false->∃q∈l',q.i=j/\q.af=T8 oj/\q.lk=VR (oj.looksAt ops)/\q.ds=VR oj.dst.toList:=fun j oj hj hne hu=>by
   have hjl:j<ops.size:=(lva.1 hj).1
   rcases amW j (by grind) with h1|⟨q,hq,e⟩
   .grind
   .rcases List.mem_cons.1 hq with rfl|hq
    .grind
    .obtain ⟨o',ho',h1,h2,h3⟩:=ab9 hl' q hq
     rw [e,hj] at ho'
     obtain rfl:=Option.some.inj ho'
     exact ⟨q,hq,e,h1,h2,h3⟩
  rw [RA,ho]
  simp only [Bool.and_eq_true]
  refine ⟨?_,ih l' _ _ hl' Vx (by grind) fun j hj=>?_⟩
  .obtain ⟨i,take⟩:=p
   dsimp only at *
   cases take with
   | true =>
    dsimp only at hk ⊢
    rw [Bool.and_eq_true]
    refine ⟨?_,by simpa using Wc⟩
    unfold Region.free
    rw [ho]
    simp only [List.all_eq_true,List.mem_range]
    intro j hj
    cases hji:(j == i)
    .cases hlj:listed.getD j true
     .rw [lgb hj]
      simp only [Bool.false_or]
      obtain ⟨q,hq,e,h1,h2,h3⟩:=acz j ops[j] (lgb hj) (by grind) hlj
      have h4:=ltb.1 hk q hq
      rw [Bool.or_eq_true] at h4 ⊢
      rcases h4 with h4|h4
      .grind [TS,Vh,Array.any_eq_true']
      .right
       exact aaa rfl rfl h2 h3 h4
     .simp
    .simp
   | false =>
    dsimp only at hk ⊢
    rw [beq_iff_eq]
    have aj0:∀j∈Region.ready .any ops listed,j=i:=fun j hj=>by
     apply Classical.byContradiction
     intro hne
     obtain ⟨h0,oj,MB,hall⟩:=mem_ready.1 hj
     obtain ⟨q,hq,e,h1,h2,h3⟩:=acz j oj MB hne h0
     have h4:=ltb.1 hk q hq
     obtain ⟨b,SJ,Qt⟩:=ad8 h4
     rw [h1,Vh] at SJ
     obtain ⟨ed,he,hb,Cm⟩:=SJ
     have h5:=hall ed he hb
     rw [Cm] at h5
     have Ms:b<ops.size:=by grind
     have h6:=hm b Ms
     rw [Qt] at h6
     simp only [Array.getD_eq_getD_getElem?] at h5 h6
     rw [lgb zO] at h5 h6
     simp at h5 h6
     rw [h5] at h6;cases h6
    have hnd:(Region.ready .any ops listed).Nodup:=by
     unfold Region.ready;exact List.Pairwise.filter _ List.nodup_range
    generalize Region.ready .any ops listed=R at *
    match R,hnd,aj0,Wc with
    | [],_,_,h=>cases h
    | [a],_,hu,_=>rw [hu a lxb]
    | a::b::r,hnd,hu,_ =>
     have h1:=hu a lxb
     have h2:=hu b zM
     rw [List.nodup_cons] at hnd
     exact absurd (by grind) hnd.1
  .show (listed.setIfInBounds p.1 true).getD j true=(m ||| (1 <<< p.1)).testBit j
   rw [lAb,Nat.one_shiftLeft,lQb,<-hm j hj]
   by_cases h:p.1=j
   .subst h;simp [hsz,hj]
   .simp [Array.getElem?_setIfInBounds_ne h,h]
theorem aac {ops:Array Oper} {plan:List (Nat × Bool)} (h:Nu ops plan=true):Rz ops plan=true:=by
 unfold Nu at h
 simp only [Bool.and_eq_true] at h
 obtain ⟨⟨h1,h2⟩,h3⟩:=h
 split at h3
 .grind
 .rename_i l hl
  unfold Rz
  rw [h1,abd plan l 0 _ hl h3 zM (fun j hj=>by simp [hj])]
  simp [Nat.eq_of_beq_eq_true h2]
theorem aoL {P:Program} {ops:Array Oper} {K:zk->World->Prop} {ρ0:zk} {id:Nat} {w:World} (S:World->Prop) (plan:List (Nat × Bool)) (hm:P.follows .mixedOrders=true) (hc:Nu ops plan=true)
  (h:∀w1,w1=w.drew->S w1/\P5 P ops.toList S K plan ρ0 w1):Oi P id ops K ρ0 w:=draw S plan hm (aac hc) h
end Y2
namespace Y2
open Go Go.RowKit
section
variable {P:Program} {ops:Array Oper} {Q:Exit->Act->World->Prop} {md:Region.Mode} {S:World->Prop} {Z:Nat->Bool}
def RK (P:Program) (md:Region.Mode) (ops:Array Oper) (Q:Exit->Act->World->Prop) (S:World->Prop) (Z:Nat->Bool):Nat->Array Bool->Act->World->Prop
 | 0,listed,a,w=>Region.ready md ops listed=[]/\Q .normal a w
 | fuel+1,listed,a,w=>(Region.ready md ops listed=[]->Q .normal a w) /\
   ∀i∈Region.ready md ops listed,wpOp P ops Q i (fun a' w'=>(Z i=true\/(S w->S w'))/\RK P md ops Q S Z fuel (listed.setIfInBounds i true) a' w') a w
theorem abe:∀(fuel:Nat) (listed:Array Bool) (a:Act) (w:World),RK P md ops Q S Z fuel listed a w->wpAny P md ops Q fuel listed a w:=by
 intro fuel
 induction fuel with
 | zero=>exact fun _ _ _ h=>h
 | succ f ih=>exact fun _ _ _ h=>⟨h.1,fun i hi=>wpOp_mono (fun a' w' k=>ih _ a' w' k.2) (h.2 i hi)⟩
def Cl (md:Region.Mode) (ops:Array Oper) (listed:Array Bool):Prop:=∀(k:Nat) (ok:Oper),ops[k]?=some ok->listed.getD k false=true->∀e∈ok.after,Region.binds md e=true->listed.getD e.on false=true
inductive Pre (md:Region.Mode) (ops:Array Oper):Nat->Nat->Prop
 | one {j i:Nat} {oj:Oper} (hj:ops[j]?=some oj) {e:Edge} (he:e∈oj.after) (hb:Region.binds md e=true) (hi:e.on=i):Pre md ops j i
 | more {j i:Nat} {oj:Oper} (hj:ops[j]?=some oj) {e:Edge} (he:e∈oj.after) (hb:Region.binds md e=true) (hi:Pre md ops e.on i):Pre md ops j i
theorem Pre.trans {a b c:Nat} (h:Pre md ops a b) (k:Pre md ops b c):Pre md ops a c:=by
 induction h with
 | one hj he hb hi=>subst hi;exact .more hj he hb k
 | more hj he hb _ ih=>exact .more hj he hb (ih k)
theorem Cl.pre {listed:Array Bool} (hc:Cl md ops listed) {j i:Nat} (h:Pre md ops j i) (hl:listed.getD j false=true):listed.getD i false=true:=by
 induction h with
 | one hj he hb hi=>subst hi;exact hc _ _ hj hl _ he hb
 | more hj he hb _ ih=>exact ih (hc _ _ hj hl _ he hb)
theorem Cl.ready {listed:Array Bool} (hc:Cl md ops listed) {j i:Nat} (h:Pre md ops j i) (hr:j∈Region.ready md ops listed):listed.getD i false=true:=by
 obtain ⟨_,oj,MB,hall⟩:=mem_ready.1 hr
 cases h with
 | one hj he hb hi=>subst hi;rw [hj] at MB;obtain rfl:=Option.some.inj MB;exact hall _ he hb
 | more hj he hb hp=>rw [hj] at MB;obtain rfl:=Option.some.inj MB;exact hc.pre hp (hall _ he hb)
theorem Cl.step {listed:Array Bool} (hc:Cl md ops listed) {j:Nat} (hr:j∈Region.ready md ops listed):Cl md ops (listed.setIfInBounds j true):=by
 obtain ⟨_,oj,MB,hall⟩:=mem_ready.1 hr
 have up:∀k,listed.getD k false=true->(listed.setIfInBounds j true).getD k false=true:=fun k hk=>by
  simp only [Array.getD_eq_getD_getElem?] at hk ⊢
  rw [Array.getElem?_setIfInBounds]
  split
  .grind
  .omega
 intro k ok hk hl e he hb
 by_cases h:j=k
 .grind
 .refine up _ (hc k ok hk ?_ e he hb)
  simp only [Array.getD_eq_getD_getElem?] at hl ⊢
  rw [Array.getElem?_setIfInBounds,if_neg h] at hl;exact hl
theorem Cl.start (n:Nat):Cl md ops (Array.replicate n false):=fun k ok _ hl=>by
 simp only [Array.getD_eq_getD_getElem?,Array.getElem?_replicate] at hl
 split at hl <;> cases hl
theorem aaq {i:Nat} {oi:Oper} {v:Value} (hi:ops[i]?=some oi) (hsel:∀(j:Nat) (o:Oper) cs b,ops[j]?=some o->o.op≠.select cs b)
  (hQ:∀c a w,Q (.panic c) (a.put oi.dst v) w->Q (.panic c) a w) (hz:∀j oj,ops[j]?=some oj->Z j=true->Pre md ops j i) :
  ∀(fuel:Nat) (listed:Array Bool) (a:Act) (w:World),Cl md ops listed ->
   (∀j oj,ops[j]?=some oj->j≠i->listed.getD j true=false->(∀e∈oj.after,Region.binds md e=true->e.on≠i)->oi.apart ops oj=true) ->
   i∈Region.ready md ops listed->YieldsIf P ops S oi v a->S w ->
   RK P md ops Q S Z fuel (listed.setIfInBounds i true) (a.put oi.dst v) w->RK P md ops Q S Z (fuel+1) listed a w:=by
 intro fuel
 induction fuel with
 | zero =>
  intro listed a w _ _ hr hy hS H
  refine ⟨fun h=>absurd (h ▸ hr) (lSb),fun j hj=>?_⟩
  rcases Nat.decEq j i with hji|hji
  .exact absurd (H.1 ▸ ready_mono hj hji) (lSb)
  .subst hji;exact hy.wpOp hi hS ⟨.inr id,H⟩
 | succ fuel ih =>
  intro listed a w Sf hfree hr hy hS H
  refine ⟨fun h=>absurd (h ▸ hr) (lSb),fun j hj=>?_⟩
  rcases Nat.decEq j i with hji|hji
  .have h1:=H.2 j (ready_mono hj hji)
   obtain ⟨DZ,oj,MB,hall⟩:=mem_ready.1 hj
   have HX:=(mem_ready.1 hr).1
   have hnot:∀e∈oj.after,Region.binds md e=true->e.on≠i:=fun e he hb heq=>by grind
   have hZ:Z j≠true:=fun hzj=>by
    have h2:=Sf.ready (hz j oj MB hzj) hj
    simp only [Array.getD_eq_getD_getElem?] at h2 HX
    cases hx:listed[i]? with
    | none=>rw [hx] at h2;simp at h2
    | some b=>rw [hx] at h2 HX;simp at h2 HX;rw [h2] at HX;cases HX
   have h2:=wpOp_putIf MB (hfree j oj MB hji DZ hnot) (fun cs b=>hsel i oi cs b hi) (fun cs b=>hsel j oj cs b MB) hQ hy h1
   refine wpOp_mono (fun a' w' h3=>?_) h2
   have hSw:S w':=h3.2.1.resolve_left hZ hS
   refine ⟨.inr fun _=>hSw,ih (listed.setIfInBounds j true) a' w' (Sf.step hj) (fun k ok hk hki hun hno=>hfree k ok hk hki ?_ hno) (ready_mono hr (Ne.symm hji)) h3.1 hSw ?_⟩
   .rcases Nat.decEq j k with h|h
    .rw [getD_set_ne true h] at hun;exact hun
    .grind
   .rw [Array.setIfInBounds_comm _ _ hji];exact h3.2.2
  .subst hji;exact hy.wpOp hi hS ⟨.inr id,H⟩
theorem aaA {i:Nat} {oi:Oper} {v:Value} (hi:ops[i]?=some oi) (hsel:∀(j:Nat) (o:Oper) cs b,ops[j]?=some o->o.op≠.select cs b)
  (hQ:∀c a w,Q (.panic c) (a.put oi.dst v) w->Q (.panic c) a w) :
  ∀(fuel:Nat) (listed:Array Bool) (a:Act) (w:World),
   (∀j oj,ops[j]?=some oj->j≠i->listed.getD j true=false->(∀e∈oj.after,Region.binds md e=true->e.on≠i)->oi.apart ops oj=true) ->
   i∈Region.ready md ops listed->YieldsIf P ops (fun _=>True) oi v a ->
   RK P md ops Q S Z fuel (listed.setIfInBounds i true) (a.put oi.dst v) w->RK P md ops Q S Z (fuel+1) listed a w:=by
 intro fuel
 induction fuel with
 | zero =>
  intro listed a w _ hr hy H
  refine ⟨fun h=>absurd (h ▸ hr) (lSb),fun j hj=>?_⟩
  rcases Nat.decEq j i with hji|hji
  .exact absurd (H.1 ▸ ready_mono hj hji) (lSb)
  .subst hji;exact hy.wpOp hi trivial ⟨.inr id,H⟩
 | succ fuel ih =>
  intro listed a w hfree hr hy H
  refine ⟨fun h=>absurd (h ▸ hr) (lSb),fun j hj=>?_⟩
  rcases Nat.decEq j i with hji|hji
  .have h1:=H.2 j (ready_mono hj hji)
   obtain ⟨DZ,oj,MB,hall⟩:=mem_ready.1 hj
   have HX:=(mem_ready.1 hr).1
   have hnot:∀e∈oj.after,Region.binds md e=true->e.on≠i:=fun e he hb heq=>by grind
   have h2:=wpOp_putIf MB (hfree j oj MB hji DZ hnot) (fun cs b=>hsel i oi cs b hi) (fun cs b=>hsel j oj cs b MB) hQ hy h1
   refine wpOp_mono (fun a' w' h3=>?_) h2
   refine ⟨h3.2.1,ih (listed.setIfInBounds j true) a' w' (fun k ok hk hki hun hno=>hfree k ok hk hki ?_ hno) (ready_mono hr (Ne.symm hji)) h3.1 ?_⟩
   .rcases Nat.decEq j k with h|h
    .rw [getD_set_ne true h] at hun;exact hun
    .grind
   .rw [Array.setIfInBounds_comm _ _ hji];exact h3.2.2
  .subst hji;exact hy.wpOp hi trivial ⟨.inr id,H⟩
end
inductive Kd where
 | pure
 | held
 | forced
 | free
abbrev zHh0:Nat×Kd:=(0,.held)
abbrev zHp0:Nat×Kd:=(0,.pure)
abbrev zHf1:Nat×Kd:=(1,.forced)
abbrev zHh1:Nat×Kd:=(1,.held)
abbrev zHp1:Nat×Kd:=(1,.pure)
abbrev zHf2:Nat×Kd:=(2,.forced)
abbrev zHh2:Nat×Kd:=(2,.held)
abbrev zHp2:Nat×Kd:=(2,.pure)
abbrev zHf3:Nat×Kd:=(3,.forced)
abbrev zHh3:Nat×Kd:=(3,.held)
abbrev zHp3:Nat×Kd:=(3,.pure)
abbrev zHf4:Nat×Kd:=(4,.forced)
abbrev zHh4:Nat×Kd:=(4,.held)
abbrev zHp4:Nat×Kd:=(4,.pure)
abbrev zHf5:Nat×Kd:=(5,.forced)
abbrev zHfr5:Nat×Kd:=(5,.free)
abbrev zHh5:Nat×Kd:=(5,.held)
abbrev zHp5:Nat×Kd:=(5,.pure)
abbrev zHf6:Nat×Kd:=(6,.forced)
abbrev zHfr6:Nat×Kd:=(6,.free)
abbrev zHh6:Nat×Kd:=(6,.held)
abbrev zHp6:Nat×Kd:=(6,.pure)
abbrev zHf7:Nat×Kd:=(7,.forced)
abbrev zHfr7:Nat×Kd:=(7,.free)
abbrev zHh7:Nat×Kd:=(7,.held)
abbrev zHp7:Nat×Kd:=(7,.pure)
abbrev zHf8:Nat×Kd:=(8,.forced)
abbrev zHfr8:Nat×Kd:=(8,.free)
abbrev zHh8:Nat×Kd:=(8,.held)
abbrev zHp8:Nat×Kd:=(8,.pure)
abbrev zHf9:Nat×Kd:=(9,.forced)
abbrev zHfr9:Nat×Kd:=(9,.free)
abbrev zHh9:Nat×Kd:=(9,.held)
abbrev zHp9:Nat×Kd:=(9,.pure)
abbrev zHf10:Nat×Kd:=(10,.forced)
abbrev zHfr10:Nat×Kd:=(10,.free)
abbrev zHh10:Nat×Kd:=(10,.held)
abbrev zHp10:Nat×Kd:=(10,.pure)
abbrev zHf11:Nat×Kd:=(11,.forced)
abbrev zHfr11:Nat×Kd:=(11,.free)
abbrev zHh11:Nat×Kd:=(11,.held)
abbrev zHp11:Nat×Kd:=(11,.pure)
abbrev zHfr12:Nat×Kd:=(12,.free)
abbrev zHh12:Nat×Kd:=(12,.held)
abbrev zHp12:Nat×Kd:=(12,.pure)
abbrev zHfr13:Nat×Kd:=(13,.free)
abbrev zHh13:Nat×Kd:=(13,.held)
abbrev zHp13:Nat×Kd:=(13,.pure)
abbrev zHf14:Nat×Kd:=(14,.forced)
abbrev zHfr14:Nat×Kd:=(14,.free)
abbrev zHp14:Nat×Kd:=(14,.pure)
abbrev zHf15:Nat×Kd:=(15,.forced)
abbrev zHfr15:Nat×Kd:=(15,.free)
abbrev zHh15:Nat×Kd:=(15,.held)
abbrev zHp15:Nat×Kd:=(15,.pure)
abbrev zHfr16:Nat×Kd:=(16,.free)
abbrev zHh16:Nat×Kd:=(16,.held)
abbrev zHp16:Nat×Kd:=(16,.pure)
abbrev zHf17:Nat×Kd:=(17,.forced)
abbrev zHfr17:Nat×Kd:=(17,.free)
abbrev zHp17:Nat×Kd:=(17,.pure)
abbrev zHfr18:Nat×Kd:=(18,.free)
abbrev zHh18:Nat×Kd:=(18,.held)
abbrev zHp18:Nat×Kd:=(18,.pure)
abbrev zHfr19:Nat×Kd:=(19,.free)
abbrev zHp19:Nat×Kd:=(19,.pure)
abbrev zHh20:Nat×Kd:=(20,.held)
abbrev zHp20:Nat×Kd:=(20,.pure)
abbrev zHf21:Nat×Kd:=(21,.forced)
abbrev zHfr21:Nat×Kd:=(21,.free)
abbrev zHp21:Nat×Kd:=(21,.pure)
abbrev zHfr22:Nat×Kd:=(22,.free)
abbrev zHh22:Nat×Kd:=(22,.held)
abbrev zHfr23:Nat×Kd:=(23,.free)
abbrev zHp23:Nat×Kd:=(23,.pure)
abbrev zHp24:Nat×Kd:=(24,.pure)
abbrev zHfr25:Nat×Kd:=(25,.free)
def Ur (P:Program) (ops:List Oper) (S:World->Prop) (K:zk->World->Prop) (plan:List (Nat × Kd)):Bool->zk->World->Prop :=
 List.rec (motive:=fun _=>Bool->zk->World->Prop) (fun _=>K) (fun i _ ih live ρ w=>match ops[i.1]? with
  | none=>False
  | some o=>match i.2 with
   | .pure=>X3 ops o.guard ρ fun b ρ=>match b with
    | true=>HB P (fun _=>True) o ρ fun v=>Xx ρ o.dst v fun ρ=>ih live ρ w
    | false=>Xx ρ o.dst undef fun ρ=>ih live ρ w
   | .held=>match live with
    | true=>X3 ops o.guard ρ fun b ρ=>match b with
     | true=>HB P S o ρ fun v=>Xx ρ o.dst v fun ρ=>ih true ρ w
     | false=>Xx ρ o.dst undef fun ρ=>ih true ρ w
    | false=>False
   | .forced=>match live with
    | true=>X3 ops o.guard ρ fun b ρ=>match b with
     | true=>LC P o ρ w fun v w'=>Zs (S w') (Xx ρ o.dst v fun ρ=>ih true ρ w')
     | false=>Xx ρ o.dst undef fun ρ=>ih true ρ w
    | false=>False
   | .free=>X3 ops o.guard ρ fun b ρ=>match b with
    | true=>LC P o ρ w fun v w'=>Xx ρ o.dst v fun ρ=>ih false ρ w'
    | false=>Xx ρ o.dst undef fun ρ=>ih false ρ w) plan
theorem ace (P:Program) (ops:List Oper) (S:World->Prop) (K:zk->World->Prop) (i:Nat × Kd) (r:List (Nat × Kd)) (live:Bool) (ρ:zk) (w:World) :
  Ur P ops S K (i::r) live ρ w=match ops[i.1]? with
  | none=>False
  | some o=>match i.2 with
   | .pure=>X3 ops o.guard ρ fun b ρ=>match b with
    | true=>HB P (fun _=>True) o ρ fun v=>Xx ρ o.dst v fun ρ=>Ur P ops S K r live ρ w
    | false=>Xx ρ o.dst undef fun ρ=>Ur P ops S K r live ρ w
   | .held=>match live with
    | true=>X3 ops o.guard ρ fun b ρ=>match b with
     | true=>HB P S o ρ fun v=>Xx ρ o.dst v fun ρ=>Ur P ops S K r true ρ w
     | false=>Xx ρ o.dst undef fun ρ=>Ur P ops S K r true ρ w
    | false=>False
   | .forced=>match live with
    | true=>X3 ops o.guard ρ fun b ρ=>match b with
     | true=>LC P o ρ w fun v w'=>Zs (S w') (Xx ρ o.dst v fun ρ=>Ur P ops S K r true ρ w')
     | false=>Xx ρ o.dst undef fun ρ=>Ur P ops S K r true ρ w
    | false=>False
   | .free=>X3 ops o.guard ρ fun b ρ=>match b with
    | true=>LC P o ρ w fun v w'=>Xx ρ o.dst v fun ρ=>Ur P ops S K r false ρ w'
    | false=>Xx ρ o.dst undef fun ρ=>Ur P ops S K r false ρ w:=rfl
def FH:Kd->Bool
 | .pure=>true
 | .held=>true
 | .forced=>false
 | .free=>false
def EA (plan:List (Nat × Kd)):List (Nat × Bool):=plan.map fun p=>(p.1,FH p.2)
def Ji (plan:List (Nat × Kd)):List Nat:=plan.filterMap fun p=>match p.2 with
 | .held=>some p.1
 | _=>none
def Lr (plan:List (Nat × Kd)):List Nat:=plan.filterMap fun p=>match p.2 with
 | .free=>some p.1
 | _=>none
def reach (ops:List (Oper × Nat)) (m:Nat):Nat:=ops.foldl (fun m p=>match Jj m p.2 with
 | true=>Nat.lor m (T8 p.1)
 | false=>m) m
theorem acf {ops:Array Oper} {z:Nat}:∀(l:List (Oper × Nat)) (m:Nat),(∀p∈l,ops[p.2]?=some p.1)->(∀i,m.testBit i=true->Pre .any ops z i)->∀i,(reach l m).testBit i=true->Pre .any ops z i:=by
 intro l
 induction l with
 | nil=>exact fun m _ h=>h
 | cons p l ih =>
  intro m hl h
  refine ih _ (fun q hq=>hl q (lrb _ hq)) fun i hi=>?_
  dsimp only at hi
  cases hb:Jj m p.2 with
  | false=>rw [hb] at hi;exact h i hi
  | true =>
   rw [hb] at hi
   have hi:(m ||| T8 p.1).testBit i=true:=hi
   rw [lAb,Bool.or_eq_true] at hi
   rcases hi with hi|hi
   .grind
   .obtain ⟨e,he,Qt,Cm⟩:=(Vh p.1 i).1 hi
    exact (h p.2 (by grind [TS])).trans (.one (hl p (lxb ..)) he Qt Cm)
def Cj (ops:Array Oper) (Wa zs:List Nat):Bool:=zs.all fun z=>match ops[z]? with
 | none=>false
 | some o=>Nat.beq (Nat.land (VR Wa) (T8 o)) (VR Wa) || Nat.beq (Nat.land (VR Wa) (reach ops.toList.zipIdx.reverse (T8 o))) (VR Wa)
theorem Nt {ops:Array Oper} {Wa zs:List Nat} (h:Cj ops Wa zs=true) {i:Nat} (hi:i∈Wa):∀j oj,ops[j]?=some oj->zs.contains j=true->Pre .any ops j i:=by
 intro j oj hj hz
 have h1:=ltb.1 h j (by grind)
 rw [hj] at h1
 rw [Bool.or_eq_true] at h1
 have d:∀k,(T8 oj).testBit k=true->Pre .any ops j k:=fun k hk=>by
  obtain ⟨e,he,hb,Cm⟩:=(Vh oj k).1 hk
  exact .one hj he hb Cm
 rcases h1 with h1|h1
 .exact d i (PY h1 i ((UD Wa i).2 hi))
 .refine acf ops.toList.zipIdx.reverse (T8 oj) (fun p hp=>?_) d i (PY h1 i ((UD Wa i).2 hi))
  have hp2:=List.mem_reverse.1 hp
  have:=List.mem_zipIdx' hp2
  rw [<-lTa]
  rw [lba]
  exact ⟨this.1,this.2.symm⟩
section
variable {P:Program} {ops:Array Oper} {S:World->Prop} {K:zk->World->Prop} {ρ0:zk} {Z:Nat->Bool} {ds:List Deferred}
theorem abf (hs:Region.noSelect ops=true) (plan:List (Nat × Kd)):∀(fuel:Nat) (listed:Array Bool) (live:Bool) (ρ:zk) (w:World),plan.length<=fuel ->
  (∀i,(i,Kd.held)∈plan->∀j oj,ops[j]?=some oj->Z j=true->Pre .any ops j i) ->
  (∀i,(i,Kd.free)∈plan->Z i=true) ->
  OR ops (EA plan) listed=true->(live=true->S w)->agree (Ys ops.toList) ρ0 ρ ->
  Cl .any ops listed->Ur P ops.toList S K plan live ρ w->RK P .any ops (fun e a w'=>e=.normal/\a.defers=ds/\agree (Ys ops.toList) ρ0 a.tmps.toList/\K a.tmps.toList w') S Z fuel listed ⟨ρ.toArray,ds⟩ w:=by
 induction plan with
 | nil =>
  intro fuel listed live ρ w _ _ _ hok _ hag _ h
  have hr:=List.isEmpty_iff.1 hok
  cases fuel with
  | zero=>exact ⟨hr,rfl,rfl,hag,h⟩
  | succ f=>exact ⟨fun _=>⟨rfl,rfl,hag,h⟩,by rw [hr];simp⟩
 | cons ib r ih =>
  obtain ⟨i,kd⟩:=ib
  intro fuel listed live ρ w hfl Jl F9 hok hS hag Sf h
  obtain ⟨f,rfl⟩:∃f,fuel=f+1:=⟨fuel-1,by simp at hfl;omega⟩
  have Hg:r.length<=f:=by grind
  have DY:∀i,(i,Kd.held)∈r->∀j oj,ops[j]?=some oj->Z j=true->Pre .any ops j i:=fun k hk=>Jl k (by simp [hk])
  have DX:∀i,(i,Kd.free)∈r->Z i=true:=fun k hk=>F9 k (by simp [hk])
  unfold EA at hok
  rw [leb,RA] at hok
  rw [ace] at h
  simp only [Array.getElem?_toList] at h
  cases ho:ops[i]? with
  | none=>rw [ho] at hok;cases hok
  | some o =>
   rw [ho] at hok h
   simp only [Bool.and_eq_true] at hok h
   have hmem:∀n,o.dst=some n->n∈Ys ops.toList:=fun n hn=>by grind [Ys]
   have H7:=fun live ρ w=>ih f (listed.setIfInBounds i true) live ρ w Hg DY DX
   cases kd with
   | pure =>
    simp only [FH,Bool.and_eq_true] at hok
    obtain ⟨⟨hfree,Wc⟩,Vx⟩:=hok
    obtain ⟨b,hb,h⟩:=XX h
    have key:∀v,YieldsIf P ops (fun _=>True) o v ⟨ρ.toArray,ds⟩->Ur P ops.toList S K r live (put ρ o.dst v) w->RK P .any ops (fun e a w'=>e=.normal/\a.defers=ds/\agree (Ys ops.toList) ρ0 a.tmps.toList/\K a.tmps.toList w') S Z (f+1) listed ⟨ρ.toArray,ds⟩ w:=fun v hy hk =>
     aaA ho (Region.noSelect_spec hs) (fun c a w hq=>by cases hq.1) f listed _ _ (Region.free_spec ho hfree) (by grind) hy (by
      rw [put_eq]
      exact H7 live _ w Vx hS (XG hag hmem v) (Sf.step (by grind)) hk)
    cases b
    .simp only [X7] at h
     exact key undef (.inr ⟨hb,rfl⟩) h
    .obtain ⟨v,hv,hk⟩:=SL h
     rw [X7] at hk
     exact key v (.inl ⟨hb,fun w hS=>by rw [Yo];exact hv w hS⟩) hk
   | held =>
    simp only [FH,Bool.and_eq_true] at hok
    obtain ⟨⟨hfree,Wc⟩,Vx⟩:=hok
    cases live with
    | false=>exact h.elim
    | true =>
     obtain ⟨b,hb,h⟩:=XX h
     have key:∀v,YieldsIf P ops S o v ⟨ρ.toArray,ds⟩->Ur P ops.toList S K r true (put ρ o.dst v) w->RK P .any ops (fun e a w'=>e=.normal/\a.defers=ds/\agree (Ys ops.toList) ρ0 a.tmps.toList/\K a.tmps.toList w') S Z (f+1) listed ⟨ρ.toArray,ds⟩ w:=fun v hy hk =>
      aaq ho (Region.noSelect_spec hs) (fun c a w hq=>by cases hq.1) (Jl i zM) f listed _ _ Sf (Region.free_spec ho hfree) (by grind) hy (hS rfl) (by
       rw [put_eq]
       exact H7 true _ w Vx hS (XG hag hmem v) (Sf.step (by grind)) hk)
     cases b
     .simp only [X7] at h
      exact key undef (.inr ⟨hb,rfl⟩) h
     .obtain ⟨v,hv,hk⟩:=SL h
      rw [X7] at hk
      exact key v (.inl ⟨hb,fun w hS=>by rw [Yo];exact hv w hS⟩) hk
   | forced =>
    simp only [FH,beq_iff_eq] at hok
    obtain ⟨Wc,Vx⟩:=hok
    cases live with
    | false=>exact h.elim
    | true =>
     obtain ⟨b,hb,h⟩:=XX h
     refine ⟨fun h0=>by rw [Wc] at h0;simp at h0,fun j hj=>?_⟩
     obtain rfl:j=i:=by grind
     unfold wpOp
     rw [ho]
     simp only [hb]
     cases b
     .simp only [Bool.false_eq_true,if_false,X7] at h ⊢
      rw [put_eq]
      exact ⟨.inr id,H7 true _ w Vx hS (XG hag hmem _) (Sf.step hj) h⟩
     .simp only [if_true] at h ⊢
      refine .inl (UH h fun v w' ⟨ED,hk⟩=>?_)
      rw [X7] at hk
      rw [put_eq]
      exact ⟨.inr fun _=>ED,H7 true _ w' Vx (fun _=>ED) (XG hag hmem v) (Sf.step hj) hk⟩
   | free =>
    simp only [FH,beq_iff_eq] at hok
    obtain ⟨Wc,Vx⟩:=hok
    have hz:Z i=true:=F9 i zM
    obtain ⟨b,hb,h⟩:=XX h
    refine ⟨fun h0=>by rw [Wc] at h0;simp at h0,fun j hj=>?_⟩
    obtain rfl:j=i:=by grind
    unfold wpOp
    rw [ho]
    simp only [hb]
    cases b
    .simp only [Bool.false_eq_true,if_false,X7] at h ⊢
     rw [put_eq]
     exact ⟨.inl hz,H7 false _ w Vx nofun (XG hag hmem _) (Sf.step hj) h⟩
    .simp only [if_true] at h ⊢
     refine .inl (UH h fun v w' hk=>?_)
     rw [X7] at hk
     rw [put_eq]
     exact ⟨.inl hz,H7 false _ w' Vx nofun (XG hag hmem v) (Sf.step hj) hk⟩
theorem aj1 {id:Nat} {w:World} (S:World->Prop) (plan:List (Nat × Kd)) (hm:P.follows .mixedOrders=true) (hc:Nu ops (EA plan)=true) (hz:Cj ops (Ji plan) (Lr plan)=true)
  (h:∀w1,w1=w.drew->S w1/\Ur P ops.toList S K plan true ρ0 w1):Oi P id ops K ρ0 w:=by
 have C1:=aac hc
 simp only [Rz,Bool.and_eq_true,beq_iff_eq] at C1
 obtain ⟨⟨h1,h2⟩,h3⟩:=C1
 obtain ⟨hS,hk⟩:=h _ rfl
 have hl:plan.length<=ops.size:=by grind [EA]
 refine ⟨fun ds=>wp_region_any hm (abe (S:=S) (Z:=fun i=>(Lr plan).contains i) _ _ _ _ (abf h1 plan _ _ true _ _ hl (fun i hi=>Nt hz ?_) (fun i hi=>?_) h3 (fun _=>hS) (Qu _ _) (Cl.start _) hk))⟩
 .grind [Ji]
 .grind [Lr]
end
end Y2
end Go.Proofs.YtakpnepblgfknaaGreatDoor
