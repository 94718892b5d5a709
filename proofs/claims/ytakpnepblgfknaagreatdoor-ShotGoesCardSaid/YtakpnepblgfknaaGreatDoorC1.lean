/- Texts of this claim, one behind the other. -/
import Derived.Tactics
import Derived.Below
import Derived.ScopeJumps
import Derived.Laws.Slices
import Derived.Laws.Small
import Derived.Laws.StructEq
import Derived.Laws.Pointers
import Derived.Laws.Cover3
import Derived.Laws.Strings
import Derived.Laws.BytesString
import Derived.Laws.Build
import Derived.Laws.OwnMore
import Derived.Laws.MakeOwn
import Derived.Laws.CopyOwn
import Derived.Laws.BytesArg
import Derived.KernelRfl
import Derived.OrdersHeld
import Derived.Laws.CopyRow
import Derived.Laws.AppendOwn
import Derived.ArgAppend
set_option linter.unusedVariables false
set_option linter.unusedSimpArgs false
set_option linter.defProp false
namespace Go.Proofs.YtakpnepblgfknaaGreatDoor
theorem yY {P:Prop} (h:P:=by omega):P:=h
theorem yX {P:Prop} (h:P:=by assumption):P:=h
theorem yW {P:Prop} (h:P:=by simp):P:=h
abbrev yB:=List Int
abbrev yA:=List UInt8
abbrev yz:=List Go.Value
theorem yI {α β γ:Type} {a:α} {b:β} {c:γ}:a=a/\b=b/\c=c:=⟨rfl,rfl,rfl⟩
theorem yN {α β γ δ:Type} {a:α} {b:β} {c:γ} {d:δ}:a=a/\b=b/\c=c/\d=d:=⟨rfl,rfl,rfl,rfl⟩
theorem yU {α β:Type _} {a:α} {b:β}:a=a/\b=b:=⟨rfl,rfl⟩
abbrev yT (n:Int):Go.Value:=.int .i64 n
abbrev yS (n:Nat):Go.Value:=.pointer (some ⟨n,0,none⟩)
theorem k_a {P:Prop} (h:P:=by repeat first|exact ZY|refine ZR rfl ?_|refine Zv rfl (by first|omega|(simp only;omega)|(simp;omega)|(simp;done)) ?_):P:=h
theorem k_b {P:Prop} (h:P:=by first|omega|(simp only;omega)|(simp;omega)|(simp;done)):P:=h
theorem k_c {P:Prop} (h:P:=by (subst_vars;unfold Vq;(repeat first|rw [if_pos yY]|rw [if_neg yY]);(try simp only [YV,XO,Yp,YP]);(try rfl))):P:=h
theorem k_d {P:Prop} (h:P:=by kernel_rfl):P:=h
theorem k_e {P:Prop} (h:P:=by (simp only [List.length_append,List.length_set,List.length_cons,List.length_nil];omega)):P:=h
theorem k_f {P:Prop} (h:P:=by (unfold UR;(repeat first|rw [if_pos yY]|rw [if_neg yY]);(try simp only [YV] at *);subst_vars;(try rfl);done)):P:=h
theorem k_g {P:Prop} (h:P:=by simp only [List.all_cons,List.all_nil,H.one 4 rfl,H.one 5 rfl,H.one 6 rfl,H.one 7 rfl,H.one 9 rfl,H.one 10 rfl,Z0.one Xi,Z0.one ZE,Z0.one Zr,hvs,hvl,Z0.one ZT,Z0.one hw];rfl):P:=h
theorem k_h {P:Prop} (h:P:=by simp only [List.all_cons,List.all_nil,H.one 4 rfl,H.one 5 rfl,H.one 6 rfl,H.one 8 rfl,Z0.one TZ,Z0.one V7,Z0.one Xi,Z0.one ZE,Z0.one Zr,hvs,hvl,Z0.one ZT,Z0.one hw];rfl):P:=h
theorem k_i {P:Prop} (h:P:=by (subst_vars;first|omega|(rw [lca,lga];omega))):P:=h
theorem k_j {P:Prop} (h:P:=by simp only [List.all_cons,List.all_nil,H.one 2 rfl,H.one 3 rfl,H.one 4 rfl,H.one 5 rfl,Z0.one X3,Z0.one hx];rfl):P:=h
theorem k_k {P:Prop} (h:P:=by simp only [List.all_cons,List.all_nil,Z0.one Ub,Z0.one Tm,Z0.one NW,Z0.one N9,Z0.one ZT,Z0.one Zq,Z0.one hcs,Z0.one hg,Z0.one ht];rfl):P:=h
theorem k_l {P:Prop} (h:P:=by exact Xn.more yX yY):P:=h
theorem k_m {P:Prop} (h:P:=by rw [Yl];unfold execOp;rw [ho]):P:=h
theorem k_n {P:Prop} (h:P:=by simp only [List.all_cons,List.all_nil,H.one 2 rfl,H.one 3 rfl,Z0.one XZ,Z0.one L6,Z0.one I9,Z0.one OJ,Z0.one KA,Z0.one Yr,Z0.one XW,Z0.one Fe,Z0.one Zr];rfl):P:=h
theorem k_o {P:Prop} (h:P:=by simp only [List.all_cons,List.all_nil,H.one 4 rfl,H.one 5 rfl,Z0.one W4,Z0.one W5,Z0.one ZO,Z0.one ht];rfl):P:=h
theorem k_p {P:Prop} (h:P:=by simp only [List.all_cons,List.all_nil,H.one 4 rfl,H.one 5 rfl,H.one 6 rfl,H.one 8 rfl,Z0.one hw];rfl):P:=h
theorem k_q {P:Prop} (h:P:=by simp only [Bool.and_true,H.one 1 rfl,H.one 2 rfl,H.one 6 rfl,hvs,Z0.one ZT,Z0.one Zq,Z0.one ZO,hvl]):P:=h
theorem k_r {P:Prop} (h:P:=by exact Fi (by decide) (by decide) yX):P:=h
theorem k_s {P:Prop} (h:P:=by simp only [List.all_cons,List.all_nil,H.one 2 rfl,Z0.one X3,Z0.one Ge,Z0.one hs,Z0.one hL,Z0.one he,Z0.one hb];rfl):P:=h
theorem k_t {P:Prop} (h:P:=by first|omega|(simp only;omega)|(simp;omega)):P:=h
theorem k_u {P:Prop} (h:P:=by simp [run_sliceBound (P:=P) w kh (h:Int) cap _ yY yY,run_sliceBound (P:=P) w kl (a:Int) h _ yY yY]):P:=h
theorem k_v {P:Prop} (h:P:=by rw [<-hargs];exact h):P:=h
theorem k_w {P:Prop} (h:P:=by exact ⟨rfl,rfl,rfl,rfl,fun _=>rfl⟩):P:=h
theorem k_x {P:Prop} (h:P:=by unfold execOp;rw [ho];simp only [resolve,hc,pure_bind,invoke,builtin]):P:=h
theorem k_y {P:Prop} (h:P:=by simp only [Bool.and_true,H.one 2 rfl,H.one 3 rfl,Vw.one V2,Z0.one ht]):P:=h
def laa:=@List.getElem?_eq_getElem
def lba:=@List.getElem?_eq_some_iff
def lca:=@List.length_append
def lda:=@List.mem_of_getElem?
def lea:=@List.length_map
def lfa:=@List.all_cons
def lga:=@List.length_replicate
def lha:=@List.all_nil
def lia0:=@List.append_assoc
def lja:=@List.length_cons
def lka:=@List.getD_eq_getElem?_getD
def lla:=@Int.toNat_natCast
def lma:=@List.drop_eq_getElem_cons
def lna:=@Nat.le_refl
def loa:=@Nat.lt_or_ge
def lpa:=@List.eq_nil_of_length_eq_zero
def lqa:=@List.append_nil
def lra:=@List.mem_singleton
def lsa:=@List.take_of_length_le
def lta:=@List.length_set
def lua:=@Nat.pow_le_pow_right
def lva:=@List.length_nil
def lwa:=@Int.eq_ofNat_of_zero_le
def lxa:=@List.take_append_of_le_length
def lya:=@List.length_take
def lza:=@Nat.mul_le_mul_right
def lAa:=@Array.getElem?_eq_some_iff
def lBa:=@List.drop_of_length_le
def lCa:=@List.getElem?_map
def lDa:=@List.length_drop
def lEa:=@Nat.zero_le
def lFa:=@Array.getD_eq_getD_getElem?
def lGa:=@Nat.le_trans
def lHa:=@List.mem_append
def lIa:=@List.flatMap_append
def lJa:=@List.ext_getElem?
def lKa:=@List.length_singleton
def lLa:=@List.cons_append
def lMa:=@List.flatMap_cons
def lNa:=@List.getElem?_take
def lOa:=@List.getElem?_append
def lPa:=@List.getElem?_set
def lQa:=@List.nil_append
def lRa:=@List.map_append
def lSa:=@Option.map_some
def lTa:=@Array.getElem?_toList
def lUa:=@Nat.le_of_lt
def lVa:=@List.mem_map
def lWa:=@List.mem_iff_getElem
def lXa:=@List.getElem?_append_left
def lYa:=@List.drop_drop
def lZa:=@List.take_add_one
def lab0:=@Int.mul_le_mul_of_nonneg_left
def lbb:=@Option.bind_eq_some_iff
def lcb:=@Nat.add_sub_cancel
def ldb:=@List.eq_nil_or_concat
def leb:=@Nat.two_pow_pos
def lfb:=@List.set_cons_zero
def lgb:=@Nat.le_of_ble_eq_true
def lhb:=@Nat.eq_of_beq_eq_true
def lib:=@List.take_append_drop
def ljb:=@Int.mul_le_mul_of_nonneg_right
def lkb:=@List.map_cons
def llb:=@List.drop_succ_cons
def lmb:=@List.drop_append_of_le_length
def lnb:=@List.drop_zero
def lob:=@Array.getElem?_eq_getElem
def lpb:=@Nat.succ_mul
def lqb:=@List.mem_append_left
def lrb:=@List.set_cons_succ
def lsb0:=@List.getElem?_drop
def ltb:=@List.take_left
def lub0:=@List.getElem?_append_right
def lvb:=@List.mem_cons_of_mem
def lwb:=@List.singleton_inj
def lxb:=@List.mem_cons_self
def lyb:=@Nat.min_eq_left
def lzb:=@List.getElem_mem
def lAb:=@Nat.mul_one
def lBb:=@Nat.le_succ
def lCb:=@List.concat_eq_append
def lDb:=@List.all_eq_true
def lEb:=@List.drop_eq_nil_of_le
def lFb:=@Nat.add_mul
def lGb:=@List.mem_append_right
def lHb:=@List.append_inj'
def lIb:=@List.mem_of_mem_take
def lJb:=@Nat.zero_add
def lKb:=@Nat.testBit_or
def lLb:=@List.drop_take
def lMb:=@Nat.testBit_two_pow_sub_one
def lNb:=@List.replicate_succ
def lOb:=@List.length_pos_iff
def lPb:=@Int.emod_nonneg
def lQb:=@Option.bind_some
def lRb:=@Nat.succ_le_succ
def lSb:=@List.take_length
def lTb:=@List.drop_append
def lUb:=@Array.toList_map
def lVb:=@Nat.sub_self
def lWb:=@Nat.eq_zero_or_pos
def lXb:=@Int.emod_lt_of_pos
def lYb:=@Nat.testBit_two_pow
def lZb:=@Nat.add_assoc
def lac:=@List.take_take
def lbc:=@Option.map_eq_some_iff
namespace YX
open Go
def gt:yz->Nat->Value
 | [],_=>undef
 | v::_,0=>v
 | _::r,n+1=>gt r n
def DK (l:yz):Nat->(Value->Prop)->Prop :=
 List.rec (motive:=fun _=>Nat->(Value->Prop)->Prop) (fun _ k=>k undef) (fun v _ ih n k=>Nat.rec (motive:=fun _=>Prop) (k v) (fun m _=>ih m k) n) l
def HR (l:yz):Nat->Value->(yz->Prop)->Prop :=
 List.rec (motive:=fun _=>Nat->Value->(yz->Prop)->Prop) (fun _ _ k=>k []) (fun x r ih n v k=>Nat.rec (motive:=fun _=>Prop) (k (v::r)) (fun m _=>ih m v (fun r'=>k (x::r'))) n) l
theorem agy (n:Nat) (v:Value) (k:yz->Prop):HR [] n v k=k []:=rfl
theorem ad9 (x:Value) (r:yz) (n:Nat) (v:Value) (k:yz->Prop):HR (x::r) (n+1) v k=HR r n v (fun r'=>k (x::r')):=rfl
def ev (ρ:yz):Operand->Value
 | .tmp t=>gt ρ t
 | .const v=>v
 | .global g=>.pointer (some ⟨g,0,none⟩)
 | .func f=>.func (.func f) #[] #[]
def VE (ρ:yz):Operand->(Value->Prop)->Prop
 | .tmp t,k=>DK ρ t k
 | .const v,k=>k v
 | .global g,k=>k (.pointer (some ⟨g,0,none⟩))
 | .func f,k=>k (.func (.func f) #[] #[])
def Tj (ρ:yz) (l:List Operand):(yz->Prop)->Prop :=
 List.rec (motive:=fun _=>(yz->Prop)->Prop) (fun k=>k []) (fun x _ ih k=>VE ρ x fun v=>ih fun vs=>k (v::vs)) l
theorem adC (ρ:yz) (x:Operand) (r:List Operand) (k:yz->Prop):Tj ρ (x::r) k=VE ρ x fun v=>Tj ρ r fun vs=>k (v::vs):=rfl
def WN (ρ:yz) (d:Option Nat) (v:Value) (k:yz->Prop):Prop :=
 match d with
 | none=>k ρ
 | some d=>HR ρ d v k
theorem OF (ρ:yz) (n:Nat) (k:Value->Prop):DK ρ n k=k (gt ρ n):=by
 induction ρ generalizing n with
 | nil=>rfl
 | cons v r ih=>cases n with
  | zero=>rfl
  | succ n=>exact ih n
theorem SU (ρ:yz) (n:Nat) (v:Value) (k:yz->Prop):HR ρ n v k=k (ρ.set n v):=by
 induction ρ generalizing n k with
 | nil=>simp [agy]
 | cons x r ih=>cases n with
  | zero=>rfl
  | succ n=>simp [ad9,ih]
theorem Sf (ρ:yz) (x:Operand) (k:Value->Prop):VE ρ x k=k (ev ρ x):=by
 cases x <;> simp [VE,ev,OF]
theorem K5 (ρ:yz) (xs:List Operand) (k:yz->Prop):Tj ρ xs k=k (xs.map (ev ρ)):=by
 induction xs generalizing k with
 | nil=>rfl
 | cons x r ih=>simp [adC,Sf,ih]
def put (ρ:yz) (d:Option Nat) (v:Value):yz :=
 match d with
 | none=>ρ
 | some d=>ρ.set d v
theorem XV (ρ:yz) (d:Option Nat) (v:Value) (k:yz->Prop):WN ρ d v k=k (put ρ d v):=by
 cases d <;> simp [WN,put,SU]
theorem PI (ρ:yz) (n:Nat):gt ρ n=ρ.toArray.getD n undef:=by
 induction ρ generalizing n with
 | nil=>simp [gt]
 | cons v r ih=>cases n with
  | zero=>simp [gt]
  | succ n=>simp [gt,ih]
theorem Yl (ρ:yz):(⟨ρ.toArray,[]⟩:Act).eval=ev ρ:=by
 funext x;cases x <;> simp [Act.eval,ev,PI]
theorem put_eq (ρ:yz) (d:Option Nat) (v:Value):(⟨ρ.toArray,[]⟩:Act).put d v=⟨(put ρ d v).toArray,[]⟩:=by
 cases d <;> simp [Act.put,put]
def Ti (k:IntKind) (x y:Int):Int:=k.wrap (BitVec.ofInt k.bits x &&& BitVec.ofInt k.bits y).toNat
def SG (k:IntKind) (x y:Int):Int:=k.wrap (BitVec.ofInt k.bits x ||| BitVec.ofInt k.bits y).toNat
def Qe (k:IntKind) (x y:Int):Int:=k.wrap (BitVec.ofInt k.bits x ^^^ BitVec.ofInt k.bits y).toNat
def QX (k:IntKind) (x y:Int):Int:=k.wrap (BitVec.ofInt k.bits x &&& ~~~(BitVec.ofInt k.bits y)).toNat
def WG (k:IntKind) (x y:Int):Int:=k.wrap (x * 2 ^ min y.toNat k.bits)
def Xh (k:IntKind) (x y:Int):Int:=x.fdiv (2 ^ min y.toNat k.bits)
def ZM (k:IntKind) (x:Int):Int:=k.wrap x
def SS (k:IntKind) (x y:Int):Int:=k.wrap (x.tdiv y)
def Se (x y:Int):Int:=x.tmod y
theorem aea:∃f:Int->Int->Bool,∀x y,f x y=decide (x<y):=⟨_,fun _ _=>rfl⟩
theorem aeb:∃f:Int->Int->Bool,∀x y,f x y=decide (x<=y):=⟨_,fun _ _=>rfl⟩
theorem aec:∃f:Int->Int->Bool,∀x y,f x y=(x == y):=⟨_,fun _ _=>rfl⟩
theorem aed:∃f:Int->Int->Bool,∀x y,f x y=(x != y):=⟨_,fun _ _=>rfl⟩
noncomputable def FB:Int->Int->Bool:=Classical.choose aea
noncomputable def I7:Int->Int->Bool:=Classical.choose aeb
noncomputable def K4:Int->Int->Bool:=Classical.choose aec
noncomputable def Fb:Int->Int->Bool:=Classical.choose aed
theorem Sd (x y:Int):FB x y=decide (x<y):=Classical.choose_spec aea x y
theorem Sc (x y:Int):I7 x y=decide (x<=y):=Classical.choose_spec aeb x y
theorem Sa (x y:Int):K4 x y=(x == y):=Classical.choose_spec aec x y
theorem R9 (x y:Int):Fb x y=(x != y):=Classical.choose_spec aed x y
attribute [irreducible] Ti SG Qe QX WG Xh ZM SS Se FB I7 K4 Fb
def Af:IntKind->IntKind->Bool
 | .i8,.i8|.i16,.i16|.i32,.i32|.i64,.i64|.u8,.u8|.u16,.u16|.u32,.u32|.u64,.u64=>true
 | _,_=>false
theorem aee {k k':IntKind} (h:Af k k'=true):k=k':=by cases k <;> cases k' <;> first|rfl|cases h
inductive Zg (P:Program) (m:Sem Value) (w:World) (K:Value->World->Prop):Prop
 | mk (v:Value) (w':World) (h:m.run P w=.ok v w') (k:K v w')
inductive HQ (P:Program) (m:Sem Unit) (w:World) (K:World->Prop):Prop
 | mk (w':World) (h:m.run P w=.ok () w') (k:K w')
structure Fc (P:Program) (f:FuncId) (args:Array Value) (w:World) (R:Value->World->Prop):Prop where
 agz:(callFunc f args).run P w=.ok (.enter f args) w
 calls:Calls P f args w fun e w'=>∃v,e=.returned v/\R v w'
inductive Z7 (P:Program) (f:FuncId) (args:Array Value) (w:World) (K:Value->World->Prop):Prop
 | mk (h:Fc P f args w K)
inductive JO (P:Program) (recv:Value) (name:String) (args:Array Value) (w:World) (K:Value->World->Prop):Prop
 | mk (f:FuncId) (r:Value) (w1:World) (t:TypeId) (v:Value) (hr:recv=.iface t v)
   (hm:(method (P.types.size+Made.depth) t v name).run P w=.ok (f,r) w1) (h:Fc P f (#[r]++args) w1 K)
def Nb (b:Bool) (k:Bool->Prop):Prop:=match b with
 | true=>k true
 | false=>k false
theorem SE (b:Bool) (k:Bool->Prop):Nb b k=k b:=by cases b <;> rfl
theorem br {b:Bool} {X Y:Prop} (t:b=true->X) (f:b=false->Y):Nb.match_1 (fun _=>Prop) b (fun _=>X) (fun _=>Y):=by
 cases b
 .exact f rfl
 .exact t rfl
theorem VT {b:Bool} {X Y:Prop} (h:b=true) (t:X):Nb.match_1 (fun _=>Prop) b (fun _=>X) (fun _=>Y):=by subst h;exact t
theorem Yh {b:Bool} {X Y:Prop} (h:b=false) (f:Y):Nb.match_1 (fun _=>Prop) b (fun _=>X) (fun _=>Y):=by subst h;exact f
inductive VW (b:Int) (K:Prop):Prop
 | mk (h:b≠0) (k:K)
inductive Zp (b:Int) (K:Prop):Prop
 | mk (h:0<=b) (k:K)
inductive X7 (e:Int) (K:Int->Prop):Prop
 | mk (m:Int) (h:e=m) (k:K m)
theorem X7.keep {e:Int} {K:Int->Prop} (k:K e):X7 e K:=⟨e,rfl,k⟩
theorem X7.imp {e:Int} {K K':Int->Prop} (h:X7 e K) (hk:∀m,K m->K' m):X7 e K':=by obtain ⟨m,e,k⟩:=h;exact ⟨m,e,hk _ k⟩
def R8 (op:BinOp) (k:IntKind) (a b:Int) (K:Value->Prop):Prop :=
 match op with
 | .add=>X7 (ZM k (a+b)) fun n=>K (.int k n)
 | .sub=>X7 (ZM k (a-b)) fun n=>K (.int k n)
 | .mul=>X7 (ZM k (a * b)) fun n=>K (.int k n)
 | .quo=>VW b (X7 (SS k a b) fun n=>K (.int k n))
 | .rem=>VW b (X7 (Se a b) fun n=>K (.int k n))
 | .and=>X7 (Ti k a b) fun n=>K (.int k n)
 | .or=>X7 (SG k a b) fun n=>K (.int k n)
 | .xor=>X7 (Qe k a b) fun n=>K (.int k n)
 | .andNot=>X7 (QX k a b) fun n=>K (.int k n)
 | .eql=>K (.bool (K4 a b))
 | .neq=>K (.bool (Fb a b))
 | .lss=>K (.bool (FB a b))
 | .leq=>K (.bool (I7 a b))
 | .gtr=>K (.bool (FB b a))
 | .geq=>K (.bool (I7 b a))
 | _=>False
def Hh (P:Program) (op:BinOp) (t:TypeId) (x y:Operand) (a b:Value) (w:World) (K:Value->World->Prop):Prop :=
 match a with
 | .int k a=>match b with
  | .int k' b=>match op with
   | .shl=>Zp b (X7 (WG k a b) fun n=>K (.int k n) w)
   | .shr=>Zp b (X7 (Xh k a b) fun n=>K (.int k n) w)
   | op=>match Af k k' with
    | true=>R8 op k a b fun v=>K v w
    | false=>False
  | b=>Zg P (do eqGuard op t x y (.int k a) b;binOp op t (.int k a) b) w K
 | a=>Zg P (do eqGuard op t x y a b;binOp op t a b) w K
def JN (l:yz):yz->(yz->Prop)->Prop :=
 List.rec (motive:=fun _=>yz->(yz->Prop)->Prop) (fun ys k=>k ys) (fun x _ ih ys k=>ih ys fun zs=>k (x::zs)) l
theorem adD (x:Value) (xs ys:yz) (k:yz->Prop):JN (x::xs) ys k=JN xs ys fun zs=>k (x::zs):=rfl
theorem NB (xs ys:yz) (k:yz->Prop):JN xs ys k=k (xs++ys):=by
 induction xs generalizing k with
 | nil=>rfl
 | cons x xs ih=>simp [adD,ih]
def PG (P:Program) (f:Value) (args:yz) (w:World) (K:Value->World->Prop):Prop :=
 match f with
 | .func fn first captured=>match fn with
  | .func id=>JN args captured.toList fun a=>JN first.toList a fun a=>Z7 P id a.toArray w K
  | _=>False
 | _=>False
def JM (l:yz):Nat->(Value->Prop)->Prop :=
 List.rec (motive:=fun _=>Nat->(Value->Prop)->Prop) (fun _ _=>False) (fun v _ ih n k=>Nat.rec (motive:=fun _=>Prop) (k v) (fun m _=>ih m k) n) l
theorem NA {l:yz} {n:Nat} {k:Value->Prop} (h:JM l n k):∃v,l[n]?=some v/\k v:=by
 induction l generalizing n with
 | nil=>exact h.elim
 | cons x r ih=>cases n with
  | zero=>exact ⟨x,rfl,h⟩
  | succ n=>simpa using ih (n:=n) h
theorem aef {l:yz} {n:Nat} {k k':Value->Prop} (h:JM l n k) (hk:∀v,k v->k' v):JM l n k':=by
 induction l generalizing n with
 | nil=>exact h.elim
 | cons x r ih=>cases n with
  | zero=>exact hk _ h
  | succ n=>exact ih (n:=n) h
def BW (P:Program) (op:UnOp) (a:Value) (w:World) (K:Value->World->Prop):Prop :=
 match op with
 | .not=>match a with
  | .bool b=>K (.bool (!b)) w
  | _=>False
 | .neg=>match a with
  | .int k n=>X7 (ZM k (0-n)) fun m=>K (.int k m) w
  | _=>False
 | op=>Zg P (Op.unary op a) w K
def akQ (P:Program) (src dst:TypeId) (a:Value) (w:World) (K:Value->World->Prop):Prop :=
 Zg P (convert src dst a) w K
def Hg (v:Value) (w:World) (K:Value->World->Prop):Prop :=
 match v with
 | .pointer p=>match p with
  | some a=>K (.pointer (some a)) w
  | none=>False
 | .func fn a b=>match fn with
  | .func f=>K (.func (.func f) a b) w
  | _=>False
 | .iface t x=>K (.iface t x) w
 | _=>False
def OE (ρ:yz) (l:List (Nat × Operand)):(List (Nat × Value)->Prop)->Prop :=
 List.rec (motive:=fun _=>(List (Nat × Value)->Prop)->Prop) (fun k=>k []) (fun p _ ih k=>match p with
  | (i,x)=>VE ρ x fun v=>ih fun vs=>k ((i,v)::vs)) l
theorem aa2 (ρ:yz) (i:Nat) (x:Operand) (r:List (Nat × Operand)) (k:List (Nat × Value)->Prop):OE ρ ((i,x)::r) k=VE ρ x fun v=>OE ρ r fun vs=>k ((i,v)::vs):=rfl
theorem OD (ρ:yz) (xs:List (Nat × Operand)) (k:List (Nat × Value)->Prop) :
  OE ρ xs k=k (xs.map fun (i,x)=>(i,ev ρ x)):=by
 induction xs generalizing k with
 | nil=>rfl
 | cons x r ih=>obtain ⟨i,x⟩:=x;simp [aa2,Sf,ih]
def K3 (ρ:yz):Option Operand->(Option Value->Prop)->Prop
 | none,k=>k none
 | some x,k=>VE ρ x fun v=>k (some v)
theorem K2 (ρ:yz) (x:Option Operand) (k:Option Value->Prop):K3 ρ x k=k (x.map (ev ρ)):=by
 cases x <;> simp [K3,Sf]
def GK (v:Value) (i:Nat) (w:World) (K:Value->World->Prop):Prop :=
 match v with
 | .tuple vs=>JM vs.toList i fun v=>K v w
 | _=>False
def JL (P:Program) (o:Oper) (ρ:yz) (w:World) (K:Value->World->Prop):Prop :=
 match o.op with
 | .move x=>VE ρ x fun v=>K v w
 | .assign x=>VE ρ x fun v=>K v w
 | .pick c a b=>VE ρ c fun c=>match c with
  | .bool c=>Nb c fun c=>match c with
   | true=>VE ρ a fun v=>K v w
   | false=>VE ρ b fun v=>K v w
  | _=>False
 | .alloc t=>Zg P (Instr.alloc t true (.tuple #[])) w K
 | .box t x=>VE ρ x fun v=>Zg P (Instr.box t v) w K
 | .build t parts=>OE ρ parts.toList fun vs=>Zg P (Instr.build t vs.toArray) w K
 | .buildSlice t n parts=>OE ρ parts.toList fun vs=>Zg P (Instr.buildSlice t n vs.toArray) w K
 | .load t x=>VE ρ x fun a=>Zg P (Instr.loadAt t a) w K
 | .store t x y=>VE ρ x fun a=>VE ρ y fun v=>HQ P (Instr.storeAt t a v) w (K undef)
 | .nilCheck x=>VE ρ x fun v=>Hg v w K
 | .binOp op t x y _=>VE ρ x fun a=>VE ρ y fun b=>Hh P op t x y a b w K
 | .unOp op _ x=>VE ρ x fun a=>BW P op a w K
 | .convert s d x=>VE ρ x fun a=>akQ P s d a w K
 | .makeInterface t x=>VE ρ x fun a=>Zg P (Instr.makeInterface t a) w K
 | .makeFunc fn first captured=>Tj ρ first.toList fun fs=>Tj ρ captured.toList fun cs=>K (.func fn fs.toArray cs.toArray) w
 | .makeSlice t l c=>VE ρ l fun l=>VE ρ c fun c=>Zg P (Instr.makeSlice t l c) w K
 | .slice t x lo hi mx=>VE ρ x fun a=>K3 ρ lo fun lo=>K3 ρ hi fun hi=>K3 ρ mx fun mx=>Zg P (Instr.sliceAt t a lo hi mx) w K
 | .fieldAddr t x f=>VE ρ x fun a=>Zg P (Instr.fieldAt t a f) w K
 | .field t x f=>VE ρ x fun a=>Zg P (Instr.field t a f) w K
 | .indexAddr t x i=>VE ρ x fun a=>VE ρ i fun i=>Zg P (Instr.indexAt t a i) w K
 | .index t x i=>VE ρ x fun a=>VE ρ i fun i=>Zg P (Instr.index t a i) w K
 | .extract x i=>VE ρ x fun v=>GK v i w K
 | .typeAssert x t u ok=>VE ρ x fun a=>Zg P (Instr.typeAssert a t u ok) w K
 | .call c=>match c.callee with
  | .value f=>VE ρ f fun f=>Tj ρ c.args.toList fun vs=>PG P f vs w K
  | .builtin .append=>Tj ρ c.args.toList fun vs=>Zg P (Builtin.append_ c.argTypes o.type vs.toArray) w K
  | .builtin .len=>Tj ρ c.args.toList fun vs=>Zg P (Builtin.len_ c.argTypes o.type vs.toArray) w K
  | .builtin .copy=>Tj ρ c.args.toList fun vs=>Zg P (Builtin.copy_ c.argTypes o.type vs.toArray) w K
  | .builtin .max=>Tj ρ c.args.toList fun vs=>Zg P (Builtin.max_ c.argTypes o.type vs.toArray) w K
  | .builtin .min=>Tj ρ c.args.toList fun vs=>Zg P (Builtin.min_ c.argTypes o.type vs.toArray) w K
  | .builtin .cap=>Tj ρ c.args.toList fun vs=>Zg P (Builtin.cap_ c.argTypes o.type vs.toArray) w K
  | .builtin .clear=>Tj ρ c.args.toList fun vs=>Zg P (Builtin.clear_ c.argTypes o.type vs.toArray) w K
  | .builtin .delete=>Tj ρ c.args.toList fun vs=>Zg P (Builtin.delete_ c.argTypes o.type vs.toArray) w K
  | .builtin .unsafeSliceData=>Tj ρ c.args.toList fun vs=>Zg P (Builtin.unsafeSliceData_ c.argTypes o.type vs.toArray) w K
  | .builtin .unsafeString=>Tj ρ c.args.toList fun vs=>Zg P (Builtin.unsafeString_ c.argTypes o.type vs.toArray) w K
  | .invoke r name=>VE ρ r fun r=>Tj ρ c.args.toList fun vs=>JO P r name vs.toArray w K
  | _=>False
 | .makeMap t r=>K3 ρ r fun r=>Zg P (Instr.makeMap t r) w K
 | .lookup t x i ok=>VE ρ x fun a=>VE ρ i fun i=>Zg P (Instr.lookup t a i ok) w K
 | .mapUpdate t m k x=>VE ρ m fun m=>VE ρ k fun k=>VE ρ x fun x=>HQ P (Instr.mapUpdate t m k x) w (K undef)
 | .range t x=>VE ρ x fun a=>Zg P (Instr.range t a) w K
 | .next it st=>VE ρ it fun a=>Zg P (Instr.next a st o.type) w K
 | .entry it=>VE ρ it fun a=>Zg P (Instr.entry a) w K
 | _=>False
theorem Zg.imp {P:Program} {m:Sem Value} {w:World} {K K':Value->World->Prop} (h:Zg P m w K) (hk:∀v w',K v w'->K' v w'):Zg P m w K':=by
 obtain ⟨v,w',h,k⟩:=h;exact ⟨v,w',h,hk _ _ k⟩
theorem HQ.imp {P:Program} {m:Sem Unit} {w:World} {K K':World->Prop} (h:HQ P m w K) (hk:∀w',K w'->K' w'):HQ P m w K':=by
 obtain ⟨w',h,k⟩:=h;exact ⟨w',h,hk _ k⟩
theorem Fc.imp {P:Program} {f:FuncId} {args:Array Value} {w:World} {R R':Value->World->Prop} (h:Fc P f args w R) (hk:∀v w',R v w'->R' v w'):Fc P f args w R' :=
 ⟨h.agz,h.calls.mono fun _ _ ⟨v,he,hr⟩=>⟨v,he,hk _ _ hr⟩⟩
theorem Z7.imp {P:Program} {f:FuncId} {args:Array Value} {w:World} {R R':Value->World->Prop} (h:Z7 P f args w R) (hk:∀v w',R v w'->R' v w'):Z7 P f args w R':=by
 obtain ⟨h⟩:=h;exact ⟨h.imp hk⟩
theorem JO.imp {P:Program} {r:Value} {n:String} {args:Array Value} {w:World} {R R':Value->World->Prop} (h:JO P r n args w R) (hk:∀v w',R v w'->R' v w'):JO P r n args w R':=by
 obtain ⟨f,r,w1,t,v,hr,hm,h⟩:=h;exact ⟨f,r,w1,t,v,hr,hm,h.imp hk⟩
theorem ab0 {op:BinOp} {k:IntKind} {a b:Int} {K K':Value->Prop} (h:R8 op k a b K) (hk:∀v,K v->K' v):R8 op k a b K':=by
 cases op <;> simp only [R8] at h⊢<;> first|exact hk _ h|exact h.imp fun m=>hk _|(obtain ⟨h,k⟩:=h;exact ⟨h,k.imp fun m=>hk _⟩)|exact h
theorem aeg {P:Program} {op:BinOp} {t:TypeId} {x y:Operand} {a b:Value} {w:World} {K K':Value->World->Prop}
  (h:Hh P op t x y a b w K) (hk:∀v w',K v w'->K' v w'):Hh P op t x y a b w K':=by
 unfold Hh at h ⊢
 split at h
 .split at h
  .split at h
   .obtain ⟨h,k⟩:=h;exact ⟨h,k.imp fun m=>hk _ _⟩
   .obtain ⟨h,k⟩:=h;exact ⟨h,k.imp fun m=>hk _ _⟩
   .split at h
    .exact ab0 h fun v=>hk v w
    .exact h
  .exact h.imp hk
 .exact h.imp hk
theorem agA {P:Program} {op:UnOp} {a:Value} {w:World} {K K':Value->World->Prop}
  (h:BW P op a w K) (hk:∀v w',K v w'->K' v w'):BW P op a w K':=by
 unfold BW at h ⊢
 split at h
 .split at h
  .grind
  .exact h
 .split at h
  .exact h.imp fun m=>hk _ _
  .exact h
 .exact h.imp hk
theorem aeh {a:Value} {w:World} {K K':Value->World->Prop}
  (h:Hg a w K) (hk:∀v w',K v w'->K' v w'):Hg a w K':=by
 unfold Hg at h ⊢
 split at h
 .split at h
  .grind
  .exact h
 .split at h
  .grind
  .exact h
 .grind
 .exact h
theorem aei {a:Value} {i:Nat} {w:World} {K K':Value->World->Prop}
  (h:GK a i w K) (hk:∀v w',K v w'->K' v w'):GK a i w K':=by
 unfold GK at h ⊢
 split at h
 .exact aef h fun v=>hk v w
 .exact h
theorem aa3 {P:Program} {f:Value} {vs:yz} {w:World} {K K':Value->World->Prop}
  (h:PG P f vs w K) (hk:∀v w',K v w'->K' v w'):PG P f vs w K':=by
 unfold PG at h ⊢
 simp only [NB] at h ⊢
 split at h
 .split at h
  .exact h.imp hk
  .exact h
 .exact h
theorem K1 {P:Program} {o:Oper} {ρ:yz} {w:World} {K K':Value->World->Prop}
  (h:JL P o ρ w K) (hk:∀v w',K v w'->K' v w'):JL P o ρ w K':=by
 unfold JL at h ⊢
 simp only [Sf,K5,OD,K2,SE] at h ⊢
 split at h <;> first
  | exact h.imp hk
  | exact hk _ _ h
  | exact aeg h hk
  | exact agA h hk
  | exact Zg.imp h hk
  | exact aeh h hk
  | exact aei h hk
  | exact h.imp fun w'=>hk _ w'
  | exact h
  | (split at h <;> first|exact aa3 h hk|exact Zg.imp h hk|exact JO.imp h hk|exact h|(split at h <;> exact hk _ _ h))
theorem YU {P:Program} {o:Oper} {a:Act} {m:Sem Value} {w:World} {next:Act->World->Prop} {Q:Exit->Act->World->Prop}
  (he:execOp a.eval o=(do pure (.value (<-m)))) (h:Zg P m w fun v w'=>next (a.put o.dst v) w'):o.wp P a w next Q:=by
 obtain ⟨v,w',hm,k⟩:=h
 simp only [Oper.wp,he,Sem.run_bind,hm,Result.andThen_ok,Sem.run_pure,Oper.upon]
 exact k
theorem U7 {P:Program} {o:Oper} {a:Act} {v:Value} {w w':World} {next:Act->World->Prop} {Q:Exit->Act->World->Prop}
  (he:(execOp a.eval o).run P w=.ok (.value v) w') (h:next (a.put o.dst v) w'):o.wp P a w next Q:=by grind [Oper.wp,Oper.upon]
theorem adE {P:Program} {o:Oper} {a:Act} {f:FuncId} {args:Array Value} {w:World} {next:Act->World->Prop} {Q:Exit->Act->World->Prop}
  (he:(execOp a.eval o).run P w=(callFunc f args).run P w) (h:Fc P f args w fun v w'=>next (a.put o.dst v) w'):o.wp P a w next Q:=by
 obtain ⟨h1,h2⟩:=h
 simp only [Oper.wp,he,h1,Oper.upon]
 refine h2.mono ?_
 rintro e w' ⟨v,rfl,hr⟩
 exact hr
theorem aaV {P:Program} {op:BinOp} {k:IntKind} {t:TypeId} {x y:Operand} {a b:Int} {w:World} {K:Value->Prop} (anh:op≠.shl) (ani:op≠.shr)
  (h:R8 op k a b K):Zg P (do eqGuard op t x y (.int k a) (.int k b);binOp op t (.int k a) (.int k b)) w fun v w'=>w'=w/\K v:=by
 have hg:(eqGuard op t x y (.int k a) (.int k b)).run P w=.ok () w:=by simp [eqGuard]
 cases op <;> simp only [R8] at h <;> first
  | (obtain ⟨hb,_,rfl,h⟩:=h;refine ⟨_,w,?_,rfl,h⟩;simp only [Sem.run_bind,hg,Result.andThen_ok];simp [binOp,Op.intDiv,hb,SS,Se])
  | (obtain ⟨_,rfl,h⟩:=h;refine ⟨_,w,?_,rfl,h⟩;simp only [Sem.run_bind,hg,Result.andThen_ok];simp [binOp,Op.intArith,Op.intBits,Op.intCmp,ZM,Ti,SG,Qe,QX,Sa,R9,Sd,Sc])
  | (refine ⟨_,w,?_,rfl,h⟩;simp only [Sem.run_bind,hg,Result.andThen_ok];simp [binOp,Op.intArith,Op.intBits,Op.intCmp,ZM,Ti,SG,Qe,QX,Sa,R9,Sd,Sc])
  | contradiction
  | exact h.elim
theorem ab1 {P:Program} {op:BinOp} {t:TypeId} {x y:Operand} {a b:Value} {w:World} {K:Value->World->Prop}
  (h:Hh P op t x y a b w K):Zg P (do eqGuard op t x y a b;binOp op t a b) w K:=by
 unfold Hh at h
 split at h
 .split at h
  .split at h
   .obtain ⟨hb,_,rfl,h⟩:=h
    refine ⟨_,w,?_,h⟩
    simp only [eqGuard,Sem.run_bind];simp [binOp,Op.shift,WG,Int.not_lt.2 hb]
   .obtain ⟨hb,_,rfl,h⟩:=h
    refine ⟨_,w,?_,h⟩
    simp only [eqGuard,Sem.run_bind];simp [binOp,Op.shift,Xh,Int.not_lt.2 hb]
   .rename_i TS hk2
    split at h
    .rename_i hk
     obtain rfl:=aee hk
     exact (aaV (fun e=>TS e) (fun e=>hk2 e) h).imp fun v w' ⟨e,k⟩=>e ▸ k
    .exact h.elim
  .exact h
 .exact h
theorem TY {P:Program} {o:Oper} {ρ:yz} {w:World} {K:Value->World->Prop} {next:Act->World->Prop} {Q:Exit->Act->World->Prop}
  (h:JL P o ρ w K) (hn:∀v w',K v w'->next ((⟨ρ.toArray,[]⟩:Act).put o.dst v) w'):o.wp P ⟨ρ.toArray,[]⟩ w next Q:=by
 have h:=K1 h hn
 clear hn
 unfold JL at h
 simp only [Sf,K5,OD,K2,SE] at h
 split at h
 case h_1 x ho=>exact U7 (v:=ev ρ x) (w':=w) (by rw [Yl];unfold execOp;rw [ho];rfl) h
 case h_2 x ho=>exact U7 (v:=ev ρ x) (w':=w) (by rw [Yl];unfold execOp;rw [ho];rfl) h
 case h_3 c a b ho =>
  split at h
  .rename_i cb hc
   split at h
   .exact U7 (v:=ev ρ a) (w':=w) (by rw [Yl];unfold execOp;rw [ho];simp [hc,asBool]) h
   .exact U7 (v:=ev ρ b) (w':=w) (by rw [Yl];unfold execOp;rw [ho];simp [hc,asBool]) h
  .grind
 case h_4 t ho=>exact YU (by grind [execOp]) h
 case h_5 t x ho=>exact YU k_m h
 case h_6 t ps ho =>
  refine YU (m:=Instr.build t ((ps.toList.map fun (i,x)=>(i,ev ρ x)).toArray)) (by rw [Yl];unfold execOp;rw [ho];simp [<-Array.toList_map]) h
 case h_7 t n ps ho =>
  refine YU (m:=Instr.buildSlice t n ((ps.toList.map fun (i,x)=>(i,ev ρ x)).toArray)) (by rw [Yl];unfold execOp;rw [ho];simp [<-Array.toList_map]) h
 case h_8 t x ho=>exact YU k_m h
 case h_9 t x y ho =>
  obtain ⟨w',hm,k⟩:=h
  have he:(execOp (⟨ρ.toArray,[]⟩:Act).eval o).run P w=.ok .skip w':=by
   rw [Yl];unfold execOp;rw [ho];simp only [Sem.run_bind,hm,Result.andThen_ok,Sem.run_pure]
  simp only [Oper.wp,he,Oper.upon]
  exact k
 case h_10 x ho =>
  have he:∀u,Hg (ev ρ x) w u->∃v,(execOp (ev ρ) o).run P w=.ok (.value v) w/\u v w:=by
   intro u hu
   unfold Hg at hu
   unfold execOp
   rw [ho]
   simp only
   split at hu
   .rename_i p hp
    split at hu
    .exact ⟨_,by rw [hp];rfl,hu⟩
    .grind
   .rename_i fn a b hp
    split at hu
    .exact ⟨_,by rw [hp];rfl,hu⟩
    .grind
   .rename_i t v hp
    exact ⟨_,by rw [hp];rfl,hu⟩
   .grind
  obtain ⟨v,h1,h2⟩:=he _ h
  exact U7 (by grind [Yl]) h2
 case h_11 op t x y yt ho=>exact YU k_m (ab1 h)
 case h_12 op t x ho =>
  unfold BW at h
  split at h
  .split at h
   .rename_i b hb
    refine U7 (v:=.bool (!b)) (w':=w) ?_ h
    rw [Yl];unfold execOp;rw [ho];simp [hb,Op.unary]
   .grind
  .split at h
   .rename_i k n hb
    obtain ⟨_,rfl,h⟩:=h
    refine U7 (v:=.int k (ZM k (0-n))) (w':=w) ?_ h
    rw [Yl];unfold execOp;rw [ho];simp [hb,Op.unary,Op.intArith,ZM]
   .grind
  .exact YU k_m h
 case h_13 s d x ho=>exact YU k_m h
 case h_14 t x ho=>exact YU k_m h
 case h_15 fn fs cs ho =>
  refine U7 (w':=w) ?_ h
  rw [Yl];unfold execOp;rw [ho];simp [Instr.makeFunc,<-Array.toList_map]
 case h_16 t l c ho=>exact YU k_m h
 case h_17 t x lo hi mx ho=>exact YU k_m h
 case h_18 t x f ho=>exact YU k_m h
 case h_19 t x f ho=>exact YU k_m h
 case h_20 t x i ho=>exact YU k_m h
 case h_21 t x i ho=>exact YU k_m h
 case h_22 x i ho =>
  unfold GK at h
  split at h
  .rename_i vs hv
   obtain ⟨u,hu,h⟩:=NA h
   refine U7 (v:=u) (w':=w) ?_ h
   rw [Yl];unfold execOp;rw [ho]
   simp only [Array.getElem?_toList] at hu
   simp [hv,Instr.extract,hu]
  .grind
 case h_23 x t u ok ho=>exact YU k_m h
 case h_24 c ho =>
  have hargs:∀(xs:Array Operand),(xs.toList.map (ev ρ)).toArray=xs.map (ev ρ):=fun xs=>by simp [<-Array.toList_map]
  split at h
  .rename_i f hf
   unfold PG at h
   simp only [NB] at h
   split at h
   .rename_i fn fst cap hv
    split at h
    .rename_i id
     obtain ⟨h⟩:=h
     refine adE (f:=id) ?_ h
     have he:(fst.toList++(List.map (ev ρ) c.args.toList++cap.toList)).toArray=fst++Array.map (ev ρ) c.args++cap:=by simp
     rw [Yl];unfold execOp;rw [ho]
     simp only [resolve,hf,hv,Deferred.ofValue,Sem.run_bind,Sem.run_pure,Result.andThen_ok,invoke,he]
    .grind
   .grind
  .rename_i hc
   refine YU (m:=Builtin.append_ c.argTypes o.type (c.args.map (ev ρ))) ?_ k_v
   rw [Yl];unfold execOp;rw [ho];simp only [resolve,hc,pure_bind,invoke,builtin]
  .rename_i hc
   refine YU (m:=Builtin.len_ c.argTypes o.type (c.args.map (ev ρ))) ?_ k_v
   rw [Yl];unfold execOp;rw [ho];simp only [resolve,hc,pure_bind,invoke,builtin]
  .rename_i hc
   refine YU (m:=Builtin.copy_ c.argTypes o.type (c.args.map (ev ρ))) ?_ k_v
   rw [Yl];unfold execOp;rw [ho];simp only [resolve,hc,pure_bind,invoke,builtin]
  .rename_i hc
   refine YU (m:=Builtin.max_ c.argTypes o.type (c.args.map (ev ρ))) ?_ k_v
   rw [Yl];unfold execOp;rw [ho];simp only [resolve,hc,pure_bind,invoke,builtin]
  .rename_i hc
   refine YU (m:=Builtin.min_ c.argTypes o.type (c.args.map (ev ρ))) ?_ k_v
   rw [Yl];unfold execOp;rw [ho];simp only [resolve,hc,pure_bind,invoke,builtin]
  .rename_i hc
   refine YU (m:=Builtin.cap_ c.argTypes o.type (c.args.map (ev ρ))) ?_ k_v
   rw [Yl];unfold execOp;rw [ho];simp only [resolve,hc,pure_bind,invoke,builtin]
  .rename_i hc
   refine YU (m:=Builtin.clear_ c.argTypes o.type (c.args.map (ev ρ))) ?_ k_v
   rw [Yl];unfold execOp;rw [ho];simp only [resolve,hc,pure_bind,invoke,builtin]
  .rename_i hc
   refine YU (m:=Builtin.delete_ c.argTypes o.type (c.args.map (ev ρ))) ?_ k_v
   rw [Yl];unfold execOp;rw [ho];simp only [resolve,hc,pure_bind,invoke,builtin]
  .rename_i hc
   refine YU (m:=Builtin.unsafeSliceData_ c.argTypes o.type (c.args.map (ev ρ))) ?_ k_v
   rw [Yl];unfold execOp;rw [ho];simp only [resolve,hc,pure_bind,invoke,builtin]
  .rename_i hc
   refine YU (m:=Builtin.unsafeString_ c.argTypes o.type (c.args.map (ev ρ))) ?_ k_v
   rw [Yl];unfold execOp;rw [ho];simp only [resolve,hc,pure_bind,invoke,builtin]
  .rename_i r name hc
   obtain ⟨f,rv,w1,t,v,hr,hm,h⟩:=h
   obtain ⟨h1,h2⟩:=h
   have he:(execOp (⟨ρ.toArray,[]⟩:Act).eval o).run P w=.ok (.enter f (#[rv]++(c.args.toList.map (ev ρ)).toArray)) w1:=by
    rw [Yl];unfold execOp;rw [ho]
    simp only [resolve,hc,pure_bind,invoke,hr]
    have e1:(#[Value.iface t v]++Array.map (ev ρ) c.args)[0]?=some (.iface t v):=by grind
    have e2:(#[Value.iface t v]++Array.map (ev ρ) c.args).extract 1 (#[Value.iface t v]++Array.map (ev ρ) c.args).size=Array.map (ev ρ) c.args:=by simp
    simp only [e1,e2,callMethod]
    have e3:∀(k:FuncId × Value->Sem Next),(do let __do_lift <-program;let x <-method (__do_lift.types.size+Made.depth) t v name;k x:Sem Next).run P w=(k (f,rv)).run P w1:=by
     intro k
     show (method (P.types.size+Made.depth) t v name >>= fun x=>k x).run P w=_
     rw [Sem.run_bind,hm];rfl
    rw [hargs] at h1 ⊢
    exact (e3 _).trans h1
   simp only [Oper.wp,he,Oper.upon]
   refine h2.mono ?_
   rintro e w' ⟨v,rfl,hr⟩
   exact hr
  .grind
 case h_25 t r ho=>exact YU k_m h
 case h_26 t x i ok ho=>exact YU k_m h
 case h_27 t m k x ho =>
  obtain ⟨w',hm,k⟩:=h
  have he:(execOp (⟨ρ.toArray,[]⟩:Act).eval o).run P w=.ok .skip w':=by
   rw [Yl];unfold execOp;rw [ho];simp only [Sem.run_bind,hm,Result.andThen_ok,Sem.run_pure]
  simp only [Oper.wp,he,Oper.upon]
  exact k
 case h_28 t x ho=>exact YU k_m h
 case h_29 it st ho=>exact YU k_m h
 case h_30 it ho=>exact YU k_m h
 case h_31=>exact h.elim
def XN (ops:List Oper) (g:Option (Nat × Bool)) (ρ:yz) (k:Bool->yz->Prop):Prop :=
 match g with
 | none=>k true ρ
 | some (j,want)=>match ops[j]? with
  | none=>False
  | some oj=>match oj.dst with
   | none=>False
   | some d=>DK ρ d fun v=>match v with
    | .bool b=>Nb b fun b=>HR ρ d (.bool b) fun ρ=>match b with
     | true=>match want with
      | true=>k true ρ
      | false=>k false ρ
     | false=>match want with
      | true=>k false ρ
      | false=>k true ρ
    | .tuple _=>k false ρ
    | _=>False
def LU (P:Program) (ops:List Oper) (K:yz->World->Prop) (l:List Oper):yz->World->Prop :=
 List.rec (motive:=fun _=>yz->World->Prop) K (fun o _ ih ρ w=>XN ops o.guard ρ fun b ρ=>match b with
  | true=>JL P o ρ w fun v w=>WN ρ o.dst v fun ρ=>ih ρ w
  | false=>WN ρ o.dst undef fun ρ=>ih ρ w) l
theorem aej (P:Program) (ops:List Oper) (K:yz->World->Prop) (ρ:yz) (w:World):LU P ops K [] ρ w=K ρ w:=rfl
theorem OC (P:Program) (ops:List Oper) (K:yz->World->Prop) (o:Oper) (r:List Oper) (ρ:yz) (w:World):LU P ops K (o::r) ρ w=XN ops o.guard ρ fun b ρ=>match b with
  | true=>JL P o ρ w fun v w=>WN ρ o.dst v fun ρ=>LU P ops K r ρ w
  | false=>WN ρ o.dst undef fun ρ=>LU P ops K r ρ w:=rfl
def U6 (next:yz->World->Prop) (Q:Exit->yz->World->Prop) (e:Exit) (ρ:yz) (w:World):Prop :=
 match e with
 | .normal=>next ρ w
 | e=>Q e ρ w
def SQ (id:Nat) (Q:Exit->yz->World->Prop) (e:Exit) (ρ:yz) (w:World):Prop :=
 match e with
 | .exit id'=>match id' == id with
  | true=>Q .normal ρ w
  | false=>Q (.exit id') ρ w
 | e=>Q e ρ w
def QW (Q:Exit->yz->World->Prop) (e:Exit) (ρ:yz) (w:World):Prop :=
 match e with
 | .goto _=>False
 | e=>Q e ρ w
def PF (l:Nat) (J:yz->World->Prop) (Q:Exit->yz->World->Prop) (e:Exit) (ρ:yz) (w:World):Prop :=
 match e with
 | .goto l'=>l'=l/\J ρ w
 | e=>Q e ρ w
abbrev I6:=(Exit->yz->World->Prop)->yz->World->Prop
inductive Zd (P:Program) (c:Code) (B:I6) (Q:Exit->yz->World->Prop) (ρ:yz) (w:World):Prop
 | mk (I:yz->World->Prop) (μ:yz->World->Nat) (h0:I ρ w)
   (round:∀ρ w,I ρ w->B (U6 (fun ρ' w'=>I ρ' w'/\μ ρ' w'<μ ρ w) Q) ρ w)
inductive Na (P:Program) (x y:Code) (B C:I6) (b:Bool) (Q:Exit->yz->World->Prop) (ρ:yz) (w:World):Prop
 | mk (t:b=true->B Q ρ w) (f:b=false->C Q ρ w)
inductive Fa (P:Program) (c:Code) (B:I6) (id:Nat) (Q:Exit->yz->World->Prop) (ρ:yz) (w:World):Prop
 | mk (h:B (SQ id Q) ρ w)
theorem cT {P:Program} {x y:Code} {B C:I6} {b:Bool} {Q:Exit->yz->World->Prop} {ρ:yz} {w:World} (h:b=true) (k:B Q ρ w):Na P x y B C b Q ρ w :=
 ⟨fun _=>k,fun e=>(by grind)⟩
theorem cF {P:Program} {x y:Code} {B C:I6} {b:Bool} {Q:Exit->yz->World->Prop} {ρ:yz} {w:World} (h:b=false) (k:C Q ρ w):Na P x y B C b Q ρ w :=
 ⟨fun e=>(by grind),fun _=>k⟩
theorem cI {P:Program} {x y:Code} {B C:I6} {b:Bool} {Q:Exit->yz->World->Prop} {ρ:yz} {w:World} (t:b=true->B Q ρ w) (f:b=false->C Q ρ w):Na P x y B C b Q ρ w:=⟨t,f⟩
theorem bk {P:Program} {c:Code} {B:I6} {id:Nat} {Q:Exit->yz->World->Prop} {ρ:yz} {w:World} (h:B (SQ id Q) ρ w):Fa P c B id Q ρ w:=⟨h⟩
def Yq (ops:List Oper):List Nat:=ops.filterMap fun o=>o.dst
def agree (ds:List Nat) (ρ ρ':yz):Prop:=ρ'.length=ρ.length/\∀i,i∉ds->ρ'[i]?=ρ[i]?
def VA:Code->List Nat
 | .seq x y=>VA x++VA y
 | .cond _ x y=>VA x++VA y
 | .block _ c=>VA c
 | .loop c=>VA c
 | .scope c=>VA c
 | .region _ ops _=>Yq ops.toList
 | _=>[]
theorem aa4 {l:Nat}:∀{c rest:Code},findLabel c l=some rest->∀i,i∈VA rest->i∈VA c:=by
 intro c
 induction c with
 | seq x y IY HP =>
  intro rest h i hi
  unfold findLabel at h
  cases hx:findLabel x l with
  | some r =>
   rw [hx] at h
   obtain rfl:=Option.some.inj h
   rcases lHa.1 hi with hi|hi
   .exact lqb _ (IY hx i hi)
   .exact lGb _ hi
  | none=>rw [hx] at h;exact lGb _ (HP h i hi)
 | label l' =>
  intro rest h i hi
  unfold findLabel at h
  split at h
  .obtain rfl:=Option.some.inj h;cases hi
  .cases h
 | _=>intro rest h;simp [findLabel] at h
def lift (Q:Exit->yz->World->Prop) (e:Exit) (a:Act) (w:World):Prop:=a.defers=[]/\Q e a.tmps.toList w
structure anj (P:Program) (c:Code) (M:I6):Prop where
 sound:∀{Q:Exit->yz->World->Prop} {ρ:yz} {w:World},M Q ρ w->c.wp P (lift Q) ⟨ρ.toArray,[]⟩ w
 imp:∀{Q Q':Exit->yz->World->Prop} {ρ:yz} {w:World},M Q ρ w->(∀e ρ w,Q e ρ w->Q' e ρ w)->M Q' ρ w
 frame:∀{Q:Exit->yz->World->Prop} {ρ:yz} {w:World},M Q ρ w->M (fun e ρ' w'=>Q e ρ' w'/\agree (VA c) ρ ρ') ρ w
inductive aek (P:Program) (c:Code) (B:I6) (Q:Exit->yz->World->Prop) (ρ:yz) (w:World):Prop
 | Rw (h:B (QW Q) ρ w)
 | jumps (l:Nat) (rest:Code) (M:I6) (hM:anj P rest M) (J:yz->World->Prop) (μ:yz->World->Nat) (hf:findLabel c l=some rest) (first:B (PF l J Q) ρ w)
   (pass:∀ρ w,J ρ w->M (PF l (fun ρ' w'=>J ρ' w'/\μ ρ' w'<μ ρ w) Q) ρ w)
inductive M9 (P:Program) (id:Nat) (ops:Array Oper) (K:yz->World->Prop) (ρ:yz) (w:World):Prop
 | mk (h:(Code.region id ops true).wp P (fun e a w'=>e=.normal/\a.defers=[]/\agree (Yq ops.toList) ρ a.tmps.toList/\K a.tmps.toList w') ⟨ρ.toArray,[]⟩ w)
def L2 (P:Program) (c:Code):I6 :=
 Code.rec (motive:=fun _=>I6)
  (fun Q ρ w=>Q .normal ρ w)
  (fun id ops draw Q ρ w=>match draw with
   | false=>LU P ops.toList (Q .normal) ops.toList ρ w
   | true=>M9 P id ops (Q .normal) ρ w)
  (fun _ _ IY HP Q ρ w=>IY (U6 (HP Q) Q) ρ w)
  (fun c x y IY HP Q ρ w=>VE ρ c fun v=>match v with
   | .bool b=>Na P x y IY HP b Q ρ w
   | _=>False)
  (fun id c ih Q ρ w=>match c with
   | .loop _=>ih (SQ id Q) ρ w
   | c=>Fa P c ih id Q ρ w)
  (fun c ih Q ρ w=>Zd P c ih Q ρ w)
  (fun _ _ _ _ _ _ _ _ _=>False)
  (fun id Q ρ w=>Q (.exit id) ρ w)
  (fun c ih Q ρ w=>aek P c ih Q ρ w)
  (fun _ Q ρ w=>Q .normal ρ w)
  (fun l Q ρ w=>Q (.goto l) ρ w)
  (fun Q ρ w=>Q .ret ρ w)
  (fun _ _ _ _=>False) c
section
variable (P:Program) (Q:Exit->yz->World->Prop) (ρ:yz) (w:World)
theorem KZ (x y:Code):L2 P (.seq x y) Q ρ w=L2 P x (U6 (L2 P y Q) Q) ρ w:=rfl
theorem M8 (c:Operand) (x y:Code):L2 P (.cond c x y) Q ρ w=VE ρ c fun v=>match v with
   | .bool b=>Na P x y (L2 P x) (L2 P y) b Q ρ w
   | _=>False:=rfl
theorem OB (id:Nat) (c:Code):L2 P (.block id c) Q ρ w↔L2 P c (SQ id Q) ρ w:=by
 have h:Fa P c (L2 P c) id Q ρ w↔L2 P c (SQ id Q) ρ w:=⟨fun ⟨h⟩=>h,fun h=>⟨h⟩⟩
 cases c <;> first|exact h|exact Iff.rfl
end
theorem OA {P:Program} {Q:Exit->yz->World->Prop} {ρ:yz} {w:World} (c:Code):L2 P (.scope c) Q ρ w=aek P c (L2 P c) Q ρ w:=rfl
theorem aa5 {Q Q':Exit->yz->World->Prop} (hq:∀e ρ w,Q e ρ w->Q' e ρ w):∀e ρ w,QW Q e ρ w->QW Q' e ρ w:=fun e ρ w h=>by
 cases e <;> simp only [QW] at h⊢<;> exact hq _ _ _ h
theorem aax {l:Nat} {J J':yz->World->Prop} {Q Q':Exit->yz->World->Prop} (hj:∀ρ w,J ρ w->J' ρ w) (hq:∀e ρ w,Q e ρ w->Q' e ρ w):∀e ρ w,PF l J Q e ρ w->PF l J' Q' e ρ w:=fun e ρ w h=>by
 cases e <;> simp only [PF] at h⊢<;> first|exact ⟨h.1,hj _ _ h.2⟩|exact hq _ _ _ h
theorem Oz {P:Program} {x y:Code} {B C:I6} {b:Bool} {Q:Exit->yz->World->Prop} {ρ:yz} {w:World}:Na P x y B C b Q ρ w↔if b then B Q ρ w else C Q ρ w:=by
 constructor
 .rintro ⟨t,f⟩;cases b
  .grind
  .grind
 .intro h;cases b
  .exact cF rfl h
  .exact cT rfl h
theorem aan {ops:List Oper} {g:Option (Nat × Bool)} {ρ:yz} {k k':Bool->yz->Prop} (h:XN ops g ρ k) (hk:∀b ρ,k b ρ->k' b ρ):XN ops g ρ k':=by
 unfold XN at h ⊢
 split at h
 .grind
 .simp only [OF,SU,SE] at h ⊢
  split at h
  .omega
  .split at h
   .omega
   .split at h
    .split at h <;> (split at h <;> exact hk _ _ h)
    .grind
    .omega
theorem ael {P:Program} {ops:List Oper} {K K':yz->World->Prop} (hk:∀ρ w,K ρ w->K' ρ w) (l:List Oper) :
  ∀{ρ:yz} {w:World},LU P ops K l ρ w->LU P ops K' l ρ w:=by
 induction l with
 | nil=>exact fun h=>hk _ _ h
 | cons o r ih =>
  intro ρ w h
  simp only [OC] at h ⊢
  refine aan h fun b ρ h=>?_
  cases b
  .simp only [XV] at h ⊢;exact ih h
  .simp only [XV] at h ⊢;exact K1 h fun v w h=>ih h
theorem Vu {P:Program} (c:Code):∀{Q Q':Exit->yz->World->Prop} {ρ:yz} {w:World},L2 P c Q ρ w->(∀e ρ w,Q e ρ w->Q' e ρ w)->L2 P c Q' ρ w:=by
 induction c with
 | skip=>exact fun h hq=>hq _ _ _ h
 | label l=>exact fun h hq=>hq _ _ _ h
 | exit i=>exact fun h hq=>hq _ _ _ h
 | ret=>exact fun h hq=>hq _ _ _ h
 | seq x y IY HP =>
  intro Q Q' ρ w h hq
  simp only [KZ] at h ⊢
  refine IY h fun e ρ w he=>?_
  cases e <;> simp only [U6] at he⊢<;> first|exact HP he hq|exact hq _ _ _ he
 | cond c x y IY HP =>
  intro Q Q' ρ w h hq
  simp only [M8,Sf,Oz] at h ⊢
  split at h
  .grind
  .omega
 | block id c ih =>
  intro Q Q' ρ w h hq
  rw [OB] at h ⊢
  refine ih h fun e ρ w he=>?_
  cases e <;> simp only [SQ] at he⊢<;> first|exact hq _ _ _ he|(split at he <;> exact hq _ _ _ he)
 | region id ops draw =>
  intro Q Q' ρ w h hq
  cases draw
  .exact ael (fun ρ w=>hq .normal ρ w) _ h
  .obtain ⟨h⟩:=h
   exact ⟨Code.wp_mono (fun e a w ⟨h1,h2,h3,h4⟩=>⟨h1,h2,h3,hq _ _ _ h4⟩) h⟩
 | loop c ih =>
  intro Q Q' ρ w h hq
  obtain ⟨I,μ,h0,hr⟩:=h
  refine ⟨I,μ,h0,fun ρ w hI=>ih (hr ρ w hI) fun e ρ w he=>?_⟩
  cases e <;> simp only [U6] at he⊢<;> first|exact hq _ _ _ he|exact he
 | rangeFunc=>exact fun h=>h.elim
 | scope c ih =>
  intro Q Q' ρ w h hq
  rw [OA] at h ⊢
  cases h with
  | Rw h=>exact .Rw (ih h (aa5 hq))
  | jumps l rest M hM J μ hf first pass=>exact .jumps l rest M hM J μ hf (ih first (aax (fun _ _ h=>h) hq)) fun ρ w hJ=>hM.imp (pass ρ w hJ) (aax (fun _ _ h=>h) hq)
 | goto=>exact fun h hq=>hq _ _ _ h
 | refuse=>exact fun h=>h.elim
theorem Nz {a:Act} (h:a.defers=[]):a=⟨a.tmps.toList.toArray,[]⟩:=by
 cases a;simp only at h;subst h;simp
theorem XK {ops:Array Oper} {o:Oper} {ρ:yz} {k:Bool->yz->Prop} (h:XN ops.toList o.guard ρ k) :
  ∃b,Region.wanted o (yielded ops ρ.toArray)=b/\k b ρ:=by
 unfold XN at h
 split at h
 .grind [Region.wanted]
 .rename_i j want hg
  simp only [OF,SU,SE] at h
  split at h
  .grind
  .rename_i oj hj
   split at h
   .grind
   .rename_i d hd
    split at h
    .rename_i b hb
     have Wy:ρ.set d (.bool b)=ρ:=by
      apply lJa
      intro i
      rw [lPa]
      split
      .rename_i e;subst e
       by_cases hl:d<ρ.length
       .rw [if_pos hl]
        rw [PI] at hb
        simp only [Array.getD_eq_getD_getElem?,List.getElem?_toArray] at hb
        rw [laa hl] at hb ⊢
        simp only [Option.getD_some] at hb
        rw [hb]
       .grind
      .rfl
     have hy:yielded ops ρ.toArray j=some b:=by
      have hl:d<ρ.length:=by grind [PI,Array.getD_eq_getD_getElem?,List.getElem?_eq_none,undef]
      rw [PI] at hb
      simp only [Array.getD_eq_getD_getElem?,List.getElem?_toArray,List.getElem?_eq_getElem hl,Option.getD_some] at hb
      simp only [Array.getElem?_toList] at hj
      simp [yielded,hj,hd,List.getElem?_eq_getElem hl,hb]
     rw [Wy] at h
     cases b <;> cases want <;> simp only at h <;> exact ⟨_,by simp [Region.wanted,hg,hy],h⟩
    .rename_i vs hb
     refine ⟨false,?_,h⟩
     have hy:yielded ops ρ.toArray j=none:=by
      simp only [Array.getElem?_toList] at hj
      rw [PI] at hb
      simp only [yielded,hj,Option.bind_some,hd]
      cases hl:ρ[d]? with
      | none=>simp [hl]
      | some v =>
       simp [Array.getD_eq_getD_getElem?,hl] at hb
       simp [hl,hb]
     simp [Region.wanted,hg,hy]
    .grind
theorem ab2 {P:Program} {ops:Array Oper} {Q:Exit->yz->World->Prop} (l:List Oper) :
  ∀{ρ:yz} {w:World},LU P ops.toList (Q .normal) l ρ w->wpList P ops (lift Q) l ⟨ρ.toArray,[]⟩ w:=by
 induction l with
 | nil=>exact fun h=>⟨rfl,by simpa [aej] using h⟩
 | cons o r ih =>
  intro ρ w h
  simp only [OC,XV] at h
  obtain ⟨b,hb,h⟩:=XK h
  unfold wpList
  cases b
  .rw [if_neg (by simp [hb]),put_eq]
   exact ih h
  .rw [if_pos hb]
   exact .inl (TY h fun v w' h=>by rw [put_eq];exact ih h)
theorem adF {P:Program} (c:Code):∀{Q:Exit->yz->World->Prop} {ρ:yz} {w:World},L2 P c Q ρ w->c.wp P (lift Q) ⟨ρ.toArray,[]⟩ w:=by
 induction c with
 | skip=>exact fun h=>wp_skip ⟨rfl,h⟩
 | label l=>exact fun h=>wp_label ⟨rfl,h⟩
 | exit i=>exact fun h=>wp_exit ⟨rfl,h⟩
 | ret=>exact fun h=>wp_ret ⟨rfl,h⟩
 | seq x y IY HP =>
  intro Q ρ w h
  simp only [KZ] at h
  refine wp_seq (wp_mono (IY h) ?_)
  rintro e a w ⟨hd,he⟩
  cases e <;> simp only [U6] at he <;> simp only [Exit.then]
  .grind [Nz]
  all_goals exact ⟨hd,he⟩
 | cond c x y IY HP =>
  intro Q ρ w h
  simp only [M8,Sf,Oz] at h
  split at h
  .rename_i b hb
   refine wp_cond (t:=b) (by rw [Yl];exact hb) ?_
   split at h
   .grind
   .grind
  .grind
 | block id c ih =>
  intro Q ρ w h
  rw [OB] at h
  refine wp_block (wp_mono (ih h) ?_)
  rintro e a w ⟨hd,he⟩
  cases e <;> simp only [SQ] at he <;> simp only [Exit.inBlock]
  case exit id' =>
   by_cases hi:id'=id
   .subst hi;simp only [beq_self_eq_true] at he;rw [if_pos rfl];exact ⟨hd,he⟩
   .have:(id' == id)=false:=by grind
    simp only [this] at he;rw [if_neg hi];exact ⟨hd,he⟩
  all_goals exact ⟨hd,he⟩
 | region id ops draw =>
  intro Q ρ w h
  cases draw
  .exact wp_region_list (ab2 _ h)
  .obtain ⟨h⟩:=h
   exact wp_mono h fun e a w ⟨h1,h2,_,h4⟩=>by subst h1;exact ⟨h2,h4⟩
 | loop c ih =>
  intro Q ρ w h
  obtain ⟨I,μ,h0,hr⟩:=h
  refine wp_loop (fun a w=>a.defers=[]/\I a.tmps.toList w) (fun a w=>μ a.tmps.toList w) ⟨rfl,h0⟩ ?_
  rintro a w ⟨hd,hI⟩
  rw [Nz hd]
  refine wp_mono (ih (hr _ _ hI)) ?_
  rintro e a' w' ⟨hd',he⟩
  cases e <;> simp only [U6] at he <;> simp only [Exit.then]
  .grind
  all_goals exact ⟨hd',he⟩
 | rangeFunc=>exact fun h=>h.elim
 | scope c ih =>
  intro Q ρ w h
  rw [OA] at h
  cases h with
  | Rw h =>
   refine wp_scope_straight (wp_mono (ih h) ?_)
   rintro e a w ⟨hd,he⟩
   cases e <;> simp only [QW] at he <;> exact ⟨hd,he⟩
  | jumps l rest M hM J μ hf first pass =>
   refine wp_scope_jumps l (fun a w=>a.defers=[]/\J a.tmps.toList w) (fun a w=>μ a.tmps.toList w) hf (wp_mono (ih first) ?_) ?_
   .rintro e a w ⟨hd,he⟩
    cases e <;> simp only [PF] at he <;> first|exact ⟨he.1,hd,he.2⟩|exact ⟨hd,he⟩
   .rintro a w ⟨hd,hJ⟩
    rw [Nz hd]
    refine wp_mono (hM.sound (pass _ _ hJ)) ?_
    rintro e a' w' ⟨hd',he⟩
    cases e <;> simp only [PF] at he <;> first|exact ⟨he.1,⟨hd',he.2.1⟩,he.2.2⟩|exact ⟨hd',he⟩
 | goto=>exact fun h=>wp_goto ⟨rfl,h⟩
 | refuse=>exact fun h=>h.elim
theorem agree.refl (ds:List Nat) (ρ:yz):agree ds ρ ρ:=⟨rfl,fun _ _=>rfl⟩
theorem agree.trans {ds:List Nat} {a b c:yz} (h:agree ds a b) (k:agree ds b c):agree ds a c :=
 ⟨k.1.trans h.1,fun i hi=>(k.2 i hi).trans (h.2 i hi)⟩
theorem agree.mono {ds ds':List Nat} {a b:yz} (h:agree ds a b) (hs:∀i,i∈ds->i∈ds'):agree ds' a b :=
 ⟨h.1,fun i hi=>h.2 i fun hh=>hi (hs i hh)⟩
theorem agree.put {ds:List Nat} {a b:yz} (h:agree ds a b) (d:Option Nat) (hd:∀i,d=some i->i∈ds) (v:Value):agree ds a (put b d v):=by
 cases d with
 | none=>exact h
 | some d =>
  refine ⟨by simp [YX.put,h.1],fun i hi=>?_⟩
  have:d≠i:=fun e=>hi (e ▸ hd d rfl)
  simp only [YX.put,List.getElem?_set,if_neg this]
  exact h.2 i hi
theorem aaW {ops:List Oper} {g:Option (Nat × Bool)} {ρ:yz} {k:Bool->yz->Prop} (h:XN ops g ρ k) :
  XN ops g ρ fun b ρ'=>k b ρ'/\agree (Yq ops) ρ ρ':=by
 unfold XN at h ⊢
 split at h
 .exact ⟨h,agree.refl _ _⟩
 .simp only [OF,SU,SE] at h ⊢
  split at h
  .omega
  .rename_i oj hj
   split at h
   .omega
   .rename_i d hd
    have hmem:d∈Yq ops:=by grind [Yq]
    split at h
    .rename_i b hb
     split at h <;> (split at h <;> exact ⟨h,(agree.refl _ _).put (some d) (fun i e=>by cases e;exact hmem) _⟩)
    .exact ⟨h,agree.refl _ _⟩
    .omega
theorem ab3 {P:Program} {ops:List Oper} {K:yz->World->Prop} (l:List Oper) (hl:∀o,o∈l->o∈ops) :
  ∀{ρ0 ρ:yz} {w:World},agree (Yq ops) ρ0 ρ->LU P ops K l ρ w->LU P ops (fun ρ' w'=>K ρ' w'/\agree (Yq ops) ρ0 ρ') l ρ w:=by
 induction l with
 | nil=>exact fun ha h=>⟨h,ha⟩
 | cons o r ih =>
  intro ρ0 ρ w ha h
  simp only [OC] at h ⊢
  refine aan (aaW h) fun b ρ1 ⟨h,DJ⟩=>?_
  have hmem:∀i,o.dst=some i->i∈Yq ops:=fun i e=>by grind [Yq]
  have Hf:=fun {ρ:yz} {w:World}=>@ih (fun o ho=>hl o (lvb _ ho)) ρ0 ρ w
  cases b
  .simp only [XV] at h ⊢
   exact Hf ((ha.trans DJ).put _ hmem _) h
  .simp only [XV] at h ⊢
   exact K1 h fun v w h=>Hf ((ha.trans DJ).put _ hmem _) h
theorem QV {P:Program} (c:Code):∀{Q:Exit->yz->World->Prop} {ρ:yz} {w:World},L2 P c Q ρ w ->
  L2 P c (fun e ρ' w'=>Q e ρ' w'/\agree (VA c) ρ ρ') ρ w:=by
 induction c with
 | skip=>exact fun h=>⟨h,agree.refl _ _⟩
 | label l=>exact fun h=>⟨h,agree.refl _ _⟩
 | exit i=>exact fun h=>⟨h,agree.refl _ _⟩
 | ret=>exact fun h=>⟨h,agree.refl _ _⟩
 | seq x y IY HP =>
  intro Q ρ w h
  simp only [KZ] at h ⊢
  refine Vu x (IY h) fun e ρ1 w1 ⟨he,ha⟩=>?_
  have Ad:agree (VA (.seq x y)) ρ ρ1:=ha.mono fun i hi=>lqb _ hi
  cases e <;> simp only [U6] at he ⊢
  .exact Vu y (HP he) fun e ρ2 w2 ⟨h2,h3⟩=>⟨h2,Ad.trans (h3.mono fun i hi=>lGb _ hi)⟩
  all_goals exact ⟨he,Ad⟩
 | cond c x y IY HP =>
  intro Q ρ w h
  simp only [M8,Sf,Oz] at h ⊢
  split at h
  .split at h
   .rw [if_pos yX]
    exact Vu x (IY h) fun e ρ2 w2 ⟨h2,h3⟩=>⟨h2,h3.mono fun i hi=>lqb _ hi⟩
   .rw [if_neg yX]
    exact Vu y (HP h) fun e ρ2 w2 ⟨h2,h3⟩=>⟨h2,h3.mono fun i hi=>lGb _ hi⟩
  .omega
 | block id c ih =>
  intro Q ρ w h
  rw [OB] at h ⊢
  refine Vu c (ih h) fun e ρ1 w1 ⟨he,ha⟩=>?_
  cases e <;> simp only [SQ] at he ⊢
  case exit i=>split at he <;> exact ⟨he,ha⟩
  all_goals exact ⟨he,ha⟩
 | region id ops draw =>
  intro Q ρ w h
  cases draw
  .exact ab3 _ (fun _ h=>h) (agree.refl _ _) h
  .obtain ⟨h⟩:=h
   exact ⟨Code.wp_mono (fun e a w ⟨h1,h2,h3,h4⟩=>⟨h1,h2,h3,h4,h3⟩) h⟩
 | loop c ih =>
  intro Q ρ w h
  obtain ⟨I,μ,h0,hr⟩:=h
  refine ⟨fun ρ' w'=>I ρ' w'/\agree (VA c) ρ ρ',μ,⟨h0,agree.refl _ _⟩,fun ρ1 w1 ⟨hI,ha⟩=>Vu c (ih (hr ρ1 w1 hI)) fun e ρ2 w2 ⟨he,LS⟩=>?_⟩
  cases e <;> simp only [U6] at he ⊢
  .exact ⟨⟨he.1,ha.trans LS⟩,he.2⟩
  all_goals exact ⟨he,ha.trans LS⟩
 | rangeFunc=>exact fun h=>h.elim
 | scope c ih =>
  intro Q ρ w h
  rw [OA] at h ⊢
  cases h with
  | Rw h=>exact .Rw (Vu c (ih h) fun e ρ1 w1 ⟨he,ha⟩=>by cases e <;> simp only [QW] at he⊢<;> exact ⟨he,ha⟩)
  | jumps l rest M hM J μ hf first pass =>
   refine .jumps l rest M hM (fun ρ' w'=>J ρ' w'/\agree (VA c) ρ ρ') μ hf (Vu c (ih first) fun e ρ1 w1 ⟨he,ha⟩=>?_) fun ρ1 w1 ⟨hJ,ha⟩=>hM.imp (hM.frame (pass ρ1 w1 hJ)) fun e ρ2 w2 ⟨he,LS⟩=>?_
   .cases e <;> simp only [PF] at he⊢<;> first|exact ⟨he.1,he.2,ha⟩|exact ⟨he,ha⟩
   .have AZ:agree (VA c) ρ ρ2:=ha.trans (LS.mono fun i hi=>aa4 hf i hi)
    cases e <;> simp only [PF] at he⊢<;> first|exact ⟨he.1,⟨he.2.1,AZ⟩,he.2.2⟩|exact ⟨he,AZ⟩
 | goto=>exact fun h=>⟨h,agree.refl _ _⟩
 | refuse=>exact fun h=>h.elim
def Cy (l:List Nat) (f:Nat->Value):yz->(yz->Prop)->Prop :=
 List.rec (motive:=fun _=>yz->(yz->Prop)->Prop) (fun ρ k=>k ρ) (fun d _ ih ρ k=>HR ρ d (f d) fun ρ=>ih ρ k) l
theorem aem (d:Nat) (ds:List Nat) (f:Nat->Value) (ρ:yz) (k:yz->Prop):Cy (d::ds) f ρ k=HR ρ d (f d) fun ρ=>Cy ds f ρ k:=rfl
def Cx (l:List (Nat × Value)):yz->(yz->Prop)->Prop :=
 List.rec (motive:=fun _=>yz->(yz->Prop)->Prop) (fun ρ k=>k ρ) (fun p _ ih ρ k=>match p with
  | (i,v)=>HR ρ i v fun ρ=>ih ρ k) l
theorem aen (i:Nat) (v:Value) (r:List (Nat × Value)) (ρ:yz) (k:yz->Prop):Cx ((i,v)::r) ρ k=HR ρ i v fun ρ=>Cx r ρ k:=rfl
def mt:List (Nat × Value)->yz->Prop
 | [],_=>True
 | (i,v)::r,ρ=>gt ρ i=v/\mt r ρ
theorem ZY {ρ:yz}:mt [] ρ:=trivial
theorem ZR {i:Nat} {v:Value} {r:List (Nat × Value)} {ρ:yz} (h:gt ρ i=v) (k:mt r ρ):mt ((i,v)::r) ρ:=⟨h,k⟩
theorem Zv {i:Nat} {k:IntKind} {a b:Int} {r:List (Nat × Value)} {ρ:yz} (hg:gt ρ i=.int k a) (h:a=b) (t:mt r ρ):mt ((i,.int k b)::r) ρ:=⟨by rw [hg,h],t⟩
theorem int_eq {k:IntKind} {a b:Int} (h:a=b):Value.int k a=.int k b:=by rw [h]
theorem QU {ρ':yz} (ds:List Nat) {k:yz->Prop}:∀{ρ1:yz},agree ds ρ1 ρ'->Cy ds (gt ρ') ρ1 k->k ρ':=by
 induction ds with
 | nil =>
  intro ρ1 ha h
  have:ρ'=ρ1:=lJa fun i=>ha.2 i yW
  rw [this];exact h
 | cons d ds ih =>
  intro ρ1 ha h
  simp only [aem,SU] at h
  refine ih ?_ h
  refine ⟨by simpa using ha.1,fun i hi=>?_⟩
  rw [lPa]
  split
  .rename_i e;subst e
   split
   .rename_i hl
    have hl':d<ρ'.length:=by rw [ha.1];exact hl
    rw [PI]
    simp [Array.getD_eq_getD_getElem?,List.getElem?_eq_getElem hl']
   .rename_i hl
    rw [List.getElem?_eq_none (by rw [ha.1];exact Nat.le_of_not_lt hl)]
  .rename_i hne
   exact ha.2 i fun hm=>by cases hm <;> contradiction
theorem KY {ρ:yz} (sl:List (Nat × Value)) {k:yz->Prop} (hm:mt sl ρ) (h:Cx sl ρ k):k ρ:=by
 induction sl with
 | nil=>exact h
 | cons p r ih =>
  obtain ⟨i,v⟩:=p
  obtain ⟨hv,hm⟩:=hm
  simp only [aen,SU] at h
  have:ρ.set i v=ρ:=by
   apply lJa
   intro j
   rw [lPa]
   split
   .rename_i e;subst e
    split
    .rename_i hl
     rw [PI] at hv
     simp only [Array.getD_eq_getD_getElem?,List.getElem?_toArray,List.getElem?_eq_getElem hl,Option.getD_some] at hv
     rw [laa hl,hv]
    .grind
   .rfl
  rw [this] at h
  exact ih hm h
inductive Xt {α:Type} (sl:α->List (Nat × Value)) (inv:α->World->Prop) (p:α->Prop) (ρ:yz) (w:World):Prop
 | mk (y:α) (hm:mt (sl y) ρ) (hi:inv y w) (hp:p y)
inductive Jn {α:Type} (sl:α->List (Nat × Value)) (inv:α->World->Prop) (ρ:yz) (w:World):Prop
 | mk (y:α) (hm:mt (sl y) ρ) (hi:inv y w)
theorem Zd.rule {P:Program} {c:Code} {B:I6} {Q:Exit->yz->World->Prop} {ρ:yz} {w:World} {α:Type} (x0:α) (sl:α->List (Nat × Value)) (inv:α->World->Prop) (μ:α->Nat)
  (hm:mt (sl x0) ρ) (h0:inv x0 w)
  (round:∀x (f:Nat->Value) w',inv x w'->Cy (VA c) f ρ fun ρ=>Cx (sl x) ρ fun ρ =>
   B (U6 (fun ρ' w''=>Xt sl inv (fun y=>μ y<μ x) ρ' w'') Q) ρ w') (hB:B=L2 P c:=by rfl):Zd P c B Q ρ w:=by
 subst hB
 classical
 have hex:∀(p:Nat->Prop),(∃n,p n)->∃n,p n/\∀m,p m->n<=m:=fun p ⟨n,hn⟩=>by
  induction n using Nat.strongRecOn with
  | _ n ih =>
   by_cases h:∃m,m<n/\p m
   .grind
   .grind
 let p:yz->World->Nat->Prop:=fun ρ' w' n=>∃x,μ x=n/\mt (sl x) ρ'/\inv x w'
 let M:yz->World->Nat:=fun ρ' w'=>if h:∃n,p ρ' w' n then Classical.choose (hex _ h) else 0
 have hM:∀ρ' w',(∃n,p ρ' w' n)->p ρ' w' (M ρ' w')/\∀m,p ρ' w' m->M ρ' w'<=m:=fun ρ' w' h=>by grind
 refine ⟨fun ρ' w'=>(∃n,p ρ' w' n)/\agree (VA c) ρ ρ',M,⟨⟨_,x0,rfl,hm,h0⟩,agree.refl _ _⟩,?_⟩
 rintro ρ1 w1 ⟨hp,ha⟩
 obtain ⟨⟨x,hx,GJ,DI⟩,-⟩:=hM ρ1 w1 hp
 have hb:=round x (gt ρ1) w1 DI
 have hb:=KY _ GJ (QU _ ha hb)
 refine Vu c (QV c hb) ?_
 rintro e ρ2 w2 ⟨he,LS⟩
 cases e <;> simp only [U6] at he ⊢
 .obtain ⟨y,Ac,Ab,hlt⟩:=he
  refine ⟨⟨⟨_,y,rfl,Ac,Ab⟩,ha.trans LS⟩,?_⟩
  have:=(hM ρ2 w2 ⟨_,y,rfl,Ac,Ab⟩).2 _ ⟨y,rfl,Ac,Ab⟩
  omega
 all_goals exact he
theorem QS {P:Program} {x y:Code} {B C:I6} {K:yz->World->Prop} {Q:Exit->yz->World->Prop} {ρ:yz} {w:World} {b:Bool} {α:Type} (sl:α->List (Nat × Value)) (inv:α->World->Prop)
  (hx:b=true->B (U6 (fun ρ' w'=>Jn sl inv ρ' w') Q) ρ w)
  (hy:b=false->C (U6 (fun ρ' w'=>Jn sl inv ρ' w') Q) ρ w)
  (hk:∀a (f:Nat->Value) w',inv a w'->Cy (VA x++VA y) f ρ fun ρ=>Cx (sl a) ρ fun ρ=>K ρ w') (hB:B=L2 P x:=by rfl) (hC:C=L2 P y:=by rfl) :
  Na P x y B C b (U6 K Q) ρ w:=by
 subst hB
 subst hC
 refine ⟨fun hb=>?_,fun hb=>?_⟩
 .refine Vu x (QV x (hx hb)) ?_
  rintro e ρ2 w2 ⟨he,ha⟩
  cases e <;> simp only [U6] at he ⊢
  .obtain ⟨a,hm,hi⟩:=he
   exact KY _ hm (QU _ (ha.mono fun i hi=>lqb _ hi) (hk a (gt ρ2) w2 hi))
  all_goals exact he
 .refine Vu y (QV y (hy hb)) ?_
  rintro e ρ2 w2 ⟨he,ha⟩
  cases e <;> simp only [U6] at he ⊢
  .obtain ⟨a,hm,hi⟩:=he
   exact KY _ hm (QU _ (ha.mono fun i hi=>lGb _ hi) (hk a (gt ρ2) w2 hi))
  all_goals exact he
theorem aao {P:Program} {c:Code} {B:I6} {id:Nat} {K:yz->World->Prop} {Q:Exit->yz->World->Prop} {ρ:yz} {w:World} {α:Type} (sl:α->List (Nat × Value)) (inv:α->World->Prop)
  (hx:B (SQ id (U6 (fun ρ' w'=>Jn sl inv ρ' w') Q)) ρ w)
  (hk:∀a (f:Nat->Value) w',inv a w'->Cy (VA c) f ρ fun ρ=>Cx (sl a) ρ fun ρ=>K ρ w') (hB:B=L2 P c:=by rfl) :
  Fa P c B id (U6 K Q) ρ w:=by
 subst hB
 refine ⟨Vu c (QV c hx) ?_⟩
 have key:∀ρ2 w2,Jn sl inv ρ2 w2->agree (VA c) ρ ρ2->K ρ2 w2:=fun ρ2 w2 ⟨a,hm,hi⟩ ha =>
  KY _ hm (QU _ ha (hk a (gt ρ2) w2 hi))
 rintro e ρ2 w2 ⟨he,ha⟩
 cases e <;> simp only [SQ,U6] at he ⊢
 .grind
 .split at he
  .grind
  .omega
 all_goals exact he
inductive Z6 (R:Value->World->Prop) (v:Value) (w:World):Prop
 | mk (h:R v w)
inductive JK (P:Program) (m:Sem Value) (w:World) (K:Value->Prop):Prop
 | mk (v:Value) (h:m.run P w=.ok v w) (k:K v)
def E0 (n:Nat):yz->(yz->Prop)->Prop :=
 Nat.rec (motive:=fun _=>yz->(yz->Prop)->Prop) (fun acc k=>k acc) (fun _ ih acc k=>ih (undef::acc) k) n
theorem adG (n:Nat) (acc:yz) (k:yz->Prop):E0 (n+1) acc k=E0 n (undef::acc) k:=rfl
def JJ (P:Program) (ρ:yz) (w:World) (l:List ResultVar):(yz->Prop)->Prop :=
 List.rec (motive:=fun _=>(yz->Prop)->Prop) (fun k=>k []) (fun x _ ih k=>match x with
  | .tmp t=>DK ρ t fun v=>ih fun vs=>k (v::vs)
  | .cell a t=>DK ρ a fun v=>match v with
   | .pointer p=>match p with
    | some a=>JK P (loadVar t a) w fun v=>ih fun vs=>k (v::vs)
    | none=>False
   | _=>False) l
theorem aeo (P:Program) (ρ:yz) (w:World) (t:Nat) (r:List ResultVar) (k:yz->Prop):JJ P ρ w (.tmp t::r) k=DK ρ t fun v=>JJ P ρ w r fun vs=>k (v::vs):=rfl
theorem adH (P:Program) (ρ:yz) (w:World) (a:Nat) (t:TypeId) (r:List ResultVar) (k:yz->Prop):JJ P ρ w (.cell a t::r) k=DK ρ a fun v=>match v with
   | .pointer p=>match p with
    | some a=>JK P (loadVar t a) w fun v=>JJ P ρ w r fun vs=>k (v::vs)
    | none=>False
   | _=>False:=rfl
def EZ (R:Value->World->Prop) (w:World) (vs:yz):Prop :=
 match vs with
 | [v]=>Z6 R v w
 | []=>Z6 R (.tuple #[]) w
 | u::v::r=>Z6 R (.tuple (u::v::r).toArray) w
def aid (P:Program) (rs:List ResultVar) (R:Value->World->Prop) (e:Exit) (ρ:yz) (w:World):Prop :=
 match e with
 | .normal=>JJ P ρ w rs fun vs=>EZ R w vs
 | .ret=>JJ P ρ w rs fun vs=>EZ R w vs
 | _=>False
def akR (P:Program) (fn:Func) (c:Code) (args:yz) (w:World) (R:Value->World->Prop):Prop :=
 E0 (fn.ntmps-args.length) [] fun us=>JN args us fun ρ=>L2 P c (aid P fn.results.toList R) ρ w
theorem agB (n:Nat) (acc:yz) (k:yz->Prop):E0 n acc k=k (List.replicate n undef++acc):=by
 induction n generalizing acc with
 | zero=>rfl
 | succ n ih=>simp only [adG,ih];congr 1;rw [List.replicate_succ',lia0];rfl
def He (tmps:Array Value):ResultVar->Sem Value
 | .tmp t=>pure (tmps.getD t undef)
 | .cell a t=>do loadVar t (<-asAddr (tmps.getD a undef))
theorem Qd (fn:Func) (tmps:Array Value):results fn tmps=(do let vs <-fn.results.mapM (He tmps);pure (if h:vs.size=1 then vs[0] else .tuple vs)):=by
 have:(fun (x:ResultVar)=>(match x with
  | .tmp t=>pure (tmps.getD t undef)
  | .cell a t=>do loadVar t (<-asAddr (tmps.getD a undef)):Sem Value))=He tmps:=by
  funext x;cases x <;> rfl
 unfold results
 rw [<-this]
 rfl
theorem ab4 {P:Program} {ρ:yz} {w:World}:∀(rs:List ResultVar) {k:yz->Prop},JJ P ρ w rs k ->
  ∃vs,(rs.mapM (He ρ.toArray)).run P w=.ok vs w/\k vs:=by
 intro rs
 induction rs with
 | nil=>exact fun h=>⟨[],by simp,h⟩
 | cons x r ih =>
  intro k h
  cases x with
  | tmp t =>
   simp only [aeo,OF] at h
   obtain ⟨vs,h1,h2⟩:=ih h
   exact ⟨gt ρ t::vs,by rw [List.mapM_cons];simp only [He,Sem.run_bind,Sem.run_pure,Result.andThen_ok,h1,PI],h2⟩
  | cell a t =>
   simp only [adH,OF] at h
   split at h
   .rename_i p hp
    split at h
    .rename_i ad
     obtain ⟨v,hv,h⟩:=h
     obtain ⟨vs,h1,h2⟩:=ih h
     refine ⟨_,?_,h2⟩
     rw [List.mapM_cons]
     rw [PI] at hp
     simp only [He,hp,asAddr,pure_bind,Sem.run_bind,Sem.run_pure,Result.andThen_ok,hv,h1]
    .grind
   .grind
theorem aa6 {P:Program} {fn:Func} {R:Value->World->Prop} {e:Exit} {a:Act} {w:World} (h:lift (aid P fn.results.toList R) e a w) :
  bodyPost P fn (fun e w'=>∃v,e=.returned v/\R v w') e a w:=by
 obtain ⟨hd,h⟩:=h
 rw [Nz hd]
 have key:(JJ P a.tmps.toList w fn.results.toList fun vs=>EZ R w vs) ->
   ∃v,(results fn a.tmps.toList.toArray).run P w=.ok v w/\∃v',Ending.returned v=.returned v'/\R v' w:=by
  intro h
  obtain ⟨vs,h1,h2⟩:=ab4 _ h
  have hm:(fn.results.mapM (He a.tmps.toList.toArray)).run P w=.ok vs.toArray w:=by grind [Array.mapM_eq_mapM_toList,Sem.run_map,Result.andThen_ok]
  unfold EZ at h2
  split at h2
  .rename_i v
   obtain ⟨h2⟩:=h2
   exact ⟨v,by rw [Qd];simp only [Sem.run_bind,hm,Result.andThen_ok];rfl,v,rfl,h2⟩
  .obtain ⟨h2⟩:=h2
   exact ⟨_,by rw [Qd];simp only [Sem.run_bind,hm,Result.andThen_ok];rfl,_,rfl,h2⟩
  .rename_i u v r
   obtain ⟨h2⟩:=h2
   refine ⟨.tuple (u::v::r).toArray,?_,_,rfl,h2⟩
   rw [Qd];simp only [Sem.run_bind,hm,Result.andThen_ok,Sem.run_pure]
   rw [dif_neg yW]
 cases e
 case normal=>obtain ⟨v,h1,h2⟩:=key h;exact ⟨rfl,v,h1,h2⟩
 case ret=>obtain ⟨v,h1,h2⟩:=key h;exact ⟨rfl,v,h1,h2⟩
 all_goals exact False.elim h
theorem Fc.of {P:Program} {f:FuncId} {fn:Func} {c:Code} {args:Array Value} {w:World} {R:Value->World->Prop}
  (hf:P.funcs[f]?=some fn) (hb:fn.body=some c) (hn:(fn.name == "runtime.NumGoroutine")=false) (h:akR P fn c args.toList w R):Fc P f args w R:=by
 refine ⟨?_,?_⟩
 .simp only [callFunc,Sem.run_bind,program,Sem.run,Result.andThen_ok,hf]
  rw [if_neg (by grind),if_neg (by grind)]
  rfl
 .refine calls_of_wp hf hb ?_
  unfold akR at h
  rw [agB,NB,lqa] at h
  have:=adF c h
  have e:(args.toList++List.replicate (fn.ntmps-args.toList.length) undef).toArray=args++Array.replicate (fn.ntmps-args.size) undef:=by simp
  rw [e] at this
  exact wp_mono this fun e a w h=>aa6 h
end YX
namespace YX
open Go Go.RowKit
variable {P:Program} {w:World} {K:Value->World->Prop}
theorem Ux {k:IntKind} {n:Int} (h0:k.min<=n) (h1:n<=k.max):ZM k n=n:=by
 unfold ZM
 cases k <;> simp [IntKind.wrap,IntKind.min,IntKind.max,IntKind.bits,IntKind.signed] at * <;> omega
theorem Uw {n:Int} (h:-9223372036854775808<=n/\n<=9223372036854775807):ZM .i64 n=n:=Ux (by grind [IntKind.min,IntKind.signed,IntKind.bits]) (by grind [IntKind.max,IntKind.signed,IntKind.bits])
theorem DH {n:Int} (h:-2147483648<=n/\n<=2147483647):ZM .i32 n=n:=Ux (by grind [IntKind.min,IntKind.signed,IntKind.bits]) (by grind [IntKind.max,IntKind.signed,IntKind.bits])
theorem EY {n:Int} (h:0<=n/\n<=18446744073709551615):ZM .u64 n=n:=Ux (by grind [IntKind.min,IntKind.signed,IntKind.bits]) (by grind [IntKind.max,IntKind.signed,IntKind.bits])
theorem ank {n:Int} (h:0<=n/\n<=4294967295):ZM .u32 n=n:=Ux (by grind [IntKind.min,IntKind.signed,IntKind.bits]) (by grind [IntKind.max,IntKind.signed,IntKind.bits])
theorem wu8 {n:Int} (h:0<=n/\n<=255):ZM .u8 n=n:=Ux (by grind [IntKind.min,IntKind.signed,IntKind.bits]) (by grind [IntKind.max,IntKind.signed,IntKind.bits])
theorem Y4 {a b:Int} (h:FB a b=true):a<b:=by grind [Sd]
theorem Y3 {a b:Int} (h:FB a b=false):b<=a:=by grind [Sd]
theorem Xy {a b:Int} (h:I7 a b=true):a<=b:=by grind [Sc]
theorem Xx {a b:Int} (h:I7 a b=false):b<a:=by grind [Sc]
theorem ZQ {a b:Int} (h:K4 a b=true):a=b:=by grind [Sa]
theorem ZP {a b:Int} (h:K4 a b=false):a≠b:=by grind [Sa]
theorem YM {a b:Int} (h:Fb a b=true):a≠b:=by grind [R9]
theorem YL {a b:Int} (h:Fb a b=false):a=b:=by grind [R9]
theorem yG {P:Go.Program} {x y:Go.Code} {B C:I6} {a b:Int} {Q:Go.Exit->List Go.Value->Go.World->Prop} {ρ:List Go.Value} {w:Go.World} (t:a<b->B Q ρ w) (f:b<=a->C Q ρ w):Na P x y B C (FB a b) Q ρ w:=cI (fun h=>t (Y4 h)) fun h=>f (Y3 h)
theorem yF {P:Go.Program} {x y:Go.Code} {B C:I6} {a b:Int} {Q:Go.Exit->List Go.Value->Go.World->Prop} {ρ:List Go.Value} {w:Go.World} (t:a<=b->B Q ρ w) (f:b<a->C Q ρ w):Na P x y B C (I7 a b) Q ρ w:=cI (fun h=>t (Xy h)) fun h=>f (Xx h)
theorem yE {P:Go.Program} {x y:Go.Code} {B C:I6} {a b:Int} {Q:Go.Exit->List Go.Value->Go.World->Prop} {ρ:List Go.Value} {w:Go.World} (t:a=b->B Q ρ w) (f:a≠b->C Q ρ w):Na P x y B C (K4 a b) Q ρ w:=cI (fun h=>t (ZQ h)) fun h=>f (ZP h)
theorem yD {P:Go.Program} {x y:Go.Code} {B C:I6} {a b:Int} {Q:Go.Exit->List Go.Value->Go.World->Prop} {ρ:List Go.Value} {w:Go.World} (t:a≠b->B Q ρ w) (f:a=b->C Q ρ w):Na P x y B C (Fb a b) Q ρ w:=cI (fun h=>t (YM h)) fun h=>f (YL h)
theorem Yp {a b:Int}:FB a b=decide (a<b):=Sd _ _
theorem YP {a b:Int}:I7 a b=decide (a<=b):=Sc _ _
theorem YV {a b:Int}:K4 a b=decide (a=b):=by rw [Sa];rw [Bool.eq_iff_iff];simp
theorem XO {a b:Int}:Fb a b=!decide (a=b):=by rw [R9];rw [Bool.eq_iff_iff];simp
theorem ZB {s d:TypeId} {k0 k:IntKind} {n:Int} (hs:(P.underlying s).isSome=true) (hd:P.underlying d=some (.int k)) (h:K (.int k (ZM k n)) w) :
  Zg P (convert s d (.int k0 n)) w K:=by
 obtain ⟨ds,hds⟩:=Option.isSome_iff_exists.1 hs
 refine ⟨_,w,?_,h⟩
 unfold convert
 simp only [Sem.run_bind,run_underlying hds,run_underlying hd,Result.andThen_ok,Conv.intToInt]
 unfold ZM;rfl
theorem Vj {s d:TypeId} {k0 k:IntKind} {n:Int} (m:Int) (e:ZM k n=m) (hs:(P.underlying s).isSome=true) (hd:P.underlying d=some (.int k)) (h:K (.int k m) w) :
  Zg P (convert s d (.int k0 n)) w K:=ZB hs hd (e ▸ h)
theorem akS {t:Array TypeId} {ty:TypeId} {k k':IntKind} {a b:Int} (h:K (.int k (min a b)) w):Zg P (Builtin.min_ t ty #[.int k a,.int k' b]) w K:=by
 refine ⟨_,w,?_,h⟩
 have:(if b<a then b else a)=min a b:=by omega
 simp [Builtin.min_,Builtin.min2,this]
def bs (l:yA):ByteArray:=⟨l.toArray⟩
theorem UA (l:yA):(bs l).size=l.length:=by simp [bs,ByteArray.size]
theorem akT (s:ByteArray):s=bs s.data.toList:=by cases s;simp [bs]
theorem aay (l:yA):(bs l).toList=l:=by simp [bs]
theorem aap (l:yA) (i j:Nat):(bs l).extract i j=bs ((l.take j).drop i):=by
 apply ByteArray.ext
 simp only [bs,ByteArray.data_extract]
 apply Array.ext'
 simp [List.drop_take]
theorem adI (a b:yA):bs a++bs b=bs (a++b):=by
 apply ByteArray.ext
 simp [bs]
theorem aep {a b:yA} (h:bs a=bs b):a=b:=by grind [bs]
theorem Yk {t ty:TypeId} {s:yA} (ht:P.underlying t=some .string) (h:K (.int .i64 s.length) w):Zg P (Builtin.len_ #[t] ty #[.string (bs s)]) w K :=
 ⟨_,w,run_len_string (P:=P) w t ty (bs s) ht,by rw [UA];exact h⟩
theorem V6 {t ty e:TypeId} {a:Option Addr} {n c:Nat} (ht:P.underlying t=some (.slice e)) (h:K (.int .i64 n) w):Zg P (Builtin.len_ #[t] ty #[.slice a n c]) w K :=
 ⟨_,w,by simp [Builtin.len_,run_underlying ht,goInt],h⟩
theorem PE {t:TypeId} {s:yA} {k:IntKind} {i:Int} (ht:P.underlying t=some .string) (j:Nat) (hj:i=j) (hl:j<s.length) (h:K (.int .u8 (s[j].toNat:Int)) w) :
  Zg P (Instr.index t (.string (bs s)) (.int k i)) w K:=by
 subst hj
 refine ⟨_,w,?_,h⟩
 rw [run_index_string (P:=P) w t (bs s) k j ht,dif_pos ⟨by omega,by rw [UA];omega⟩]
 rfl
theorem HO {t:TypeId} {s:yA} {kl:IntKind} {l:Int} (ht:P.underlying t=some .string) (i:Nat) (hi:l=i) (hl:i<=s.length)
  (k:K (.string (bs (s.drop i))) w):Zg P (Instr.sliceAt t (.string (bs s)) (some (.int kl l)) none none) w K:=by
 subst hi
 refine ⟨_,w,?_,k⟩
 have hb:(bs s).size=s.length:=UA s
 rw [run_sliceAt_string (P:=P) w t _ _ _ _ ht,run_slice_string_l (P:=P) w t _ ht kl i yY yY]
 simp [hb,aap]
theorem akU {t:TypeId} {s:yA} {kh:IntKind} {h:Int} (ht:P.underlying t=some .string) (j:Nat) (hj:h=j) (hl:j<=s.length)
  (k:K (.string (bs (s.take j))) w):Zg P (Instr.sliceAt t (.string (bs s)) none (some (.int kh h)) none) w K:=by
 subst hj
 refine ⟨_,w,?_,k⟩
 have hb:(bs s).size=s.length:=UA s
 rw [run_sliceAt_string (P:=P) w t _ _ _ _ ht,run_slice_string_h (P:=P) w t _ ht kh j yY yY]
 simp [aap]
theorem anl {t:TypeId} {x y:Operand} {a b:yA} (hl:a.length+b.length<=9223372036854775807) (k:K (.string (bs (a++b))) w) :
  Zg P (do eqGuard .add t x y (.string (bs a)) (.string (bs b));binOp .add t (.string (bs a)) (.string (bs b))) w K:=by
 refine ⟨_,w,?_,k⟩
 simp only [eqGuard_add,pure_bind,binOp_string_add,Op.stringOp]
 rw [if_neg (by simp [UA];omega)]
 simp [adI]
theorem ai4 {t:TypeId} {x y:Operand} {a b:yA} (k:K (.bool (decide (a=b))) w) :
  Zg P (do eqGuard .eql t x y (.string (bs a)) (.string (bs b));binOp .eql t (.string (bs a)) (.string (bs b))) w K:=by
 refine ⟨_,w,?_,k⟩
 simp only [eqGuard_at_string,pure_bind,binOp_string_eql,aay,Sem.run_pure]
 congr 2
 rw [Bool.eq_iff_iff];simp
theorem aeq {t:TypeId} {x y:Operand} {a b:yA} (k:K (.bool (!decide (a=b))) w) :
  Zg P (do eqGuard .neq t x y (.string (bs a)) (.string (bs b));binOp .neq t (.string (bs a)) (.string (bs b))) w K:=by
 refine ⟨_,w,?_,k⟩
 simp only [eqGuard_at_string,pure_bind,binOp_string_neq,aay,Sem.run_pure]
 congr 3
 rw [Bool.eq_iff_iff];simp
def SO (v:Value) (k:yz->Prop):Prop :=
 match v with
 | .agg cs=>k cs.toList
 | v=>k [v]
theorem V9 (v:Value) (k:yz->Prop):SO v k=k v.cells.toList:=by
 cases v <;> rfl
theorem akV {t:TypeId} {v:Value} (h:SO v fun cs=>K (.pointer (some ⟨w.heap.size,0,none⟩)) (w.alloc (.cells cs.toArray t))):Zg P (Instr.box t v) w K:=by
 rw [V9] at h
 exact ⟨_,_,rfl,by simpa using h⟩
theorem agC {t:TypeId} {z:Value} (hz:(P.info? t).bind (fun i=>i.zero)=some z) (h:SO z fun cs=>K (.pointer (some ⟨w.heap.size,0,none⟩)) (w.alloc (.cells cs.toArray t))) :
  Zg P (Instr.alloc t true (.tuple #[])) w K:=by
 rw [V9] at h
 cases hi:P.info? t with
 | none=>simp [hi] at hz
 | some i =>
  simp only [hi,Option.bind_some] at hz
  refine ⟨_,_,?_,h⟩
  simp [Instr.alloc,zeroValue,typeInfo,hi,hz,newVar,newRow]
def M7 (cs:yz) (o:Nat) (l:yz) (k:yz->Prop):Prop :=
 List.rec (motive:=fun _=>yz->Nat->Prop) (fun cs _=>k cs) (fun v _ ih cs o=>HR cs o v fun cs=>ih cs (o+1)) l cs o
theorem ab5 (cs:yz) (o:Nat) (v:Value) (vs:yz) (k:yz->Prop):M7 cs o (v::vs) k=HR cs o v fun cs=>M7 cs (o+1) vs k:=rfl
def VS:yz->Nat->yz->yz
 | cs,_,[]=>cs
 | cs,o,v::vs=>VS (cs.set o v) (o+1) vs
theorem SD (vs:yz):∀(cs:yz) (o:Nat) (k:yz->Prop),M7 cs o vs k=k (VS cs o vs):=by
 induction vs with
 | nil=>intros;rfl
 | cons v vs ih=>intro cs o k;simp only [ab5,VS,SU,ih]
theorem Wk (vs:yz):∀(cs:yz) (o:Nat),(VS cs o vs).length=cs.length:=by
 induction vs with
 | nil=>intros;rfl
 | cons v vs ih=>intro cs o;simp [VS,ih]
def HN (b:Bool) (k:Prop):Prop:=match b with
 | true=>k
 | false=>False
theorem M6 {b:Bool} {k:Prop} (h:HN b k):b=true/\k:=by cases b;exact h.elim;exact ⟨rfl,h⟩
def PD (place:Nat->Option (Nat × Nat)) (l:List (Nat × Value)) (cs:yz) (k:yz->Prop):Prop :=
 List.rec (motive:=fun _=>yz->Prop) k (fun p _ ih cs=>match p with
  | (i,v)=>match place i with
   | none=>False
   | some p=>match p with
    | (o,n)=>SO v fun vs=>HN (Nat.beq vs.length n && Nat.ble (o+n) cs.length) (M7 cs o vs fun cs=>ih cs)) l cs
theorem Qc (place:Nat->Option (Nat × Nat)) (i:Nat) (v:Value) (r:List (Nat × Value)) (cs:yz) (k:yz->Prop):PD place ((i,v)::r) cs k=match place i with
   | none=>False
   | some p=>match p with
    | (o,n)=>SO v fun vs=>HN (Nat.beq vs.length n && Nat.ble (o+n) cs.length) (M7 cs o vs fun cs=>PD place r cs k):=rfl
theorem ab6 (vs:yz) (o:Nat):∀(j:Nat) (cs:Array Value),(vs.zipIdx j).foldl (fun cs (c,i)=>cs.setIfInBounds (o+i) c) cs=(VS cs.toList (o+j) vs).toArray:=by
 induction vs with
 | nil=>intro j cs;simp [VS]
 | cons v vs ih=>intro j cs;simp only [List.zipIdx_cons,List.foldl_cons,ih,VS];simp [Nat.add_assoc]
theorem aag {place:Nat->Option (Nat × Nat)} (ps:List (Nat × Value)):∀{cs:yz} {k:yz->Prop},PD place ps cs k ->
  ∃cs',Instr.fill place cs.toArray ps=some cs'/\k cs'.toList:=by
 induction ps with
 | nil=>exact fun h=>⟨_,rfl,h⟩
 | cons p r ih =>
  obtain ⟨i,v⟩:=p
  intro cs k h
  simp only [Qc,V9,SD] at h
  split at h
  .grind
  .rename_i pr hp
   obtain ⟨o,n⟩:=pr
   dsimp only at h
   obtain ⟨hb,h⟩:=M6 h
   simp only [Bool.and_eq_true,Nat.beq_eq,Nat.ble_eq] at hb
   obtain ⟨cs',h1,h2⟩:=ih h
   refine ⟨cs',?_,h2⟩
   have hs:v.cells.size=n:=by grind
   simp only [Instr.fill,hp]
   rw [if_neg (by grind)]
   rw [<-h1]
   congr 1
   have:=ab6 v.cells.toList o 0 cs.toArray
   simp only [Nat.add_zero] at this
   rw [<-this,<-Array.foldl_toList,Array.toList_zipIdx]
def Oy (n:Nat) (z:yz):(yz->Prop)->Prop :=
 Nat.rec (motive:=fun _=>(yz->Prop)->Prop) (fun k=>k []) (fun _ ih k=>ih fun cs=>JN z cs k) n
theorem aa7 (n:Nat) (z:yz) (k:yz->Prop):Oy (n+1) z k=Oy n z fun cs=>JN z cs k:=rfl
theorem QO (n:Nat) (z:yz) (k:yz->Prop):Oy n z k=k (List.replicate n z).flatten:=by
 induction n generalizing k with
 | zero=>rfl
 | succ n ih=>simp only [aa7,ih,NB,List.replicate_succ,List.flatten_cons]
theorem aa8 (n:Nat) (z:Array Value):((Array.range (n * z.size)).map fun i=>z[i % z.size]!)=(List.replicate n z.toList).flatten.toArray:=by
 apply Array.ext'
 simp only [Array.toList_map,Array.toList_range]
 induction n with
 | zero=>simp
 | succ n ih =>
  rw [lpb,List.range_add,lRa,ih,List.replicate_succ',List.flatten_append]
  congr 1
  simp only [List.flatten_cons,List.flatten_nil,List.append_nil,List.map_map]
  apply List.ext_getElem
  .simp
  .intro i h1 h2
   simp only [List.length_map,List.length_range] at h1
   simp only [List.getElem_map,List.getElem_range,Function.comp]
   rw [Nat.mul_comm,Nat.mul_add_mod,Nat.mod_eq_of_lt h1]
   simp [h1]
theorem aaX {t e:TypeId} {n sz:Nat} {z:Value} {ps:Array (Nat × Value)} (hu:P.underlying t=some (.slice e)) (hz:(P.info? e).map (fun i=>(i.size,i.zero))=some (sz,some z))
  (hsz:z.cells.size=sz) (hn:n * sz<=16777216)
  (h:Oy n z.cells.toList fun zs=>PD (fun i=>some (i * sz,sz)) ps.toList zs fun cs=>K (.slice (some ⟨w.heap.size,0,none⟩) n n) (w.alloc (.cells cs.toArray e))) :
  Zg P (Instr.buildSlice t n ps) w K:=by
 rw [QO] at h
 cases hi:P.info? e with
 | none=>simp [hi] at hz
 | some i =>
  simp only [hi,Option.map_some,Option.some.injEq,Prod.mk.injEq] at hz
  obtain ⟨h1,h2⟩:=hz
  obtain ⟨cs,hf,k⟩:=aag _ h
  refine ⟨_,_,?_,k⟩
  have hb:¬(16777216<n * sz):=by omega
  by_cases h0:n * sz=0
  .have:(List.replicate n z.cells.toList).flatten=[]:=by
    apply lpa
    simp [hsz,h0]
   rw [this] at hf
   have hr:Array.range 0=#[]:=rfl
   simp [Instr.buildSlice,hr,run_underlying hu,sizeOf,typeInfo,hi,h1,h0,hf,newRow]
  .have IX:=aa8 n z.cells
   rw [hsz] at IX
   simp [Instr.buildSlice,run_underlying hu,sizeOf,typeInfo,zeroValue,hi,h1,h0,h2,hb,hsz,IX,hf,newRow]
def RD (w:World) (b:Nat) (cs:yz) (e:TypeId):Prop:=w.heap[b]?=some (.cells cs.toArray e (0,0))
def At (w:World) (b o:Nat) (vs:yz):Prop:=∃cs e fz,w.heap[b]?=some (.cells cs e fz)/\∀i v,vs[i]?=some v->cs[o+i]?=some v
structure HM (w w':World) (cs:yz) (e:TypeId):Prop where
 TX:RD w' w.heap.size cs e
 below:Below w.heap.size w w'
 size:w'.heap.size=w.heap.size+1
structure JW (w w':World) (b:Nat):Prop where
 os:w'.os=w.os
 tape:w'.tape=w.tape
 output:w'.output=w.output
 size:w'.heap.size=w.heap.size
 block:∀k,k≠b->w'.heap[k]?=w.heap[k]?
theorem HM.mk' (w:World) (cs:yz) (e:TypeId):HM w (w.alloc (.cells cs.toArray e)) cs e :=
 ⟨heap_alloc_new w _,(Below.refl _ _).alloc (lna _) _,by simp⟩
theorem JW.below {B:Nat} {w0 w w':World} {b:Nat} (h:JW w w' b) (hb:Below B w0 w) (hB:B<=b):Below B w0 w' :=
 ⟨h.os.trans hb.os,h.tape.trans hb.tape,h.output.trans hb.output,by rw [h.size];exact hb.size,fun k hk=>(h.block k yY).trans (hb.block k hk)⟩
theorem RD.at {w:World} {b:Nat} {cs:yz} {e:TypeId} (h:RD w b cs e):At w b 0 cs :=
 ⟨_,_,_,h,fun i v hi=>by simpa using hi⟩
theorem RD.lt {w:World} {b:Nat} {cs:yz} {e:TypeId} (h:RD w b cs e):b<w.heap.size:=(lAa.1 h).1
theorem At.lt {w:World} {b o:Nat} {vs:yz} (h:At w b o vs):b<w.heap.size:=by
 obtain ⟨_,_,_,h,_⟩:=h;exact (lAa.1 h).1
theorem RD.keep {w w':World} {b:Nat} {cs:yz} {e:TypeId} (h:RD w b cs e) (hk:w'.heap[b]?=w.heap[b]?):RD w' b cs e:=hk.trans h
theorem RD.below {B:Nat} {w w':World} {b:Nat} {cs:yz} {e:TypeId} (h:RD w b cs e) (hb:Below B w w') (hB:b<B):RD w' b cs e:=h.keep (hb.block b hB)
theorem At.keep {w w':World} {b o:Nat} {vs:yz} (h:At w b o vs) (hk:w'.heap[b]?=w.heap[b]?):At w' b o vs:=by
 obtain ⟨cs,e,fz,h1,h2⟩:=h;exact ⟨cs,e,fz,hk.trans h1,h2⟩
theorem At.below {B:Nat} {w w':World} {b o:Nat} {vs:yz} (h:At w b o vs) (hb:Below B w w') (hB:b<B):At w' b o vs:=h.keep (hb.block b hB)
theorem At.sub {w:World} {b o:Nat} {vs:yz} (h:At w b o vs) (i n:Nat):At w b (o+i) ((vs.drop i).take n):=by
 obtain ⟨cs,e,fz,h1,h2⟩:=h
 refine ⟨cs,e,fz,h1,fun j v hj=>?_⟩
 rw [lNa] at hj
 split at hj
 .grind
 .grind
theorem anm {t:TypeId} {v:Value} (h:SO v fun cs=>∀w',HM w w' cs t->K (.pointer (some ⟨w.heap.size,0,none⟩)) w'):Zg P (Instr.box t v) w K :=
 akV (by rw [V9] at h ⊢;exact h _ (HM.mk' _ _ _))
theorem ai5 {t:TypeId} {z:Value} (hz:(P.info? t).bind (fun i=>i.zero)=some z) (h:SO z fun cs=>∀w',HM w w' cs t->K (.pointer (some ⟨w.heap.size,0,none⟩)) w') :
  Zg P (Instr.alloc t true (.tuple #[])) w K :=
 agC hz (by rw [V9] at h ⊢;exact h _ (HM.mk' _ _ _))
theorem aaz {place:Nat->Option (Nat × Nat)} (ps:List (Nat × Value)):∀{cs:yz} {k k':yz->Prop},PD place ps cs k->(∀cs,k cs->k' cs)->PD place ps cs k':=by
 induction ps with
 | nil=>exact fun h hk=>hk _ h
 | cons p r ih =>
  obtain ⟨i,v⟩:=p
  intro cs k k' h hk
  simp only [Qc,V9,SD] at h ⊢
  split at h
  .omega
  .rename_i pr hp
   obtain ⟨o,n⟩:=pr
   dsimp only at h ⊢
   obtain ⟨hb,h⟩:=M6 h
   rw [hb];exact ih h hk
theorem aah {t e:TypeId} {n sz:Nat} {z:Value} {ps:Array (Nat × Value)} (hu:P.underlying t=some (.slice e)) (hz:(P.info? e).map (fun i=>(i.size,i.zero))=some (sz,some z))
  (hsz:z.cells.size=sz) (hn:n * sz<=16777216)
  (h:Oy n z.cells.toList fun zs=>PD (fun i=>some (i * sz,sz)) ps.toList zs fun cs=>∀w',HM w w' cs e->K (.slice (some ⟨w.heap.size,0,none⟩) n n) w') :
  Zg P (Instr.buildSlice t n ps) w K :=
 aaX hu hz hsz hn (by rw [QO] at h ⊢;exact aaz _ h fun cs h=>h _ (HM.mk' _ _ _))
def NN:TypeDesc->Bool
 | .struct _|.array _ _=>true
 | _=>false
theorem TW {t:TypeId} {d:TypeDesc} (hu:P.underlying t=some d):(isAgg t).run P w=.ok (NN d) w:=by
 unfold isAgg
 rw [Sem.run_bind,run_underlying hu w]
 cases d <;> rfl
theorem At.cell {w:World} {b o:Nat} {vs:yz} (h:At w b o vs) {i:Nat} {v:Value} (hi:vs[i]?=some v):w.cell? ⟨b,o+i,none⟩=some v:=by
 obtain ⟨cs,e,fz,h1,h2⟩:=h
 rw [cell_of_row w b (o+i) cs e fz h1];exact h2 i v hi
theorem ai6 {t:TypeId} {d:TypeDesc} {b o:Nat} {v:Value} (hc:w.cell? ⟨b,o,none⟩=some v) (hu:P.underlying t=some d) (hd:NN d=false) (k:K v w) :
  Zg P (Instr.loadAt t (.pointer (some ⟨b,o,none⟩))) w K:=by
 refine ⟨v,w,?_,k⟩
 simp [Instr.loadAt,Instr.sureAddr,loadVar,TW hu,hd,hc]
theorem akW {t:TypeId} {d:TypeDesc} {b o:Nat} {vs:yz} (h:At w b o vs) (i:Nat) (hu:P.underlying t=some d) (hd:NN d=false) (k:JM vs i fun v=>K v w) :
  Zg P (Instr.loadAt t (.pointer (some ⟨b,o+i,none⟩))) w K:=by
 obtain ⟨v,hv,k⟩:=NA k
 exact ai6 (h.cell hv) hu hd k
theorem agD {t:TypeId} {d:TypeDesc} {b o:Nat} {vs:yz} (h:At w b o vs) (hu:P.underlying t=some d) (hd:NN d=true) (hs:(P.info? t).map (·.size)=some vs.length) (k:K (.agg vs.toArray) w) :
  Zg P (Instr.loadAt t (.pointer (some ⟨b,o,none⟩))) w K:=by
 refine ⟨_,w,?_,k⟩
 cases hi:P.info? t with
 | none=>simp [hi] at hs
 | some i =>
  have hl:i.size=vs.length:=by grind
  have:=run_loadCells_list (P:=P) w ⟨b,o,none⟩ vs (fun j v hv=>by rw [Addr.add_lit];exact h.cell hv)
  simp [Instr.loadAt,Instr.sureAddr,loadVar,TW hu,hd,sizeOf,typeInfo,hi,hl,this]
def M5 (l:yz):Nat->(yz->Prop)->Prop :=
 List.rec (motive:=fun _=>Nat->(yz->Prop)->Prop) (fun _ k=>k []) (fun x r ih n k=>Nat.rec (motive:=fun _=>Prop) (k (x::r)) (fun m _=>ih m k) n) l
theorem ab7 (x:Value) (r:yz) (n:Nat) (k:yz->Prop):M5 (x::r) (n+1) k=M5 r n k:=rfl
def Lp (l:yz):Nat->(yz->Prop)->Prop :=
 List.rec (motive:=fun _=>Nat->(yz->Prop)->Prop) (fun n k=>Nat.rec (motive:=fun _=>Prop) (k []) (fun _ _=>False) n) (fun x _ ih n k=>Nat.rec (motive:=fun _=>Prop) (k []) (fun m _=>ih m fun l=>k (x::l)) n) l
theorem PC (l:yz) (n:Nat) (k:yz->Prop):M5 l n k=k (l.drop n):=by
 induction l generalizing n with
 | nil=>cases n <;> rfl
 | cons x r ih=>cases n with
  | zero=>rfl
  | succ n=>simp [ab7,ih]
theorem M4 {l:yz} {n:Nat} {k:yz->Prop} (h:Lp l n k):n<=l.length/\k (l.take n):=by
 induction l generalizing n k with
 | nil=>cases n with
  | zero=>exact ⟨lna _,h⟩
  | succ n=>exact h.elim
 | cons x r ih=>cases n with
  | zero=>exact ⟨lEa _,h⟩
  | succ n=>obtain ⟨h1,h2⟩:=ih (n:=n) h;exact ⟨by simp;omega,by simpa using h2⟩
theorem ai7 {t:TypeId} {d:TypeDesc} {b o:Nat} {vs:yz} (h:At w b o vs) (i:Nat) (hu:P.underlying t=some d) (hd:NN d=true)
  (k:M5 vs i fun r=>Lp r (P.cellsOf t) fun us=>K (.agg us.toArray) w) :
  Zg P (Instr.loadAt t (.pointer (some ⟨b,o+i,none⟩))) w K:=by
 rw [PC] at k
 obtain ⟨h1,h2⟩:=M4 k
 refine agD (h.sub i (P.cellsOf t)) hu hd ?_ h2
 cases hi:P.info? t with
 | none=>simp [Program.underlying,hi] at hu
 | some j=>simp [Program.cellsOf,hi] at h1 ⊢;omega
theorem agE {t:TypeId} {e:TypeId} {b o:Nat} {cs:yz} {v:Value} {K:World->Prop} (hb:RD w b cs e) (ho:o<cs.length) (hs:(P.info? t).map (·.size)=some 1) (hv:v.oneCell'=true)
  (k:HR cs o v fun cs'=>∀w',JW w w' b->RD w' b cs' e->K w'):HQ P (Instr.storeAt t (.pointer (some ⟨b,o,none⟩)) v) w K:=by
 rw [SU] at k
 cases hi:P.info? t with
 | none=>simp [hi] at hs
 | some i =>
  have hl:i.size=1:=by grind
  have hvc:v.cells=#[v]:=by cases v <;> first|rfl|(simp [Value.oneCell'] at hv)
  have hc:w.cell? ⟨b,o,none⟩=some cs[o]:=by
   rw [cell_of_row w b o _ e (0,0) hb];simp [ho]
  have hf:w.frozen? ⟨b,o,none⟩=false:=frozen_of_row w b o _ e hb
  have hw:JW w (w.setCell ⟨b,o,none⟩ v) b:=⟨rfl,rfl,rfl,by simp,fun k hk=>heap_setCell_other w _ k v hk⟩
  have EX:RD (w.setCell ⟨b,o,none⟩ v) b (cs.set o v) e:=by
   unfold RD
   rw [heap_setCell_same w b o _ e v hb];simp
  refine ⟨_,?_,k _ hw EX⟩
  have hst:(store ⟨b,o,none⟩ v).run P w=.ok () (w.setCell ⟨b,o,none⟩ v):=by
   cases v <;> first|(simp [Value.oneCell'] at hv;done)|simp [store,Sem.run,hc,hf]
  simp [Instr.storeAt,Instr.sureAddr,storeVar,sizeOf,typeInfo,hi,hl,hvc,storeCells,Addr.add_zero',hst]
theorem acI {t:TypeId} {e:TypeId} {b o:Nat} {cs:yz} {v:Value} {K:World->Prop} (hb:RD w b cs e) (ho:o<cs.length) (hs:(P.info? t).map (·.size)=some 1) (hv:v.oneCell'=true)
  (k:∀w',JW w w' b->RD w' b (cs.set o v) e->K w'):HQ P (Instr.storeAt t (.pointer (some ⟨b,o,none⟩)) v) w K :=
 agE hb ho hs hv (by rw [SU];exact k)
theorem ann {t e:TypeId} {b o len cap:Nat} {ki:IntKind} {i:Int} (sz j p:Nat) (hj:i=j) (hl:j<len) (hp:o+j * sz=p) (ht:P.underlying t=some (.slice e)) (hs:(P.info? e).map (fun i=>i.size)=some sz)
  (k:K (.pointer (some ⟨b,p,none⟩)) w):Zg P (Instr.indexAt t (.slice (some ⟨b,o,none⟩) len cap) (.int ki i)) w K:=by
 subst hj;subst hp
 refine ⟨_,w,?_,k⟩
 cases hi':P.info? e with
 | none=>simp [hi'] at hs
 | some i' =>
  simp only [hi',Option.map_some,Option.some.injEq] at hs
  simp [Instr.indexAt,asIntOf,run_underlying ht,sizeOf,typeInfo,hi',hs,Addr.add_lit,hl]
theorem JW.trans {w w' w'':World} {b:Nat} (h:JW w w' b) (k:JW w' w'' b):JW w w'' b :=
 ⟨k.os.trans h.os,k.tape.trans h.tape,k.output.trans h.output,k.size.trans h.size,fun i hi=>(k.block i hi).trans (h.block i hi)⟩
theorem JW.refl (w:World) (b:Nat):JW w w b:=⟨rfl,rfl,rfl,rfl,fun _ _=>rfl⟩
def DG (l:List Field):Nat->(TypeId->Nat->Prop)->Prop :=
 List.rec (motive:=fun _=>Nat->(TypeId->Nat->Prop)->Prop) (fun _ _=>False) (fun f _ ih n k=>Nat.rec (motive:=fun _=>Prop) (match f with
  | ⟨_,ty,off,_,_,_,_⟩=>k ty off) (fun m _=>ih m k) n) l
theorem acJ {l:List Field} {i:Nat} {k:TypeId->Nat->Prop} (h:DG l i k):∃f,l[i]?=some f/\k f.type f.offset:=by
 induction l generalizing i with
 | nil=>exact h.elim
 | cons f r ih=>cases i with
  | zero=>exact ⟨f,rfl,h⟩
  | succ i=>simpa using ih (i:=i) h
theorem Z9 {s:TypeId} {fs:Array Field} {i b o:Nat} (hu:P.underlying s=some (.struct fs)) (h:DG fs.toList i fun ty off=>HN (Nat.ble 1 (P.cellsOf ty)) (K (.pointer (some ⟨b,o+off,none⟩)) w)) :
  Zg P (Instr.fieldAt s (.pointer (some ⟨b,o,none⟩)) i) w K:=by
 obtain ⟨f,hf,h⟩:=acJ h
 obtain ⟨h1,h2⟩:=M6 h
 refine ⟨_,w,?_,h2⟩
 simp only [Array.getElem?_toList] at hf
 have h1:1<=P.cellsOf f.type:=by simpa using h1
 cases hi:P.info? f.type with
 | none=>simp [Program.cellsOf,hi] at h1
 | some j =>
  have:j.size≠0:=by grind [Program.cellsOf]
  simp [Instr.fieldAt,run_underlying hu,hf,Instr.sureAddr,fieldPlace,sizeOf,typeInfo,hi,this,Addr.add_lit]
def GH (P:Program) (ty:TypeId) (cs:yz) (off:Nat) (k:Value->Prop):Prop :=
 match P.underlying ty with
 | some d=>match NN d with
  | true=>M5 cs off fun r=>Lp r (P.cellsOf ty) fun vs=>k (.agg vs.toArray)
  | false=>JM cs off k
 | none=>False
theorem aa9 {ty:TypeId} {cs:yz} {off:Nat} {k:Value->Prop} (h:GH P ty cs off k):∃v,(part ty cs.toArray off).run P w=.ok v w/\k v:=by
 unfold GH at h
 split at h
 .rename_i d hu
  split at h
  .rename_i hd
   rw [PC] at h
   obtain ⟨h1,h2⟩:=M4 h
   refine ⟨_,?_,h2⟩
   cases hi:P.info? ty with
   | none=>simp [Program.underlying,hi] at hu
   | some i =>
    simp [part,TW hu,hd,sizeOf,typeInfo,hi,Program.cellsOf]
  .rename_i hd
   obtain ⟨v,hv,h⟩:=NA h
   exact ⟨v,by simp [part,TW hu,hd,hv],h⟩
 .grind
theorem R7 {s:TypeId} {fs:Array Field} {i:Nat} {cs:Array Value} (hu:P.underlying s=some (.struct fs)) (h:DG fs.toList i fun ty off=>GH P ty cs.toList off fun v=>K v w) :
  Zg P (Instr.field s (.agg cs) i) w K:=by
 obtain ⟨f,hf,h⟩:=acJ h
 obtain ⟨v,hv,h⟩:=aa9 (w:=w) h
 refine ⟨v,w,?_,h⟩
 simp only [Array.getElem?_toList] at hf
 simp only [Array.toArray_toList] at hv
 simp [Instr.field,run_underlying hu,hf,asAgg,hv]
def Ny (P:Program) (l:List Field):(List (Nat × Nat)->Prop)->Prop :=
 List.rec (motive:=fun _=>(List (Nat × Nat)->Prop)->Prop) (fun k=>k []) (fun f _ ih k=>match f with
  | ⟨_,ty,off,_,_,_,_⟩=>ih fun l=>k ((off,P.cellsOf ty)::l)) l
theorem aaY (f:Field) (r:List Field) (k:List (Nat × Nat)->Prop):Ny P (f::r) k=Ny P r fun l=>k ((f.offset,P.cellsOf f.type)::l):=by cases f;rfl
theorem ab8 (l:List Field) (k:List (Nat × Nat)->Prop):Ny P l k=k (l.map fun f=>(f.offset,P.cellsOf f.type)):=by
 induction l generalizing k with
 | nil=>rfl
 | cons f r ih=>simp [aaY,ih]
theorem aba {α β:Type} {g:α->Sem β} {h:α->β}:∀(l:List α),(∀a,a∈l->(g a).run P w=.ok (h a) w)->(l.mapM g).run P w=.ok (l.map h) w
 | [],_=>by simp
 | a::r,hl=>by
  rw [List.mapM_cons]
  simp only [Sem.run_bind,hl a (List.mem_cons_self ..),Result.andThen_ok,aba r fun b hb=>hl b (List.mem_cons_of_mem _ hb),Sem.run_pure,List.map_cons]
theorem ab9 {t:TypeId} (h:(P.info? t).isSome=true):(sizeOf t).run P w=.ok (P.cellsOf t) w:=by
 obtain ⟨j,hj⟩:=Option.isSome_iff_exists.1 h
 simp [sizeOf,typeInfo,hj,Program.cellsOf]
theorem Zn {t:TypeId} {fs:Array Field} {z:Value} {ps:Array (Nat × Value)} (hu:P.underlying t=some (.struct fs)) (hz:(P.info? t).bind (fun i=>i.zero)=some z)
  (hf:fs.toList.all (fun f=>(P.info? f.type).isSome)=true)
  (h:Ny P fs.toList fun pl=>SO z fun zs=>PD (fun i=>pl[i]?) ps.toList zs fun cs=>K (.agg cs.toArray) w):Zg P (Instr.build t ps) w K:=by
 rw [ab8,V9] at h
 obtain ⟨cs,h1,h2⟩:=aag _ h
 refine ⟨_,w,?_,h2⟩
 cases hi:P.info? t with
 | none=>simp [hi] at hz
 | some i =>
  simp only [hi,Option.bind_some] at hz
  have hm:(fs.mapM (m:=Sem) fun f=>do pure (f.offset,<-sizeOf f.type)).run P w=.ok (fs.toList.map fun f=>(f.offset,P.cellsOf f.type)).toArray w:=by
   rw [Array.mapM_eq_mapM_toList]
   rw [Sem.run_map,aba (h:=fun f=>(f.offset,P.cellsOf f.type)) _ (fun f hm=>?_)]
   .rfl
   .grind [Sem.run_bind,ab9,Result.andThen_ok,Sem.run_pure]
  have hzv:(zeroValue t).run P w=.ok z w:=by simp [zeroValue,typeInfo,hi,hz]
  simp only [Array.toArray_toList] at h1
  unfold Instr.build
  simp only [Sem.run_bind,hzv,Result.andThen_ok,run_underlying hu,hm,List.getElem?_toArray,h1,Sem.run_pure,Array.toArray_toList]
end YX
namespace YX
open Go Go.RowKit
variable {P:Program} {w:World} {K:Value->World->Prop}
theorem aer {lo:Nat} {w w':World} {e:TypeId} {sz:Nat} {v:Value} {n:Nat} {xs:yz} (h:w.ownsRow lo e sz v n xs) (hb:∀k,v.ownBlock=some k->w'.heap[k]?=w.heap[k]?):w'.ownsRow lo e sz v n xs:=by
 refine ⟨h.1,?_⟩
 rcases h.2 with hn|⟨g,cap,cur,rfl,AY,hgg,rest⟩
 .grind
 .refine .inr ⟨g,cap,cur,rfl,AY,?_,rest⟩
  rw [hb g rfl];exact hgg
theorem aes {lo lo':Nat} {w:World} {e:TypeId} {sz:Nat} {v:Value} {n:Nat} {xs:yz} (h:w.ownsRow lo e sz v n xs) (hl:lo'<=lo):w.ownsRow lo' e sz v n xs:=by
 refine ⟨h.1,?_⟩
 rcases h.2 with hn|⟨g,cap,cur,rfl,AY,rest⟩
 .grind
 .exact .inr ⟨g,cap,cur,rfl,lGa hl AY,rest⟩
theorem HM.own {w w':World} {cs:yz} {e:TypeId} (h:HM w w' cs e) (n sz:Nat) (hn:cs.length=n * sz) (hm:n<=140737488355328):w'.ownsRow w.heap.size e sz (.slice (some ⟨w.heap.size,0,none⟩) n n) n cs :=
 ⟨hn,.inr ⟨w.heap.size,n,cs.toArray,rfl,lna _,h.TX,lna _,by simp [maxLen];omega,by simpa using hn,lsa (by simp [hn])⟩⟩
abbrev Hv:=Nat->Obj->Prop
def Rg (w:World) (lo hi:Nat):Hv:=fun b o=>lo<=b/\b<hi/\w.heap[b]?=some o
def JI (H H':Hv):Prop:=∀b o,H b o->H' b o
theorem JI.refl (H:Hv):JI H H:=fun _ _ h=>h
theorem Rg.mono {w w':World} {lo hi lo' hi':Nat} (hlo:lo'<=lo) (hhi:hi<=hi') (hs:∀b,lo<=b->b<hi->w'.heap[b]?=w.heap[b]?):JI (Rg w lo hi) (Rg w' lo' hi') :=
 fun b o ⟨h1,h2,h3⟩=>⟨lGa hlo h1,Nat.lt_of_lt_of_le h2 hhi,(hs b h1 h2).trans h3⟩
theorem Rg.below {w w':World} {lo hi B:Nat} (hb:Below B w w') (h:hi<=B):JI (Rg w lo hi) (Rg w' lo hi):=Rg.mono (lna _) (lna _) fun b _ h2=>hb.block b (Nat.lt_of_lt_of_le h2 h)
def D6 (H:Hv) (b o:Nat) (vs:yz):Prop:=∃cs e fz,H b (.cells cs e fz)/\∀i v,vs[i]?=some v->cs[o+i]?=some v
theorem D6.at {w:World} {lo hi b o:Nat} {vs:yz} (h:D6 (Rg w lo hi) b o vs):At w b o vs:=by
 obtain ⟨cs,e,fz,⟨_,_,h1⟩,h2⟩:=h;exact ⟨cs,e,fz,h1,h2⟩
theorem D6.mono {H H':Hv} {b o:Nat} {vs:yz} (h:D6 H b o vs) (hh:JI H H'):D6 H' b o vs:=by
 obtain ⟨cs,e,fz,h1,h2⟩:=h;exact ⟨cs,e,fz,hh _ _ h1,h2⟩
section
variable {α:Type}
def EW (R:Hv->yz->α->Prop) (sz:Nat) (H:Hv) (cells:yz) (xs:List α):Prop :=
 cells.length=xs.length * sz/\∀i x,xs[i]?=some x->R H ((cells.drop (i * sz)).take sz) x
def VL (R:Hv->yz->α->Prop) (sz:Nat) (H:Hv) (v:Value) (xs:List α):Prop :=
 ∃a cap,v=.slice a xs.length cap/\(xs.length<=cap/\cap<=9223372036854775807)/\(a=none->xs=[]/\cap=0) /\
  (xs≠[]->∃b o news,a=some ⟨b,o,none⟩/\D6 H b o news/\EW R sz H news xs)
def DF (R:Hv->yz->α->Prop):Prop:=∀H H' vs x,JI H H'->R H vs x->R H' vs x
theorem EW.mono {R:Hv->yz->α->Prop} {sz:Nat} {H H':Hv} {cells:yz} {xs:List α} (hR:DF R) (h:EW R sz H cells xs) (hh:JI H H'):EW R sz H' cells xs :=
 ⟨h.1,fun i x hx=>hR _ _ _ _ hh (h.2 i x hx)⟩
theorem VL.mono {R:Hv->yz->α->Prop} {sz:Nat} {H H':Hv} {v:Value} {xs:List α} (hR:DF R) (h:VL R sz H v xs) (hh:JI H H'):VL R sz H' v xs:=by
 obtain ⟨a,cap,h1,h2,h3,h4⟩:=h
 exact ⟨a,cap,h1,h2,h3,fun hx=>let ⟨b,o,news,e,k1,k2⟩:=h4 hx;⟨b,o,news,e,k1.mono hh,k2.mono hR hh⟩⟩
theorem VL.len {R:Hv->yz->α->Prop} {sz:Nat} {H:Hv} {v:Value} {xs:List α} (h:VL R sz H v xs):xs.length<=9223372036854775807:=by
 obtain ⟨a,cap,h1,h2,h3,h4⟩:=h;omega
theorem VL.nil (R:Hv->yz->α->Prop) (sz:Nat) (H:Hv):VL R sz H (.slice none 0 0) [] :=
 ⟨none,0,rfl,by simp,fun _=>⟨rfl,rfl⟩,fun h=>absurd rfl h⟩
theorem akX {R:Hv->yz->α->Prop} {sz:Nat} {H:Hv} {t ty e:TypeId} {v:Value} {xs:List α} (h:VL R sz H v xs) (ht:P.underlying t=some (.slice e)) (k:K (.int .i64 xs.length) w) :
  Zg P (Builtin.len_ #[t] ty #[v]) w K:=by
 obtain ⟨a,cap,rfl,h2,h3,h4⟩:=h
 exact V6 ht k
end
end YX
namespace YX
open Go
theorem PB (k:IntKind) (x:Int) (n:Nat) (hn:n<=k.bits):Xh k x n=x / 2 ^ n:=by grind [Xh]
theorem Uv (n:Nat) (x:Int):((BitVec.ofInt n x).toNat:Int)=x % 2 ^ n:=by
 rw [BitVec.toNat_ofInt]
 have h:0<=x % ((2 ^ n:Nat):Int):=lPb _ (by exact_mod_cast Nat.ne_of_gt (leb n))
 rw [Int.toNat_of_nonneg h]
 norm_cast
theorem aaA (k:IntKind) (x:Int) (n:Nat) (hn:n<k.bits):Ti k x (2 ^ n-1)=x % 2 ^ n:=by
 unfold Ti
 have h1:(BitVec.ofInt k.bits (2 ^ n-1)).toNat=2 ^ n-1:=by
  have h2:=Uv k.bits (2 ^ n-1)
  have h3:((2:Int) ^ n-1) % 2 ^ k.bits=2 ^ n-1:=by
   have a:(0:Int)<2 ^ n:=by exact_mod_cast leb n
   have b:(2:Int) ^ n<=2 ^ k.bits:=by exact_mod_cast lua (by decide) (lUa hn)
   exact Int.emod_eq_of_lt yY yY
  rw [h3] at h2
  have h4:((2 ^ n-1:Nat):Int)=2 ^ n-1:=by
   rw [Int.ofNat_sub (Nat.one_le_two_pow)];norm_cast
  omega
 rw [BitVec.toNat_and,h1,Nat.and_two_pow_sub_one_eq_mod]
 have h5:(((BitVec.ofInt k.bits x).toNat % 2 ^ n:Nat):Int)=x % 2 ^ n:=by
  rw [Int.natCast_emod,Uv]
  have:((2 ^ n:Nat):Int)=2 ^ n:=by norm_cast
  rw [this]
  exact Int.emod_emod_of_dvd x (by exact_mod_cast Nat.pow_dvd_pow 2 (lUa hn))
 rw [h5]
 have a:(0:Int)<2 ^ n:=by exact_mod_cast leb n
 have h6:=lPb x (Int.ne_of_gt a)
 have h7:=lXb x a
 have h8:(2:Int) ^ n<=2 ^ (k.bits-1):=by exact_mod_cast lua (by decide) yY
 have h9:=Ux (k:=k) (n:=x % 2 ^ n) (by
   unfold IntKind.min;split
   .have:(0:Int)<2 ^ (k.bits-1):=by exact_mod_cast leb _
    omega
   .exact h6) (by
   unfold IntKind.max
   have:(2:Int) ^ (k.bits-1)<=2 ^ k.bits:=by exact_mod_cast lua (by decide) yY
   split <;> omega)
 unfold ZM at h9
 exact h9
theorem acK (k:IntKind) (a b:Nat) (n:Nat) (ha:a<2 ^ n) (hb:2 ^ n ∣ b) (hk:(a:Int)+b<=k.max):SG k a b=a+b:=by
 unfold SG
 have akY:k.max<2 ^ k.bits:=by cases k <;> decide
 have ea:(BitVec.ofInt k.bits (a:Int)).toNat=a:=by grind
 have eb:(BitVec.ofInt k.bits (b:Int)).toNat=b:=by grind
 obtain ⟨c,rfl⟩:=hb
 rw [BitVec.toNat_or,ea,eb,Nat.or_comm,<-Nat.two_pow_add_eq_or_of_lt ha]
 have:=Ux (k:=k) (n:=((2 ^ n * c+a:Nat):Int)) (by
  have:k.min<=0:=by cases k <;> decide
  omega) yY
 unfold ZM at this
 rw [this]
 omega
theorem R6 (k:IntKind) (x:Int) (n:Nat) (hn:n<=k.bits):WG k x n=ZM k (x * 2 ^ n):=by grind [WG,ZM]
theorem KX (k:IntKind) (x:Int):Ti k x 127=x % 128:=aaA k x 7 (by cases k <;> decide)
theorem XD (k:IntKind) (n:Int):k.min<=ZM k n/\ZM k n<=k.max:=by
 unfold ZM
 cases k <;> simp [IntKind.wrap,IntKind.min,IntKind.max,IntKind.bits,IntKind.signed] <;> omega
end YX
namespace Yg
open Go YX
def XY (n:Nat):yA:=if h:n<128 then [UInt8.ofNat n] else UInt8.ofNat (n % 128+128)::XY (n / 128)
termination_by n
decreasing_by omega
def We (n:Int):yA:=if h:-64<=n/\n<64 then [UInt8.ofNat (n % 128).toNat] else UInt8.ofNat ((n % 128).toNat+128)::We (n / 128)
termination_by n.natAbs
decreasing_by omega
theorem PA {n:Nat} (h:n<128):XY n=[UInt8.ofNat n]:=by rw [XY,dif_pos h]
theorem Pz {n:Nat} (h:128<=n):XY n=UInt8.ofNat (n % 128+128)::XY (n / 128):=by rw [XY,dif_neg yY]
theorem R5 {n:Int} (h:-64<=n/\n<64):We n=[UInt8.ofNat (n % 128).toNat]:=by rw [We,dif_pos h]
theorem Rv {n:Int} (h:¬(-64<=n/\n<64)):We n=UInt8.ofNat ((n % 128).toNat+128)::We (n / 128):=by rw [We,dif_neg h]
theorem aet (n:Nat):0<(XY n).length:=by grind [PA,Pz]
theorem aeu (n:Int):0<(We n).length:=by grind [R5,Rv]
theorem M3 (k:Nat):∀n,n<128 ^ (k+1)->(XY n).length<=k+1:=by
 induction k with
 | zero=>intro n h;rw [PA yY];simp
 | succ k ih =>
  intro n h
  by_cases h1:n<128
  .grind
  .grind [Pz,List.length_cons,Nat.pow_succ]
theorem M1 (k:Nat):∀n:Int,-(64 * 128 ^ k:Nat)<=n->n<(64 * 128 ^ k:Nat)->(We n).length<=k+1:=by
 induction k with
 | zero=>intro n h h';rw [R5 yY];simp
 | succ k ih =>
  intro n h h'
  by_cases h1:-64<=n/\n<64
  .grind
  .rw [Rv h1,lja]
   have e:64 * 128 ^ (k+1)=128 * (64 * 128 ^ k):=by omega
   rw [e] at h h'
   have:=ih (n / 128) yY yY
   omega
theorem VR {n:Nat} (h:n<256):(UInt8.ofNat n).toNat=n:=by grind [UInt8.toNat_ofNat']
def PJ (bits:Nat):yA->Nat->Nat->Nat × Nat × Nat
 | [],_,_=>(0,0,3)
 | c::r,i,acc =>
  if bits<7 * i+7/\c.toNat / 2 ^ (bits-7 * i)≠0 then (0,0,4)
  else if c.toNat<128 then (acc+c.toNat % 128 * 2 ^ (7 * i),i+1,0)
  else PJ bits r (i+1) (acc+c.toNat % 128 * 2 ^ (7 * i))
def Th (c:Nat):Int:=if c % 128<64 then (c % 128:Nat) else (c % 128:Nat)-128
def M0 (bits i c:Nat):Prop:=bits<7 * i+7/\(128<=c\/Th c < -((2 ^ (bits-7 * i-1):Nat):Int)\/((2 ^ (bits-7 * i-1):Nat):Int)<=Th c)
instance (bits i c:Nat):Decidable (M0 bits i c):=by unfold M0;exact inferInstance
def Qv (bits:Nat):yA->Nat->Nat->Int × Nat × Nat
 | [],_,_=>(0,0,3)
 | c::r,i,acc =>
  if M0 bits i c.toNat then (0,0,4)
  else if c.toNat<128 then (acc+Th c.toNat * (2 ^ (7 * i):Nat),i+1,0)
  else Qv bits r (i+1) (acc+c.toNat % 128 * 2 ^ (7 * i))
theorem UH (i:Nat):2 ^ (7 * (i+1))=128 * 2 ^ (7 * i):=by grind
theorem aev (bits:Nat) (more:yA):∀(m i acc:Nat),7 * i<bits->m<2 ^ (bits-7 * i) ->
  PJ bits (XY m++more) i acc=(acc+m * 2 ^ (7 * i),i+(XY m).length,0):=by
 intro m
 induction m using Nat.strongRecOn with
 | _ m ih =>
  intro i acc hi hm
  by_cases h:m<128
  .rw [PA h,List.singleton_append,PJ,VR yY,if_neg,if_pos h,Nat.mod_eq_of_lt h]
   .rfl
   .rintro ⟨_,h2⟩;exact h2 (Nat.div_eq_of_lt hm)
  .have h8:7 * i+8<=bits:=by
    rcases loa bits (7 * i+8) with hl|hl
    .have:(2:Nat) ^ (bits-7 * i)<=2 ^ 7:=lua (by decide) yY
     omega
    .omega
   rw [Pz yY,lLa,PJ,VR yY,if_neg yY,if_neg yY]
   have e1:(m % 128+128) % 128=m % 128:=by omega
   rw [e1,ih (m / 128) yY (i+1) _ yY]
   .rw [UH,lja]
    have e2:m % 128 * 2 ^ (7 * i)+m / 128 * (128 * 2 ^ (7 * i))=m * 2 ^ (7 * i):=by
     rw [<-Nat.mul_assoc,<-lFb];congr 1;omega
    refine Prod.ext yY (Prod.ext ?_ rfl)
    .grind
   .have e3:2 ^ (bits-7 * i)=128 * 2 ^ (bits-7 * (i+1)):=by
     have:bits-7 * i=7+(bits-7 * (i+1)):=by omega
     rw [this,Nat.pow_add]
    rw [e3] at hm
    omega
theorem agF (bits:Nat):∀(m i acc j:Nat),7 * i<bits->m<2 ^ (bits-7 * i)->j<(XY m).length->PJ bits ((XY m).take j) i acc=(0,0,3):=by
 intro m
 induction m using Nat.strongRecOn with
 | _ m ih =>
  intro i acc j hi hm hj
  by_cases h:m<128
  .rw [PA h] at hj ⊢
   have:j=0:=by grind
   subst this;rfl
  .have h8:7 * i+8<=bits:=by
    rcases loa bits (7 * i+8) with hl|hl
    .have:(2:Nat) ^ (bits-7 * i)<=2 ^ 7:=lua (by decide) yY
     omega
    .omega
   rw [Pz yY] at hj ⊢
   cases j with
   | zero=>rfl
   | succ j =>
    rw [List.take_succ_cons,PJ,VR yY,if_neg yY,if_neg yY]
    have e3:2 ^ (bits-7 * i)=128 * 2 ^ (bits-7 * (i+1)):=by
     have:bits-7 * i=7+(bits-7 * (i+1)):=by omega
     rw [this,Nat.pow_add]
    exact ih (m / 128) yY (i+1) _ j yY yY (by grind)
theorem adJ (bits:Nat):∀(s:yA) (i acc n k:Nat),acc<2 ^ (7 * i)->PJ bits s i acc=(n,k,0)->n<2 ^ (7 * k)/\i<k/\k<=i+s.length:=by
 intro s
 induction s with
 | nil=>intro i acc n k _ h;simp [PJ] at h
 | cons c r ih =>
  intro i acc n k ha h
  have hb:acc+c.toNat % 128 * 2 ^ (7 * i)<2 ^ (7 * (i+1)):=by
   rw [UH]
   have h2:(c.toNat % 128+1) * 2 ^ (7 * i)<=128 * 2 ^ (7 * i):=lza _ yY
   rw [lFb] at h2
   omega
  rw [PJ] at h
  split at h
  .grind
  .split at h
   .grind
   .obtain ⟨h1,h2,h3⟩:=ih (i+1) _ n k hb h
    exact ⟨h1,by omega,by simp;omega⟩
theorem acd {n k:Nat} (h:n<2 ^ (7 * k)) (hk:0<k):(XY n).length<=k:=by
 obtain ⟨j,rfl⟩:∃j,k=j+1:=⟨k-1,by omega⟩
 exact M3 j n (by grind [Nat.pow_mul])
theorem aew (m:Int) (h:-64<=m/\m<64):Th (m % 128).toNat=m:=by grind [Th]
theorem abb (bits:Nat) (more:yA):∀(k:Nat) (m:Int) (i acc:Nat),m.natAbs<=k->7 * i<bits->-((2 ^ (bits-7 * i-1):Nat):Int)<=m->m<((2 ^ (bits-7 * i-1):Nat):Int) ->
  Qv bits (We m++more) i acc=(acc+m * (2 ^ (7 * i):Nat),i+(We m).length,0):=by
 intro k
 induction k with
 | zero =>
  intro m i acc hk hi h1 h2
  have:m=0:=by omega
  subst this
  rw [R5 yY,List.singleton_append,Qv]
  have e:(UInt8.ofNat ((0:Int) % 128).toNat).toNat=0:=rfl
  have hp:=leb (bits-7 * i-1)
  rw [e,if_neg (by unfold M0;rw [show Th 0=0 from rfl];omega),if_pos yY]
  simp [Th]
 | succ k ih =>
  intro m i acc hk hi h1 h2
  by_cases h:-64<=m/\m<64
  .rw [R5 h,List.singleton_append,Qv,VR yY,aew m h,if_neg,if_pos yY]
   .rfl
   .rintro ⟨_,h'|h'⟩
    .omega
    .grind [aew]
  .have h8:7 * i+7<bits:=by
    rcases loa (7 * i+7) bits with hl|hl
    .omega
    .have:(2:Nat) ^ (bits-7 * i-1)<=2 ^ 6:=lua (by decide) yY
     omega
   rw [Rv h,lLa,Qv,VR yY,if_neg (by rintro ⟨h,_⟩;omega),if_neg yY]
   have e3:2 ^ (bits-7 * i-1)=128 * 2 ^ (bits-7 * (i+1)-1):=by
    have:bits-7 * i-1=7+(bits-7 * (i+1)-1):=by omega
    rw [this,Nat.pow_add]
   rw [e3] at h1 h2
   rw [ih (m / 128) (i+1) _ yY yY yY yY]
   have e1:((m % 128).toNat+128) % 128=(m % 128).toNat:=by omega
   rw [e1,UH,lja]
   refine Prod.ext ?_ (Prod.ext ?_ rfl)
   .grind
   .grind
theorem acL (bits:Nat):∀(k:Nat) (m:Int) (i acc j:Nat),m.natAbs<=k->7 * i<bits->-((2 ^ (bits-7 * i-1):Nat):Int)<=m->m<((2 ^ (bits-7 * i-1):Nat):Int)->j<(We m).length ->
  Qv bits ((We m).take j) i acc=(0,0,3):=by
 intro k
 induction k with
 | zero =>
  intro m i acc j hk hi h1 h2 hj
  have:m=0:=by omega
  subst this
  rw [R5 yY] at hj ⊢
  have:j=0:=by grind
  subst this;rfl
 | succ k ih =>
  intro m i acc j hk hi h1 h2 hj
  by_cases h:-64<=m/\m<64
  .rw [R5 h] at hj ⊢
   have:j=0:=by grind
   subst this;rfl
  .have h8:7 * i+7<bits:=by
    rcases loa (7 * i+7) bits with hl|hl
    .omega
    .have:(2:Nat) ^ (bits-7 * i-1)<=2 ^ 6:=lua (by decide) yY
     omega
   rw [Rv h] at hj ⊢
   cases j with
   | zero=>rfl
   | succ j =>
    have e3:2 ^ (bits-7 * i-1)=128 * 2 ^ (bits-7 * (i+1)-1):=by
     have:bits-7 * i-1=7+(bits-7 * (i+1)-1):=by omega
     rw [this,Nat.pow_add]
    rw [e3] at h1 h2
    rw [List.take_succ_cons,Qv,VR yY,if_neg (by rintro ⟨h,_⟩;omega),if_neg yY]
    exact ih (m / 128) (i+1) _ j yY yY yY yY (by grind)
theorem adK (bits:Nat):∀(s:yA) (i acc:Nat) (n:Int) (k:Nat),acc<2 ^ (7 * i)->Qv bits s i acc=(n,k,0) ->
  -((64 * 2 ^ (7 * (k-1)):Nat):Int)<=n/\n<((64 * 2 ^ (7 * (k-1)):Nat):Int)/\i<k/\k<=i+s.length:=by
 intro s
 induction s with
 | nil=>intro i acc n k _ h;simp [Qv] at h
 | cons c r ih =>
  intro i acc n k ha h
  rw [Qv] at h
  split at h
  .grind
  .split at h
   .simp only [Prod.mk.injEq] at h
    obtain ⟨rfl,rfl,_⟩:=h
    have hs:-64<=Th c.toNat/\Th c.toNat<=63:=by grind [Th]
    rw [lcb]
    generalize 2 ^ (7 * i)=p at *
    have a1:-64 * (p:Int)<=Th c.toNat * p:=ljb hs.1 yY
    have a2:Th c.toNat * (p:Int)<=63 * p:=ljb hs.2 yY
    refine ⟨?_,?_,by omega,by simp⟩ <;> push_cast <;> omega
   .have hb:acc+c.toNat % 128 * 2 ^ (7 * i)<2 ^ (7 * (i+1)):=by
     rw [UH]
     have h2:(c.toNat % 128+1) * 2 ^ (7 * i)<=128 * 2 ^ (7 * i):=lza _ yY
     rw [lFb] at h2
     omega
    obtain ⟨h1,h2,h3,h4⟩:=ih (i+1) _ n k hb h
    exact ⟨h1,h2,by omega,by simp;omega⟩
theorem aex (bits:Nat):∀(s:yA) (i acc:Nat),7 * i<bits->bits=32\/bits=64->acc<2 ^ (7 * i)->(PJ bits s i acc).1<2 ^ bits:=by
 intro s
 induction s with
 | nil=>intro i acc _ _ _;exact leb _
 | cons c r ih =>
  intro i acc hi hb ha
  rw [PJ]
  split
  .grind
  .rename_i hno
   have e:(2:Nat) ^ bits=2 ^ (bits-7 * i) * 2 ^ (7 * i):=by rw [<-Nat.pow_add];congr 1;omega
   have h1:c.toNat % 128<2 ^ (bits-7 * i):=by
    by_cases h:bits<7 * i+7
    .grind
    .have:(2:Nat) ^ 7<=2 ^ (bits-7 * i):=lua (by decide) yY
     omega
   have h2:(c.toNat % 128+1) * 2 ^ (7 * i)<=2 ^ (bits-7 * i) * 2 ^ (7 * i):=lza _ h1
   split
   .grind
   .rename_i hc
    have h7:7 * (i+1)<bits:=by grind
    refine ih (i+1) _ h7 hb ?_
    rw [UH]
    have h2:(c.toNat % 128+1) * 2 ^ (7 * i)<=128 * 2 ^ (7 * i):=lza _ yY
    rw [lFb] at h2
    omega
theorem aey (bits:Nat):∀(s:yA) (i acc:Nat),7 * i<bits->bits=32\/bits=64->acc<2 ^ (7 * i) ->
  -((2 ^ (bits-1):Nat):Int)<=(Qv bits s i acc).1/\(Qv bits s i acc).1<((2 ^ (bits-1):Nat):Int):=by
 intro s
 have hz:=leb (bits-1)
 induction s with
 | nil=>intro i acc _ _ _;exact ⟨by show _<=(0:Int);omega,by show (0:Int)<_;omega⟩
 | cons c r ih =>
  intro i acc hi hb ha
  rw [Qv]
  split
  .omega
  .rename_i hno
   have e:(2:Nat) ^ (bits-1)=2 ^ (bits-7 * i-1) * 2 ^ (7 * i):=by rw [<-Nat.pow_add];congr 1;omega
   have hs:-64<=Th c.toNat/\Th c.toNat<=63:=by grind [Th]
   split
   .have h1:-((2 ^ (bits-7 * i-1):Nat):Int)<=Th c.toNat/\Th c.toNat+1<=((2 ^ (bits-7 * i-1):Nat):Int):=by
     by_cases h:bits<7 * i+7
     .constructor
      .apply Decidable.byContradiction;intro hh;exact hno ⟨h,.inr (.inl yY)⟩
      .apply Decidable.byContradiction;intro hh;exact hno ⟨h,.inr (.inr yY)⟩
     .have:(2:Nat) ^ 6<=2 ^ (bits-7 * i-1):=lua (by decide) yY
      omega
    rw [e]
    generalize 2 ^ (bits-7 * i-1)=M at *
    generalize 2 ^ (7 * i)=p at *
    have a1:-(M:Int) * p<=Th c.toNat * p:=ljb h1.1 yY
    have a2:(Th c.toNat+1) * p<=(M:Int) * p:=ljb h1.2 yY
    rw [Int.neg_mul] at a1
    rw [Int.add_mul,Int.one_mul] at a2
    rw [Int.natCast_mul]
    show _<=(acc:Int)+Th c.toNat * p/\(acc:Int)+Th c.toNat * p<_
    omega
   .rename_i hc
    have h7:7 * (i+1)<bits:=by
     by_cases h:bits<7 * i+7
     .exact absurd ⟨h,.inl yY⟩ hno
     .omega
    refine ih (i+1) _ h7 hb ?_
    rw [UH]
    have h2:(c.toNat % 128+1) * 2 ^ (7 * i)<=128 * 2 ^ (7 * i):=lza _ yY
    rw [lFb] at h2
    omega
theorem ace {n:Int} {k:Nat} (h1:-((64 * 2 ^ (7 * (k-1)):Nat):Int)<=n) (h2:n<((64 * 2 ^ (7 * (k-1)):Nat):Int)) (hk:0<k):(We n).length<=k:=by
 obtain ⟨j,rfl⟩:∃j,k=j+1:=⟨k-1,by omega⟩
 rw [lcb,Nat.pow_mul] at h1 h2
 exact M1 j n h1 h2
theorem akZ (m:Int) (more:yA) (h:-9223372036854775808<=m/\m<=9223372036854775807):Qv 64 (We m++more) 0 0=(m,(We m).length,0):=by
 have h1:=abb 64 more m.natAbs m 0 0 (lna _) (by decide) yY yY
 rw [h1];simp
theorem ak0 (m:Int) (more:yA) (h:-2147483648<=m/\m<=2147483647):Qv 32 (We m++more) 0 0=(m,(We m).length,0):=by
 have h1:=abb 32 more m.natAbs m 0 0 (lna _) (by decide) yY yY
 rw [h1];simp
theorem ak1 (m:Nat) (more:yA) (h:m<2 ^ 32):PJ 32 (XY m++more) 0 0=(m,(XY m).length,0):=by
 have h1:=aev 32 more m 0 0 (by decide) yY
 rw [h1];simp
end Yg
namespace YX
open Go Go.RowKit
def Still (w w':World):Prop:=∃d,w'={ w with drawn:=d }
theorem Still.refl (w:World):Still w w:=⟨w.drawn,rfl⟩
theorem Still.trans {a b c:World} (h:Still a b) (k:Still b c):Still a c:=by
 obtain ⟨d,rfl⟩:=h;obtain ⟨e,rfl⟩:=k;exact ⟨e,rfl⟩
theorem Still.drew (w:World):Still w w.drew:=⟨w.drawn+1,rfl⟩
theorem Still.heap {w w':World} (h:Still w w'):w'.heap=w.heap:=by obtain ⟨d,rfl⟩:=h;rfl
theorem Still.below {w w':World} (h:Still w w') (B:Nat):Below B w w':=by obtain ⟨d,rfl⟩:=h;exact ⟨rfl,rfl,rfl,lna _,fun _ _=>rfl⟩
inductive NM (P:Program) (S:World->Prop) (m:Sem Value) (K:Value->Prop):Prop
 | mk (v:Value) (h:∀w,S w->m.run P w=.ok v w) (k:K v)
theorem NM.of {P:Program} {S:World->Prop} {m:Sem Value} {K:Value->Prop} (v:Value) (h:∀w,S w->Zg P m w (fun u w'=>v=u/\w=w')) (k:K v):NM P S m K :=
 ⟨v,fun w hS=>(by obtain ⟨u,w',hm,rfl,rfl⟩:=h w hS;exact hm),k⟩
theorem tk {P:Program} {S:World->Prop} {m:Sem Value} {K:Value->Prop} {v:Value} (h:∀w,S w->Zg P m w (fun u w'=>v=u/\w=w')) (k:K v):NM P S m K:=NM.of v h k
def DE (P:Program) (S:World->Prop) (op:BinOp) (t:TypeId) (x y:Operand) (a b:Value) (K:Value->Prop):Prop :=
 match a with
 | .int k a=>match b with
  | .int k' b=>match op with
   | .shl=>Zp b (X7 (WG k a b) fun n=>K (.int k n))
   | .shr=>Zp b (X7 (Xh k a b) fun n=>K (.int k n))
   | op=>match Af k k' with
    | true=>R8 op k a b K
    | false=>False
  | b=>NM P S (do eqGuard op t x y (.int k a) b;binOp op t (.int k a) b) K
 | a=>NM P S (do eqGuard op t x y a b;binOp op t a b) K
def unT (P:Program) (S:World->Prop) (op:UnOp) (a:Value) (K:Value->Prop):Prop :=
 match op with
 | .not=>match a with
  | .bool b=>K (.bool (!b))
  | _=>False
 | .neg=>match a with
  | .int k n=>X7 (ZM k (0-n)) fun m=>K (.int k m)
  | _=>False
 | op=>NM P S (Op.unary op a) K
def ak2 (v:Value) (K:Value->Prop):Prop :=
 match v with
 | .pointer p=>match p with
  | some a=>K (.pointer (some a))
  | none=>False
 | .func fn a b=>match fn with
  | .func f=>K (.func (.func f) a b)
  | _=>False
 | .iface t x=>K (.iface t x)
 | _=>False
def ak3 (v:Value) (i:Nat) (K:Value->Prop):Prop :=
 match v with
 | .tuple vs=>JM vs.toList i K
 | _=>False
def GW (P:Program) (S:World->Prop) (o:Oper) (ρ:yz) (K:Value->Prop):Prop :=
 match o.op with
 | .move x=>VE ρ x K
 | .assign x=>VE ρ x K
 | .pick c a b=>VE ρ c fun c=>match c with
  | .bool c=>Nb c fun c=>match c with
   | true=>VE ρ a K
   | false=>VE ρ b K
  | _=>False
 | .build t parts=>OE ρ parts.toList fun vs=>NM P S (Instr.build t vs.toArray) K
 | .load t x=>VE ρ x fun a=>NM P S (Instr.loadAt t a) K
 | .nilCheck x=>VE ρ x fun v=>ak2 v K
 | .binOp op t x y _=>VE ρ x fun a=>VE ρ y fun b=>DE P S op t x y a b K
 | .unOp op _ x=>VE ρ x fun a=>unT P S op a K
 | .convert s d x=>VE ρ x fun a=>NM P S (convert s d a) K
 | .makeInterface t x=>VE ρ x fun a=>NM P S (Instr.makeInterface t a) K
 | .makeFunc fn first captured=>Tj ρ first.toList fun fs=>Tj ρ captured.toList fun cs=>K (.func fn fs.toArray cs.toArray)
 | .slice t x lo hi mx=>VE ρ x fun a=>K3 ρ lo fun lo=>K3 ρ hi fun hi=>K3 ρ mx fun mx=>NM P S (Instr.sliceAt t a lo hi mx) K
 | .fieldAddr t x f=>VE ρ x fun a=>NM P S (Instr.fieldAt t a f) K
 | .field t x f=>VE ρ x fun a=>NM P S (Instr.field t a f) K
 | .indexAddr t x i=>VE ρ x fun a=>VE ρ i fun i=>NM P S (Instr.indexAt t a i) K
 | .index t x i=>VE ρ x fun a=>VE ρ i fun i=>NM P S (Instr.index t a i) K
 | .extract x i=>VE ρ x fun v=>ak3 v i K
 | .typeAssert x t u ok=>VE ρ x fun a=>NM P S (Instr.typeAssert a t u ok) K
 | .call c=>match c.callee with
  | .builtin .len=>Tj ρ c.args.toList fun vs=>NM P S (Builtin.len_ c.argTypes o.type vs.toArray) K
  | .builtin .max=>Tj ρ c.args.toList fun vs=>NM P S (Builtin.max_ c.argTypes o.type vs.toArray) K
  | .builtin .min=>Tj ρ c.args.toList fun vs=>NM P S (Builtin.min_ c.argTypes o.type vs.toArray) K
  | _=>False
 | .lookup t x i ok=>VE ρ x fun a=>VE ρ i fun i=>NM P S (Instr.lookup t a i ok) K
 | _=>False
section
variable {P:Program} {S:World->Prop}
theorem Wu {o:Oper} {ρ:yz} {m:Sem Value} {K:Value->Prop} (he:execOp (ev ρ) o=(do pure (.value (<-m)))) (h:NM P S m K) :
  ∃v,(∀w,S w->(execOp (ev ρ) o).run P w=.ok (.value v) w)/\K v:=by
 obtain ⟨v,hm,k⟩:=h
 exact ⟨v,fun w hS=>by simp only [he,Sem.run_bind,hm w hS,Result.andThen_ok,Sem.run_pure],k⟩
theorem agG {op:BinOp} {k:IntKind} {t:TypeId} {x y:Operand} {a b:Int} {K:Value->Prop} (anh:op≠.shl) (ani:op≠.shr) (h:R8 op k a b K) :
  ∃v,(∀w,(do eqGuard op t x y (.int k a) (.int k b);binOp op t (.int k a) (.int k b):Sem Value).run P w=.ok v w)/\K v:=by
 have hg:∀w,(eqGuard op t x y (.int k a) (.int k b)).run P w=.ok () w:=fun w=>by simp [eqGuard]
 cases op <;> simp only [R8] at h <;> first
  | (obtain ⟨hb,_,rfl,h⟩:=h;refine ⟨_,fun w=>?_,h⟩;simp only [Sem.run_bind,hg,Result.andThen_ok];simp [binOp,Op.intDiv,hb,SS,Se];done)
  | (obtain ⟨_,rfl,h⟩:=h;refine ⟨_,fun w=>?_,h⟩;simp only [Sem.run_bind,hg,Result.andThen_ok];simp [binOp,Op.intArith,Op.intBits,Op.intCmp,ZM,Ti,SG,Qe,QX,Sa,R9,Sd,Sc];done)
  | (refine ⟨_,fun w=>?_,h⟩;simp only [Sem.run_bind,hg,Result.andThen_ok];simp [binOp,Op.intArith,Op.intBits,Op.intCmp,ZM,Ti,SG,Qe,QX,Sa,R9,Sd,Sc];done)
  | contradiction
  | exact h.elim
theorem acf {op:BinOp} {t:TypeId} {x y:Operand} {a b:Value} {K:Value->Prop} (h:DE P S op t x y a b K):NM P S (do eqGuard op t x y a b;binOp op t a b) K:=by
 unfold DE at h
 split at h
 .split at h
  .split at h
   .obtain ⟨hb,_,rfl,h⟩:=h
    refine ⟨_,fun w _=>?_,h⟩
    simp only [eqGuard,Sem.run_bind];simp [binOp,Op.shift,WG,Int.not_lt.2 hb]
   .obtain ⟨hb,_,rfl,h⟩:=h
    refine ⟨_,fun w _=>?_,h⟩
    simp only [eqGuard,Sem.run_bind];simp [binOp,Op.shift,Xh,Int.not_lt.2 hb]
   .rename_i TS hk2
    split at h
    .rename_i hk
     obtain rfl:=aee hk
     obtain ⟨v,h1,h2⟩:=agG (P:=P) (t:=t) (x:=x) (y:=y) (fun e=>TS e) (fun e=>hk2 e) h
     exact ⟨v,fun w _=>h1 w,h2⟩
    .exact h.elim
  .exact h
 .exact h
theorem SC {o:Oper} {ρ:yz} {K:Value->Prop} (h:GW P S o ρ K):∃v,(∀w,S w->(execOp (ev ρ) o).run P w=.ok (.value v) w)/\K v:=by
 unfold GW at h
 simp only [Sf,K5,OD,K2,SE] at h
 split at h
 case h_1 x ho=>exact ⟨_,fun w _=>by unfold execOp;rw [ho];rfl,h⟩
 case h_2 x ho=>exact ⟨_,fun w _=>by unfold execOp;rw [ho];rfl,h⟩
 case h_3 c a b ho =>
  split at h
  .rename_i cb hc
   split at h
   .exact ⟨_,fun w _=>by unfold execOp;rw [ho];simp [hc,asBool],h⟩
   .exact ⟨_,fun w _=>by unfold execOp;rw [ho];simp [hc,asBool],h⟩
  .grind
 case h_4 t ps ho =>
  exact Wu (m:=Instr.build t ((ps.toList.map fun (i,x)=>(i,ev ρ x)).toArray)) (by unfold execOp;rw [ho];simp [<-Array.toList_map]) h
 case h_5 t x ho=>exact Wu (by grind [execOp]) h
 case h_6 x ho =>
  unfold ak2 at h
  split at h
  .rename_i p hp
   split at h
   .exact ⟨_,fun w _=>by unfold execOp;rw [ho];simp only [hp];rfl,h⟩
   .grind
  .rename_i fn a b hp
   split at h
   .exact ⟨_,fun w _=>by unfold execOp;rw [ho];simp only [hp];rfl,h⟩
   .grind
  .rename_i t v hp
   exact ⟨_,fun w _=>by unfold execOp;rw [ho];simp only [hp];rfl,h⟩
  .grind
 case h_7 op t x y yt ho=>exact Wu (by grind [execOp]) (acf h)
 case h_8 op t x ho =>
  unfold unT at h
  split at h
  .split at h
   .rename_i b hb
    exact ⟨_,fun w _=>by unfold execOp;rw [ho];simp [hb,Op.unary],h⟩
   .grind
  .split at h
   .rename_i k n hb
    obtain ⟨_,rfl,h⟩:=h
    exact ⟨_,fun w _=>by unfold execOp;rw [ho];simp [hb,Op.unary,Op.intArith,ZM],h⟩
   .grind
  .exact Wu (by grind [execOp]) h
 case h_9 s d x ho=>exact Wu (by grind [execOp]) h
 case h_10 t x ho=>exact Wu (by grind [execOp]) h
 case h_11 fn fs cs ho =>
  exact ⟨_,fun w _=>by unfold execOp;rw [ho];simp [Instr.makeFunc,<-Array.toList_map],h⟩
 case h_12 t x lo hi mx ho=>exact Wu (by grind [execOp]) h
 case h_13 t x f ho=>exact Wu (by grind [execOp]) h
 case h_14 t x f ho=>exact Wu (by grind [execOp]) h
 case h_15 t x i ho=>exact Wu (by grind [execOp]) h
 case h_16 t x i ho=>exact Wu (by grind [execOp]) h
 case h_17 x i ho =>
  unfold ak3 at h
  split at h
  .rename_i vs hv
   obtain ⟨u,hu,h⟩:=NA h
   refine ⟨u,fun w _=>?_,h⟩
   unfold execOp;rw [ho]
   simp only [Array.getElem?_toList] at hu
   simp [hv,Instr.extract,hu]
  .grind
 case h_18 x t u ok ho=>exact Wu (by grind [execOp]) h
 case h_19 c ho =>
  have hargs:∀(xs:Array Operand),(xs.toList.map (ev ρ)).toArray=xs.map (ev ρ):=fun xs=>by simp [<-Array.toList_map]
  split at h
  .rename_i hc
   exact Wu (m:=Builtin.len_ c.argTypes o.type (c.args.map (ev ρ))) k_x k_v
  .rename_i hc
   exact Wu (m:=Builtin.max_ c.argTypes o.type (c.args.map (ev ρ))) k_x k_v
  .rename_i hc
   exact Wu (m:=Builtin.min_ c.argTypes o.type (c.args.map (ev ρ))) k_x k_v
  .grind
 case h_20 t x i ok ho=>exact Wu (by grind [execOp]) h
 case h_21=>exact h.elim
end
inductive Za (S:Prop) (K:Prop):Prop
 | mk (h:S) (k:K)
def Py (P:Program) (ops:List Oper) (S:World->Prop) (K:yz->World->Prop) (plan:List (Nat × Bool)):yz->World->Prop :=
 List.rec (motive:=fun _=>yz->World->Prop) K (fun i _ ih ρ w=>match ops[i.1]? with
  | none=>False
  | some o=>match i.2 with
   | true=>XN ops o.guard ρ fun b ρ=>match b with
    | true=>GW P S o ρ fun v=>WN ρ o.dst v fun ρ=>ih ρ w
    | false=>WN ρ o.dst undef fun ρ=>ih ρ w
   | false=>XN ops o.guard ρ fun b ρ=>match b with
    | true=>JL P o ρ w fun v w'=>Za (S w') (WN ρ o.dst v fun ρ=>ih ρ w')
    | false=>WN ρ o.dst undef fun ρ=>ih ρ w) plan
theorem acg (P:Program) (ops:List Oper) (S:World->Prop) (K:yz->World->Prop) (i:Nat × Bool) (r:List (Nat × Bool)) (ρ:yz) (w:World) :
  Py P ops S K (i::r) ρ w=match ops[i.1]? with
  | none=>False
  | some o=>match i.2 with
   | true=>XN ops o.guard ρ fun b ρ=>match b with
    | true=>GW P S o ρ fun v=>WN ρ o.dst v fun ρ=>Py P ops S K r ρ w
    | false=>WN ρ o.dst undef fun ρ=>Py P ops S K r ρ w
   | false=>XN ops o.guard ρ fun b ρ=>match b with
    | true=>JL P o ρ w fun v w'=>Za (S w') (WN ρ o.dst v fun ρ=>Py P ops S K r ρ w')
    | false=>WN ρ o.dst undef fun ρ=>Py P ops S K r ρ w:=rfl
noncomputable def Ox (ops:Array Oper) (plan:List (Nat × Bool)):Array Bool->Bool :=
 List.rec (motive:=fun _=>Array Bool->Bool) (fun listed=>(Region.ready .any ops listed).isEmpty) (fun i _ ih listed=>match ops[i.1]? with
  | none=>false
  | some o=>(match i.2 with
   | true=>Region.free .any ops listed i.1 && (Region.ready .any ops listed).contains i.1
   | false=>Region.ready .any ops listed == [i.1]) && ih (listed.setIfInBounds i.1 true)) plan
theorem Ru (ops:Array Oper) (i:Nat × Bool) (r:List (Nat × Bool)) (listed:Array Bool):Ox ops (i::r) listed=match ops[i.1]? with
  | none=>false
  | some o=>(match i.2 with
   | true=>Region.free .any ops listed i.1 && (Region.ready .any ops listed).contains i.1
   | false=>Region.ready .any ops listed == [i.1]) && Ox ops r (listed.setIfInBounds i.1 true):=rfl
noncomputable def Rt (ops:Array Oper) (plan:List (Nat × Bool)):Bool:=Region.noSelect ops && plan.length == ops.size && Ox ops plan (Array.replicate ops.size false)
theorem Qb (ds:List Nat) (ρ:yz):agree ds ρ ρ:=⟨rfl,fun _ _=>rfl⟩
theorem Xs {ds:List Nat} {ρ0 ρ:yz} (h:agree ds ρ0 ρ) {d:Option Nat} (hd:∀n,d=some n->n∈ds) (v:Value):agree ds ρ0 (put ρ d v):=by
 obtain ⟨h1,h2⟩:=h
 cases d with
 | none=>exact ⟨h1,h2⟩
 | some n =>
  refine ⟨by simp [put,h1],fun i hi=>?_⟩
  have:n≠i:=fun e=>hi (e ▸ hd n rfl)
  simp only [put]
  rw [List.getElem?_set_ne this]
  exact h2 i hi
section
variable {P:Program} {ops:Array Oper} {S:World->Prop} {K:yz->World->Prop} {ρ0:yz}
theorem abc (hs:Region.noSelect ops=true) (plan:List (Nat × Bool)):∀(fuel:Nat) (listed:Array Bool) (ρ:yz) (w:World),plan.length<=fuel->Ox ops plan listed=true->S w->agree (Yq ops.toList) ρ0 ρ ->
  Py P ops.toList S K plan ρ w->wpAnyH P .any ops (fun e a w'=>e=.normal/\a.defers=[]/\agree (Yq ops.toList) ρ0 a.tmps.toList/\K a.tmps.toList w') S fuel listed ⟨ρ.toArray,[]⟩ w:=by
 induction plan with
 | nil =>
  intro fuel listed ρ w _ hok hS hag h
  exact wpAnyH_done (List.isEmpty_iff.1 hok) ⟨rfl,rfl,hag,h⟩ fuel
 | cons ib r ih =>
  obtain ⟨i,ai8⟩:=ib
  intro fuel listed ρ w hfl hok hS hag h
  obtain ⟨f,rfl⟩:∃f,fuel=f+1:=⟨fuel-1,by simp at hfl;omega⟩
  have GG:r.length<=f:=by grind
  rw [Ru] at hok
  rw [acg] at h
  simp only [Array.getElem?_toList] at h
  cases ho:ops[i]? with
  | none=>rw [ho] at hok;cases hok
  | some o =>
   rw [ho] at hok h
   simp only [Bool.and_eq_true] at hok h
   have hmem:∀n,o.dst=some n->n∈Yq ops.toList:=fun n hn=>by grind [Yq]
   cases hT:ai8 with
   | true =>
    rw [hT] at hok h
    simp only [Bool.and_eq_true] at hok
    obtain ⟨⟨hfree,V5⟩,Vz⟩:=hok
    obtain ⟨b,hb,h⟩:=XK h
    have key:∀v,YieldsIf P ops S o v ⟨ρ.toArray,[]⟩->Py P ops.toList S K r (put ρ o.dst v) w->wpAnyH P .any ops (fun e a w'=>e=.normal/\a.defers=[]/\agree (Yq ops.toList) ρ0 a.tmps.toList/\K a.tmps.toList w') S (f+1) listed ⟨ρ.toArray,[]⟩ w:=fun v hy hk =>
     wpAnyH_take ho hs hfree V5 (fun c a w hq=>by cases hq.1) hy hS (by
      rw [put_eq]
      exact ih f _ _ w GG Vz hS (Xs hag hmem v) hk)
    cases b
    .simp only [XV] at h
     exact key undef (.inr ⟨hb,rfl⟩) h
    .obtain ⟨v,hv,hk⟩:=SC h
     rw [XV] at hk
     exact key v (.inl ⟨hb,fun w hS=>by rw [Yl];exact hv w hS⟩) hk
   | false =>
    rw [hT] at hok h
    simp only [beq_iff_eq] at hok
    obtain ⟨V5,Vz⟩:=hok
    obtain ⟨b,hb,h⟩:=XK h
    refine wpAnyH_all V5 yW fun j hj=>?_
    obtain rfl:j=i:=by grind
    unfold wpOp
    rw [ho]
    simp only [hb]
    cases b
    .simp only [Bool.false_eq_true,if_false,XV] at h ⊢
     rw [put_eq]
     exact ⟨hS,ih f _ _ w GG Vz hS (Xs hag hmem _) h⟩
    .simp only [if_true] at h ⊢
     refine .inl (TY h fun v w' ⟨D5,hk⟩=>?_)
     rw [XV] at hk
     rw [put_eq]
     exact ⟨D5,ih f _ _ w' GG Vz D5 (Xs hag hmem v) hk⟩
theorem draw {id:Nat} {w:World} (S:World->Prop) (plan:List (Nat × Bool)) (hm:P.follows .mixedOrders=true) (hc:Rt ops plan=true)
  (h:∀w1,w1=w.drew->S w1/\Py P ops.toList S K plan ρ0 w1):M9 P id ops K ρ0 w:=by
 simp only [Rt,Bool.and_eq_true,beq_iff_eq] at hc
 obtain ⟨⟨h1,h2⟩,h3⟩:=hc
 obtain ⟨hS,hk⟩:=h _ rfl
 exact ⟨wp_region_held hm (abc h1 plan _ _ _ _ (Nat.le_of_eq h2) h3 hS (Qb _ _) hk)⟩
end
end YX
namespace YX
open Go Go.RowKit
variable {P:Program} {w:World}
theorem Ow (vs:yz):∀(cs:yz) (o i:Nat),o+vs.length<=cs.length->(VS cs o vs)[i]?=if o<=i/\i<o+vs.length then vs[i-o]? else cs[i]?:=by
 induction vs with
 | nil=>intro cs o i h;rw [if_neg yW];rfl
 | cons v vs ih =>
  intro cs o i h
  simp only [List.length_cons] at h ⊢
  rw [VS,ih _ _ _ (by grind)]
  by_cases h2:o=i
  .grind
  .grind
theorem U5 (vs cs:yz) (o:Nat) (h:o+vs.length<=cs.length):VS cs o vs=cs.take o++vs++cs.drop (o+vs.length):=by
 apply lJa
 intro i
 rw [Ow vs cs o i h,lia0]
 have hl:(cs.take o).length=o:=by grind
 by_cases h1:i<o
 .grind
 .grind
theorem agH {t:TypeId} {e:TypeId} {b o:Nat} {cs vs:yz} {K:World->Prop} (hb:RD w b cs e) (hs:(P.info? t).map (·.size)=some vs.length) (ho':Nat.ble (o+vs.length) cs.length=true) (hv:vs.all (·.oneCell')=true)
  (k:M7 cs o vs fun cs'=>∀w',JW w w' b->RD w' b cs' e->K w'):HQ P (Instr.storeAt t (.pointer (some ⟨b,o,none⟩)) (.agg vs.toArray)) w K:=by
 have ho:o+vs.length<=cs.length:=lgb ho'
 rw [SD,U5 _ _ _ ho] at k
 cases hi:P.info? t with
 | none=>simp [hi] at hs
 | some i =>
  have hl:i.size=vs.length:=by grind
  have hst:=run_storeCells_at (P:=P) b o e vs 0 cs.toArray w hb yY (fun v hm=>lDb.1 hv v hm)
  simp only [Nat.add_zero] at hst
  have EX:RD (w.setRow b (cs.take o++vs++cs.drop (o+vs.length)).toArray) b (cs.take o++vs++cs.drop (o+vs.length)) e:=setRow_heap w b _ _ e (0,0) hb
  have hw:JW w (w.setRow b (cs.take o++vs++cs.drop (o+vs.length)).toArray) b:=by
   refine ⟨rfl,rfl,rfl,by simp [World.setRow],fun j hj=>?_⟩
   unfold World.setRow
   simp only [Array.getElem?_modify]
   rw [if_neg (fun h=>hj h.symm)]
  refine ⟨_,?_,k _ hw EX⟩
  simp [Instr.storeAt,Instr.sureAddr,storeVar,sizeOf,typeInfo,hi,hl,Value.cells,hst]
theorem bl {a b:Nat} (h:Nat.ble (a+1) b=true):a<b:=lgb h
section
variable {w0 w':World} {b b' o:Nat} {cs vs cs':yz} {e e':TypeId}
theorem gB (G:Below w0.heap.size w0 w) (h:Below w.heap.size w w'):Below w0.heap.size w0 w':=G.trans (h.mono G.size)
end
theorem rdA {t:TypeId} {d:TypeDesc} {b o:Nat} {vs:yz} {K:Value->Prop} (h:At w b o vs) (hu:P.underlying t=some d) (hd:NN d=true) (hs:(P.info? t).map (·.size)=some vs.length) (k:K (.agg vs.toArray)) :
  JK P (loadVar t ⟨b,o,none⟩) w K:=by
 refine ⟨_,?_,k⟩
 cases hi:P.info? t with
 | none=>simp [hi] at hs
 | some i =>
  have hl:i.size=vs.length:=by grind
  have:=run_loadCells_list (P:=P) w ⟨b,o,none⟩ vs (fun j v hv=>by rw [Addr.add_lit];exact h.cell hv)
  simp [loadVar,TW hu,hd,sizeOf,typeInfo,hi,hl,this]
theorem JH {t:TypeId} {d:TypeDesc} {b o:Nat} {v:Value} {K:Value->Prop} (hc:w.cell? ⟨b,o,none⟩=some v) (hu:P.underlying t=some d) (hd:NN d=false) (k:K v) :
  JK P (loadVar t ⟨b,o,none⟩) w K:=by
 refine ⟨v,?_,k⟩
 simp [loadVar,TW hu,hd,hc]
def RE {α:Type} (en:α->yz) (ok:α->Prop):Hv->yz->α->Prop:=fun _ cs x=>cs=en x/\ok x
theorem RE.mono' {α:Type} (en:α->yz) (ok:α->Prop):DF (RE en ok):=fun _ _ _ _ _ h=>h
end YX
namespace YX
open Go Go.RowKit
variable {P:Program} {α:Type}
def Ov (lo:Nat) (w:World) (e:TypeId) (s:Nat) (en:α->yz) (v:Value) (xs:List α):Prop:=w.ownsRow lo e s v xs.length (xs.flatMap en)/\∀x,(en x).length=s
theorem YE {en:α->yz} {s:Nat} (h:∀x,(en x).length=s) (xs:List α):(xs.flatMap en).length=xs.length * s:=by
 induction xs with
 | nil=>simp
 | cons x xs ih=>rw [lMa,lca,h,ih,lja,lpb];omega
theorem SB {en:α->yz} {s:Nat} (h:∀x,(en x).length=s):∀(xs:List α) (i:Nat) (x:α),xs[i]?=some x->((xs.flatMap en).drop (i * s)).take s=en x:=by
 intro xs
 induction xs with
 | nil=>intro i x hx;simp at hx
 | cons y ys ih =>
  intro i x hx
  cases i with
  | zero =>
   obtain rfl:=Option.some.inj hx
   rw [lMa,Nat.zero_mul,lnb,lxa (by grind),lsa (by grind)]
  | succ i =>
   rw [lMa,lpb,Nat.add_comm,<-lYa,lmb (by grind),lBa (l:=en y) (by grind),lQa]
   exact ih i x (by grind)
theorem Ov.nil (lo:Nat) (w:World) (e:TypeId) {s:Nat} {en:α->yz} (h:∀x,(en x).length=s):Ov lo w e s en (.slice none 0 0) []:=⟨World.ownsRow_nil w lo e s,h⟩
structure Gr (w w':World) (v v':Value):Prop where
 g:w.grownBy w' v.ownBlock
 at_:v'.ownBlock=v.ownBlock\/v'.ownBlock=none\/∃k,v'.ownBlock=some k/\w.heap.size<=k
theorem aaZ {w:World} {lo:Nat} {t ty e:TypeId} {i:TypeInfo} {z:Value} {s:Nat} (ht:P.underlying t=some (.slice e)) (hi:P.info? e=some i) (hz:i.zero=some z) (hs:i.size=s) (hzs:z.cells.size=s)
  {v:Value} {n:Nat} {xs:yz} (hown:w.ownsRow lo e s v n xs) {a:Addr} {m c:Nat} {news:yz} (hl:news.length=m * s) (hnews:∀j u,news[j]?=some u->w.cell? (a.add j)=some u) (h1:∀u∈news,u.oneCell'=true)
  (h63:n+m<=maxLen) (hbytes:(n+m) * i.bytes<=140737488355328) {v':Value} {w':World} (hr:(Builtin.append_ #[t,t] ty #[v,.slice (some a) m c]).run P w=.ok v' w') :
  v'.ownBlock=v.ownBlock\/v'.ownBlock=none\/v'.ownBlock=some w.heap.size:=by
 subst hs
 have hsmall:n+m<=9223372036854775807:=by grind [maxLen]
 have done:∀{u:Value} {w2:World},(Builtin.append_ #[t,t] ty #[v,.slice (some a) m c]).run P w=.ok u w2->v'=u:=fun h=>by grind
 rcases hown.2 with ⟨rfl,rfl⟩|⟨g,cap,cur,rfl,AY,hg,hnc,R4,hcs,apf⟩
 .by_cases hm:m=0
  .subst hm
   have hn:news=[]:=lpa yY
   subst hn
   have:(Builtin.append_ #[t,t] ty #[.slice none 0 0,.slice (some a) 0 c]).run P w=.ok (.slice none 0 0) w:=by
    simp [Builtin.append_,run_underlying ht,sizeOf,typeInfo,hi,Builtin.lenOf,Builtin.firstCells,loadCells,loadCellsFrom]
   rw [done this];exact .inl rfl
  .have D4:=run_append_nil (P:=P) w t ty e i z ht hi hz a m c news hl hnews yY yY (by grind)
   rw [done D4];exact .inr (.inr rfl)
 .by_cases hroom:n+m<=cap
  .have hfit:n * i.size+news.length<=cur.size:=by rw [hl,hcs,<-lFb];exact lza _ hroom
   have D4:=run_append_room (P:=P) w t ty e i ht hi g n cap cur hg a m c news hl hnews h1 hroom hfit
   rw [done D4];exact .inl rfl
  .have holds:∀j u,xs[j]?=some u->w.cell? ((⟨g,0,none⟩:Addr).add j)=some u:=hown.cells (g:=g) rfl
   have D4:=run_append_grow (P:=P) w t ty e i z ht hi hz ⟨g,0,none⟩ n cap xs hown.1 holds a m c news hl hnews yY yY (growslice_fits yY hbytes)
   rw [done D4];exact .inr (.inr rfl)
theorem ak4 {w:World} {K:Value->World->Prop} {lo:Nat} {t ty e:TypeId} {en:α->yz} {s:Nat} {v:Value} {xs ys:List α} {m c b o:Nat} (z:Value) (Px:Nat) (hown:Ov lo w e s en v xs) (TQ:At w b o (ys.flatMap en)) (hm:ys.length=m)
  (h1:∀y∈ys,((en y).all (·.oneCell'))=true) (hu:P.underlying t=some (.slice e)) (hz:(P.info? e).map (fun i=>(i.zero,i.size,i.bytes))=some (some z,s,Px)) (hzs:z.cells.size=s) (hsz:0<s)
  (hb:(xs.length+m) * Px<=140737488355328) (hml:xs.length+m<=140737488355328) (hlo:lo<=w.heap.size)
  (k:∀v' w',Ov lo w' e s en v' (xs++ys)->Gr w w' v v'->K v' w'):Zg P (Builtin.append_ #[t,t] ty #[v,.slice (some ⟨b,o,none⟩) m c]) w K:=by
 cases hi:P.info? e with
 | none=>simp [hi] at hz
 | some i =>
  simp only [hi,Option.map_some,Option.some.injEq,Prod.mk.injEq] at hz
  obtain ⟨h2,h3,h4⟩:=hz
  subst hm
  have hc:∀j u,(ys.flatMap en)[j]?=some u->w.cell? ((⟨b,o,none⟩:Addr).add j)=some u:=fun j u hj=>by rw [Addr.add_lit];exact TQ.cell hj
  have ho:∀u∈ys.flatMap en,u.oneCell'=true:=fun u hu=>by grind
  obtain ⟨v',w',hr,a1,a2,a3⟩:=run_append_own (P:=P) w lo t ty e i z s Px hu hi h2 h3 h4 hzs hsz v xs.length (xs.flatMap en) hown.1 ⟨b,o,none⟩ ys.length c (ys.flatMap en) (YE hown.2 ys) hc ho (by grind [maxLen]) hb hlo
  have KW:=aaZ hu hi h2 h3 hzs hown.1 (YE hown.2 ys) hc ho (by grind [maxLen]) (by grind) hr
  refine ⟨v',w',hr,k v' w' ⟨by rw [lca,lIa];exact a1,hown.2⟩ ⟨a2,?_⟩⟩
  rcases KW with h|h|h
  .grind
  .grind
  .grind
theorem Ov.keep {lo:Nat} {w w':World} {e:TypeId} {s:Nat} {en:α->yz} {v:Value} {xs:List α} (h:Ov lo w e s en v xs) (hb:∀k,v.ownBlock=some k->w'.heap[k]?=w.heap[k]?):Ov lo w' e s en v xs:=⟨aer h.1 hb,h.2⟩
theorem Ov.lt {lo:Nat} {w:World} {e:TypeId} {s:Nat} {en:α->yz} {v:Value} {xs:List α} (h:Ov lo w e s en v xs) {k:Nat} (hk:v.ownBlock=some k):lo<=k/\k<w.heap.size:=h.1.lt k hk
theorem Ov.mono {lo lo':Nat} {w:World} {e:TypeId} {s:Nat} {en:α->yz} {v:Value} {xs:List α} (h:Ov lo w e s en v xs) (hl:lo'<=lo):Ov lo' w e s en v xs:=⟨aes h.1 hl,h.2⟩
section
variable {lo s:Nat} {w0 w w':World} {e e':TypeId} {en:α->yz} {v v' u:Value} {xs:List α} {cs:yz} {b:Nat}
def Dj (u v:Value):Prop:=∀k,u.ownBlock=some k->v.ownBlock≠some k
theorem Dj.symm (h:Dj u v):Dj v u:=fun k hk hu=>h k hu hk
theorem Dj.nil (v:Value):Dj (.slice none 0 0) v:=fun k hk=>by cases hk
theorem Ov.rd {ok:α->Prop} (h:Ov lo w e s en v xs) (hok:∀x∈xs,ok x) (hs0:0<s):VL (RE en ok) s (Rg w lo w.heap.size) v xs:=by
 rcases h.1.2 with ⟨rfl,h0⟩|⟨g,cap,cur,rfl,hlo,hg,hnc,R4,hcs,ht⟩
 .have:xs=[]:=lpa h0
  subst this;exact VL.nil _ _ _
 .refine ⟨_,cap,rfl,⟨hnc,by unfold maxLen at R4;omega⟩,nofun,fun _=>⟨g,0,xs.flatMap en,rfl,⟨cur,e,(0,0),⟨hlo,(lAa.1 hg).1,hg⟩,fun i x hx=>?_⟩,YE h.2 xs,fun i x hx=>⟨SB h.2 xs i x hx,hok x (lda hx)⟩⟩⟩
  rw [<-ht,lNa] at hx
  split at hx
  .grind
  .grind
theorem Ov.TX (h:Ov lo w e s en v xs) (hne:xs≠[]):∃g cap cur,v=.slice (some ⟨g,0,none⟩) xs.length cap/\lo<=g/\RD w g cur e/\cur.take (xs.length * s)=xs.flatMap en/\xs.length * s<=cur.length/\xs.length<=cap/\cap<=9223372036854775807/\cur.length=cap * s:=by
 rcases h.1.2 with ⟨rfl,h0⟩|⟨g,cap,cur,rfl,hlo,hg,hnc,R4,hcs,ht⟩
 .grind
 .have hle:xs.length * s<=cap * s:=lza _ hnc
  have Va:cur.toList.length=cap * s:=by omega
  exact ⟨g,cap,cur.toList,rfl,hlo,hg,ht,by rw [Va];exact hle,hnc,by unfold maxLen at R4;omega,Va⟩
theorem Ov.ai9 {g cap:Nat} {cur:yz} (hlo:lo<=g) (hb:RD w g cur e) (ht:cur.take (xs.length * s)=xs.flatMap en) (hn:xs.length<=cap) (hc:cap<=9223372036854775807) (hl:cur.length=cap * s) (hs:∀x,(en x).length=s) :
  Ov lo w e s en (.slice (some ⟨g,0,none⟩) xs.length cap) xs :=
 ⟨⟨YE hs xs,.inr ⟨g,cap,cur.toArray,rfl,hlo,hb,hn,by unfold maxLen;omega,by simpa using hl,by simpa using ht⟩⟩,hs⟩
end
theorem aez {H:Hv} {R:Hv->yz->α->Prop} {sz:Nat} {a:Option Addr} {cap:Nat} {xs:List α} {l h:Nat} (hs:VL R sz H (.slice a xs.length cap) xs) (hl:l<=h) (hh:h<=xs.length) :
  VL R sz H (.slice (if cap=l then a else a.map (·.add (l * sz))) (h-l) (cap-l)) ((xs.take h).drop l):=by
 obtain ⟨a',cap',he,h2,h3,h4⟩:=hs
 injection he with e1 e2 e3
 subst e1;subst e3
 have hlen:((xs.take h).drop l).length=h-l:=by rw [lDa,lya];omega
 have hel:∀i,i<h-l->((xs.take h).drop l)[i]?=xs[l+i]?:=fun i hi=>by rw [lsb0,lNa,if_pos yY]
 refine ⟨_,cap-l,by rw [hlen],by rw [hlen];omega,fun hn=>?_,fun hne=>?_⟩
 .have:a=none:=by
   split at hn
   .exact hn
   .cases a with
    | none=>rfl
    | some x=>cases hn
  obtain ⟨rfl,rfl⟩:=h3 this
  simp
 .have hpos:0<h-l:=by rw [<-hlen];exact lOb.2 hne
  obtain ⟨b,o,news,rfl,k1,k2⟩:=h4 (by intro e;subst e;simp at hh;omega)
  have hc:cap≠l:=by omega
  refine ⟨b,o+l * sz,(news.drop (l * sz)).take ((h-l) * sz),by rw [if_neg hc];simp [Addr.add_lit],?_,?_,fun i x hx=>?_⟩
  .obtain ⟨cs,e,fz,k3,k4⟩:=k1
   refine ⟨cs,e,fz,k3,fun i v hv=>?_⟩
   rw [lNa] at hv
   split at hv
   .rw [lsb0] at hv;rw [lZb];exact k4 _ _ hv
   .cases hv
  .rw [lya,lDa,k2.1,hlen]
   have:=lza sz (show (h-l)+l<=xs.length by omega)
   rw [lFb] at this;omega
  .have hi:i<h-l:=by rw [<-hlen];exact (lba.1 hx).1
   rw [hel i hi] at hx
   have hr:=k2.2 (l+i) x hx
   have e:(((news.drop (l * sz)).take ((h-l) * sz)).drop (i * sz)).take sz=(news.drop ((l+i) * sz)).take sz:=by
    have:=lza sz (show i+1<=h-l by omega)
    rw [lpb] at this
    rw [lLb,lac,lYa,lFb]
    congr 1;omega
   rw [e];exact hr
section
variable {w:World} {K:Value->World->Prop} {H:Hv} {R:Hv->yz->α->Prop} {sz:Nat} {t e:TypeId} {v:Value} {xs:List α}
end
abbrev Rd (en:α->yz) (ok:α->Prop) (s:Nat) (w:World) (v:Value) (xs:List α):Prop:=VL (RE en ok) s (Rg w 0 w.heap.size) v xs
theorem Rd.next {en:α->yz} {ok:α->Prop} {s:Nat} {w w':World} {v:Value} {xs:List α} (h:Rd en ok s w v xs) (b:Below w.heap.size w w'):Rd en ok s w' v xs :=
 h.mono (RE.mono' en ok) (Rg.mono (lna _) b.size fun k _ hk=>b.block k hk)
theorem VL.wide {en:α->yz} {ok:α->Prop} {s lo hi:Nat} {w:World} {v:Value} {xs:List α} (h:VL (RE en ok) s (Rg w lo hi) v xs) (hh:hi<=w.heap.size):Rd en ok s w v xs :=
 h.mono (RE.mono' en ok) (Rg.mono (lEa _) hh fun _ _ _=>rfl)
theorem VL.place {en:α->yz} {ok:α->Prop} {w:World} (s:Nat) {lo hi:Nat} {t e:TypeId} {v:Value} {xs:List α} (h:VL (RE en ok) s (Rg w lo hi) v xs) (j:Nat) (x:α) (hx:xs[j]?=some x)
  (ht:P.underlying t=some (.slice e)) (hs:(P.info? e).map (fun i=>i.size)=some s) :
  ∃b o,At w b o (en x)/\ok x/\lo<=b/\b<hi/\∀{K:Value->World->Prop} {w':World} {i:Int} {ki:IntKind},i=j->K (.pointer (some ⟨b,o,none⟩)) w'->Zg P (Instr.indexAt t v (.int ki i)) w' K:=by
 have hl:=(lba.1 hx).1
 obtain ⟨a,cap,rfl,h2,h3,h4⟩:=h
 obtain ⟨b,o,news,rfl,k1,k2⟩:=h4 (by grind)
 obtain ⟨hR,hok⟩:=k2.2 j x hx
 have TQ:=(k1.at.sub (j * s) s)
 rw [hR] at TQ
 obtain ⟨_,_,_,⟨HL,IW,_⟩,_⟩:=k1
 refine ⟨b,o+j * s,TQ,hok,HL,IW,fun {K w' i ki} hi k=>?_⟩
 subst hi
 refine ⟨_,w',?_,k⟩
 cases hi':P.info? e with
 | none=>simp [hi'] at hs
 | some i' =>
  simp only [hi',Option.map_some,Option.some.injEq] at hs
  simp [Instr.indexAt,asIntOf,run_underlying ht,sizeOf,typeInfo,hi',hs,Addr.add_lit,hl]
theorem TV {en:α->yz} {s:Nat} (h:∀x,(en x).length=s) (xs:List α) (j:Nat) (hj:j<=xs.length):(xs.flatMap en).take (j * s)=(xs.take j).flatMap en:=by
 have e:xs.flatMap en=(xs.take j).flatMap en++(xs.drop j).flatMap en:=by rw [<-lIa,lib]
 have hl:((xs.take j).flatMap en).length=j * s:=by grind [YE,List.length_take,Nat.min_eq_left]
 rw [e,lxa yY,lsa yY]
theorem SA {en:α->yz} {s:Nat} (h:∀x,(en x).length=s) (xs:List α) (j:Nat) (hj:j<=xs.length):(xs.flatMap en).drop (j * s)=(xs.drop j).flatMap en:=by
 have e:xs.flatMap en=(xs.take j).flatMap en++(xs.drop j).flatMap en:=by rw [<-lIa,lib]
 have hl:((xs.take j).flatMap en).length=j * s:=by grind [YE,List.length_take,Nat.min_eq_left]
 rw [e,lmb yY,lBa yY,lQa]
theorem Ov.store {lo s:Nat} {w:World} {e:TypeId} {en:α->yz} {v:Value} {xs:List α} (h:Ov lo w e s en v xs) (j:Nat) (hj:j<xs.length) :
  ∃g cap cur,v=.slice (some ⟨g,0,none⟩) xs.length cap/\lo<=g/\RD w g cur e/\j * s+s<=cur.length/\∀(w':World) (x:α),RD w' g (VS cur (j * s) (en x)) e->Ov lo w' e s en v (xs.set j x):=by
 obtain ⟨g,cap,cur,rfl,hlo,hb,ht,hlen,hcap,R4,Va⟩:=h.TX (by grind)
 have hle:j * s+s<=xs.length * s:=by rw [<-lpb];exact lza _ hj
 refine ⟨g,cap,cur,rfl,hlo,hb,by omega,fun w' x hb'=>?_⟩
 have hxl:(en x).length=s:=h.2 x
 have Wy:xs.set j x=xs.take j++x::xs.drop (j+1):=by
  rw [List.set_eq_take_append_cons_drop,if_pos hj]
 have key:(VS cur (j * s) (en x)).take (xs.length * s)=(xs.set j x).flatMap en:=by
  rw [U5 _ _ _ yY,Wy,lIa,lMa,<-TV h.2 xs j (lUa hj),<-SA h.2 xs (j+1) hj,<-ht,hxl]
  apply lJa
  intro i
  simp only [List.getElem?_take,List.getElem?_append,List.length_append,List.length_take,List.getElem?_drop,List.append_assoc,hxl,Nat.succ_mul]
  rw [show min (j * s) cur.length=j * s by omega,show min (j * s) (min (xs.length * s) cur.length)=j * s by omega]
  by_cases h1:i<xs.length * s
  .grind
  .grind
 have:=Ov.ai9 (lo:=lo) (xs:=xs.set j x) (s:=s) (en:=en) (cap:=cap) hlo hb' (by grind) (by grind) R4 (by grind [Wk]) h.2
 rw [lta] at this
 exact this
theorem abd {P:Program} {w:World} {t:TypeId} {e:TypeId} {b o:Nat} {cs vs:yz} {K:World->Prop} (hb:RD w b cs e) (hs:(P.info? t).map (·.size)=some vs.length) (ho:o+vs.length<=cs.length) (hv:vs.all (·.oneCell')=true)
  (k:∀w',JW w w' b->RD w' b (VS cs o vs) e->K w'):HQ P (Instr.storeAt t (.pointer (some ⟨b,o,none⟩)) (.agg vs.toArray)) w K :=
 agH hb hs (Nat.ble_eq_true_of_le ho) hv (by rw [SD];exact k)
end YX
namespace YX
open Go Go.RowKit
structure Ev (w w':World) (fp:Nat->Prop):Prop where
 os:w'.os=w.os
 tape:w'.tape=w.tape
 output:w'.output=w.output
 size:w.heap.size<=w'.heap.size
 block:∀k,k<w.heap.size->¬fp k->w'.heap[k]?=w.heap[k]?
def Fr (w:World) (fp fp':Nat->Prop):Prop:=∀k,fp' k->fp k\/w.heap.size<=k
def Ap (f g:Nat->Prop):Prop:=∀k,f k->¬g k
section
variable {w w' w0 w1:World} {fp fp' f g:Nat->Prop} {b:Nat} {v v':Value} {cs:yz} {e:TypeId} {α:Type}
theorem Ev.refl (w:World) (fp:Nat->Prop):Ev w w fp:=⟨rfl,rfl,rfl,lna _,fun _ _ _=>rfl⟩
theorem Ev.new (n:HM w w' cs e) (fp:Nat->Prop):Ev w w' fp:=⟨n.below.os,n.below.tape,n.below.output,n.below.size,fun k hk _=>n.below.block k hk⟩
theorem Ev.FA (u:JW w w' b) (h:fp b):Ev w w' fp:=⟨u.os,u.tape,u.output,by rw [u.size];exact lna _,fun k _ hk=>u.block k (fun e=>hk (e ▸ h))⟩
theorem Ev.below (n:Below w.heap.size w w') (fp:Nat->Prop):Ev w w' fp:=⟨n.os,n.tape,n.output,n.size,fun k hk _=>n.block k hk⟩
theorem Ev.still (s:Still w w') (fp:Nat->Prop):Ev w w' fp:=by obtain ⟨d,rfl⟩:=s;exact ⟨rfl,rfl,rfl,lna _,fun _ _ _=>rfl⟩
theorem Ev.trans (a:Ev w w1 f) (c:Ev w1 w' g) (hf:∀k,f k->fp k) (hg:∀k,k<w.heap.size->g k->fp k):Ev w w' fp :=
 ⟨c.os.trans a.os,c.tape.trans a.tape,c.output.trans a.output,lGa a.size c.size,fun k hk hn=>(c.block k (Nat.lt_of_lt_of_le hk a.size) (fun h=>hn (hg k hk h))).trans (a.block k hk (fun h=>hn (hf k h)))⟩
theorem Ev.mono (a:Ev w w' f) (hf:∀k,f k->fp k):Ev w w' fp:=⟨a.os,a.tape,a.output,a.size,fun k hk hn=>a.block k hk (fun h=>hn (hf k h))⟩
theorem gE (G:Below w0.heap.size w0 w) (x:Ev w w' fp) (h:∀k,fp k->w0.heap.size<=k):Below w0.heap.size w0 w' :=
 ⟨x.os.trans G.os,x.tape.trans G.tape,x.output.trans G.output,lGa G.size x.size,fun k hk=>(x.block k (Nat.lt_of_lt_of_le hk G.size) (fun hf=>Nat.lt_irrefl _ (Nat.lt_of_lt_of_le hk (h k hf)))).trans (G.block k hk)⟩
theorem Fr.refl (w:World) (fp:Nat->Prop):Fr w fp fp:=fun _ h=>.inl h
theorem Fr.trans (a:Fr w f g) (x:w.heap.size<=w1.heap.size) (c:Fr w1 g fp):Fr w f fp:=fun k hk=>by
 rcases c k hk with h|h
 .exact a k h
 .omega
theorem Fr.low (a:Fr w f g) {lo:Nat} (hf:∀k,f k->lo<=k) (hw:lo<=w.heap.size):∀k,g k->lo<=k:=fun k hk=>by
 rcases a k hk with h|h
 .grind
 .omega
theorem Ap.fr (a:Ap f g) (x:Fr w g fp) (hl:∀k,f k->k<w.heap.size):Ap f fp:=fun k hk hp=>by
 rcases x k hp with h|h
 .exact a k hk h
 .grind
theorem Ap.symm (a:Ap f g):Ap g f:=fun k hk hf=>a k hf hk
end
theorem Ov.one {α:Type} {lo s:Nat} {w:World} {e:TypeId} {en:α->yz} {v:Value} {xs:List α} (h:Ov lo w e s en v xs):v.oneCell'=true:=by
 rcases h.1.2 with ⟨e,_⟩|⟨_,_,_,e,_⟩ <;> rw [e] <;> rfl
theorem Ov.form {α:Type} {lo s:Nat} {w:World} {e:TypeId} {en:α->yz} {v:Value} {xs:List α} (h:Ov lo w e s en v xs):∃a c,v=.slice a xs.length c:=by
 rcases h.1.2 with ⟨e,h0⟩|⟨g,cap,cur,e,_⟩
 .grind
 .grind
section
variable {P:Program} {w:World} {K:Value->World->Prop}
theorem XC {t e:TypeId} {x y:Operand} {a:Option Addr} {n c:Nat} (ht:P.underlying t=some (.slice e)) (k:K (.bool a.isNone) w) :
  Zg P (do eqGuard .eql t x y (.slice a n c) (.slice none 0 0);binOp .eql t (.slice a n c) (.slice none 0 0)) w K:=by
 refine ⟨_,w,?_,k⟩
 have hg:(eqGuard .eql t x y (.slice a n c) (.slice none 0 0)).run P w=.ok () w:=by simp [eqGuard]
 simp only [Sem.run_bind,hg,Result.andThen_ok]
 simp only [binOp,Sem.run_bind,run_equal_slice_nil (P:=P) w t e a n c ht,Result.andThen_ok,Sem.run_pure]
theorem Pw {t e:TypeId} {x y:Operand} {a:Option Addr} (ht:P.underlying t=some (.pointer e)) (k:K (.bool a.isNone) w) :
  Zg P (do eqGuard .eql t x y (.pointer a) (.pointer none);binOp .eql t (.pointer a) (.pointer none)) w K:=by
 refine ⟨_,w,?_,k⟩
 have hg:(eqGuard .eql t x y (.pointer a) (.pointer none)).run P w=.ok () w:=by simp [eqGuard]
 have he:P.pointee t=e:=by grind [Program.pointee]
 simp only [Sem.run_bind,hg,Result.andThen_ok,run_eql_pointer_nil (P:=P) w t a (by grind)]
end
end YX
namespace YX
open Go Go.RowKit
section
variable {P:Program} {w:World} {K:Value->World->Prop}
theorem EV {t e:TypeId} {a:Option Addr} {n cap l h m sz:Nat} {lo hi mx:Option Value} (ht:P.underlying t=some (.slice e)) (hsz:(P.info? e).map (fun i=>i.size)=some sz)
  (hb:(Instr.sliceBounds true n cap lo hi mx).run P w=.ok (l,h,m) w) (k:K (.slice (if m=l then a else a.map (·.add (l * sz))) (h-l) (m-l)) w):Zg P (Instr.sliceAt t (.slice a n cap) lo hi mx) w K:=by
 refine ⟨_,w,?_,k⟩
 have he:P.elem t=e:=by grind [Program.elem]
 rw [run_sliceAt_slice (P:=P) w t _ _ _ _ (by grind)]
 cases hi':P.info? e with
 | none=>simp [hi'] at hsz
 | some i' =>
  simp only [hi',Option.map_some,Option.some.injEq] at hsz
  unfold Instr.slice
  simp only [Sem.run_bind,run_underlying ht,Result.andThen_ok,hb]
  simp [sizeOf,typeInfo,hi',hsz]
theorem ano {k:IntKind} {i:Int} {n cap h:Nat} (hi:i=h) (hh:h<=cap):(Instr.sliceBounds true n cap none (some (.int k i)) none).run P w=.ok (0,h,cap) w:=by
 subst hi
 simp [Instr.sliceBounds,run_sliceBound (P:=P) w k (h:Int) cap _ yY yY]
theorem TP {w:World} {g o:Nat} {cur vs:yz} {e:TypeId} (hb:RD w g cur e) (h:o+vs.length<=cur.length) :
  JW w (w.setRow g (cur.take o++vs++cur.drop (o+vs.length)).toArray) g/\RD (w.setRow g (cur.take o++vs++cur.drop (o+vs.length)).toArray) g (VS cur o vs) e:=by
 refine ⟨⟨rfl,rfl,rfl,by simp [World.setRow],fun j hj=>?_⟩,?_⟩
 .grind [World.setRow]
 .rw [U5 _ _ _ h];exact setRow_heap w g _ _ e (0,0) hb
theorem anp {t e:TypeId} {g o n cap sz:Nat} {k:IntKind} {i:Int} (h:Nat) (ht:P.underlying t=some (.slice e)) (hsz:(P.info? e).map (fun i=>i.size)=some sz) (hi:i=h) (hh:h<=cap)
  (q:K (.slice (some ⟨g,o,none⟩) h cap) w):Zg P (Instr.sliceAt t (.slice (some ⟨g,o,none⟩) n cap) none (some (.int k i)) none) w K:=by
 refine EV ht hsz (ano hi hh) ?_
 have:(if cap=0 then some ⟨g,o,none⟩ else (some ⟨g,o,none⟩:Option Addr).map (·.add (0 * sz)))=some ⟨g,o,none⟩:=by grind [Addr.add_lit]
 rw [this]
 exact q
end
theorem At.none {w:World} {b o:Nat} {cs:yz} {e:TypeId} (h:RD w b cs e):At w b o []:=⟨_,_,_,h,fun i v hv=>by simp at hv⟩
end YX
namespace YX
open Go Go.RowKit
section
variable {P:Program} {α:Type} {lo s:Nat} {w w' w0:World} {e e':TypeId} {en:α->yz} {v v' u:Value} {xs ys:List α} {b:Nat} {cs:yz} {K:Value->World->Prop}
def Sj (lo:Nat) (w:World) (e:TypeId) (s:Nat) (en:α->yz) (v:Value) (xs:List α):Prop :=
 ((v=.slice none 0 0/\xs=[])\/∃g o cap cur,v=.slice (some ⟨g,o,none⟩) xs.length cap/\lo<=g/\RD w g cur e/\o+cap * s<=cur.length/\xs.length<=cap/\cap<=9223372036854775807/\(cur.drop o).take (xs.length * s)=xs.flatMap en)/\∀x,(en x).length=s
theorem Sj.nil (lo:Nat) (w:World) (e:TypeId) (h:∀x,(en x).length=s):Sj lo w e s en (.slice none 0 0) []:=⟨.inl ⟨rfl,rfl⟩,h⟩
theorem Sj.lt (h:Sj lo w e s en v xs) {k:Nat} (hk:v.ownBlock=some k):lo<=k/\k<w.heap.size:=by
 rcases h.1 with ⟨rfl,_⟩|⟨g,o,cap,cur,rfl,hlo,hb,_⟩
 .cases hk
 .obtain rfl:=Option.some.inj hk;exact ⟨hlo,hb.lt⟩
theorem Sj.keep (h:Sj lo w e s en v xs) (hb:∀k,v.ownBlock=some k->w'.heap[k]?=w.heap[k]?):Sj lo w' e s en v xs:=by
 refine ⟨?_,h.2⟩
 rcases h.1 with h|⟨g,o,cap,cur,rfl,hlo,hk,r⟩
 .grind
 .exact .inr ⟨g,o,cap,cur,rfl,hlo,hk.keep (hb g rfl),r⟩
theorem Sj.ev {fp:Nat->Prop} (h:Sj lo w e s en v xs) (x:Ev w w' fp) (hn:∀k,v.ownBlock=some k->¬fp k):Sj lo w' e s en v xs:=h.keep fun k hk=>x.block k (h.lt hk).2 (hn k hk)
theorem Sj.one (h:Sj lo w e s en v xs):v.oneCell'=true:=by
 rcases h.1 with ⟨rfl,_⟩|⟨_,_,_,_,rfl,_⟩ <;> rfl
theorem Sj.form (h:Sj lo w e s en v xs):∃a c,v=.slice a xs.length c:=by
 rcases h.1 with ⟨rfl,rfl⟩|⟨_,_,_,_,rfl,_⟩
 .simp
 .simp
theorem Sj.own (h:w.ownsRow lo e s v xs.length (xs.flatMap en)) (hs:∀x,(en x).length=s):Sj lo w e s en v xs:=by
 refine ⟨?_,hs⟩
 rcases h.2 with ⟨rfl,h0⟩|⟨g,cap,cur,rfl,hlo,hg,hnc,R4,hcs,ht⟩
 .grind
 .exact .inr ⟨g,0,cap,cur.toList,rfl,hlo,hg,by simp [hcs],hnc,by unfold maxLen at R4;omega,by simpa using ht⟩
theorem ak5 {t ty:TypeId} {m c b o:Nat} (z:Value) (Px:Nat) (hown:Sj lo w e s en v xs) (TQ:At w b o (ys.flatMap en)) (hm:ys.length=m)
  (h1:∀y∈ys,((en y).all (·.oneCell'))=true) (hu:P.underlying t=some (.slice e)) (hz:(P.info? e).map (fun i=>(i.zero,i.size,i.bytes))=some (some z,s,Px)) (hzs:z.cells.size=s) (hsz:0<s)
  (hb:(xs.length+m) * Px<=140737488355328) (hml:xs.length+m<=140737488355328) (hlo:lo<=w.heap.size)
  (k:∀v' w',Sj lo w' e s en v' (xs++ys)->Gr w w' v v'->K v' w'):Zg P (Builtin.append_ #[t,t] ty #[v,.slice (some ⟨b,o,none⟩) m c]) w K:=by
 rcases hown.1 with ⟨rfl,rfl⟩|⟨g,of,cap,cur,rfl,DD,HK,hfit,hnc,R4,ht⟩
 .refine ak4 z Px (Ov.nil lo w e hown.2) TQ hm h1 hu hz hzs hsz hb hml hlo fun v' w' hO hG=>k v' w' ?_ hG
  exact Sj.own hO.1 hO.2
 .have LR:(xs.flatMap en).length=xs.length * s:=YE hown.2 xs
  have JG:(ys.flatMap en).length=m * s:=by rw [<-hm];exact YE hown.2 ys
  have ho:∀u∈ys.flatMap en,u.oneCell'=true:=fun u hu=>by grind
  cases hi:P.info? e with
  | none=>simp [hi] at hz
  | some i =>
   simp only [hi,Option.map_some,Option.some.injEq,Prod.mk.injEq] at hz
   obtain ⟨h2,h3,h4⟩:=hz
   subst h3
   by_cases hr:xs.length+m<=cap
   .have hcap:(xs.length+m) * i.size<=cap * i.size:=lza _ hr
    rw [lFb] at hcap
    have hst:=run_storeCells_at (P:=P) g (of+xs.length * i.size) e (ys.flatMap en) 0 cur.toArray w HK (by grind) ho
    simp only [Nat.add_zero] at hst
    have HJ:=run_firstCells_some (P:=P) w i.size m ⟨b,o,none⟩ m c (ys.flatMap en) JG (fun j u hj=>by rw [Addr.add_lit];exact TQ.cell hj)
    obtain ⟨hU,hB⟩:=TP (o:=of+xs.length * i.size) (vs:=ys.flatMap en) HK yY
    refine ⟨.slice (some ⟨g,of,none⟩) (xs.length+m) cap,_,?_,k _ _ ⟨.inr ⟨g,of,cap,_,by rw [lca,hm],DD,hB,by rw [Wk];exact hfit,by rw [lca,hm];exact hr,R4,?_⟩,hown.2⟩ ⟨⟨hU.os,hU.tape,hU.output,by rw [hU.size];exact lna _,fun k _ hk=>hU.block k (fun e=>hk (by rw [e];rfl))⟩,.inl rfl⟩⟩
    .simp [Builtin.append_,run_underlying hu,sizeOf,typeInfo,hi,Builtin.lenOf,hr,HJ,Addr.add_lit,hst]
    .rw [lca,hm,lIa,<-ht,U5 _ _ _ yY,lia0,lmb (by grind),<-lia0,lLb,
      show of+xs.length * i.size-of=xs.length * i.size by omega,lxa (by grind),lsa (by grind)]
   .have G9:At w g of (xs.flatMap en):=by
     have:=HK.at.sub of (xs.length * i.size);rw [ht,lJb] at this;exact this
    obtain ⟨v',w',hrun,r1,r2⟩:=run_append_arg_grows (P:=P) w t ty e i z i.size Px hu hi h2 rfl h4 hzs hsz ⟨g,of,none⟩ xs.length cap (xs.flatMap en) LR (fun j u hj=>by rw [Addr.add_lit];exact G9.cell hj) ⟨b,o,none⟩ m c (ys.flatMap en) JG (fun j u hj=>by rw [Addr.add_lit];exact TQ.cell hj) yY (by grind [maxLen]) hb
    have hO:Sj w.heap.size w' e i.size en v' (xs++ys):=Sj.own (by grind) hown.2
    refine ⟨v',w',hrun,k v' w' ?_ ⟨⟨r2.os,r2.tape,r2.output,r2.size,fun k hk _=>r2.block k hk yW⟩,?_⟩⟩
    .refine ⟨?_,hown.2⟩
     rcases hO.1 with h|⟨g',o',c',cu',a1,a2,a3⟩
     .grind
     .exact .inr ⟨g',o',c',cu',a1,lGa hlo a2,a3⟩
    .rcases hO.1 with ⟨h,_⟩|⟨g',o',c',cu',a1,a2,a3⟩
     .exact .inr (.inl (by rw [h];rfl))
     .exact .inr (.inr ⟨g',by rw [a1];rfl,a2⟩)
theorem Sj.tail {x:α} {g o n cap:Nat} (h:Sj lo w e s en (.slice (some ⟨g,o,none⟩) n cap) (x::xs)):Sj lo w e s en (.slice (some ⟨g,if cap=1 then o else o+1 * s,none⟩) (n-1) (cap-1)) xs:=by
 rcases h.1 with ⟨_,h0⟩|⟨g',o',cap',cur,he,hlo,hb,hfit,hnc,R4,hct⟩
 .cases h0
 .injection he with h1 h2 h3
  injection h1 with h1
  injection h1 with h1 h4
  subst h1;subst h2;subst h3;subst h4
  simp only [List.length_cons] at hnc hct ⊢
  refine ⟨.inr ⟨g,if cap=1 then o else o+1 * s,cap-1,cur,by rw [lcb],hlo,hb,?_,by omega,by omega,?_⟩,h.2⟩
  .split
   .grind
   .have:(cap-1) * s+s=cap * s:=by rw [<-lpb];congr 1;omega
    omega
  .split
   .have:xs=[]:=lpa yY
    subst this;simp
   .have e1:=congrArg (List.drop s) hct
    rw [lLb,lYa,lMa,lmb (by rw [h.2];exact lna _),lBa (l:=en x) (by rw [h.2];exact lna _),lQa,lpb,lcb] at e1
    rw [Nat.one_mul];exact e1
theorem Sj.head {x:α} (h:Sj lo w e s en v (x::xs)):∃g o cap,v=.slice (some ⟨g,o,none⟩) (xs.length+1) cap/\lo<=g/\At w g o (en x):=by
 rcases h.1 with ⟨_,h0⟩|⟨g,o,cap,cur,rfl,hlo,hb,hfit,hnc,R4,hct⟩
 .grind
 .refine ⟨g,o,cap,rfl,hlo,?_⟩
  have:=hb.at.sub o s
  rw [lJb] at this
  have e1:=congrArg (List.take s) hct
  rw [lac,lja,lyb (by grind),lMa,lxa (by rw [h.2];exact lna _)] at e1
  rw [e1,lsa (by rw [h.2];exact lna _)] at this;exact this
end
theorem aeA {P:Program} {w:World} {K:Value->World->Prop} {t e:TypeId} {b o n:Nat} {ki:IntKind} {i:Int} (sz j p:Nat) (hj:i=j) (hl:j<n) (hp:o+j * sz=p) (ht:P.underlying t=some (.array n e)) (hs:(P.info? e).map (fun i=>i.size)=some sz)
  (k:K (.pointer (some ⟨b,p,none⟩)) w):Zg P (Instr.indexAt t (.pointer (some ⟨b,o,none⟩)) (.int ki i)) w K:=by
 subst hj;subst hp
 refine ⟨_,w,?_,k⟩
 cases hi':P.info? e with
 | none=>simp [hi'] at hs
 | some i' =>
  simp only [hi',Option.map_some,Option.some.injEq] at hs
  simp [Instr.indexAt,Instr.sureAddr,asIntOf,run_underlying ht,sizeOf,typeInfo,hi',hs,Addr.add_lit,hl]
end YX
namespace YX
open Go
def VQ (l:List Nat):Nat:=l.foldr (fun t m=>Nat.lor (Nat.shiftLeft 1 t) m) 0
theorem UG (l:List Nat) (j:Nat):(VQ l).testBit j=true↔j∈l:=by
 induction l with
 | nil=>simp [VQ]
 | cons t r ih =>
  have e:VQ (t::r)=(1 <<< t) ||| VQ r:=rfl
  rw [e,lKb,Bool.or_eq_true,ih,Nat.one_shiftLeft,lYb,List.mem_cons]
  simp;constructor
  .grind
  .grind
structure Rec where
 i:Nat
 take:Bool
 af:Nat
 lk:Nat
 ds:Nat
def Ua (o:Oper):Nat:=VQ (o.after.toList.filterMap fun e=>if Region.binds .any e then some e.on else none)
def aie (ops:Array Oper) (p:Nat × Bool):Option Rec:=(ops[p.1]?).map fun o=>⟨p.1,p.2,Ua o,VQ (o.looksAt ops),VQ o.dst.toList⟩
def GF (n:Nat):Bool:=Nat.beq n 0
def Pv (x y:Rec):Bool:=GF (Nat.land x.ds (Nat.lor y.lk y.ds)) && GF (Nat.land y.ds x.lk)
def IV (m i:Nat):Bool:=Nat.beq (Nat.land (Nat.shiftRight m i) 1) 1
def TO:List Rec->Nat->Nat->Bool
 | [],listed,all=>Nat.beq listed all
 | r::rest,listed,all=>Nat.beq (Nat.land r.af listed) r.af && !IV listed r.i &&
   (match r.take with
   | true=>rest.all fun q=>IV q.af r.i || Pv r q
   | false=>rest.all fun q=>!Nat.beq (Nat.land q.af listed) q.af) && TO rest (Nat.lor listed (Nat.shiftLeft 1 r.i)) all
def R3 (ops:Array Oper):List (Nat × Bool)->Option (List Rec)
 | []=>some []
 | p::r=>match aie ops p with
  | none=>none
  | some x=>match R3 ops r with
   | none=>none
   | some l=>some (x::l)
def MZ (ops:Array Oper) (plan:List (Nat × Bool)):Bool:=Region.noSelect ops && Nat.beq plan.length ops.size && match R3 ops plan with
 | none=>false
 | some l=>TO l 0 (2 ^ ops.size-1)
theorem TN (m i:Nat):IV m i=m.testBit i:=by
 unfold IV
 rw [show Nat.land (Nat.shiftRight m i) 1=(m >>> i) &&& 1 from rfl,Nat.and_one_is_mod]
 rw [Nat.testBit,Nat.one_and_eq_mod_two]
 rcases Nat.mod_two_eq_zero_or_one (m >>> i) with h|h <;> rw [h] <;> rfl
theorem Pu {a b:Nat} (h:Nat.beq (Nat.land a b) a=true) (j:Nat) (hj:a.testBit j=true):b.testBit j=true:=by
 have h:=lhb h
 have h2:(a &&& b).testBit j=a.testBit j:=congrArg (fun n=>Nat.testBit n j) h
 rw [Nat.testBit_and,hj] at h2
 simpa using h2
theorem aeB {a b:Nat} (h:(!Nat.beq (Nat.land a b) a)=true):∃j,a.testBit j=true/\b.testBit j=false:=by
 apply Classical.byContradiction
 intro hn
 have e:a &&& b=a:=by
  apply Nat.eq_of_testBit_eq
  intro j
  rw [Nat.testBit_and]
  cases ha:a.testBit j
  .rfl
  .grind
 rw [show Nat.land a b=a from e] at h
 simp at h
theorem aaB {a b:Nat} (h:GF (Nat.land a b)=true) (j:Nat) (ha:a.testBit j=true):b.testBit j=false:=by
 have h:=lhb h
 have h2:(a &&& b).testBit j=false:=by rw [show a &&& b=0 from h];simp
 rw [Nat.testBit_and,ha] at h2
 simpa using h2
theorem Vi (o:Oper) (j:Nat):(Ua o).testBit j=true↔∃e∈o.after,Region.binds .any e=true/\e.on=j:=by
 unfold Ua
 rw [UG,List.mem_filterMap]
 constructor
 .simp
 .simp
theorem aaa {ops:Array Oper} {x y:Oper} {rx ry:Rec} (hx:rx.lk=VQ (x.looksAt ops)) (hx':rx.ds=VQ x.dst.toList) (hy:ry.lk=VQ (y.looksAt ops)) (hy':ry.ds=VQ y.dst.toList)
  (h:Pv rx ry=true):x.apart ops y=true:=by
 unfold Pv at h
 rw [Bool.and_eq_true] at h
 obtain ⟨h1,h2⟩:=h
 unfold Oper.apart
 rw [Bool.and_eq_true]
 constructor
 .split
  .rename_i d hd
   have hb:rx.ds.testBit d=true:=by grind [UG]
   have h3:=aaB h1 d hb
   rw [show Nat.lor ry.lk ry.ds=ry.lk ||| ry.ds from rfl,lKb,Bool.or_eq_false_iff] at h3
   obtain ⟨h4,h5⟩:=h3
   rw [Bool.and_eq_true]
   constructor
   .rw [Bool.not_eq_true',<-Bool.not_eq_true,List.contains_iff_mem]
    intro hm
    rw [hy,<-Bool.not_eq_true,UG] at h4
    exact h4 hm
   .grind
  .rfl
 .split
  .rename_i d hd
   have hb:ry.ds.testBit d=true:=by grind [UG]
   have h3:=aaB h2 d hb
   rw [Bool.not_eq_true',<-Bool.not_eq_true,List.contains_iff_mem]
   intro hm
   rw [hx,<-Bool.not_eq_true,UG] at h3
   exact h3 hm
  .rfl
theorem aai {ops:Array Oper} {p:Nat × Bool} {r:List (Nat × Bool)} {l:List Rec} (h:R3 ops (p::r)=some l) :
  ∃x l' o,l=x::l'/\R3 ops r=some l'/\ops[p.1]?=some o/\x=⟨p.1,p.2,Ua o,VQ (o.looksAt ops),VQ o.dst.toList⟩:=by
 unfold R3 at h
 split at h
 .cases h
 .rename_i x hx
  split at h
  .cases h
  .rename_i l' hl
   obtain rfl:=Option.some.inj h
   unfold aie at hx
   cases ho:ops[p.1]? with
   | none=>rw [ho] at hx;cases hx
   | some o=>rw [ho] at hx;exact ⟨x,l',o,rfl,hl,rfl,(Option.some.inj hx).symm⟩
theorem ach {ops:Array Oper}:∀{r:List (Nat × Bool)} {l:List Rec},R3 ops r=some l->∀q∈l,∃o,ops[q.i]?=some o/\q.af=Ua o/\q.lk=VQ (o.looksAt ops)/\q.ds=VQ o.dst.toList:=by
 intro r
 induction r with
 | nil=>intro l h q hq;unfold R3 at h;obtain rfl:=Option.some.inj h;cases hq
 | cons p r ih =>
  intro l h q hq
  obtain ⟨x,l',o,rfl,hl,ho,rfl⟩:=aai h
  rcases List.mem_cons.1 hq with rfl|hq
  .grind
  .grind
theorem aci:∀(l:List Rec) (m all:Nat),TO l m all=true->∀j,all.testBit j=true->m.testBit j=true\/∃q∈l,q.i=j:=by
 intro l
 induction l with
 | nil =>
  intro m all h j hj
  unfold TO at h
  have:=lhb h
  subst this
  exact .inl hj
 | cons r l ih =>
  intro m all h j hj
  unfold TO at h
  rw [Bool.and_eq_true] at h
  rcases ih _ _ h.2 j hj with h1|⟨q,hq,e⟩
  .rw [show Nat.lor m (Nat.shiftLeft 1 r.i)=m ||| (1 <<< r.i) from rfl,lKb,Bool.or_eq_true,Nat.one_shiftLeft,lYb] at h1
   rcases h1 with h1|h1
   .grind
   .grind
  .grind
theorem agI:∀{l:List Rec} {m n j:Nat},n<=j->TO l m (2 ^ n-1)=true->m.testBit j=true->False:=by
 intro l
 induction l with
 | nil =>
  intro m n j hj h hb
  unfold TO at h
  have:=lhb h
  rw [this,lMb] at hb
  simp at hb;omega
 | cons r l ih =>
  intro m n j hj h hb
  unfold TO at h
  rw [Bool.and_eq_true] at h
  refine ih hj h.2 ?_
  rw [show Nat.lor m (Nat.shiftLeft 1 r.i)=m ||| (1 <<< r.i) from rfl,lKb,hb,Bool.true_or]
theorem abe {ops:Array Oper}:∀(plan:List (Nat × Bool)) (l:List Rec) (m:Nat) (listed:Array Bool),R3 ops plan=some l->TO l m (2 ^ ops.size-1)=true->listed.size=ops.size ->
  (∀j,j<ops.size->listed.getD j true=m.testBit j)->Ox ops plan listed=true:=by
 intro plan
 induction plan with
 | nil =>
  intro l m listed hl hok hsz hm
  unfold R3 at hl
  obtain rfl:=Option.some.inj hl
  unfold TO at hok
  have hok:=lhb hok
  show (Region.ready .any ops listed).isEmpty=true
  rw [List.isEmpty_iff,List.eq_nil_iff_forall_not_mem]
  intro j hj
  obtain ⟨h0,o,ho,_⟩:=mem_ready.1 hj
  have hlt:j<ops.size:=(lAa.1 ho).1
  rw [hm j hlt,hok,lMb] at h0
  simp [hlt] at h0
 | cons p plan ih =>
  intro l m listed hl hok hsz hm
  obtain ⟨x,l',o,rfl,hl',ho,rfl⟩:=aai hl
  have anq:=aci _ _ _ hok
  unfold TO at hok
  simp only [Bool.and_eq_true] at hok
  obtain ⟨⟨⟨hr,hun⟩,hk⟩,Vz⟩:=hok
  have hlt:p.1<ops.size:=(lAa.1 ho).1
  have anr:listed.getD p.1 true=false:=by grind [TN]
  have aja:∀e∈o.after,Region.binds .any e=true->listed.getD e.on false=true:=fun e he hb=>by
   have h1:=Pu hr e.on ((Vi o e.on).2 ⟨e,he,hb,rfl⟩)
   have h3:e.on<ops.size:=by
    rcases loa e.on ops.size with h|h
    .exact h
    .exact (agI h Vz (by rw [show Nat.lor m (Nat.shiftLeft 1 p.1)=m ||| (1 <<< p.1) from rfl,lKb,h1,Bool.true_or])).elim
   have h2:=hm e.on h3
   rw [h1] at h2
   simp only [Array.getD_eq_getD_getElem?] at h2 ⊢
   rw [lob yY] at h2 ⊢
   simpa using h2
  have V5:p.1∈Region.ready .any ops listed:=mem_ready.2 ⟨anr,o,ho,aja⟩
  have acM:∀j oj,ops[j]?=some oj->j≠p.1->listed.getD j true=false->∃q∈l',q.i=j/\q.af=Ua oj/\q.lk=VQ (oj.looksAt ops)/\q.ds=VQ oj.dst.toList:=fun j oj hj hne hu=>by
   have hjl:j<ops.size:=(lAa.1 hj).1
   rcases anq j (by grind) with h1|⟨q,hq,e⟩
   .grind
   .rcases List.mem_cons.1 hq with rfl|hq
    .grind
    .obtain ⟨o',ho',h1,h2,h3⟩:=ach hl' q hq
     rw [e,hj] at ho'
     obtain rfl:=Option.some.inj ho'
     exact ⟨q,hq,e,h1,h2,h3⟩
  rw [Ru,ho]
  simp only [Bool.and_eq_true]
  refine ⟨?_,ih l' _ _ hl' Vz (by grind) fun j hj=>?_⟩
  .obtain ⟨i,take⟩:=p
   dsimp only at *
   cases take with
   | true =>
    dsimp only at hk ⊢
    rw [Bool.and_eq_true]
    refine ⟨?_,by simpa using V5⟩
    unfold Region.free
    rw [ho]
    simp only [List.all_eq_true,List.mem_range]
    intro j hj
    cases hji:(j == i)
    .cases hlj:listed.getD j true
     .rw [lob hj]
      simp only [Bool.false_or]
      obtain ⟨q,hq,e,h1,h2,h3⟩:=acM j ops[j] (lob hj) (by grind) hlj
      have h4:=lDb.1 hk q hq
      rw [Bool.or_eq_true] at h4 ⊢
      rcases h4 with h4|h4
      .grind [TN,Vi,Array.any_eq_true']
      .right
       exact aaa rfl rfl h2 h3 h4
     .simp
    .simp
   | false =>
    dsimp only at hk ⊢
    rw [beq_iff_eq]
    have ak6:∀j∈Region.ready .any ops listed,j=i:=fun j hj=>by
     apply Classical.byContradiction
     intro hne
     obtain ⟨h0,oj,L1,hall⟩:=mem_ready.1 hj
     obtain ⟨q,hq,e,h1,h2,h3⟩:=acM j oj L1 hne h0
     have h4:=lDb.1 hk q hq
     obtain ⟨b,HL,IW⟩:=aeB h4
     rw [h1,Vi] at HL
     obtain ⟨ed,he,hb,BV⟩:=HL
     have h5:=hall ed he hb
     rw [BV] at h5
     have KW:b<ops.size:=by grind
     have h6:=hm b KW
     rw [IW] at h6
     simp only [Array.getD_eq_getD_getElem?] at h5 h6
     rw [lob yY] at h5 h6
     simp at h5 h6
     rw [h5] at h6;cases h6
    have hnd:(Region.ready .any ops listed).Nodup:=by
     unfold Region.ready;exact List.Pairwise.filter _ List.nodup_range
    generalize Region.ready .any ops listed=R at *
    match R,hnd,ak6,V5 with
    | [],_,_,h=>cases h
    | [a],_,hu,_=>rw [hu a lxb]
    | a::b::r,hnd,hu,_ =>
     have h1:=hu a lxb
     have h2:=hu b yW
     rw [List.nodup_cons] at hnd
     exact absurd (by grind) hnd.1
  .show (listed.setIfInBounds p.1 true).getD j true=(m ||| (1 <<< p.1)).testBit j
   rw [lKb,Nat.one_shiftLeft,lYb,<-hm j hj]
   by_cases h:p.1=j
   .subst h;simp [hsz,hj]
   .simp [Array.getElem?_setIfInBounds_ne h,h]
theorem aac {ops:Array Oper} {plan:List (Nat × Bool)} (h:MZ ops plan=true):Rt ops plan=true:=by
 unfold MZ at h
 simp only [Bool.and_eq_true] at h
 obtain ⟨⟨h1,h2⟩,h3⟩:=h
 split at h3
 .grind
 .rename_i l hl
  unfold Rt
  rw [h1,abe plan l 0 _ hl h3 yW (fun j hj=>by simp [hj])]
  simp [Nat.eq_of_beq_eq_true h2]
theorem apg {P:Program} {ops:Array Oper} {K:yz->World->Prop} {ρ0:yz} {id:Nat} {w:World} (S:World->Prop) (plan:List (Nat × Bool)) (hm:P.follows .mixedOrders=true) (hc:MZ ops plan=true)
  (h:∀w1,w1=w.drew->S w1/\Py P ops.toList S K plan ρ0 w1):M9 P id ops K ρ0 w:=draw S plan hm (aac hc) h
end YX
namespace YX
open Go Go.RowKit
section
variable {P:Program} {ops:Array Oper} {Q:Exit->Act->World->Prop} {md:Region.Mode} {S:World->Prop} {Z:Nat->Bool}
def RC (P:Program) (md:Region.Mode) (ops:Array Oper) (Q:Exit->Act->World->Prop) (S:World->Prop) (Z:Nat->Bool):Nat->Array Bool->Act->World->Prop
 | 0,listed,a,w=>Region.ready md ops listed=[]/\Q .normal a w
 | fuel+1,listed,a,w=>(Region.ready md ops listed=[]->Q .normal a w) /\
   ∀i∈Region.ready md ops listed,wpOp P ops Q i (fun a' w'=>(Z i=true\/(S w->S w'))/\RC P md ops Q S Z fuel (listed.setIfInBounds i true) a' w') a w
theorem abf:∀(fuel:Nat) (listed:Array Bool) (a:Act) (w:World),RC P md ops Q S Z fuel listed a w->wpAny P md ops Q fuel listed a w:=by
 intro fuel
 induction fuel with
 | zero=>exact fun _ _ _ h=>h
 | succ f ih=>exact fun _ _ _ h=>⟨h.1,fun i hi=>wpOp_mono (fun a' w' k=>ih _ a' w' k.2) (h.2 i hi)⟩
def Cl (md:Region.Mode) (ops:Array Oper) (listed:Array Bool):Prop:=∀(k:Nat) (ok:Oper),ops[k]?=some ok->listed.getD k false=true->∀e∈ok.after,Region.binds md e=true->listed.getD e.on false=true
inductive Pre (md:Region.Mode) (ops:Array Oper):Nat->Nat->Prop
 | one {j i:Nat} {oj:Oper} (hj:ops[j]?=some oj) {e:Edge} (he:e∈oj.after) (hb:Region.binds md e=true) (hi:e.on=i):Pre md ops j i
 | more {j i:Nat} {oj:Oper} (hj:ops[j]?=some oj) {e:Edge} (he:e∈oj.after) (hb:Region.binds md e=true) (hi:Pre md ops e.on i):Pre md ops j i
theorem Pre.trans {a b c:Nat} (h:Pre md ops a b) (k:Pre md ops b c):Pre md ops a c:=by
 induction h with
 | one hj he hb hi=>subst hi;exact .more hj he hb k
 | more hj he hb _ ih=>exact .more hj he hb (ih k)
theorem Cl.pre {listed:Array Bool} (hc:Cl md ops listed) {j i:Nat} (h:Pre md ops j i) (hl:listed.getD j false=true):listed.getD i false=true:=by
 induction h with
 | one hj he hb hi=>subst hi;exact hc _ _ hj hl _ he hb
 | more hj he hb _ ih=>exact ih (hc _ _ hj hl _ he hb)
theorem Cl.ready {listed:Array Bool} (hc:Cl md ops listed) {j i:Nat} (h:Pre md ops j i) (hr:j∈Region.ready md ops listed):listed.getD i false=true:=by
 obtain ⟨_,oj,L1,hall⟩:=mem_ready.1 hr
 cases h with
 | one hj he hb hi=>subst hi;rw [hj] at L1;obtain rfl:=Option.some.inj L1;exact hall _ he hb
 | more hj he hb hp=>rw [hj] at L1;obtain rfl:=Option.some.inj L1;exact hc.pre hp (hall _ he hb)
theorem Cl.step {listed:Array Bool} (hc:Cl md ops listed) {j:Nat} (hr:j∈Region.ready md ops listed):Cl md ops (listed.setIfInBounds j true):=by
 obtain ⟨_,oj,L1,hall⟩:=mem_ready.1 hr
 have up:∀k,listed.getD k false=true->(listed.setIfInBounds j true).getD k false=true:=fun k hk=>by
  simp only [Array.getD_eq_getD_getElem?] at hk ⊢
  rw [Array.getElem?_setIfInBounds]
  split
  .grind
  .omega
 intro k ok hk hl e he hb
 by_cases h:j=k
 .grind
 .refine up _ (hc k ok hk ?_ e he hb)
  simp only [Array.getD_eq_getD_getElem?] at hl ⊢
  rw [Array.getElem?_setIfInBounds,if_neg h] at hl;exact hl
theorem Cl.start (n:Nat):Cl md ops (Array.replicate n false):=fun k ok _ hl=>by
 simp only [Array.getD_eq_getD_getElem?,Array.getElem?_replicate] at hl
 split at hl <;> cases hl
theorem aaq {i:Nat} {oi:Oper} {v:Value} (hi:ops[i]?=some oi) (hsel:∀(j:Nat) (o:Oper) cs b,ops[j]?=some o->o.op≠.select cs b)
  (hQ:∀c a w,Q (.panic c) (a.put oi.dst v) w->Q (.panic c) a w) (hz:∀j oj,ops[j]?=some oj->Z j=true->Pre md ops j i) :
  ∀(fuel:Nat) (listed:Array Bool) (a:Act) (w:World),Cl md ops listed ->
   (∀j oj,ops[j]?=some oj->j≠i->listed.getD j true=false->(∀e∈oj.after,Region.binds md e=true->e.on≠i)->oi.apart ops oj=true) ->
   i∈Region.ready md ops listed->YieldsIf P ops S oi v a->S w ->
   RC P md ops Q S Z fuel (listed.setIfInBounds i true) (a.put oi.dst v) w->RC P md ops Q S Z (fuel+1) listed a w:=by
 intro fuel
 induction fuel with
 | zero =>
  intro listed a w _ _ hr hy hS H
  refine ⟨fun h=>absurd (h ▸ hr) (List.not_mem_nil),fun j hj=>?_⟩
  rcases Nat.decEq j i with hji|hji
  .exact absurd (H.1 ▸ ready_mono hj hji) (List.not_mem_nil)
  .subst hji;exact hy.wpOp hi hS ⟨.inr id,H⟩
 | succ fuel ih =>
  intro listed a w Va hfree hr hy hS H
  refine ⟨fun h=>absurd (h ▸ hr) (List.not_mem_nil),fun j hj=>?_⟩
  rcases Nat.decEq j i with hji|hji
  .have h1:=H.2 j (ready_mono hj hji)
   obtain ⟨DC,oj,L1,hall⟩:=mem_ready.1 hj
   have G8:=(mem_ready.1 hr).1
   have hnot:∀e∈oj.after,Region.binds md e=true->e.on≠i:=fun e he hb heq=>by grind
   have hZ:Z j≠true:=fun hzj=>by
    have h2:=Va.ready (hz j oj L1 hzj) hj
    simp only [Array.getD_eq_getD_getElem?] at h2 G8
    cases hx:listed[i]? with
    | none=>rw [hx] at h2;simp at h2
    | some b=>rw [hx] at h2 G8;simp at h2 G8;rw [h2] at G8;cases G8
   have h2:=wpOp_putIf L1 (hfree j oj L1 hji DC hnot) (fun cs b=>hsel i oi cs b hi) (fun cs b=>hsel j oj cs b L1) hQ hy h1
   refine wpOp_mono (fun a' w' h3=>?_) h2
   have hSw:S w':=h3.2.1.resolve_left hZ hS
   refine ⟨.inr fun _=>hSw,ih (listed.setIfInBounds j true) a' w' (Va.step hj) (fun k ok hk hki hun hno=>hfree k ok hk hki ?_ hno) (ready_mono hr (Ne.symm hji)) h3.1 hSw ?_⟩
   .rcases Nat.decEq j k with h|h
    .rw [getD_set_ne true h] at hun;exact hun
    .grind
   .rw [Array.setIfInBounds_comm _ _ hji];exact h3.2.2
  .subst hji;exact hy.wpOp hi hS ⟨.inr id,H⟩
theorem aaC {i:Nat} {oi:Oper} {v:Value} (hi:ops[i]?=some oi) (hsel:∀(j:Nat) (o:Oper) cs b,ops[j]?=some o->o.op≠.select cs b)
  (hQ:∀c a w,Q (.panic c) (a.put oi.dst v) w->Q (.panic c) a w) :
  ∀(fuel:Nat) (listed:Array Bool) (a:Act) (w:World),
   (∀j oj,ops[j]?=some oj->j≠i->listed.getD j true=false->(∀e∈oj.after,Region.binds md e=true->e.on≠i)->oi.apart ops oj=true) ->
   i∈Region.ready md ops listed->YieldsIf P ops (fun _=>True) oi v a ->
   RC P md ops Q S Z fuel (listed.setIfInBounds i true) (a.put oi.dst v) w->RC P md ops Q S Z (fuel+1) listed a w:=by
 intro fuel
 induction fuel with
 | zero =>
  intro listed a w _ hr hy H
  refine ⟨fun h=>absurd (h ▸ hr) (List.not_mem_nil),fun j hj=>?_⟩
  rcases Nat.decEq j i with hji|hji
  .exact absurd (H.1 ▸ ready_mono hj hji) (List.not_mem_nil)
  .subst hji;exact hy.wpOp hi trivial ⟨.inr id,H⟩
 | succ fuel ih =>
  intro listed a w hfree hr hy H
  refine ⟨fun h=>absurd (h ▸ hr) (List.not_mem_nil),fun j hj=>?_⟩
  rcases Nat.decEq j i with hji|hji
  .have h1:=H.2 j (ready_mono hj hji)
   obtain ⟨DC,oj,L1,hall⟩:=mem_ready.1 hj
   have G8:=(mem_ready.1 hr).1
   have hnot:∀e∈oj.after,Region.binds md e=true->e.on≠i:=fun e he hb heq=>by grind
   have h2:=wpOp_putIf L1 (hfree j oj L1 hji DC hnot) (fun cs b=>hsel i oi cs b hi) (fun cs b=>hsel j oj cs b L1) hQ hy h1
   refine wpOp_mono (fun a' w' h3=>?_) h2
   refine ⟨h3.2.1,ih (listed.setIfInBounds j true) a' w' (fun k ok hk hki hun hno=>hfree k ok hk hki ?_ hno) (ready_mono hr (Ne.symm hji)) h3.1 ?_⟩
   .rcases Nat.decEq j k with h|h
    .rw [getD_set_ne true h] at hun;exact hun
    .grind
   .rw [Array.setIfInBounds_comm _ _ hji];exact h3.2.2
  .subst hji;exact hy.wpOp hi trivial ⟨.inr id,H⟩
end
inductive Kd where
 | pure
 | held
 | forced
 | free
abbrev yRh0:Nat×Kd:=(0,.held)
abbrev yRp0:Nat×Kd:=(0,.pure)
abbrev yRf1:Nat×Kd:=(1,.forced)
abbrev yRh1:Nat×Kd:=(1,.held)
abbrev yRp1:Nat×Kd:=(1,.pure)
abbrev yRf2:Nat×Kd:=(2,.forced)
abbrev yRh2:Nat×Kd:=(2,.held)
abbrev yRp2:Nat×Kd:=(2,.pure)
abbrev yRf3:Nat×Kd:=(3,.forced)
abbrev yRfr3:Nat×Kd:=(3,.free)
abbrev yRh3:Nat×Kd:=(3,.held)
abbrev yRp3:Nat×Kd:=(3,.pure)
abbrev yRf4:Nat×Kd:=(4,.forced)
abbrev yRh4:Nat×Kd:=(4,.held)
abbrev yRp4:Nat×Kd:=(4,.pure)
abbrev yRf5:Nat×Kd:=(5,.forced)
abbrev yRfr5:Nat×Kd:=(5,.free)
abbrev yRh5:Nat×Kd:=(5,.held)
abbrev yRp5:Nat×Kd:=(5,.pure)
abbrev yRf6:Nat×Kd:=(6,.forced)
abbrev yRfr6:Nat×Kd:=(6,.free)
abbrev yRh6:Nat×Kd:=(6,.held)
abbrev yRp6:Nat×Kd:=(6,.pure)
abbrev yRf7:Nat×Kd:=(7,.forced)
abbrev yRfr7:Nat×Kd:=(7,.free)
abbrev yRh7:Nat×Kd:=(7,.held)
abbrev yRp7:Nat×Kd:=(7,.pure)
abbrev yRf8:Nat×Kd:=(8,.forced)
abbrev yRfr8:Nat×Kd:=(8,.free)
abbrev yRh8:Nat×Kd:=(8,.held)
abbrev yRp8:Nat×Kd:=(8,.pure)
abbrev yRf9:Nat×Kd:=(9,.forced)
abbrev yRfr9:Nat×Kd:=(9,.free)
abbrev yRh9:Nat×Kd:=(9,.held)
abbrev yRp9:Nat×Kd:=(9,.pure)
abbrev yRf10:Nat×Kd:=(10,.forced)
abbrev yRfr10:Nat×Kd:=(10,.free)
abbrev yRh10:Nat×Kd:=(10,.held)
abbrev yRp10:Nat×Kd:=(10,.pure)
abbrev yRfr11:Nat×Kd:=(11,.free)
abbrev yRh11:Nat×Kd:=(11,.held)
abbrev yRp11:Nat×Kd:=(11,.pure)
abbrev yRf12:Nat×Kd:=(12,.forced)
abbrev yRfr12:Nat×Kd:=(12,.free)
abbrev yRh12:Nat×Kd:=(12,.held)
abbrev yRp12:Nat×Kd:=(12,.pure)
abbrev yRfr13:Nat×Kd:=(13,.free)
abbrev yRh13:Nat×Kd:=(13,.held)
abbrev yRp13:Nat×Kd:=(13,.pure)
abbrev yRf14:Nat×Kd:=(14,.forced)
abbrev yRfr14:Nat×Kd:=(14,.free)
abbrev yRh14:Nat×Kd:=(14,.held)
abbrev yRp14:Nat×Kd:=(14,.pure)
abbrev yRf15:Nat×Kd:=(15,.forced)
abbrev yRfr15:Nat×Kd:=(15,.free)
abbrev yRh15:Nat×Kd:=(15,.held)
abbrev yRp15:Nat×Kd:=(15,.pure)
abbrev yRfr16:Nat×Kd:=(16,.free)
abbrev yRh16:Nat×Kd:=(16,.held)
abbrev yRp16:Nat×Kd:=(16,.pure)
abbrev yRf17:Nat×Kd:=(17,.forced)
abbrev yRfr17:Nat×Kd:=(17,.free)
abbrev yRh17:Nat×Kd:=(17,.held)
abbrev yRp17:Nat×Kd:=(17,.pure)
abbrev yRfr18:Nat×Kd:=(18,.free)
abbrev yRh18:Nat×Kd:=(18,.held)
abbrev yRp18:Nat×Kd:=(18,.pure)
abbrev yRfr19:Nat×Kd:=(19,.free)
abbrev yRh19:Nat×Kd:=(19,.held)
abbrev yRp19:Nat×Kd:=(19,.pure)
abbrev yRh20:Nat×Kd:=(20,.held)
abbrev yRp20:Nat×Kd:=(20,.pure)
abbrev yRf21:Nat×Kd:=(21,.forced)
abbrev yRfr21:Nat×Kd:=(21,.free)
abbrev yRh21:Nat×Kd:=(21,.held)
abbrev yRp21:Nat×Kd:=(21,.pure)
abbrev yRfr22:Nat×Kd:=(22,.free)
abbrev yRh22:Nat×Kd:=(22,.held)
abbrev yRp22:Nat×Kd:=(22,.pure)
abbrev yRfr23:Nat×Kd:=(23,.free)
abbrev yRp23:Nat×Kd:=(23,.pure)
abbrev yRh24:Nat×Kd:=(24,.held)
abbrev yRp24:Nat×Kd:=(24,.pure)
abbrev yRfr25:Nat×Kd:=(25,.free)
abbrev yRp25:Nat×Kd:=(25,.pure)
def Uu (P:Program) (ops:List Oper) (S:World->Prop) (K:yz->World->Prop) (plan:List (Nat × Kd)):Bool->yz->World->Prop :=
 List.rec (motive:=fun _=>Bool->yz->World->Prop) (fun _=>K) (fun i _ ih live ρ w=>match ops[i.1]? with
  | none=>False
  | some o=>match i.2 with
   | .pure=>XN ops o.guard ρ fun b ρ=>match b with
    | true=>GW P (fun _=>True) o ρ fun v=>WN ρ o.dst v fun ρ=>ih live ρ w
    | false=>WN ρ o.dst undef fun ρ=>ih live ρ w
   | .held=>match live with
    | true=>XN ops o.guard ρ fun b ρ=>match b with
     | true=>GW P S o ρ fun v=>WN ρ o.dst v fun ρ=>ih true ρ w
     | false=>WN ρ o.dst undef fun ρ=>ih true ρ w
    | false=>False
   | .forced=>match live with
    | true=>XN ops o.guard ρ fun b ρ=>match b with
     | true=>JL P o ρ w fun v w'=>Za (S w') (WN ρ o.dst v fun ρ=>ih true ρ w')
     | false=>WN ρ o.dst undef fun ρ=>ih true ρ w
    | false=>False
   | .free=>XN ops o.guard ρ fun b ρ=>match b with
    | true=>JL P o ρ w fun v w'=>WN ρ o.dst v fun ρ=>ih false ρ w'
    | false=>WN ρ o.dst undef fun ρ=>ih false ρ w) plan
theorem acj (P:Program) (ops:List Oper) (S:World->Prop) (K:yz->World->Prop) (i:Nat × Kd) (r:List (Nat × Kd)) (live:Bool) (ρ:yz) (w:World) :
  Uu P ops S K (i::r) live ρ w=match ops[i.1]? with
  | none=>False
  | some o=>match i.2 with
   | .pure=>XN ops o.guard ρ fun b ρ=>match b with
    | true=>GW P (fun _=>True) o ρ fun v=>WN ρ o.dst v fun ρ=>Uu P ops S K r live ρ w
    | false=>WN ρ o.dst undef fun ρ=>Uu P ops S K r live ρ w
   | .held=>match live with
    | true=>XN ops o.guard ρ fun b ρ=>match b with
     | true=>GW P S o ρ fun v=>WN ρ o.dst v fun ρ=>Uu P ops S K r true ρ w
     | false=>WN ρ o.dst undef fun ρ=>Uu P ops S K r true ρ w
    | false=>False
   | .forced=>match live with
    | true=>XN ops o.guard ρ fun b ρ=>match b with
     | true=>JL P o ρ w fun v w'=>Za (S w') (WN ρ o.dst v fun ρ=>Uu P ops S K r true ρ w')
     | false=>WN ρ o.dst undef fun ρ=>Uu P ops S K r true ρ w
    | false=>False
   | .free=>XN ops o.guard ρ fun b ρ=>match b with
    | true=>JL P o ρ w fun v w'=>WN ρ o.dst v fun ρ=>Uu P ops S K r false ρ w'
    | false=>WN ρ o.dst undef fun ρ=>Uu P ops S K r false ρ w:=rfl
def EU:Kd->Bool
 | .pure=>true
 | .held=>true
 | .forced=>false
 | .free=>false
def D3 (plan:List (Nat × Kd)):List (Nat × Bool):=plan.map fun p=>(p.1,EU p.2)
def IU (plan:List (Nat × Kd)):List Nat:=plan.filterMap fun p=>match p.2 with
 | .held=>some p.1
 | _=>none
def KU (plan:List (Nat × Kd)):List Nat:=plan.filterMap fun p=>match p.2 with
 | .free=>some p.1
 | _=>none
def reach (ops:List (Oper × Nat)) (m:Nat):Nat:=ops.foldl (fun m p=>match IV m p.2 with
 | true=>Nat.lor m (Ua p.1)
 | false=>m) m
theorem ack {ops:Array Oper} {z:Nat}:∀(l:List (Oper × Nat)) (m:Nat),(∀p∈l,ops[p.2]?=some p.1)->(∀i,m.testBit i=true->Pre .any ops z i)->∀i,(reach l m).testBit i=true->Pre .any ops z i:=by
 intro l
 induction l with
 | nil=>exact fun m _ h=>h
 | cons p l ih =>
  intro m hl h
  refine ih _ (fun q hq=>hl q (lvb _ hq)) fun i hi=>?_
  dsimp only at hi
  cases hb:IV m p.2 with
  | false=>rw [hb] at hi;exact h i hi
  | true =>
   rw [hb] at hi
   have hi:(m ||| Ua p.1).testBit i=true:=hi
   rw [lKb,Bool.or_eq_true] at hi
   rcases hi with hi|hi
   .grind
   .obtain ⟨e,he,IW,BV⟩:=(Vi p.1 i).1 hi
    exact (h p.2 (by grind [TN])).trans (.one (hl p (lxb ..)) he IW BV)
def BU (ops:Array Oper) (V4 zs:List Nat):Bool:=zs.all fun z=>match ops[z]? with
 | none=>false
 | some o=>Nat.beq (Nat.land (VQ V4) (Ua o)) (VQ V4) || Nat.beq (Nat.land (VQ V4) (reach ops.toList.zipIdx.reverse (Ua o))) (VQ V4)
theorem MY {ops:Array Oper} {V4 zs:List Nat} (h:BU ops V4 zs=true) {i:Nat} (hi:i∈V4):∀j oj,ops[j]?=some oj->zs.contains j=true->Pre .any ops j i:=by
 intro j oj hj hz
 have h1:=lDb.1 h j (by grind)
 rw [hj] at h1
 rw [Bool.or_eq_true] at h1
 have d:∀k,(Ua oj).testBit k=true->Pre .any ops j k:=fun k hk=>by
  obtain ⟨e,he,hb,BV⟩:=(Vi oj k).1 hk
  exact .one hj he hb BV
 rcases h1 with h1|h1
 .exact d i (Pu h1 i ((UG V4 i).2 hi))
 .refine ack ops.toList.zipIdx.reverse (Ua oj) (fun p hp=>?_) d i (Pu h1 i ((UG V4 i).2 hi))
  have DB:=List.mem_reverse.1 hp
  have:=List.mem_zipIdx' DB
  rw [<-lTa]
  rw [lba]
  exact ⟨this.1,this.2.symm⟩
section
variable {P:Program} {ops:Array Oper} {S:World->Prop} {K:yz->World->Prop} {ρ0:yz} {Z:Nat->Bool}
theorem abg (hs:Region.noSelect ops=true) (plan:List (Nat × Kd)):∀(fuel:Nat) (listed:Array Bool) (live:Bool) (ρ:yz) (w:World),plan.length<=fuel ->
  (∀i,(i,Kd.held)∈plan->∀j oj,ops[j]?=some oj->Z j=true->Pre .any ops j i) ->
  (∀i,(i,Kd.free)∈plan->Z i=true) ->
  Ox ops (D3 plan) listed=true->(live=true->S w)->agree (Yq ops.toList) ρ0 ρ ->
  Cl .any ops listed->Uu P ops.toList S K plan live ρ w->RC P .any ops (fun e a w'=>e=.normal/\a.defers=[]/\agree (Yq ops.toList) ρ0 a.tmps.toList/\K a.tmps.toList w') S Z fuel listed ⟨ρ.toArray,[]⟩ w:=by
 induction plan with
 | nil =>
  intro fuel listed live ρ w _ _ _ hok _ hag _ h
  have hr:=List.isEmpty_iff.1 hok
  cases fuel with
  | zero=>exact ⟨hr,rfl,rfl,hag,h⟩
  | succ f=>exact ⟨fun _=>⟨rfl,rfl,hag,h⟩,by rw [hr];simp⟩
 | cons ib r ih =>
  obtain ⟨i,kd⟩:=ib
  intro fuel listed live ρ w hfl IX Fy hok hS hag Va h
  obtain ⟨f,rfl⟩:∃f,fuel=f+1:=⟨fuel-1,by simp at hfl;omega⟩
  have GG:r.length<=f:=by grind
  have DA:∀i,(i,Kd.held)∈r->∀j oj,ops[j]?=some oj->Z j=true->Pre .any ops j i:=fun k hk=>IX k (by simp [hk])
  have Dz:∀i,(i,Kd.free)∈r->Z i=true:=fun k hk=>Fy k (by simp [hk])
  unfold D3 at hok
  rw [lkb,Ru] at hok
  rw [acj] at h
  simp only [Array.getElem?_toList] at h
  cases ho:ops[i]? with
  | none=>rw [ho] at hok;cases hok
  | some o =>
   rw [ho] at hok h
   simp only [Bool.and_eq_true] at hok h
   have hmem:∀n,o.dst=some n->n∈Yq ops.toList:=fun n hn=>by grind [Yq]
   have Hf:=fun live ρ w=>ih f (listed.setIfInBounds i true) live ρ w GG DA Dz
   cases kd with
   | pure =>
    simp only [EU,Bool.and_eq_true] at hok
    obtain ⟨⟨hfree,V5⟩,Vz⟩:=hok
    obtain ⟨b,hb,h⟩:=XK h
    have key:∀v,YieldsIf P ops (fun _=>True) o v ⟨ρ.toArray,[]⟩->Uu P ops.toList S K r live (put ρ o.dst v) w->RC P .any ops (fun e a w'=>e=.normal/\a.defers=[]/\agree (Yq ops.toList) ρ0 a.tmps.toList/\K a.tmps.toList w') S Z (f+1) listed ⟨ρ.toArray,[]⟩ w:=fun v hy hk =>
     aaC ho (Region.noSelect_spec hs) (fun c a w hq=>by cases hq.1) f listed _ _ (Region.free_spec ho hfree) (by grind) hy (by
      rw [put_eq]
      exact Hf live _ w Vz hS (Xs hag hmem v) (Va.step (by grind)) hk)
    cases b
    .simp only [XV] at h
     exact key undef (.inr ⟨hb,rfl⟩) h
    .obtain ⟨v,hv,hk⟩:=SC h
     rw [XV] at hk
     exact key v (.inl ⟨hb,fun w hS=>by rw [Yl];exact hv w hS⟩) hk
   | held =>
    simp only [EU,Bool.and_eq_true] at hok
    obtain ⟨⟨hfree,V5⟩,Vz⟩:=hok
    cases live with
    | false=>exact h.elim
    | true =>
     obtain ⟨b,hb,h⟩:=XK h
     have key:∀v,YieldsIf P ops S o v ⟨ρ.toArray,[]⟩->Uu P ops.toList S K r true (put ρ o.dst v) w->RC P .any ops (fun e a w'=>e=.normal/\a.defers=[]/\agree (Yq ops.toList) ρ0 a.tmps.toList/\K a.tmps.toList w') S Z (f+1) listed ⟨ρ.toArray,[]⟩ w:=fun v hy hk =>
      aaq ho (Region.noSelect_spec hs) (fun c a w hq=>by cases hq.1) (IX i yW) f listed _ _ Va (Region.free_spec ho hfree) (by grind) hy (hS rfl) (by
       rw [put_eq]
       exact Hf true _ w Vz hS (Xs hag hmem v) (Va.step (by grind)) hk)
     cases b
     .simp only [XV] at h
      exact key undef (.inr ⟨hb,rfl⟩) h
     .obtain ⟨v,hv,hk⟩:=SC h
      rw [XV] at hk
      exact key v (.inl ⟨hb,fun w hS=>by rw [Yl];exact hv w hS⟩) hk
   | forced =>
    simp only [EU,beq_iff_eq] at hok
    obtain ⟨V5,Vz⟩:=hok
    cases live with
    | false=>exact h.elim
    | true =>
     obtain ⟨b,hb,h⟩:=XK h
     refine ⟨fun h0=>by rw [V5] at h0;simp at h0,fun j hj=>?_⟩
     obtain rfl:j=i:=by grind
     unfold wpOp
     rw [ho]
     simp only [hb]
     cases b
     .simp only [Bool.false_eq_true,if_false,XV] at h ⊢
      rw [put_eq]
      exact ⟨.inr id,Hf true _ w Vz hS (Xs hag hmem _) (Va.step hj) h⟩
     .simp only [if_true] at h ⊢
      refine .inl (TY h fun v w' ⟨D5,hk⟩=>?_)
      rw [XV] at hk
      rw [put_eq]
      exact ⟨.inr fun _=>D5,Hf true _ w' Vz (fun _=>D5) (Xs hag hmem v) (Va.step hj) hk⟩
   | free =>
    simp only [EU,beq_iff_eq] at hok
    obtain ⟨V5,Vz⟩:=hok
    have hz:Z i=true:=Fy i yW
    obtain ⟨b,hb,h⟩:=XK h
    refine ⟨fun h0=>by rw [V5] at h0;simp at h0,fun j hj=>?_⟩
    obtain rfl:j=i:=by grind
    unfold wpOp
    rw [ho]
    simp only [hb]
    cases b
    .simp only [Bool.false_eq_true,if_false,XV] at h ⊢
     rw [put_eq]
     exact ⟨.inl hz,Hf false _ w Vz nofun (Xs hag hmem _) (Va.step hj) h⟩
    .simp only [if_true] at h ⊢
     refine .inl (TY h fun v w' hk=>?_)
     rw [XV] at hk
     rw [put_eq]
     exact ⟨.inl hz,Hf false _ w' Vz nofun (Xs hag hmem v) (Va.step hj) hk⟩
theorem ak7 {id:Nat} {w:World} (S:World->Prop) (plan:List (Nat × Kd)) (hm:P.follows .mixedOrders=true) (hc:MZ ops (D3 plan)=true) (hz:BU ops (IU plan) (KU plan)=true)
  (h:∀w1,w1=w.drew->S w1/\Uu P ops.toList S K plan true ρ0 w1):M9 P id ops K ρ0 w:=by
 have Cw:=aac hc
 simp only [Rt,Bool.and_eq_true,beq_iff_eq] at Cw
 obtain ⟨⟨h1,h2⟩,h3⟩:=Cw
 obtain ⟨hS,hk⟩:=h _ rfl
 have hl:plan.length<=ops.size:=by grind [D3]
 refine ⟨wp_region_any hm (abf (S:=S) (Z:=fun i=>(KU plan).contains i) _ _ _ _ (abg h1 plan _ _ true _ _ hl (fun i hi=>MY hz ?_) (fun i hi=>?_) h3 (fun _=>hS) (Qb _ _) (Cl.start _) hk))⟩
 .grind [IU]
 .grind [KU]
end
end YX
end Go.Proofs.YtakpnepblgfknaaGreatDoor
