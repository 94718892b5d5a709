import Derived.Tactics
import Derived.Below
import Derived.ScopeJumps
import Derived.Laws.Slices
import Derived.Laws.Small
import Derived.Laws.StructEq
import Derived.Laws.Pointers
import Derived.Laws.Cover3
import Derived.Laws.Strings
import Derived.Laws.BytesString
import Derived.Laws.Build
import Derived.Laws.OwnMore
import Derived.Laws.MakeOwn
import Derived.Laws.CopyOwn
import Derived.Laws.BytesArg
import Derived.KernelRfl
import Derived.OrdersHeld
import Derived.Laws.CopyRow
import Derived.Laws.AppendOwn
import Derived.ArgAppend
set_option linter.unusedVariables false
set_option linter.unusedSimpArgs false
set_option linter.defProp false
namespace Go.Proofs.YtakpnepblgfknaaGreatDoor
theorem yq9{α}{p:α→Bool}{a:α}{l:List α}:(a::l).all p=(p a&&l.all p):=rfl
theorem yq8{α}{p:α→Bool}:[].all p=true:=rfl
theorem yq7{α}{a b:List α}:(a++b).length=a.length+b.length:=List.length_append
theorem yq4(a b:Bool):((a&&b)=true)=(a=true∧b=true):=Bool.and_eq_true a b
def yq6:=@Option.some.inj
def yq5:=@congrArg
theorem yQ {P:Prop} (h:P:=by omega):P:=h
theorem yP {P:Prop} (h:P:=by assumption):P:=h
theorem yO {P:Prop} (h:P:=by simp):P:=h
abbrev yp:=List Int
abbrev yo:=List UInt8
abbrev ym:=List Go.Value
theorem yA {α β γ:Type} {a:α} {b:β} {c:γ}:a=a/\b=b/\c=c:=⟨rfl,rfl,rfl⟩
theorem yF {α β γ δ:Type} {a:α} {b:β} {c:γ} {d:δ}:a=a/\b=b/\c=c/\d=d:=⟨rfl,rfl,rfl,rfl⟩
theorem yM {α β:Type _} {a:α} {b:β}:a=a/\b=b:=⟨rfl,rfl⟩
abbrev yL (n:Int):Go.Value:=.int .i64 n
abbrev yK (n:Nat):Go.Value:=.pointer (some ⟨n,0,none⟩)
theorem k_a {P:Prop} (h:P:=by repeat first|exact ZY|refine ZQ rfl ?_|refine Zw rfl (by first|omega|(simp only;omega)|(simp;omega)|(simp;done)) ?_):P:=h
theorem k_b {P:Prop} (h:P:=by first|omega|(simp only;omega)|(simp;omega)|(simp;done)):P:=h
theorem k_c {P:Prop} (h:P:=by (subst_vars;unfold Vg;(repeat first|rw [if_pos yQ]|rw [if_neg yQ]);(try simp only [Y2,XH,XP,YF]);(try rfl))):P:=h
theorem k_d {P:Prop} (h:P:=by kernel_rfl):P:=h
theorem k_e {P:Prop} (h:P:=by exact yq5 Value.bool (rfl)):P:=h
theorem k_f {P:Prop} (h:P:=by (unfold UO;(repeat first|rw [if_pos yQ]|rw [if_neg yQ]);(try simp only [Y2] at *);subst_vars;(try rfl);done)):P:=h
theorem k_g {P:Prop} (h:P:=by (simp only [yq7,List.length_set,List.length_cons,List.length_nil];omega)):P:=h
theorem k_h {P:Prop} (h:P:=by (subst_vars;first|omega|(rw [lca,lfa];omega))):P:=h
theorem k_i {P:Prop} (h:P:=by first|omega|(simp only;omega)|(simp;omega)):P:=h
theorem k_j {P:Prop} (h:P:=by simp only [yq9,yq8,H.one 2 rfl,H.one 3 rfl,H.one 4 rfl,H.one 5 rfl,Z0.one Zg,Z0.one hx];rfl):P:=h
theorem k_k {P:Prop} (h:P:=by exact Xu.more yP yQ):P:=h
theorem k_l {P:Prop} (h:P:=by rw [Yj];unfold execOp;rw [ho]):P:=h
theorem k_m {P:Prop} (h:P:=by simp only [yq9,yq8,H.one 2 rfl,H.one 3 rfl,Z0.one XZ,Z0.one Mu,Z0.one Jk,Z0.one OT,Z0.one KN,Z0.one YH,Z0.one YC,Z0.one Fp,Z0.one Za];rfl):P:=h
theorem k_n {P:Prop} (h:P:=by simp only [yq9,yq8,H.one 4 rfl,H.one 5 rfl,Z0.one W8,Z0.one W9,Z0.one ZT,Z0.one ht];rfl):P:=h
theorem k_o {P:Prop} (h:P:=by simp only [Bool.and_true,H.one 1 rfl,H.one 2 rfl,H.one 6 rfl,hvs,Z0.one ZO,Z0.one Zy,Z0.one ZT,hvl]):P:=h
theorem k_p {P:Prop} (h:P:=by exact ⟨nofun,fun h=>absurd (yq5 List.length h) yQ⟩):P:=h
theorem k_q {P:Prop} (h:P:=by subst h;exact yq6 (hx1.symm.trans Wp)):P:=h
theorem k_r {P:Prop} (h:P:=by exact Fs (by decide) (by decide) yP):P:=h
theorem k_s {P:Prop} (h:P:=by simp only [yq9,yq8,H.one 2 rfl,Z0.one Zg,Z0.one Gu,Z0.one hs,Z0.one hL,Z0.one he,Z0.one hb];rfl):P:=h
theorem k_t {P:Prop} (h:P:=by exact ⟨fun _=>Ua yQ yQ he,fun _=>rfl⟩):P:=h
theorem k_u {P:Prop} (h:P:=by simp [run_sliceBound (P:=P) w kh (h:Int) cap _ yQ yQ,run_sliceBound (P:=P) w kl (a:Int) h _ yQ yQ]):P:=h
theorem k_v {P:Prop} (h:P:=by rw [<-hargs];exact h):P:=h
theorem k_w {P:Prop} (h:P:=by exact ⟨rfl,rfl,rfl,rfl,fun _=>rfl⟩):P:=h
theorem k_x {P:Prop} (h:P:=by simp [run_sliceBound (P:=P) w kh (h:Int) cap _ yQ yQ]):P:=h
theorem k_y {P:Prop} (h:P:=by unfold execOp;rw [ho];simp only [resolve,hc,pure_bind,invoke,builtin]):P:=h
theorem k_z {P:Prop} (h:P:=by simp only [Bool.and_true,H.one 2 rfl,H.one 3 rfl,Vw.one V2,Z0.one ht]):P:=h
theorem k_A {P:Prop} (h:P:=by exact ⟨nofun,fun h=>absurd h (KJ hx1 Wp c3)⟩):P:=h
theorem k_B {P:Prop} (h:P:=by exact Ext.refl _):P:=h
def laa:=@List.getElem?_eq_getElem
def lba:=@List.getElem?_eq_some_iff
def lca:=@List.length_append
def lda:=@List.mem_of_getElem?
def lea:=@List.length_map
def lfa:=@List.length_replicate
def lga:=@Int.toNat_natCast
def lha:=@List.all_cons
def lia0:=@List.length_cons
def lja:=@List.append_assoc
def lka:=@List.getD_eq_getElem?_getD
def lla:=@List.all_nil
def lma:=@List.eq_nil_of_length_eq_zero
def lna:=@List.length_set
def loa:=@Nat.le_refl
def lpa:=@List.length_singleton
def lqa:=@List.mem_singleton
def lra:=@List.drop_eq_getElem_cons
def lsa:=@Int.eq_ofNat_of_zero_le
def lta:=@List.append_nil
def lua:=@List.take_of_length_le
def lva:=@List.length_nil
def lwa:=@List.getElem?_map
def lxa:=@Array.getElem?_eq_some_iff
def lya:=@Nat.lt_or_ge
def lza:=@List.drop_of_length_le
def lAa:=@List.take_append_of_le_length
def lBa:=@Nat.mul_le_mul_right
def lCa:=@List.length_take
def lDa:=@Array.getD_eq_getD_getElem?
def lEa:=@Nat.le_trans
def lFa:=@List.ext_getElem?
def lGa:=@List.cons_append
def lHa:=@Nat.zero_le
def lIa:=@List.length_drop
def lJa:=@List.getElem?_take
def lKa:=@List.getElem?_append
def lLa:=@List.nil_append
def lMa:=@List.mem_append
def lNa:=@List.getElem?_set
def lOa:=@List.flatMap_cons
def lPa:=@Option.map_some
def lQa:=@List.flatMap_append
def lRa:=@Nat.pow_le_pow_right
def lSa:=@List.getElem?_append_left
def lTa:=@Array.getElem?_toList
def lUa:=@List.getElem?_drop
def lVa:=@Option.bind_eq_some_iff
def lWa:=@List.mem_map
def lXa:=@List.map_append
def lYa:=@List.drop_zero
def lZa:=@List.drop_drop
def lab0:=@Nat.le_of_lt
def lbb:=@List.mem_append_left
def lcb:=@Nat.le_of_ble_eq_true
def ldb:=@Nat.eq_of_beq_eq_true
def leb:=@List.take_append_drop
def lfb:=@List.map_cons
def lgb:=@List.drop_succ_cons
def lhb:=@Array.getElem?_eq_getElem
def lib:=@Nat.succ_mul
def ljb:=@List.set_cons_succ
def lkb:=@List.mem_cons_of_mem
def llb:=@List.set_cons_zero
def lmb:=@List.mem_cons_self
def lnb:=@Nat.min_eq_left
def lob:=@List.getElem_mem
def lpb:=@List.drop_append_of_le_length
def lqb:=@List.all_eq_true
def lrb:=@Nat.le_succ
def lsb0:=@List.mem_append_right
def ltb:=@List.eq_nil_or_concat
def lub0:=@List.take_length
def lvb:=@List.getElem?_append_right
def lwb:=@List.take_add_one
def lxb:=@Nat.add_sub_cancel
def lyb:=@List.singleton_inj
def lzb:=@List.mem_iff_getElem
def lAb:=@Nat.testBit_or
def lBb:=@List.take_left
def lCb:=@Nat.testBit_two_pow_sub_one
def lDb:=@Nat.add_mul
def lEb:=@List.replicate_succ
def lFb:=@List.length_pos_iff
def lGb:=@Option.bind_some
def lHb:=@Nat.succ_le_succ
def lIb:=@List.drop_append
def lJb:=@Array.toList_map
def lKb:=@Nat.zero_add
def lLb:=@Nat.eq_zero_or_pos
def lMb:=@List.concat_eq_append
def lNb:=@List.drop_take
def lOb:=@List.mem_of_mem_take
def lPb:=@Int.mul_le_mul_of_nonneg_right
def lQb:=@Nat.testBit_two_pow
def lRb:=@Nat.add_assoc
def lSb:=@List.not_mem_nil
def lTb:=@Int.mul_le_mul_of_nonneg_left
def lUb:=@List.take_take
namespace YY
open Go
def gt:ym->Nat->Value
 | [],_=>undef
 | v::_,0=>v
 | _::r,n+1=>gt r n
def DK (l:ym):Nat->(Value->Prop)->Prop :=
 List.rec (motive:=fun _=>Nat->(Value->Prop)->Prop) (fun _ k=>k undef) (fun v _ ih n k=>Nat.rec (motive:=fun _=>Prop) (k v) (fun m _=>ih m k) n) l
def Ib (l:ym):Nat->Value->(ym->Prop)->Prop :=
 List.rec (motive:=fun _=>Nat->Value->(ym->Prop)->Prop) (fun _ _ k=>k []) (fun x r ih n v k=>Nat.rec (motive:=fun _=>Prop) (k (v::r)) (fun m _=>ih m v (fun r'=>k (x::r'))) n) l
theorem afT (n:Nat) (v:Value) (k:ym->Prop):Ib [] n v k=k []:=rfl
theorem adN (x:Value) (r:ym) (n:Nat) (v:Value) (k:ym->Prop):Ib (x::r) (n+1) v k=Ib r n v (fun r'=>k (x::r')):=rfl
def ev (ρ:ym):Operand->Value
 | .tmp t=>gt ρ t
 | .const v=>v
 | .global g=>.pointer (some ⟨g,0,none⟩)
 | .func f=>.func (.func f) #[] #[]
def VH (ρ:ym):Operand->(Value->Prop)->Prop
 | .tmp t,k=>DK ρ t k
 | .const v,k=>k v
 | .global g,k=>k (.pointer (some ⟨g,0,none⟩))
 | .func f,k=>k (.func (.func f) #[] #[])
def TW (ρ:ym) (l:List Operand):(ym->Prop)->Prop :=
 List.rec (motive:=fun _=>(ym->Prop)->Prop) (fun k=>k []) (fun x _ ih k=>VH ρ x fun v=>ih fun vs=>k (v::vs)) l
theorem adi (ρ:ym) (x:Operand) (r:List Operand) (k:ym->Prop):TW ρ (x::r) k=VH ρ x fun v=>TW ρ r fun vs=>k (v::vs):=rfl
def Xt (ρ:ym) (d:Option Nat) (v:Value) (k:ym->Prop):Prop :=
 match d with
 | none=>k ρ
 | some d=>Ib ρ d v k
theorem OL (ρ:ym) (n:Nat) (k:Value->Prop):DK ρ n k=k (gt ρ n):=by
 induction ρ generalizing n with
 | nil=>rfl
 | cons v r ih=>cases n with
  | zero=>rfl
  | succ n=>exact ih n
theorem S6 (ρ:ym) (n:Nat) (v:Value) (k:ym->Prop):Ib ρ n v k=k (ρ.set n v):=by
 induction ρ generalizing n k with
 | nil=>simp [afT]
 | cons x r ih=>cases n with
  | zero=>rfl
  | succ n=>simp [adN,ih]
theorem S5 (ρ:ym) (x:Operand) (k:Value->Prop):VH ρ x k=k (ev ρ x):=by
 cases x <;> simp [VH,ev,OL]
theorem NO (ρ:ym) (xs:List Operand) (k:ym->Prop):TW ρ xs k=k (xs.map (ev ρ)):=by
 induction xs generalizing k with
 | nil=>rfl
 | cons x r ih=>simp [adi,S5,ih]
def put (ρ:ym) (d:Option Nat) (v:Value):ym :=
 match d with
 | none=>ρ
 | some d=>ρ.set d v
theorem X3 (ρ:ym) (d:Option Nat) (v:Value) (k:ym->Prop):Xt ρ d v k=k (put ρ d v):=by
 cases d <;> simp [Xt,put,S6]
theorem PU (ρ:ym) (n:Nat):gt ρ n=ρ.toArray.getD n undef:=by
 induction ρ generalizing n with
 | nil=>simp [gt]
 | cons v r ih=>cases n with
  | zero=>simp [gt]
  | succ n=>simp [gt,ih]
theorem Yj (ρ:ym) {ds:List Deferred}:(⟨ρ.toArray,ds⟩:Act).eval=ev ρ:=by
 funext x;cases x <;> simp [Act.eval,ev,PU]
theorem put_eq (ρ:ym) (d:Option Nat) (v:Value) {ds:List Deferred}:(⟨ρ.toArray,ds⟩:Act).put d v=⟨(put ρ d v).toArray,ds⟩:=by
 cases d <;> simp [Act.put,put]
def Tl (k:IntKind) (x y:Int):Int:=k.wrap (BitVec.ofInt k.bits x &&& BitVec.ofInt k.bits y).toNat
def Rx (k:IntKind) (x y:Int):Int:=k.wrap (BitVec.ofInt k.bits x ||| BitVec.ofInt k.bits y).toNat
def Qp (k:IntKind) (x y:Int):Int:=k.wrap (BitVec.ofInt k.bits x ^^^ BitVec.ofInt k.bits y).toNat
def QZ (k:IntKind) (x y:Int):Int:=k.wrap (BitVec.ofInt k.bits x &&& ~~~(BitVec.ofInt k.bits y)).toNat
def Wb (k:IntKind) (x y:Int):Int:=k.wrap (x * 2 ^ min y.toNat k.bits)
def W0 (k:IntKind) (x y:Int):Int:=x.fdiv (2 ^ min y.toNat k.bits)
def ZM (k:IntKind) (x:Int):Int:=k.wrap x
def SY (k:IntKind) (x y:Int):Int:=k.wrap (x.tdiv y)
def Si (x y:Int):Int:=x.tmod y
theorem adO:∃f:Int->Int->Bool,∀x y,f x y=decide (x<y):=⟨_,fun _ _=>rfl⟩
theorem adP:∃f:Int->Int->Bool,∀x y,f x y=decide (x<=y):=⟨_,fun _ _=>rfl⟩
theorem adQ:∃f:Int->Int->Bool,∀x y,f x y=(x == y):=⟨_,fun _ _=>rfl⟩
theorem adR:∃f:Int->Int->Bool,∀x y,f x y=(x != y):=⟨_,fun _ _=>rfl⟩
noncomputable def FG:Int->Int->Bool:=Classical.choose adO
noncomputable def Jf:Int->Int->Bool:=Classical.choose adP
noncomputable def Nq:Int->Int->Bool:=Classical.choose adQ
noncomputable def Fm:Int->Int->Bool:=Classical.choose adR
theorem Sh (x y:Int):FG x y=decide (x<y):=Classical.choose_spec adO x y
theorem Sf (x y:Int):Jf x y=decide (x<=y):=Classical.choose_spec adP x y
theorem Ti (x y:Int):Nq x y=(x == y):=Classical.choose_spec adQ x y
theorem Se (x y:Int):Fm x y=(x != y):=Classical.choose_spec adR x y
attribute [irreducible] Tl Rx Qp QZ Wb W0 ZM SY Si FG Jf Nq Fm
def AW:IntKind->IntKind->Bool
 | .i8,.i8|.i16,.i16|.i32,.i32|.i64,.i64|.u8,.u8|.u16,.u16|.u32,.u32|.u64,.u64=>true
 | _,_=>false
theorem I3 {k k':IntKind} (h:AW k k'=true):k=k':=by cases k <;> cases k' <;> first|rfl|cases h
inductive Zb (P:Program) (m:Sem Value) (w:World) (K:Value->World->Prop):Prop
 | mk (v:Value) (w':World) (h:m.run P w=.ok v w') (k:K v w')
inductive Ia (P:Program) (m:Sem Unit) (w:World) (K:World->Prop):Prop
 | mk (w':World) (h:m.run P w=.ok () w') (k:K w')
structure Fc (P:Program) (f:FuncId) (args:Array Value) (w:World) (R:Value->World->Prop):Prop where
 NN:(callFunc f args).run P w=.ok (.enter f args) w
 calls:Calls P f args w fun e w'=>∃v,e=.returned v/\R v w'
inductive Z8 (P:Program) (f:FuncId) (args:Array Value) (w:World) (K:Value->World->Prop):Prop
 | mk (h:Fc P f args w K)
inductive J0 (P:Program) (recv:Value) (name:String) (args:Array Value) (w:World) (K:Value->World->Prop):Prop
 | mk (f:FuncId) (r:Value) (w1:World) (t:TypeId) (v:Value) (hr:recv=.iface t v)
   (hm:(method (P.types.size+Made.depth) t v name).run P w=.ok (f,r) w1) (h:Fc P f (#[r]++args) w1 K)
def Np (b:Bool) (k:Bool->Prop):Prop:=match b with
 | true=>k true
 | false=>k false
theorem SG (b:Bool) (k:Bool->Prop):Np b k=k b:=by cases b <;> rfl
theorem br {b:Bool} {X Y:Prop} (t:b=true->X) (f:b=false->Y):Np.match_1 (fun _=>Prop) b (fun _=>X) (fun _=>Y):=by
 cases b
 .exact f rfl
 .exact t rfl
theorem TL {b:Bool} {X Y:Prop} (h:b=true) (t:X):Np.match_1 (fun _=>Prop) b (fun _=>X) (fun _=>Y):=by subst h;exact t
theorem WK {b:Bool} {X Y:Prop} (h:b=false) (f:Y):Np.match_1 (fun _=>Prop) b (fun _=>X) (fun _=>Y):=by subst h;exact f
inductive VV (b:Int) (K:Prop):Prop
 | mk (h:b≠0) (k:K)
inductive Yy (b:Int) (K:Prop):Prop
 | mk (h:0<=b) (k:K)
inductive WQ (e:Int) (K:Int->Prop):Prop
 | mk (m:Int) (h:e=m) (k:K m)
theorem WQ.keep {e:Int} {K:Int->Prop} (k:K e):WQ e K:=⟨e,rfl,k⟩
theorem WQ.imp {e:Int} {K K':Int->Prop} (h:WQ e K) (hk:∀m,K m->K' m):WQ e K':=by obtain ⟨m,e,k⟩:=h;exact ⟨m,e,hk _ k⟩
def Sd (op:BinOp) (k:IntKind) (a b:Int) (K:Value->Prop):Prop :=
 match op with
 | .add=>WQ (ZM k (a+b)) fun n=>K (.int k n)
 | .sub=>WQ (ZM k (a-b)) fun n=>K (.int k n)
 | .mul=>WQ (ZM k (a * b)) fun n=>K (.int k n)
 | .quo=>VV b (WQ (SY k a b) fun n=>K (.int k n))
 | .rem=>VV b (WQ (Si a b) fun n=>K (.int k n))
 | .and=>WQ (Tl k a b) fun n=>K (.int k n)
 | .or=>WQ (Rx k a b) fun n=>K (.int k n)
 | .xor=>WQ (Qp k a b) fun n=>K (.int k n)
 | .andNot=>WQ (QZ k a b) fun n=>K (.int k n)
 | .eql=>K (.bool (Nq a b))
 | .neq=>K (.bool (Fm a b))
 | .lss=>K (.bool (FG a b))
 | .leq=>K (.bool (Jf a b))
 | .gtr=>K (.bool (FG b a))
 | .geq=>K (.bool (Jf b a))
 | _=>False
def HL (P:Program) (op:BinOp) (t:TypeId) (x y:Operand) (a b:Value) (w:World) (K:Value->World->Prop):Prop :=
 match a with
 | .int k a=>match b with
  | .int k' b=>match op with
   | .shl=>Yy b (WQ (Wb k a b) fun n=>K (.int k n) w)
   | .shr=>Yy b (WQ (W0 k a b) fun n=>K (.int k n) w)
   | op=>match AW k k' with
    | true=>Sd op k a b fun v=>K v w
    | false=>False
  | b=>Zb P (do eqGuard op t x y (.int k a) b;binOp op t (.int k a) b) w K
 | a=>Zb P (do eqGuard op t x y a b;binOp op t a b) w K
def OK (l:ym):ym->(ym->Prop)->Prop :=
 List.rec (motive:=fun _=>ym->(ym->Prop)->Prop) (fun ys k=>k ys) (fun x _ ih ys k=>ih ys fun zs=>k (x::zs)) l
theorem adj (x:Value) (xs ys:ym) (k:ym->Prop):OK (x::xs) ys k=OK xs ys fun zs=>k (x::zs):=rfl
theorem Sc (xs ys:ym) (k:ym->Prop):OK xs ys k=k (xs++ys):=by
 induction xs generalizing k with
 | nil=>rfl
 | cons x xs ih=>simp [adj,ih]
def PT (P:Program) (f:Value) (args:ym) (w:World) (K:Value->World->Prop):Prop :=
 match f with
 | .func fn first captured=>match fn with
  | .func id=>OK args captured.toList fun a=>OK first.toList a fun a=>Z8 P id a.toArray w K
  | _=>False
 | _=>False
def JZ (l:ym):Nat->(Value->Prop)->Prop :=
 List.rec (motive:=fun _=>Nat->(Value->Prop)->Prop) (fun _ _=>False) (fun v _ ih n k=>Nat.rec (motive:=fun _=>Prop) (k v) (fun m _=>ih m k) n) l
theorem PS {l:ym} {n:Nat} {k:Value->Prop} (h:JZ l n k):∃v,l[n]?=some v/\k v:=by
 induction l generalizing n with
 | nil=>exact h.elim
 | cons x r ih=>cases n with
  | zero=>exact ⟨x,rfl,h⟩
  | succ n=>simpa using ih (n:=n) h
theorem adS {l:ym} {n:Nat} {k k':Value->Prop} (h:JZ l n k) (hk:∀v,k v->k' v):JZ l n k':=by
 induction l generalizing n with
 | nil=>exact h.elim
 | cons x r ih=>cases n with
  | zero=>exact hk _ h
  | succ n=>exact ih (n:=n) h
def BP (P:Program) (op:UnOp) (a:Value) (w:World) (K:Value->World->Prop):Prop :=
 match op with
 | .not=>match a with
  | .bool b=>K (.bool (!b)) w
  | _=>False
 | .neg=>match a with
  | .int k n=>WQ (ZM k (0-n)) fun m=>K (.int k m) w
  | _=>False
 | op=>Zb P (Op.unary op a) w K
def aki (P:Program) (src dst:TypeId) (a:Value) (w:World) (K:Value->World->Prop):Prop :=
 Zb P (convert src dst a) w K
def HK (v:Value) (w:World) (K:Value->World->Prop):Prop :=
 match v with
 | .pointer p=>match p with
  | some a=>K (.pointer (some a)) w
  | none=>False
 | .func fn a b=>match fn with
  | .func f=>K (.func (.func f) a b) w
  | _=>False
 | .iface t x=>K (.iface t x) w
 | _=>False
def OJ (ρ:ym) (l:List (Nat × Operand)):(List (Nat × Value)->Prop)->Prop :=
 List.rec (motive:=fun _=>(List (Nat × Value)->Prop)->Prop) (fun k=>k []) (fun p _ ih k=>match p with
  | (i,x)=>VH ρ x fun v=>ih fun vs=>k ((i,v)::vs)) l
theorem aa2 (ρ:ym) (i:Nat) (x:Operand) (r:List (Nat × Operand)) (k:List (Nat × Value)->Prop):OJ ρ ((i,x)::r) k=VH ρ x fun v=>OJ ρ r fun vs=>k ((i,v)::vs):=rfl
theorem OI (ρ:ym) (xs:List (Nat × Operand)) (k:List (Nat × Value)->Prop) :
  OJ ρ xs k=k (xs.map fun (i,x)=>(i,ev ρ x)):=by
 induction xs generalizing k with
 | nil=>rfl
 | cons x r ih=>obtain ⟨i,x⟩:=x;simp [aa2,S5,ih]
def Ln (ρ:ym):Option Operand->(Option Value->Prop)->Prop
 | none,k=>k none
 | some x,k=>VH ρ x fun v=>k (some v)
theorem Lm (ρ:ym) (x:Option Operand) (k:Option Value->Prop):Ln ρ x k=k (x.map (ev ρ)):=by
 cases x <;> simp [Ln,S5]
def GU (v:Value) (i:Nat) (w:World) (K:Value->World->Prop):Prop :=
 match v with
 | .tuple vs=>JZ vs.toList i fun v=>K v w
 | _=>False
def Ll (P:Program) (o:Oper) (ρ:ym) (w:World) (K:Value->World->Prop):Prop :=
 match o.op with
 | .move x=>VH ρ x fun v=>K v w
 | .assign x=>VH ρ x fun v=>K v w
 | .pick c a b=>VH ρ c fun c=>match c with
  | .bool c=>Np c fun c=>match c with
   | true=>VH ρ a fun v=>K v w
   | false=>VH ρ b fun v=>K v w
  | _=>False
 | .alloc t=>Zb P (Instr.alloc t true (.tuple #[])) w K
 | .box t x=>VH ρ x fun v=>Zb P (Instr.box t v) w K
 | .build t parts=>OJ ρ parts.toList fun vs=>Zb P (Instr.build t vs.toArray) w K
 | .buildSlice t n parts=>OJ ρ parts.toList fun vs=>Zb P (Instr.buildSlice t n vs.toArray) w K
 | .load t x=>VH ρ x fun a=>Zb P (Instr.loadAt t a) w K
 | .store t x y=>VH ρ x fun a=>VH ρ y fun v=>Ia P (Instr.storeAt t a v) w (K undef)
 | .nilCheck x=>VH ρ x fun v=>HK v w K
 | .binOp op t x y _=>VH ρ x fun a=>VH ρ y fun b=>HL P op t x y a b w K
 | .unOp op _ x=>VH ρ x fun a=>BP P op a w K
 | .convert s d x=>VH ρ x fun a=>aki P s d a w K
 | .makeInterface t x=>VH ρ x fun a=>Zb P (Instr.makeInterface t a) w K
 | .makeFunc fn first captured=>TW ρ first.toList fun fs=>TW ρ captured.toList fun cs=>K (.func fn fs.toArray cs.toArray) w
 | .makeSlice t l c=>VH ρ l fun l=>VH ρ c fun c=>Zb P (Instr.makeSlice t l c) w K
 | .slice t x lo hi mx=>VH ρ x fun a=>Ln ρ lo fun lo=>Ln ρ hi fun hi=>Ln ρ mx fun mx=>Zb P (Instr.sliceAt t a lo hi mx) w K
 | .fieldAddr t x f=>VH ρ x fun a=>Zb P (Instr.fieldAt t a f) w K
 | .field t x f=>VH ρ x fun a=>Zb P (Instr.field t a f) w K
 | .indexAddr t x i=>VH ρ x fun a=>VH ρ i fun i=>Zb P (Instr.indexAt t a i) w K
 | .index t x i=>VH ρ x fun a=>VH ρ i fun i=>Zb P (Instr.index t a i) w K
 | .extract x i=>VH ρ x fun v=>GU v i w K
 | .typeAssert x t u ok=>VH ρ x fun a=>Zb P (Instr.typeAssert a t u ok) w K
 | .call c=>match c.callee with
  | .value f=>VH ρ f fun f=>TW ρ c.args.toList fun vs=>PT P f vs w K
  | .builtin .append=>TW ρ c.args.toList fun vs=>Zb P (Builtin.append_ c.argTypes o.type vs.toArray) w K
  | .builtin .len=>TW ρ c.args.toList fun vs=>Zb P (Builtin.len_ c.argTypes o.type vs.toArray) w K
  | .builtin .copy=>TW ρ c.args.toList fun vs=>Zb P (Builtin.copy_ c.argTypes o.type vs.toArray) w K
  | .builtin .max=>TW ρ c.args.toList fun vs=>Zb P (Builtin.max_ c.argTypes o.type vs.toArray) w K
  | .builtin .min=>TW ρ c.args.toList fun vs=>Zb P (Builtin.min_ c.argTypes o.type vs.toArray) w K
  | .builtin .cap=>TW ρ c.args.toList fun vs=>Zb P (Builtin.cap_ c.argTypes o.type vs.toArray) w K
  | .builtin .clear=>TW ρ c.args.toList fun vs=>Zb P (Builtin.clear_ c.argTypes o.type vs.toArray) w K
  | .builtin .delete=>TW ρ c.args.toList fun vs=>Zb P (Builtin.delete_ c.argTypes o.type vs.toArray) w K
  | .builtin .unsafeSliceData=>TW ρ c.args.toList fun vs=>Zb P (Builtin.unsafeSliceData_ c.argTypes o.type vs.toArray) w K
  | .builtin .unsafeString=>TW ρ c.args.toList fun vs=>Zb P (Builtin.unsafeString_ c.argTypes o.type vs.toArray) w K
  | .invoke r name=>VH ρ r fun r=>TW ρ c.args.toList fun vs=>J0 P r name vs.toArray w K
  | _=>False
 | .makeMap t r=>Ln ρ r fun r=>Zb P (Instr.makeMap t r) w K
 | .lookup t x i ok=>VH ρ x fun a=>VH ρ i fun i=>Zb P (Instr.lookup t a i ok) w K
 | .mapUpdate t m k x=>VH ρ m fun m=>VH ρ k fun k=>VH ρ x fun x=>Ia P (Instr.mapUpdate t m k x) w (K undef)
 | .range t x=>VH ρ x fun a=>Zb P (Instr.range t a) w K
 | .next it st=>VH ρ it fun a=>Zb P (Instr.next a st o.type) w K
 | .entry it=>VH ρ it fun a=>Zb P (Instr.entry a) w K
 | _=>False
theorem Zb.imp {P:Program} {m:Sem Value} {w:World} {K K':Value->World->Prop} (h:Zb P m w K) (hk:∀v w',K v w'->K' v w'):Zb P m w K':=by
 obtain ⟨v,w',h,k⟩:=h;exact ⟨v,w',h,hk _ _ k⟩
theorem Ia.imp {P:Program} {m:Sem Unit} {w:World} {K K':World->Prop} (h:Ia P m w K) (hk:∀w',K w'->K' w'):Ia P m w K':=by
 obtain ⟨w',h,k⟩:=h;exact ⟨w',h,hk _ k⟩
theorem Fc.imp {P:Program} {f:FuncId} {args:Array Value} {w:World} {R R':Value->World->Prop} (h:Fc P f args w R) (hk:∀v w',R v w'->R' v w'):Fc P f args w R' :=
 ⟨h.NN,h.calls.mono fun _ _ ⟨v,he,hr⟩=>⟨v,he,hk _ _ hr⟩⟩
theorem Z8.imp {P:Program} {f:FuncId} {args:Array Value} {w:World} {R R':Value->World->Prop} (h:Z8 P f args w R) (hk:∀v w',R v w'->R' v w'):Z8 P f args w R':=by
 obtain ⟨h⟩:=h;exact ⟨h.imp hk⟩
theorem J0.imp {P:Program} {r:Value} {n:String} {args:Array Value} {w:World} {R R':Value->World->Prop} (h:J0 P r n args w R) (hk:∀v w',R v w'->R' v w'):J0 P r n args w R':=by
 obtain ⟨f,r,w1,t,v,hr,hm,h⟩:=h;exact ⟨f,r,w1,t,v,hr,hm,h.imp hk⟩
theorem abX {op:BinOp} {k:IntKind} {a b:Int} {K K':Value->Prop} (h:Sd op k a b K) (hk:∀v,K v->K' v):Sd op k a b K':=by
 cases op <;> simp only [Sd] at h⊢<;> first|exact hk _ h|exact h.imp fun m=>hk _|(obtain ⟨h,k⟩:=h;exact ⟨h,k.imp fun m=>hk _⟩)|exact h
theorem adT {P:Program} {op:BinOp} {t:TypeId} {x y:Operand} {a b:Value} {w:World} {K K':Value->World->Prop}
  (h:HL P op t x y a b w K) (hk:∀v w',K v w'->K' v w'):HL P op t x y a b w K':=by
 unfold HL at h ⊢
 split at h
 .split at h
  .split at h
   .obtain ⟨h,k⟩:=h;exact ⟨h,k.imp fun m=>hk _ _⟩
   .obtain ⟨h,k⟩:=h;exact ⟨h,k.imp fun m=>hk _ _⟩
   .split at h
    .exact abX h fun v=>hk v w
    .exact h
  .exact h.imp hk
 .exact h.imp hk
theorem afU {P:Program} {op:UnOp} {a:Value} {w:World} {K K':Value->World->Prop}
  (h:BP P op a w K) (hk:∀v w',K v w'->K' v w'):BP P op a w K':=by
 unfold BP at h ⊢
 split at h
 .split at h
  .grind
  .exact h
 .split at h
  .exact h.imp fun m=>hk _ _
  .exact h
 .exact h.imp hk
theorem adU {a:Value} {w:World} {K K':Value->World->Prop}
  (h:HK a w K) (hk:∀v w',K v w'->K' v w'):HK a w K':=by
 unfold HK at h ⊢
 split at h
 .split at h
  .grind
  .exact h
 .split at h
  .grind
  .exact h
 .grind
 .exact h
theorem adV {a:Value} {i:Nat} {w:World} {K K':Value->World->Prop}
  (h:GU a i w K) (hk:∀v w',K v w'->K' v w'):GU a i w K':=by
 unfold GU at h ⊢
 split at h
 .exact adS h fun v=>hk v w
 .exact h
theorem aa3 {P:Program} {f:Value} {vs:ym} {w:World} {K K':Value->World->Prop}
  (h:PT P f vs w K) (hk:∀v w',K v w'->K' v w'):PT P f vs w K':=by
 unfold PT at h ⊢
 simp only [Sc] at h ⊢
 split at h
 .split at h
  .exact h.imp hk
  .exact h
 .exact h
theorem Lj {P:Program} {o:Oper} {ρ:ym} {w:World} {K K':Value->World->Prop}
  (h:Ll P o ρ w K) (hk:∀v w',K v w'->K' v w'):Ll P o ρ w K':=by
 unfold Ll at h ⊢
 simp only [S5,NO,OI,Lm,SG] at h ⊢
 split at h <;> first
  | exact h.imp hk
  | exact hk _ _ h
  | exact adT h hk
  | exact afU h hk
  | exact Zb.imp h hk
  | exact adU h hk
  | exact adV h hk
  | exact h.imp fun w'=>hk _ w'
  | exact h
  | (split at h <;> first|exact aa3 h hk|exact Zb.imp h hk|exact J0.imp h hk|exact h|(split at h <;> exact hk _ _ h))
theorem YO {P:Program} {o:Oper} {a:Act} {m:Sem Value} {w:World} {next:Act->World->Prop} {Q:Exit->Act->World->Prop}
  (he:execOp a.eval o=(do pure (.value (<-m)))) (h:Zb P m w fun v w'=>next (a.put o.dst v) w'):o.wp P a w next Q:=by
 obtain ⟨v,w',hm,k⟩:=h
 simp only [Oper.wp,he,Sem.run_bind,hm,Result.andThen_ok,Sem.run_pure,Oper.upon]
 exact k
theorem UZ {P:Program} {o:Oper} {a:Act} {v:Value} {w w':World} {next:Act->World->Prop} {Q:Exit->Act->World->Prop}
  (he:(execOp a.eval o).run P w=.ok (.value v) w') (h:next (a.put o.dst v) w'):o.wp P a w next Q:=by grind [Oper.wp,Oper.upon]
theorem adk {P:Program} {o:Oper} {a:Act} {f:FuncId} {args:Array Value} {w:World} {next:Act->World->Prop} {Q:Exit->Act->World->Prop}
  (he:(execOp a.eval o).run P w=(callFunc f args).run P w) (h:Fc P f args w fun v w'=>next (a.put o.dst v) w'):o.wp P a w next Q:=by
 obtain ⟨h1,h2⟩:=h
 simp only [Oper.wp,he,h1,Oper.upon]
 refine h2.mono ?_
 rintro e w' ⟨v,rfl,hr⟩
 exact hr
theorem aaV {P:Program} {op:BinOp} {k:IntKind} {t:TypeId} {x y:Operand} {a b:Int} {w:World} {K:Value->Prop} (anr:op≠.shl) (ant:op≠.shr)
  (h:Sd op k a b K):Zb P (do eqGuard op t x y (.int k a) (.int k b);binOp op t (.int k a) (.int k b)) w fun v w'=>w'=w/\K v:=by
 have hg:(eqGuard op t x y (.int k a) (.int k b)).run P w=.ok () w:=by simp [eqGuard]
 cases op <;> simp only [Sd] at h <;> first
  | (obtain ⟨hb,_,rfl,h⟩:=h;refine ⟨_,w,?_,rfl,h⟩;simp only [Sem.run_bind,hg,Result.andThen_ok];simp [binOp,Op.intDiv,hb,SY,Si])
  | (obtain ⟨_,rfl,h⟩:=h;refine ⟨_,w,?_,rfl,h⟩;simp only [Sem.run_bind,hg,Result.andThen_ok];simp [binOp,Op.intArith,Op.intBits,Op.intCmp,ZM,Tl,Rx,Qp,QZ,Ti,Se,Sh,Sf])
  | (refine ⟨_,w,?_,rfl,h⟩;simp only [Sem.run_bind,hg,Result.andThen_ok];simp [binOp,Op.intArith,Op.intBits,Op.intCmp,ZM,Tl,Rx,Qp,QZ,Ti,Se,Sh,Sf])
  | contradiction
  | exact h.elim
theorem abY {P:Program} {op:BinOp} {t:TypeId} {x y:Operand} {a b:Value} {w:World} {K:Value->World->Prop}
  (h:HL P op t x y a b w K):Zb P (do eqGuard op t x y a b;binOp op t a b) w K:=by
 unfold HL at h
 split at h
 .split at h
  .split at h
   .obtain ⟨hb,_,rfl,h⟩:=h
    refine ⟨_,w,?_,h⟩
    simp only [eqGuard,Sem.run_bind];simp [binOp,Op.shift,Wb,Int.not_lt.2 hb]
   .obtain ⟨hb,_,rfl,h⟩:=h
    refine ⟨_,w,?_,h⟩
    simp only [eqGuard,Sem.run_bind];simp [binOp,Op.shift,W0,Int.not_lt.2 hb]
   .rename_i Qo hk2
    split at h
    .rename_i hk
     obtain rfl:=I3 hk
     exact (aaV (fun e=>Qo e) (fun e=>hk2 e) h).imp fun v w' ⟨e,k⟩=>e ▸ k
    .exact h.elim
  .exact h
 .exact h
theorem UD {ds:List Deferred} {P:Program} {o:Oper} {ρ:ym} {w:World} {K:Value->World->Prop} {next:Act->World->Prop} {Q:Exit->Act->World->Prop}
  (h:Ll P o ρ w K) (hn:∀v w',K v w'->next ((⟨ρ.toArray,ds⟩:Act).put o.dst v) w'):o.wp P ⟨ρ.toArray,ds⟩ w next Q:=by
 have h:=Lj h hn
 clear hn
 unfold Ll at h
 simp only [S5,NO,OI,Lm,SG] at h
 split at h
 case h_1 x ho=>exact UZ (v:=ev ρ x) (w':=w) (by rw [Yj];unfold execOp;rw [ho];rfl) h
 case h_2 x ho=>exact UZ (v:=ev ρ x) (w':=w) (by rw [Yj];unfold execOp;rw [ho];rfl) h
 case h_3 c a b ho =>
  split at h
  .rename_i cb hc
   split at h
   .exact UZ (v:=ev ρ a) (w':=w) (by rw [Yj];unfold execOp;rw [ho];simp [hc,asBool]) h
   .exact UZ (v:=ev ρ b) (w':=w) (by rw [Yj];unfold execOp;rw [ho];simp [hc,asBool]) h
  .grind
 case h_4 t ho=>exact YO (by grind [execOp]) h
 case h_5 t x ho=>exact YO k_l h
 case h_6 t ps ho =>
  refine YO (m:=Instr.build t ((ps.toList.map fun (i,x)=>(i,ev ρ x)).toArray)) (by rw [Yj];unfold execOp;rw [ho];simp [<-Array.toList_map]) h
 case h_7 t n ps ho =>
  refine YO (m:=Instr.buildSlice t n ((ps.toList.map fun (i,x)=>(i,ev ρ x)).toArray)) (by rw [Yj];unfold execOp;rw [ho];simp [<-Array.toList_map]) h
 case h_8 t x ho=>exact YO k_l h
 case h_9 t x y ho =>
  obtain ⟨w',hm,k⟩:=h
  have he:(execOp (⟨ρ.toArray,ds⟩:Act).eval o).run P w=.ok .skip w':=by
   rw [Yj];unfold execOp;rw [ho];simp only [Sem.run_bind,hm,Result.andThen_ok,Sem.run_pure]
  simp only [Oper.wp,he,Oper.upon]
  exact k
 case h_10 x ho =>
  have he:∀u,HK (ev ρ x) w u->∃v,(execOp (ev ρ) o).run P w=.ok (.value v) w/\u v w:=by
   intro u hu
   unfold HK at hu
   unfold execOp
   rw [ho]
   simp only
   split at hu
   .rename_i p hp
    split at hu
    .exact ⟨_,by rw [hp];rfl,hu⟩
    .grind
   .rename_i fn a b hp
    split at hu
    .exact ⟨_,by rw [hp];rfl,hu⟩
    .grind
   .rename_i t v hp
    exact ⟨_,by rw [hp];rfl,hu⟩
   .grind
  obtain ⟨v,h1,h2⟩:=he _ h
  exact UZ (by grind [Yj]) h2
 case h_11 op t x y yt ho=>exact YO k_l (abY h)
 case h_12 op t x ho =>
  unfold BP at h
  split at h
  .split at h
   .rename_i b hb
    refine UZ (v:=.bool (!b)) (w':=w) ?_ h
    rw [Yj];unfold execOp;rw [ho];simp [hb,Op.unary]
   .grind
  .split at h
   .rename_i k n hb
    obtain ⟨_,rfl,h⟩:=h
    refine UZ (v:=.int k (ZM k (0-n))) (w':=w) ?_ h
    rw [Yj];unfold execOp;rw [ho];simp [hb,Op.unary,Op.intArith,ZM]
   .grind
  .exact YO k_l h
 case h_13 s d x ho=>exact YO k_l h
 case h_14 t x ho=>exact YO k_l h
 case h_15 fn fs cs ho =>
  refine UZ (w':=w) ?_ h
  rw [Yj];unfold execOp;rw [ho];simp [Instr.makeFunc,<-Array.toList_map]
 case h_16 t l c ho=>exact YO k_l h
 case h_17 t x lo hi mx ho=>exact YO k_l h
 case h_18 t x f ho=>exact YO k_l h
 case h_19 t x f ho=>exact YO k_l h
 case h_20 t x i ho=>exact YO k_l h
 case h_21 t x i ho=>exact YO k_l h
 case h_22 x i ho =>
  unfold GU at h
  split at h
  .rename_i vs hv
   obtain ⟨u,hu,h⟩:=PS h
   refine UZ (v:=u) (w':=w) ?_ h
   rw [Yj];unfold execOp;rw [ho]
   simp only [Array.getElem?_toList] at hu
   simp [hv,Instr.extract,hu]
  .grind
 case h_23 x t u ok ho=>exact YO k_l h
 case h_24 c ho =>
  have hargs:∀(xs:Array Operand),(xs.toList.map (ev ρ)).toArray=xs.map (ev ρ):=fun xs=>by simp [<-Array.toList_map]
  split at h
  .rename_i f hf
   unfold PT at h
   simp only [Sc] at h
   split at h
   .rename_i fn fst cap hv
    split at h
    .rename_i id
     obtain ⟨h⟩:=h
     refine adk (f:=id) ?_ h
     have he:(fst.toList++(List.map (ev ρ) c.args.toList++cap.toList)).toArray=fst++Array.map (ev ρ) c.args++cap:=by simp
     rw [Yj];unfold execOp;rw [ho]
     simp only [resolve,hf,hv,Deferred.ofValue,Sem.run_bind,Sem.run_pure,Result.andThen_ok,invoke,he]
    .grind
   .grind
  .rename_i hc
   refine YO (m:=Builtin.append_ c.argTypes o.type (c.args.map (ev ρ))) ?_ k_v
   rw [Yj];unfold execOp;rw [ho];simp only [resolve,hc,pure_bind,invoke,builtin]
  .rename_i hc
   refine YO (m:=Builtin.len_ c.argTypes o.type (c.args.map (ev ρ))) ?_ k_v
   rw [Yj];unfold execOp;rw [ho];simp only [resolve,hc,pure_bind,invoke,builtin]
  .rename_i hc
   refine YO (m:=Builtin.copy_ c.argTypes o.type (c.args.map (ev ρ))) ?_ k_v
   rw [Yj];unfold execOp;rw [ho];simp only [resolve,hc,pure_bind,invoke,builtin]
  .rename_i hc
   refine YO (m:=Builtin.max_ c.argTypes o.type (c.args.map (ev ρ))) ?_ k_v
   rw [Yj];unfold execOp;rw [ho];simp only [resolve,hc,pure_bind,invoke,builtin]
  .rename_i hc
   refine YO (m:=Builtin.min_ c.argTypes o.type (c.args.map (ev ρ))) ?_ k_v
   rw [Yj];unfold execOp;rw [ho];simp only [resolve,hc,pure_bind,invoke,builtin]
  .rename_i hc
   refine YO (m:=Builtin.cap_ c.argTypes o.type (c.args.map (ev ρ))) ?_ k_v
   rw [Yj];unfold execOp;rw [ho];simp only [resolve,hc,pure_bind,invoke,builtin]
  .rename_i hc
   refine YO (m:=Builtin.clear_ c.argTypes o.type (c.args.map (ev ρ))) ?_ k_v
   rw [Yj];unfold execOp;rw [ho];simp only [resolve,hc,pure_bind,invoke,builtin]
  .rename_i hc
   refine YO (m:=Builtin.delete_ c.argTypes o.type (c.args.map (ev ρ))) ?_ k_v
   rw [Yj];unfold execOp;rw [ho];simp only [resolve,hc,pure_bind,invoke,builtin]
  .rename_i hc
   refine YO (m:=Builtin.unsafeSliceData_ c.argTypes o.type (c.args.map (ev ρ))) ?_ k_v
   rw [Yj];unfold execOp;rw [ho];simp only [resolve,hc,pure_bind,invoke,builtin]
  .rename_i hc
   refine YO (m:=Builtin.unsafeString_ c.argTypes o.type (c.args.map (ev ρ))) ?_ k_v
   rw [Yj];unfold execOp;rw [ho];simp only [resolve,hc,pure_bind,invoke,builtin]
  .rename_i r name hc
   obtain ⟨f,rv,w1,t,v,hr,hm,h⟩:=h
   obtain ⟨h1,h2⟩:=h
   have he:(execOp (⟨ρ.toArray,ds⟩:Act).eval o).run P w=.ok (.enter f (#[rv]++(c.args.toList.map (ev ρ)).toArray)) w1:=by
    rw [Yj];unfold execOp;rw [ho]
    simp only [resolve,hc,pure_bind,invoke,hr]
    have e1:(#[Value.iface t v]++Array.map (ev ρ) c.args)[0]?=some (.iface t v):=by grind
    have e2:(#[Value.iface t v]++Array.map (ev ρ) c.args).extract 1 (#[Value.iface t v]++Array.map (ev ρ) c.args).size=Array.map (ev ρ) c.args:=by simp
    simp only [e1,e2,callMethod]
    have e3:∀(k:FuncId × Value->Sem Next),(do let __do_lift <-program;let x <-method (__do_lift.types.size+Made.depth) t v name;k x:Sem Next).run P w=(k (f,rv)).run P w1:=by
     intro k
     show (method (P.types.size+Made.depth) t v name >>= fun x=>k x).run P w=_
     rw [Sem.run_bind,hm];rfl
    rw [hargs] at h1 ⊢
    exact (e3 _).trans h1
   simp only [Oper.wp,he,Oper.upon]
   refine h2.mono ?_
   rintro e w' ⟨v,rfl,hr⟩
   exact hr
  .grind
 case h_25 t r ho=>exact YO k_l h
 case h_26 t x i ok ho=>exact YO k_l h
 case h_27 t m k x ho =>
  obtain ⟨w',hm,k⟩:=h
  have he:(execOp (⟨ρ.toArray,ds⟩:Act).eval o).run P w=.ok .skip w':=by
   rw [Yj];unfold execOp;rw [ho];simp only [Sem.run_bind,hm,Result.andThen_ok,Sem.run_pure]
  simp only [Oper.wp,he,Oper.upon]
  exact k
 case h_28 t x ho=>exact YO k_l h
 case h_29 it st ho=>exact YO k_l h
 case h_30 it ho=>exact YO k_l h
 case h_31=>exact h.elim
def XY (ops:List Oper) (g:Option (Nat × Bool)) (ρ:ym) (k:Bool->ym->Prop):Prop :=
 match g with
 | none=>k true ρ
 | some (j,want)=>match ops[j]? with
  | none=>False
  | some oj=>match oj.dst with
   | none=>False
   | some d=>DK ρ d fun v=>match v with
    | .bool b=>Np b fun b=>Ib ρ d (.bool b) fun ρ=>match b with
     | true=>match want with
      | true=>k true ρ
      | false=>k false ρ
     | false=>match want with
      | true=>k false ρ
      | false=>k true ρ
    | .tuple _=>k false ρ
    | _=>False
def Mg (P:Program) (ops:List Oper) (K:ym->World->Prop) (l:List Oper):ym->World->Prop :=
 List.rec (motive:=fun _=>ym->World->Prop) K (fun o _ ih ρ w=>XY ops o.guard ρ fun b ρ=>match b with
  | true=>Ll P o ρ w fun v w=>Xt ρ o.dst v fun ρ=>ih ρ w
  | false=>Xt ρ o.dst undef fun ρ=>ih ρ w) l
theorem adW (P:Program) (ops:List Oper) (K:ym->World->Prop) (ρ:ym) (w:World):Mg P ops K [] ρ w=K ρ w:=rfl
theorem OH (P:Program) (ops:List Oper) (K:ym->World->Prop) (o:Oper) (r:List Oper) (ρ:ym) (w:World):Mg P ops K (o::r) ρ w=XY ops o.guard ρ fun b ρ=>match b with
  | true=>Ll P o ρ w fun v w=>Xt ρ o.dst v fun ρ=>Mg P ops K r ρ w
  | false=>Xt ρ o.dst undef fun ρ=>Mg P ops K r ρ w:=rfl
def Vz (next:ym->World->Prop) (Q:Exit->ym->World->Prop) (e:Exit) (ρ:ym) (w:World):Prop :=
 match e with
 | .normal=>next ρ w
 | e=>Q e ρ w
def SX (id:Nat) (Q:Exit->ym->World->Prop) (e:Exit) (ρ:ym) (w:World):Prop :=
 match e with
 | .exit id'=>match id' == id with
  | true=>Q .normal ρ w
  | false=>Q (.exit id') ρ w
 | e=>Q e ρ w
def QY (Q:Exit->ym->World->Prop) (e:Exit) (ρ:ym) (w:World):Prop :=
 match e with
 | .goto _=>False
 | e=>Q e ρ w
def PR (l:Nat) (J:ym->World->Prop) (Q:Exit->ym->World->Prop) (e:Exit) (ρ:ym) (w:World):Prop :=
 match e with
 | .goto l'=>l'=l/\J ρ w
 | e=>Q e ρ w
abbrev Je:=(Exit->ym->World->Prop)->ym->World->Prop
inductive Y6 (P:Program) (c:Code) (B:Je) (Q:Exit->ym->World->Prop) (ρ:ym) (w:World):Prop
 | mk (I:ym->World->Prop) (μ:ym->World->Nat) (h0:I ρ w)
   (round:∀ρ w,I ρ w->B (Vz (fun ρ' w'=>I ρ' w'/\μ ρ' w'<μ ρ w) Q) ρ w)
inductive No (P:Program) (x y:Code) (B C:Je) (b:Bool) (Q:Exit->ym->World->Prop) (ρ:ym) (w:World):Prop
 | mk (t:b=true->B Q ρ w) (f:b=false->C Q ρ w)
inductive Fl (P:Program) (c:Code) (B:Je) (id:Nat) (Q:Exit->ym->World->Prop) (ρ:ym) (w:World):Prop
 | mk (h:B (SX id Q) ρ w)
theorem cT {P:Program} {x y:Code} {B C:Je} {b:Bool} {Q:Exit->ym->World->Prop} {ρ:ym} {w:World} (h:b=true) (k:B Q ρ w):No P x y B C b Q ρ w :=
 ⟨fun _=>k,fun e=>(by grind)⟩
theorem cF {P:Program} {x y:Code} {B C:Je} {b:Bool} {Q:Exit->ym->World->Prop} {ρ:ym} {w:World} (h:b=false) (k:C Q ρ w):No P x y B C b Q ρ w :=
 ⟨fun e=>(by grind),fun _=>k⟩
theorem cI {P:Program} {x y:Code} {B C:Je} {b:Bool} {Q:Exit->ym->World->Prop} {ρ:ym} {w:World} (t:b=true->B Q ρ w) (f:b=false->C Q ρ w):No P x y B C b Q ρ w:=⟨t,f⟩
theorem bk {P:Program} {c:Code} {B:Je} {id:Nat} {Q:Exit->ym->World->Prop} {ρ:ym} {w:World} (h:B (SX id Q) ρ w):Fl P c B id Q ρ w:=⟨h⟩
def Yt (ops:List Oper):List Nat:=ops.filterMap fun o=>o.dst
def agree (ds:List Nat) (ρ ρ':ym):Prop:=ρ'.length=ρ.length/\∀i,i∉ds->ρ'[i]?=ρ[i]?
def Vt:Code->List Nat
 | .seq x y=>Vt x++Vt y
 | .cond _ x y=>Vt x++Vt y
 | .block _ c=>Vt c
 | .loop c=>Vt c
 | .scope c=>Vt c
 | .region _ ops _=>Yt ops.toList
 | _=>[]
theorem aa4 {l:Nat}:∀{c rest:Code},findLabel c l=some rest->∀i,i∈Vt rest->i∈Vt c:=by
 intro c
 induction c with
 | seq x y Li LW =>
  intro rest h i hi
  unfold findLabel at h
  cases hx:findLabel x l with
  | some r =>
   rw [hx] at h
   obtain rfl:=yq6 h
   rcases lMa.1 hi with hi|hi
   .exact lbb _ (Li hx i hi)
   .exact lsb0 _ hi
  | none=>rw [hx] at h;exact lsb0 _ (LW h i hi)
 | label l' =>
  intro rest h i hi
  unfold findLabel at h
  split at h
  .obtain rfl:=yq6 h;cases hi
  .cases h
 | _=>intro rest h;simp [findLabel] at h
def lift (ds:List Deferred) (Q:Exit->ym->World->Prop) (e:Exit) (a:Act) (w:World):Prop:=a.defers=ds/\Q e a.tmps.toList w
structure anu (P:Program) (c:Code) (M:Je):Prop where
 sound:∀{Q:Exit->ym->World->Prop} {ρ:ym} {w:World} {ds:List Deferred},M Q ρ w->c.wp P (lift ds Q) ⟨ρ.toArray,ds⟩ w
 imp:∀{Q Q':Exit->ym->World->Prop} {ρ:ym} {w:World},M Q ρ w->(∀e ρ w,Q e ρ w->Q' e ρ w)->M Q' ρ w
 frame:∀{Q:Exit->ym->World->Prop} {ρ:ym} {w:World},M Q ρ w->M (fun e ρ' w'=>Q e ρ' w'/\agree (Vt c) ρ ρ') ρ w
inductive adX (P:Program) (c:Code) (B:Je) (Q:Exit->ym->World->Prop) (ρ:ym) (w:World):Prop
 | Rw (h:B (QY Q) ρ w)
 | jumps (l:Nat) (rest:Code) (M:Je) (hM:anu P rest M) (J:ym->World->Prop) (μ:ym->World->Nat) (hf:findLabel c l=some rest) (first:B (PR l J Q) ρ w)
   (pass:∀ρ w,J ρ w->M (PR l (fun ρ' w'=>J ρ' w'/\μ ρ' w'<μ ρ w) Q) ρ w)
inductive Qy (P:Program) (id:Nat) (ops:Array Oper) (K:ym->World->Prop) (ρ:ym) (w:World):Prop
 | mk (h:∀ds,(Code.region id ops true).wp P (fun e a w'=>e=.normal/\a.defers=ds/\agree (Yt ops.toList) ρ a.tmps.toList/\K a.tmps.toList w') ⟨ρ.toArray,ds⟩ w)
def OP (P:Program) (c:Code):Je :=
 Code.rec (motive:=fun _=>Je)
  (fun Q ρ w=>Q .normal ρ w)
  (fun id ops draw Q ρ w=>match draw with
   | false=>Mg P ops.toList (Q .normal) ops.toList ρ w
   | true=>Qy P id ops (Q .normal) ρ w)
  (fun _ _ Li LW Q ρ w=>Li (Vz (LW Q) Q) ρ w)
  (fun c x y Li LW Q ρ w=>VH ρ c fun v=>match v with
   | .bool b=>No P x y Li LW b Q ρ w
   | _=>False)
  (fun id c ih Q ρ w=>match c with
   | .loop _=>ih (SX id Q) ρ w
   | c=>Fl P c ih id Q ρ w)
  (fun c ih Q ρ w=>Y6 P c ih Q ρ w)
  (fun _ _ _ _ _ _ _ _ _=>False)
  (fun id Q ρ w=>Q (.exit id) ρ w)
  (fun c ih Q ρ w=>adX P c ih Q ρ w)
  (fun _ Q ρ w=>Q .normal ρ w)
  (fun l Q ρ w=>Q (.goto l) ρ w)
  (fun Q ρ w=>Q .ret ρ w)
  (fun _ _ _ _=>False) c
section
variable (P:Program) (Q:Exit->ym->World->Prop) (ρ:ym) (w:World)
theorem Lh (x y:Code):OP P (.seq x y) Q ρ w=OP P x (Vz (OP P y Q) Q) ρ w:=rfl
theorem Nn (c:Operand) (x y:Code):OP P (.cond c x y) Q ρ w=VH ρ c fun v=>match v with
   | .bool b=>No P x y (OP P x) (OP P y) b Q ρ w
   | _=>False:=rfl
theorem OG (id:Nat) (c:Code):OP P (.block id c) Q ρ w↔OP P c (SX id Q) ρ w:=by
 have h:Fl P c (OP P c) id Q ρ w↔OP P c (SX id Q) ρ w:=⟨fun ⟨h⟩=>h,fun h=>⟨h⟩⟩
 cases c <;> first|exact h|exact Iff.rfl
end
theorem OF {P:Program} {Q:Exit->ym->World->Prop} {ρ:ym} {w:World} (c:Code):OP P (.scope c) Q ρ w=adX P c (OP P c) Q ρ w:=rfl
theorem aa5 {Q Q':Exit->ym->World->Prop} (hq:∀e ρ w,Q e ρ w->Q' e ρ w):∀e ρ w,QY Q e ρ w->QY Q' e ρ w:=fun e ρ w h=>by
 cases e <;> simp only [QY] at h⊢<;> exact hq _ _ _ h
theorem aay {l:Nat} {J J':ym->World->Prop} {Q Q':Exit->ym->World->Prop} (hj:∀ρ w,J ρ w->J' ρ w) (hq:∀e ρ w,Q e ρ w->Q' e ρ w):∀e ρ w,PR l J Q e ρ w->PR l J' Q' e ρ w:=fun e ρ w h=>by
 cases e <;> simp only [PR] at h⊢<;> first|exact ⟨h.1,hj _ _ h.2⟩|exact hq _ _ _ h
theorem OE {P:Program} {x y:Code} {B C:Je} {b:Bool} {Q:Exit->ym->World->Prop} {ρ:ym} {w:World}:No P x y B C b Q ρ w↔if b then B Q ρ w else C Q ρ w:=by
 constructor
 .rintro ⟨t,f⟩;cases b
  .grind
  .grind
 .intro h;cases b
  .exact cF rfl h
  .exact cT rfl h
theorem aap {ops:List Oper} {g:Option (Nat × Bool)} {ρ:ym} {k k':Bool->ym->Prop} (h:XY ops g ρ k) (hk:∀b ρ,k b ρ->k' b ρ):XY ops g ρ k':=by
 unfold XY at h ⊢
 split at h
 .grind
 .simp only [OL,S6,SG] at h ⊢
  split at h
  .omega
  .split at h
   .omega
   .split at h
    .split at h <;> (split at h <;> exact hk _ _ h)
    .grind
    .omega
theorem adY {P:Program} {ops:List Oper} {K K':ym->World->Prop} (hk:∀ρ w,K ρ w->K' ρ w) (l:List Oper) :
  ∀{ρ:ym} {w:World},Mg P ops K l ρ w->Mg P ops K' l ρ w:=by
 induction l with
 | nil=>exact fun h=>hk _ _ h
 | cons o r ih =>
  intro ρ w h
  simp only [OH] at h ⊢
  refine aap h fun b ρ h=>?_
  cases b
  .simp only [X3] at h ⊢;exact ih h
  .simp only [X3] at h ⊢;exact Lj h fun v w h=>ih h
theorem Vn {P:Program} (c:Code):∀{Q Q':Exit->ym->World->Prop} {ρ:ym} {w:World},OP P c Q ρ w->(∀e ρ w,Q e ρ w->Q' e ρ w)->OP P c Q' ρ w:=by
 induction c with
 | skip=>exact fun h hq=>hq _ _ _ h
 | label l=>exact fun h hq=>hq _ _ _ h
 | exit i=>exact fun h hq=>hq _ _ _ h
 | ret=>exact fun h hq=>hq _ _ _ h
 | seq x y Li LW =>
  intro Q Q' ρ w h hq
  simp only [Lh] at h ⊢
  refine Li h fun e ρ w he=>?_
  cases e <;> simp only [Vz] at he⊢<;> first|exact LW he hq|exact hq _ _ _ he
 | cond c x y Li LW =>
  intro Q Q' ρ w h hq
  simp only [Nn,S5,OE] at h ⊢
  split at h
  .grind
  .omega
 | block id c ih =>
  intro Q Q' ρ w h hq
  rw [OG] at h ⊢
  refine ih h fun e ρ w he=>?_
  cases e <;> simp only [SX] at he⊢<;> first|exact hq _ _ _ he|(split at he <;> exact hq _ _ _ he)
 | region id ops draw =>
  intro Q Q' ρ w h hq
  cases draw
  .exact adY (fun ρ w=>hq .normal ρ w) _ h
  .obtain ⟨h⟩:=h
   exact ⟨fun ds=>Code.wp_mono (fun e a w ⟨h1,h2,h3,h4⟩=>⟨h1,h2,h3,hq _ _ _ h4⟩) (h ds)⟩
 | loop c ih =>
  intro Q Q' ρ w h hq
  obtain ⟨I,μ,h0,hr⟩:=h
  refine ⟨I,μ,h0,fun ρ w hI=>ih (hr ρ w hI) fun e ρ w he=>?_⟩
  cases e <;> simp only [Vz] at he⊢<;> first|exact hq _ _ _ he|exact he
 | rangeFunc=>exact fun h=>h.elim
 | scope c ih =>
  intro Q Q' ρ w h hq
  rw [OF] at h ⊢
  cases h with
  | Rw h=>exact .Rw (ih h (aa5 hq))
  | jumps l rest M hM J μ hf first pass=>exact .jumps l rest M hM J μ hf (ih first (aay (fun _ _ h=>h) hq)) fun ρ w hJ=>hM.imp (pass ρ w hJ) (aay (fun _ _ h=>h) hq)
 | goto=>exact fun h hq=>hq _ _ _ h
 | refuse=>exact fun h=>h.elim
theorem QX {a:Act} {ds:List Deferred} (h:a.defers=ds):a=⟨a.tmps.toList.toArray,ds⟩:=by
 cases a;simp only at h;subst h;simp
theorem XT {ops:Array Oper} {o:Oper} {ρ:ym} {k:Bool->ym->Prop} (h:XY ops.toList o.guard ρ k) :
  ∃b,Region.wanted o (yielded ops ρ.toArray)=b/\k b ρ:=by
 unfold XY at h
 split at h
 .grind [Region.wanted]
 .rename_i j want hg
  simp only [OL,S6,SG] at h
  split at h
  .grind
  .rename_i oj hj
   split at h
   .grind
   .rename_i d hd
    split at h
    .rename_i b hb
     have VU:ρ.set d (.bool b)=ρ:=by
      apply lFa
      intro i
      rw [lNa]
      split
      .rename_i e;subst e
       by_cases hl:d<ρ.length
       .rw [if_pos hl]
        rw [PU] at hb
        simp only [Array.getD_eq_getD_getElem?,List.getElem?_toArray] at hb
        rw [laa hl] at hb ⊢
        simp only [Option.getD_some] at hb
        rw [hb]
       .grind
      .rfl
     have hy:yielded ops ρ.toArray j=some b:=by
      have hl:d<ρ.length:=by grind [PU,Array.getD_eq_getD_getElem?,List.getElem?_eq_none,undef]
      rw [PU] at hb
      simp only [Array.getD_eq_getD_getElem?,List.getElem?_toArray,List.getElem?_eq_getElem hl,Option.getD_some] at hb
      simp only [Array.getElem?_toList] at hj
      simp [yielded,hj,hd,List.getElem?_eq_getElem hl,hb]
     rw [VU] at h
     cases b <;> cases want <;> simp only at h <;> exact ⟨_,by simp [Region.wanted,hg,hy],h⟩
    .rename_i vs hb
     refine ⟨false,?_,h⟩
     have hy:yielded ops ρ.toArray j=none:=by
      simp only [Array.getElem?_toList] at hj
      rw [PU] at hb
      simp only [yielded,hj,Option.bind_some,hd]
      cases hl:ρ[d]? with
      | none=>simp [hl]
      | some v =>
       simp [Array.getD_eq_getD_getElem?,hl] at hb
       simp [hl,hb]
     simp [Region.wanted,hg,hy]
    .grind
theorem abZ {P:Program} {ops:Array Oper} {Q:Exit->ym->World->Prop} (l:List Oper) :
  ∀{ρ:ym} {w:World} {ds:List Deferred},Mg P ops.toList (Q .normal) l ρ w->wpList P ops (lift ds Q) l ⟨ρ.toArray,ds⟩ w:=by
 induction l with
 | nil=>exact fun h=>⟨rfl,by simpa [adW] using h⟩
 | cons o r ih =>
  intro ρ w ds h
  simp only [OH,X3] at h
  obtain ⟨b,hb,h⟩:=XT h
  unfold wpList
  cases b
  .rw [if_neg (by simp [hb]),put_eq]
   exact ih h
  .rw [if_pos hb]
   exact .inl (UD h fun v w' h=>by rw [put_eq];exact ih h)
theorem UC {P:Program} (c:Code):∀{Q:Exit->ym->World->Prop} {ρ:ym} {w:World} {ds:List Deferred},OP P c Q ρ w->c.wp P (lift ds Q) ⟨ρ.toArray,ds⟩ w:=by
 induction c with
 | skip=>exact fun h=>wp_skip ⟨rfl,h⟩
 | label l=>exact fun h=>wp_label ⟨rfl,h⟩
 | exit i=>exact fun h=>wp_exit ⟨rfl,h⟩
 | ret=>exact fun h=>wp_ret ⟨rfl,h⟩
 | seq x y Li LW =>
  intro Q ρ w ds h
  simp only [Lh] at h
  refine wp_seq (wp_mono (Li h) ?_)
  rintro e a w ⟨hd,he⟩
  cases e <;> simp only [Vz] at he <;> simp only [Exit.then]
  .grind [QX]
  all_goals exact ⟨hd,he⟩
 | cond c x y Li LW =>
  intro Q ρ w ds h
  simp only [Nn,S5,OE] at h
  split at h
  .rename_i b hb
   refine wp_cond (t:=b) (by rw [Yj];exact hb) ?_
   split at h
   .grind
   .grind
  .grind
 | block id c ih =>
  intro Q ρ w ds h
  rw [OG] at h
  refine wp_block (wp_mono (ih h) ?_)
  rintro e a w ⟨hd,he⟩
  cases e <;> simp only [SX] at he <;> simp only [Exit.inBlock]
  case exit id' =>
   by_cases hi:id'=id
   .subst hi;simp only [beq_self_eq_true] at he;rw [if_pos rfl];exact ⟨hd,he⟩
   .have:(id' == id)=false:=by grind
    simp only [this] at he;rw [if_neg hi];exact ⟨hd,he⟩
  all_goals exact ⟨hd,he⟩
 | region id ops draw =>
  intro Q ρ w ds h
  cases draw
  .exact wp_region_list (abZ _ h)
  .obtain ⟨h⟩:=h
   exact wp_mono (h _) fun e a w ⟨h1,h2,_,h4⟩=>by subst h1;exact ⟨h2,h4⟩
 | loop c ih =>
  intro Q ρ w ds h
  obtain ⟨I,μ,h0,hr⟩:=h
  refine wp_loop (fun a w=>a.defers=ds/\I a.tmps.toList w) (fun a w=>μ a.tmps.toList w) ⟨rfl,h0⟩ ?_
  rintro a w ⟨hd,hI⟩
  rw [QX hd]
  refine wp_mono (ih (hr _ _ hI)) ?_
  rintro e a' w' ⟨hd',he⟩
  cases e <;> simp only [Vz] at he <;> simp only [Exit.then]
  .grind
  all_goals exact ⟨hd',he⟩
 | rangeFunc=>exact fun h=>h.elim
 | scope c ih =>
  intro Q ρ w ds h
  rw [OF] at h
  cases h with
  | Rw h =>
   refine wp_scope_straight (wp_mono (ih h) ?_)
   rintro e a w ⟨hd,he⟩
   cases e <;> simp only [QY] at he <;> exact ⟨hd,he⟩
  | jumps l rest M hM J μ hf first pass =>
   refine wp_scope_jumps l (fun a w=>a.defers=ds/\J a.tmps.toList w) (fun a w=>μ a.tmps.toList w) hf (wp_mono (ih first) ?_) ?_
   .rintro e a w ⟨hd,he⟩
    cases e <;> simp only [PR] at he <;> first|exact ⟨he.1,hd,he.2⟩|exact ⟨hd,he⟩
   .rintro a w ⟨hd,hJ⟩
    rw [QX hd]
    refine wp_mono (hM.sound (pass _ _ hJ)) ?_
    rintro e a' w' ⟨hd',he⟩
    cases e <;> simp only [PR] at he <;> first|exact ⟨he.1,⟨hd',he.2.1⟩,he.2.2⟩|exact ⟨hd',he⟩
 | goto=>exact fun h=>wp_goto ⟨rfl,h⟩
 | refuse=>exact fun h=>h.elim
theorem agree.refl (ds:List Nat) (ρ:ym):agree ds ρ ρ:=⟨rfl,fun _ _=>rfl⟩
theorem agree.trans {ds:List Nat} {a b c:ym} (h:agree ds a b) (k:agree ds b c):agree ds a c :=
 ⟨k.1.trans h.1,fun i hi=>(k.2 i hi).trans (h.2 i hi)⟩
theorem agree.mono {ds ds':List Nat} {a b:ym} (h:agree ds a b) (hs:∀i,i∈ds->i∈ds'):agree ds' a b :=
 ⟨h.1,fun i hi=>h.2 i fun hh=>hi (hs i hh)⟩
theorem agree.put {ds:List Nat} {a b:ym} (h:agree ds a b) (d:Option Nat) (hd:∀i,d=some i->i∈ds) (v:Value):agree ds a (put b d v):=by
 cases d with
 | none=>exact h
 | some d =>
  refine ⟨by simp [YY.put,h.1],fun i hi=>?_⟩
  have:d≠i:=fun e=>hi (e ▸ hd d rfl)
  simp only [YY.put,List.getElem?_set,if_neg this]
  exact h.2 i hi
theorem aaW {ops:List Oper} {g:Option (Nat × Bool)} {ρ:ym} {k:Bool->ym->Prop} (h:XY ops g ρ k) :
  XY ops g ρ fun b ρ'=>k b ρ'/\agree (Yt ops) ρ ρ':=by
 unfold XY at h ⊢
 split at h
 .exact ⟨h,agree.refl _ _⟩
 .simp only [OL,S6,SG] at h ⊢
  split at h
  .omega
  .rename_i oj hj
   split at h
   .omega
   .rename_i d hd
    have hmem:d∈Yt ops:=by grind [Yt]
    split at h
    .rename_i b hb
     split at h <;> (split at h <;> exact ⟨h,(agree.refl _ _).put (some d) (fun i e=>by cases e;exact hmem) _⟩)
    .exact ⟨h,agree.refl _ _⟩
    .omega
theorem ab0 {P:Program} {ops:List Oper} {K:ym->World->Prop} (l:List Oper) (hl:∀o,o∈l->o∈ops) :
  ∀{ρ0 ρ:ym} {w:World},agree (Yt ops) ρ0 ρ->Mg P ops K l ρ w->Mg P ops (fun ρ' w'=>K ρ' w'/\agree (Yt ops) ρ0 ρ') l ρ w:=by
 induction l with
 | nil=>exact fun ha h=>⟨h,ha⟩
 | cons o r ih =>
  intro ρ0 ρ w ha h
  simp only [OH] at h ⊢
  refine aap (aaW h) fun b ρ1 ⟨h,Cw⟩=>?_
  have hmem:∀i,o.dst=some i->i∈Yt ops:=fun i e=>by grind [Yt]
  have HJ:=fun {ρ:ym} {w:World}=>@ih (fun o ho=>hl o (lkb _ ho)) ρ0 ρ w
  cases b
  .simp only [X3] at h ⊢
   exact HJ ((ha.trans Cw).put _ hmem _) h
  .simp only [X3] at h ⊢
   exact Lj h fun v w h=>HJ ((ha.trans Cw).put _ hmem _) h
theorem QW {P:Program} (c:Code):∀{Q:Exit->ym->World->Prop} {ρ:ym} {w:World},OP P c Q ρ w ->
  OP P c (fun e ρ' w'=>Q e ρ' w'/\agree (Vt c) ρ ρ') ρ w:=by
 induction c with
 | skip=>exact fun h=>⟨h,agree.refl _ _⟩
 | label l=>exact fun h=>⟨h,agree.refl _ _⟩
 | exit i=>exact fun h=>⟨h,agree.refl _ _⟩
 | ret=>exact fun h=>⟨h,agree.refl _ _⟩
 | seq x y Li LW =>
  intro Q ρ w h
  simp only [Lh] at h ⊢
  refine Vn x (Li h) fun e ρ1 w1 ⟨he,ha⟩=>?_
  have ha':agree (Vt (.seq x y)) ρ ρ1:=ha.mono fun i hi=>lbb _ hi
  cases e <;> simp only [Vz] at he ⊢
  .exact Vn y (LW he) fun e ρ2 w2 ⟨h2,h3⟩=>⟨h2,ha'.trans (h3.mono fun i hi=>lsb0 _ hi)⟩
  all_goals exact ⟨he,ha'⟩
 | cond c x y Li LW =>
  intro Q ρ w h
  simp only [Nn,S5,OE] at h ⊢
  split at h
  .split at h
   .rw [if_pos yP]
    exact Vn x (Li h) fun e ρ2 w2 ⟨h2,h3⟩=>⟨h2,h3.mono fun i hi=>lbb _ hi⟩
   .rw [if_neg yP]
    exact Vn y (LW h) fun e ρ2 w2 ⟨h2,h3⟩=>⟨h2,h3.mono fun i hi=>lsb0 _ hi⟩
  .omega
 | block id c ih =>
  intro Q ρ w h
  rw [OG] at h ⊢
  refine Vn c (ih h) fun e ρ1 w1 ⟨he,ha⟩=>?_
  cases e <;> simp only [SX] at he ⊢
  case exit i=>split at he <;> exact ⟨he,ha⟩
  all_goals exact ⟨he,ha⟩
 | region id ops draw =>
  intro Q ρ w h
  cases draw
  .exact ab0 _ (fun _ h=>h) (agree.refl _ _) h
  .obtain ⟨h⟩:=h
   exact ⟨fun ds=>Code.wp_mono (fun e a w ⟨h1,h2,h3,h4⟩=>⟨h1,h2,h3,h4,h3⟩) (h ds)⟩
 | loop c ih =>
  intro Q ρ w h
  obtain ⟨I,μ,h0,hr⟩:=h
  refine ⟨fun ρ' w'=>I ρ' w'/\agree (Vt c) ρ ρ',μ,⟨h0,agree.refl _ _⟩,fun ρ1 w1 ⟨hI,ha⟩=>Vn c (ih (hr ρ1 w1 hI)) fun e ρ2 w2 ⟨he,LV⟩=>?_⟩
  cases e <;> simp only [Vz] at he ⊢
  .exact ⟨⟨he.1,ha.trans LV⟩,he.2⟩
  all_goals exact ⟨he,ha.trans LV⟩
 | rangeFunc=>exact fun h=>h.elim
 | scope c ih =>
  intro Q ρ w h
  rw [OF] at h ⊢
  cases h with
  | Rw h=>exact .Rw (Vn c (ih h) fun e ρ1 w1 ⟨he,ha⟩=>by cases e <;> simp only [QY] at he⊢<;> exact ⟨he,ha⟩)
  | jumps l rest M hM J μ hf first pass =>
   refine .jumps l rest M hM (fun ρ' w'=>J ρ' w'/\agree (Vt c) ρ ρ') μ hf (Vn c (ih first) fun e ρ1 w1 ⟨he,ha⟩=>?_) fun ρ1 w1 ⟨hJ,ha⟩=>hM.imp (hM.frame (pass ρ1 w1 hJ)) fun e ρ2 w2 ⟨he,LV⟩=>?_
   .cases e <;> simp only [PR] at he⊢<;> first|exact ⟨he.1,he.2,ha⟩|exact ⟨he,ha⟩
   .have H8:agree (Vt c) ρ ρ2:=ha.trans (LV.mono fun i hi=>aa4 hf i hi)
    cases e <;> simp only [PR] at he⊢<;> first|exact ⟨he.1,⟨he.2.1,H8⟩,he.2.2⟩|exact ⟨he,H8⟩
 | goto=>exact fun h=>⟨h,agree.refl _ _⟩
 | refuse=>exact fun h=>h.elim
def DJ (l:List Nat) (f:Nat->Value):ym->(ym->Prop)->Prop :=
 List.rec (motive:=fun _=>ym->(ym->Prop)->Prop) (fun ρ k=>k ρ) (fun d _ ih ρ k=>Ib ρ d (f d) fun ρ=>ih ρ k) l
theorem adZ (d:Nat) (ds:List Nat) (f:Nat->Value) (ρ:ym) (k:ym->Prop):DJ (d::ds) f ρ k=Ib ρ d (f d) fun ρ=>DJ ds f ρ k:=rfl
def DI (l:List (Nat × Value)):ym->(ym->Prop)->Prop :=
 List.rec (motive:=fun _=>ym->(ym->Prop)->Prop) (fun ρ k=>k ρ) (fun p _ ih ρ k=>match p with
  | (i,v)=>Ib ρ i v fun ρ=>ih ρ k) l
theorem ad0 (i:Nat) (v:Value) (r:List (Nat × Value)) (ρ:ym) (k:ym->Prop):DI ((i,v)::r) ρ k=Ib ρ i v fun ρ=>DI r ρ k:=rfl
def mt:List (Nat × Value)->ym->Prop
 | [],_=>True
 | (i,v)::r,ρ=>gt ρ i=v/\mt r ρ
theorem ZY {ρ:ym}:mt [] ρ:=trivial
theorem ZQ {i:Nat} {v:Value} {r:List (Nat × Value)} {ρ:ym} (h:gt ρ i=v) (k:mt r ρ):mt ((i,v)::r) ρ:=⟨h,k⟩
theorem Zw {i:Nat} {k:IntKind} {a b:Int} {r:List (Nat × Value)} {ρ:ym} (hg:gt ρ i=.int k a) (h:a=b) (t:mt r ρ):mt ((i,.int k b)::r) ρ:=⟨by rw [hg,h],t⟩
theorem int_eq {k:IntKind} {a b:Int} (h:a=b):Value.int k a=.int k b:=by rw [h]
theorem SF {ρ':ym} (ds:List Nat) {k:ym->Prop}:∀{ρ1:ym},agree ds ρ1 ρ'->DJ ds (gt ρ') ρ1 k->k ρ':=by
 induction ds with
 | nil =>
  intro ρ1 ha h
  have:ρ'=ρ1:=lFa fun i=>ha.2 i yO
  rw [this];exact h
 | cons d ds ih =>
  intro ρ1 ha h
  simp only [adZ,S6] at h
  refine ih ?_ h
  refine ⟨by simpa using ha.1,fun i hi=>?_⟩
  rw [lNa]
  split
  .rename_i e;subst e
   split
   .rename_i hl
    have hl':d<ρ'.length:=by rw [ha.1];exact hl
    rw [PU]
    simp [Array.getD_eq_getD_getElem?,List.getElem?_eq_getElem hl']
   .rename_i hl
    rw [List.getElem?_eq_none (by rw [ha.1];exact Nat.le_of_not_lt hl)]
  .rename_i hne
   exact ha.2 i fun hm=>by cases hm <;> contradiction
theorem Nl {ρ:ym} (sl:List (Nat × Value)) {k:ym->Prop} (hm:mt sl ρ) (h:DI sl ρ k):k ρ:=by
 induction sl with
 | nil=>exact h
 | cons p r ih =>
  obtain ⟨i,v⟩:=p
  obtain ⟨hv,hm⟩:=hm
  simp only [ad0,S6] at h
  have:ρ.set i v=ρ:=by
   apply lFa
   intro j
   rw [lNa]
   split
   .rename_i e;subst e
    split
    .rename_i hl
     rw [PU] at hv
     simp only [Array.getD_eq_getD_getElem?,List.getElem?_toArray,List.getElem?_eq_getElem hl,Option.getD_some] at hv
     rw [laa hl,hv]
    .grind
   .rfl
  rw [this] at h
  exact ih hm h
inductive Xs {α:Type} (sl:α->List (Nat × Value)) (inv:α->World->Prop) (p:α->Prop) (ρ:ym) (w:World):Prop
 | mk (y:α) (hm:mt (sl y) ρ) (hi:inv y w) (hp:p y)
inductive Jn {α:Type} (sl:α->List (Nat × Value)) (inv:α->World->Prop) (ρ:ym) (w:World):Prop
 | mk (y:α) (hm:mt (sl y) ρ) (hi:inv y w)
theorem Y6.rule {P:Program} {c:Code} {B:Je} {Q:Exit->ym->World->Prop} {ρ:ym} {w:World} {α:Type} (x0:α) (sl:α->List (Nat × Value)) (inv:α->World->Prop) (μ:α->Nat)
  (hm:mt (sl x0) ρ) (h0:inv x0 w)
  (round:∀x (f:Nat->Value) w',inv x w'->DJ (Vt c) f ρ fun ρ=>DI (sl x) ρ fun ρ =>
   B (Vz (fun ρ' w''=>Xs sl inv (fun y=>μ y<μ x) ρ' w'') Q) ρ w') (hB:B=OP P c:=by rfl):Y6 P c B Q ρ w:=by
 subst hB
 classical
 have hex:∀(p:Nat->Prop),(∃n,p n)->∃n,p n/\∀m,p m->n<=m:=fun p ⟨n,hn⟩=>by
  induction n using Nat.strongRecOn with
  | _ n ih =>
   by_cases h:∃m,m<n/\p m
   .grind
   .grind
 let p:ym->World->Nat->Prop:=fun ρ' w' n=>∃x,μ x=n/\mt (sl x) ρ'/\inv x w'
 let M:ym->World->Nat:=fun ρ' w'=>if h:∃n,p ρ' w' n then Classical.choose (hex _ h) else 0
 have hM:∀ρ' w',(∃n,p ρ' w' n)->p ρ' w' (M ρ' w')/\∀m,p ρ' w' m->M ρ' w'<=m:=fun ρ' w' h=>by grind
 refine ⟨fun ρ' w'=>(∃n,p ρ' w' n)/\agree (Vt c) ρ ρ',M,⟨⟨_,x0,rfl,hm,h0⟩,agree.refl _ _⟩,?_⟩
 rintro ρ1 w1 ⟨hp,ha⟩
 obtain ⟨⟨x,hx,GS,DH⟩,-⟩:=hM ρ1 w1 hp
 have hb:=round x (gt ρ1) w1 DH
 have hb:=Nl _ GS (SF _ ha hb)
 refine Vn c (QW c hb) ?_
 rintro e ρ2 w2 ⟨he,LV⟩
 cases e <;> simp only [Vz] at he ⊢
 .obtain ⟨y,Ac,Ab,hlt⟩:=he
  refine ⟨⟨⟨_,y,rfl,Ac,Ab⟩,ha.trans LV⟩,?_⟩
  have:=(hM ρ2 w2 ⟨_,y,rfl,Ac,Ab⟩).2 _ ⟨y,rfl,Ac,Ab⟩
  omega
 all_goals exact he
theorem OD {P:Program} {x y:Code} {B C:Je} {K:ym->World->Prop} {Q:Exit->ym->World->Prop} {ρ:ym} {w:World} {b:Bool} {α:Type} (sl:α->List (Nat × Value)) (inv:α->World->Prop)
  (hx:b=true->B (Vz (fun ρ' w'=>Jn sl inv ρ' w') Q) ρ w)
  (hy:b=false->C (Vz (fun ρ' w'=>Jn sl inv ρ' w') Q) ρ w)
  (hk:∀a (f:Nat->Value) w',inv a w'->DJ (Vt x++Vt y) f ρ fun ρ=>DI (sl a) ρ fun ρ=>K ρ w') (hB:B=OP P x:=by rfl) (hC:C=OP P y:=by rfl) :
  No P x y B C b (Vz K Q) ρ w:=by
 subst hB
 subst hC
 refine ⟨fun hb=>?_,fun hb=>?_⟩
 .refine Vn x (QW x (hx hb)) ?_
  rintro e ρ2 w2 ⟨he,ha⟩
  cases e <;> simp only [Vz] at he ⊢
  .obtain ⟨a,hm,hi⟩:=he
   exact Nl _ hm (SF _ (ha.mono fun i hi=>lbb _ hi) (hk a (gt ρ2) w2 hi))
  all_goals exact he
 .refine Vn y (QW y (hy hb)) ?_
  rintro e ρ2 w2 ⟨he,ha⟩
  cases e <;> simp only [Vz] at he ⊢
  .obtain ⟨a,hm,hi⟩:=he
   exact Nl _ hm (SF _ (ha.mono fun i hi=>lsb0 _ hi) (hk a (gt ρ2) w2 hi))
  all_goals exact he
theorem Qn {P:Program} {c:Code} {B:Je} {id:Nat} {K:ym->World->Prop} {Q:Exit->ym->World->Prop} {ρ:ym} {w:World} {α:Type} (sl:α->List (Nat × Value)) (inv:α->World->Prop)
  (hx:B (SX id (Vz (fun ρ' w'=>Jn sl inv ρ' w') Q)) ρ w)
  (hk:∀a (f:Nat->Value) w',inv a w'->DJ (Vt c) f ρ fun ρ=>DI (sl a) ρ fun ρ=>K ρ w') (hB:B=OP P c:=by rfl) :
  Fl P c B id (Vz K Q) ρ w:=by
 subst hB
 refine ⟨Vn c (QW c hx) ?_⟩
 have key:∀ρ2 w2,Jn sl inv ρ2 w2->agree (Vt c) ρ ρ2->K ρ2 w2:=fun ρ2 w2 ⟨a,hm,hi⟩ ha =>
  Nl _ hm (SF _ ha (hk a (gt ρ2) w2 hi))
 rintro e ρ2 w2 ⟨he,ha⟩
 cases e <;> simp only [SX,Vz] at he ⊢
 .grind
 .split at he
  .grind
  .omega
 all_goals exact he
inductive Z6 (R:Value->World->Prop) (v:Value) (w:World):Prop
 | mk (h:R v w)
inductive H7 (P:Program) (m:Sem Value) (w:World) (K:Value->Prop):Prop
 | mk (v:Value) (h:m.run P w=.ok v w) (k:K v)
def GR (n:Nat):ym->(ym->Prop)->Prop :=
 Nat.rec (motive:=fun _=>ym->(ym->Prop)->Prop) (fun acc k=>k acc) (fun _ ih acc k=>ih (undef::acc) k) n
theorem adl (n:Nat) (acc:ym) (k:ym->Prop):GR (n+1) acc k=GR n (undef::acc) k:=rfl
def Mf (P:Program) (ρ:ym) (w:World) (l:List ResultVar):(ym->Prop)->Prop :=
 List.rec (motive:=fun _=>(ym->Prop)->Prop) (fun k=>k []) (fun x _ ih k=>match x with
  | .tmp t=>DK ρ t fun v=>ih fun vs=>k (v::vs)
  | .cell a t=>DK ρ a fun v=>match v with
   | .pointer p=>match p with
    | some a=>H7 P (loadVar t a) w fun v=>ih fun vs=>k (v::vs)
    | none=>False
   | _=>False) l
theorem ad1 (P:Program) (ρ:ym) (w:World) (t:Nat) (r:List ResultVar) (k:ym->Prop):Mf P ρ w (.tmp t::r) k=DK ρ t fun v=>Mf P ρ w r fun vs=>k (v::vs):=rfl
theorem adm (P:Program) (ρ:ym) (w:World) (a:Nat) (t:TypeId) (r:List ResultVar) (k:ym->Prop):Mf P ρ w (.cell a t::r) k=DK ρ a fun v=>match v with
   | .pointer p=>match p with
    | some a=>H7 P (loadVar t a) w fun v=>Mf P ρ w r fun vs=>k (v::vs)
    | none=>False
   | _=>False:=rfl
def HG (R:Value->World->Prop) (w:World) (vs:ym):Prop :=
 match vs with
 | [v]=>Z6 R v w
 | []=>Z6 R (.tuple #[]) w
 | u::v::r=>Z6 R (.tuple (u::v::r).toArray) w
def GQ (P:Program) (rs:List ResultVar) (R:Value->World->Prop) (e:Exit) (ρ:ym) (w:World):Prop :=
 match e with
 | .normal=>Mf P ρ w rs fun vs=>HG R w vs
 | .ret=>Mf P ρ w rs fun vs=>HG R w vs
 | _=>False
def Fk (P:Program) (fn:Func) (c:Code) (args:ym) (w:World) (R:Value->World->Prop):Prop :=
 GR (fn.ntmps-args.length) [] fun us=>OK args us fun ρ=>OP P c (GQ P fn.results.toList R) ρ w
theorem Lg (n:Nat) (acc:ym) (k:ym->Prop):GR n acc k=k (List.replicate n undef++acc):=by
 induction n generalizing acc with
 | zero=>rfl
 | succ n ih=>simp only [adl,ih];congr 1;rw [List.replicate_succ',lja];rfl
def HF (tmps:Array Value):ResultVar->Sem Value
 | .tmp t=>pure (tmps.getD t undef)
 | .cell a t=>do loadVar t (<-asAddr (tmps.getD a undef))
theorem Qm (fn:Func) (tmps:Array Value):results fn tmps=(do let vs <-fn.results.mapM (HF tmps);pure (if h:vs.size=1 then vs[0] else .tuple vs)):=by
 have:(fun (x:ResultVar)=>(match x with
  | .tmp t=>pure (tmps.getD t undef)
  | .cell a t=>do loadVar t (<-asAddr (tmps.getD a undef)):Sem Value))=HF tmps:=by
  funext x;cases x <;> rfl
 unfold results
 rw [<-this]
 rfl
theorem ab1 {P:Program} {ρ:ym} {w:World}:∀(rs:List ResultVar) {k:ym->Prop},Mf P ρ w rs k ->
  ∃vs,(rs.mapM (HF ρ.toArray)).run P w=.ok vs w/\k vs:=by
 intro rs
 induction rs with
 | nil=>exact fun h=>⟨[],by simp,h⟩
 | cons x r ih =>
  intro k h
  cases x with
  | tmp t =>
   simp only [ad1,OL] at h
   obtain ⟨vs,h1,h2⟩:=ih h
   exact ⟨gt ρ t::vs,by rw [List.mapM_cons];simp only [HF,Sem.run_bind,Sem.run_pure,Result.andThen_ok,h1,PU],h2⟩
  | cell a t =>
   simp only [adm,OL] at h
   split at h
   .rename_i p hp
    split at h
    .rename_i ad
     obtain ⟨v,hv,h⟩:=h
     obtain ⟨vs,h1,h2⟩:=ih h
     refine ⟨_,?_,h2⟩
     rw [List.mapM_cons]
     rw [PU] at hp
     simp only [HF,hp,asAddr,pure_bind,Sem.run_bind,Sem.run_pure,Result.andThen_ok,hv,h1]
    .grind
   .grind
theorem Rv {P:Program} {fn:Func} {R:Value->World->Prop} {e:Exit} {a:Act} {w:World} (h:lift [] (GQ P fn.results.toList R) e a w) :
  bodyPost P fn (fun e w'=>∃v,e=.returned v/\R v w') e a w:=by
 obtain ⟨hd,h⟩:=h
 rw [QX hd]
 have key:(Mf P a.tmps.toList w fn.results.toList fun vs=>HG R w vs) ->
   ∃v,(results fn a.tmps.toList.toArray).run P w=.ok v w/\∃v',Ending.returned v=.returned v'/\R v' w:=by
  intro h
  obtain ⟨vs,h1,h2⟩:=ab1 _ h
  have hm:(fn.results.mapM (HF a.tmps.toList.toArray)).run P w=.ok vs.toArray w:=by grind [Array.mapM_eq_mapM_toList,Sem.run_map,Result.andThen_ok]
  unfold HG at h2
  split at h2
  .rename_i v
   obtain ⟨h2⟩:=h2
   exact ⟨v,by rw [Qm];simp only [Sem.run_bind,hm,Result.andThen_ok];rfl,v,rfl,h2⟩
  .obtain ⟨h2⟩:=h2
   exact ⟨_,by rw [Qm];simp only [Sem.run_bind,hm,Result.andThen_ok];rfl,_,rfl,h2⟩
  .rename_i u v r
   obtain ⟨h2⟩:=h2
   refine ⟨.tuple (u::v::r).toArray,?_,_,rfl,h2⟩
   rw [Qm];simp only [Sem.run_bind,hm,Result.andThen_ok,Sem.run_pure]
   rw [dif_neg yO]
 cases e
 case normal=>obtain ⟨v,h1,h2⟩:=key h;exact ⟨rfl,v,h1,h2⟩
 case ret=>obtain ⟨v,h1,h2⟩:=key h;exact ⟨rfl,v,h1,h2⟩
 all_goals exact False.elim h
theorem Fc.of {P:Program} {f:FuncId} {fn:Func} {c:Code} {args:Array Value} {w:World} {R:Value->World->Prop}
  (hf:P.funcs[f]?=some fn) (hb:fn.body=some c) (hn:(fn.name == "runtime.NumGoroutine")=false) (h:Fk P fn c args.toList w R):Fc P f args w R:=by
 refine ⟨?_,?_⟩
 .simp only [callFunc,Sem.run_bind,program,Sem.run,Result.andThen_ok,hf]
  rw [if_neg (by grind),if_neg (by grind)]
  rfl
 .refine calls_of_wp hf hb ?_
  unfold Fk at h
  rw [Lg,Sc,lta] at h
  have:=UC (ds:=[]) c h
  have e:(args.toList++List.replicate (fn.ntmps-args.toList.length) undef).toArray=args++Array.replicate (fn.ntmps-args.size) undef:=by simp
  rw [e] at this
  exact wp_mono this fun e a w h=>Rv h
end YY
namespace YY
open Go Go.RowKit
variable {P:Program} {w:World} {K:Value->World->Prop}
theorem Uq {k:IntKind} {n:Int} (h0:k.min<=n) (h1:n<=k.max):ZM k n=n:=by
 unfold ZM
 cases k <;> simp [IntKind.wrap,IntKind.min,IntKind.max,IntKind.bits,IntKind.signed] at * <;> omega
theorem Sa {n:Int} (h:-9223372036854775808<=n/\n<=9223372036854775807):ZM .i64 n=n:=Uq (by grind [IntKind.min,IntKind.signed,IntKind.bits]) (by grind [IntKind.max,IntKind.signed,IntKind.bits])
theorem anv {n:Int} (h:-2147483648<=n/\n<=2147483647):ZM .i32 n=n:=Uq (by grind [IntKind.min,IntKind.signed,IntKind.bits]) (by grind [IntKind.max,IntKind.signed,IntKind.bits])
theorem DG {n:Int} (h:0<=n/\n<=18446744073709551615):ZM .u64 n=n:=Uq (by grind [IntKind.min,IntKind.signed,IntKind.bits]) (by grind [IntKind.max,IntKind.signed,IntKind.bits])
theorem anw {n:Int} (h:0<=n/\n<=4294967295):ZM .u32 n=n:=Uq (by grind [IntKind.min,IntKind.signed,IntKind.bits]) (by grind [IntKind.max,IntKind.signed,IntKind.bits])
theorem wu8 {n:Int} (h:0<=n/\n<=255):ZM .u8 n=n:=Uq (by grind [IntKind.min,IntKind.signed,IntKind.bits]) (by grind [IntKind.max,IntKind.signed,IntKind.bits])
theorem YN {a b:Int} (h:FG a b=true):a<b:=by grind [Sh]
theorem YM {a b:Int} (h:FG a b=false):b<=a:=by grind [Sh]
theorem Xp {a b:Int} (h:Jf a b=true):a<=b:=by grind [Sf]
theorem Xo {a b:Int} (h:Jf a b=false):b<a:=by grind [Sf]
theorem ZS {a b:Int} (h:Nq a b=true):a=b:=by grind [Ti]
theorem ZR {a b:Int} (h:Nq a b=false):a≠b:=by grind [Ti]
theorem YX {a b:Int} (h:Fm a b=true):a≠b:=by grind [Se]
theorem YW {a b:Int} (h:Fm a b=false):a=b:=by grind [Se]
theorem yy {P:Go.Program} {x y:Go.Code} {B C:Je} {a b:Int} {Q:Go.Exit->List Go.Value->Go.World->Prop} {ρ:List Go.Value} {w:Go.World} (t:a<b->B Q ρ w) (f:b<=a->C Q ρ w):No P x y B C (FG a b) Q ρ w:=cI (fun h=>t (YN h)) fun h=>f (YM h)
theorem yx {P:Go.Program} {x y:Go.Code} {B C:Je} {a b:Int} {Q:Go.Exit->List Go.Value->Go.World->Prop} {ρ:List Go.Value} {w:Go.World} (t:a<=b->B Q ρ w) (f:b<a->C Q ρ w):No P x y B C (Jf a b) Q ρ w:=cI (fun h=>t (Xp h)) fun h=>f (Xo h)
theorem yw {P:Go.Program} {x y:Go.Code} {B C:Je} {a b:Int} {Q:Go.Exit->List Go.Value->Go.World->Prop} {ρ:List Go.Value} {w:Go.World} (t:a=b->B Q ρ w) (f:a≠b->C Q ρ w):No P x y B C (Nq a b) Q ρ w:=cI (fun h=>t (ZS h)) fun h=>f (ZR h)
theorem yu {P:Go.Program} {x y:Go.Code} {B C:Je} {a b:Int} {Q:Go.Exit->List Go.Value->Go.World->Prop} {ρ:List Go.Value} {w:Go.World} (t:a≠b->B Q ρ w) (f:a=b->C Q ρ w):No P x y B C (Fm a b) Q ρ w:=cI (fun h=>t (YX h)) fun h=>f (YW h)
theorem XP {a b:Int}:FG a b=decide (a<b):=Sh _ _
theorem YF {a b:Int}:Jf a b=decide (a<=b):=Sf _ _
theorem Y2 {a b:Int}:Nq a b=decide (a=b):=by rw [Ti];rw [Bool.eq_iff_iff];simp
theorem XH {a b:Int}:Fm a b=!decide (a=b):=by rw [Se];rw [Bool.eq_iff_iff];simp
theorem Zp {s d:TypeId} {k0 k:IntKind} {n:Int} (hs:(P.underlying s).isSome=true) (hd:P.underlying d=some (.int k)) (h:K (.int k (ZM k n)) w) :
  Zb P (convert s d (.int k0 n)) w K:=by
 obtain ⟨ds,hds⟩:=Option.isSome_iff_exists.1 hs
 refine ⟨_,w,?_,h⟩
 unfold convert
 simp only [Sem.run_bind,run_underlying hds,run_underlying hd,Result.andThen_ok,Conv.intToInt]
 unfold ZM;rfl
theorem UB {s d:TypeId} {k0 k:IntKind} {n:Int} (m:Int) (e:ZM k n=m) (hs:(P.underlying s).isSome=true) (hd:P.underlying d=some (.int k)) (h:K (.int k m) w) :
  Zb P (convert s d (.int k0 n)) w K:=Zp hs hd (e ▸ h)
theorem anx {t:Array TypeId} {ty:TypeId} {k k':IntKind} {a b:Int} (h:K (.int k (min a b)) w):Zb P (Builtin.min_ t ty #[.int k a,.int k' b]) w K:=by
 refine ⟨_,w,?_,h⟩
 have:(if b<a then b else a)=min a b:=by omega
 simp [Builtin.min_,Builtin.min2,this]
def bs (l:yo):ByteArray:=⟨l.toArray⟩
theorem Th (l:yo):(bs l).size=l.length:=by simp [bs,ByteArray.size]
theorem akj (s:ByteArray):s=bs s.data.toList:=by cases s;simp [bs]
theorem SE (l:yo):(bs l).toList=l:=by simp [bs]
theorem ab2 (l:yo) (i j:Nat):(bs l).extract i j=bs ((l.take j).drop i):=by
 apply ByteArray.ext
 simp only [bs,ByteArray.data_extract]
 apply Array.ext'
 simp [List.drop_take]
theorem adn (a b:yo):bs a++bs b=bs (a++b):=by
 apply ByteArray.ext
 simp [bs]
theorem ad2 {a b:yo} (h:bs a=bs b):a=b:=by grind [bs]
theorem XA {t ty:TypeId} {s:yo} (ht:P.underlying t=some .string) (h:K (.int .i64 s.length) w):Zb P (Builtin.len_ #[t] ty #[.string (bs s)]) w K :=
 ⟨_,w,run_len_string (P:=P) w t ty (bs s) ht,by rw [Th];exact h⟩
theorem Vj {t ty e:TypeId} {a:Option Addr} {n c:Nat} (ht:P.underlying t=some (.slice e)) (h:K (.int .i64 n) w):Zb P (Builtin.len_ #[t] ty #[.slice a n c]) w K :=
 ⟨_,w,by simp [Builtin.len_,run_underlying ht,goInt],h⟩
theorem NM {t:TypeId} {s:yo} {k:IntKind} {i:Int} (ht:P.underlying t=some .string) (j:Nat) (hj:i=j) (hl:j<s.length) (h:K (.int .u8 (s[j].toNat:Int)) w) :
  Zb P (Instr.index t (.string (bs s)) (.int k i)) w K:=by
 subst hj
 refine ⟨_,w,?_,h⟩
 rw [run_index_string (P:=P) w t (bs s) k j ht,dif_pos ⟨by omega,by rw [Th];omega⟩]
 rfl
theorem akk {t:TypeId} {s:yo} {kl:IntKind} {l:Int} (ht:P.underlying t=some .string) (i:Nat) (hi:l=i) (hl:i<=s.length)
  (k:K (.string (bs (s.drop i))) w):Zb P (Instr.sliceAt t (.string (bs s)) (some (.int kl l)) none none) w K:=by
 subst hi
 refine ⟨_,w,?_,k⟩
 have hb:(bs s).size=s.length:=Th s
 rw [run_sliceAt_string (P:=P) w t _ _ _ _ ht,run_slice_string_l (P:=P) w t _ ht kl i yQ yQ]
 simp [hb,ab2]
theorem anz {t:TypeId} {x y:Operand} {a b:yo} (hl:a.length+b.length<=9223372036854775807) (k:K (.string (bs (a++b))) w) :
  Zb P (do eqGuard .add t x y (.string (bs a)) (.string (bs b));binOp .add t (.string (bs a)) (.string (bs b))) w K:=by
 refine ⟨_,w,?_,k⟩
 simp only [eqGuard_add,pure_bind,binOp_string_add,Op.stringOp]
 rw [if_neg (by simp [Th];omega)]
 simp [adn]
theorem aie {t:TypeId} {x y:Operand} {a b:yo} (k:K (.bool (decide (a=b))) w) :
  Zb P (do eqGuard .eql t x y (.string (bs a)) (.string (bs b));binOp .eql t (.string (bs a)) (.string (bs b))) w K:=by
 refine ⟨_,w,?_,k⟩
 simp only [eqGuard_at_string,pure_bind,binOp_string_eql,SE,Sem.run_pure]
 congr 2
 rw [Bool.eq_iff_iff];simp
theorem afV {t:TypeId} {x y:Operand} {a b:Bool} (hu:P.underlying t=some .bool) (k:K (.bool (a == b)) w) :
  Zb P (do eqGuard .eql t x y (.bool a) (.bool b);binOp .eql t (.bool a) (.bool b)) w K:=by
 refine ⟨_,w,?_,k⟩
 simp only [eqGuard_at_bool,pure_bind,run_eql_bool (P:=P) w t a b hu]
def SW (v:Value) (k:ym->Prop):Prop :=
 match v with
 | .agg cs=>k cs.toList
 | v=>k [v]
theorem Wd (v:Value) (k:ym->Prop):SW v k=k v.cells.toList:=by
 cases v <;> rfl
theorem akl {t:TypeId} {v:Value} (h:SW v fun cs=>K (.pointer (some ⟨w.heap.size,0,none⟩)) (w.alloc (.cells cs.toArray t))):Zb P (Instr.box t v) w K:=by
 rw [Wd] at h
 exact ⟨_,_,rfl,by simpa using h⟩
theorem afW {t:TypeId} {z:Value} (hz:(P.info? t).bind (fun i=>i.zero)=some z) (h:SW z fun cs=>K (.pointer (some ⟨w.heap.size,0,none⟩)) (w.alloc (.cells cs.toArray t))) :
  Zb P (Instr.alloc t true (.tuple #[])) w K:=by
 rw [Wd] at h
 cases hi:P.info? t with
 | none=>simp [hi] at hz
 | some i =>
  simp only [hi,Option.bind_some] at hz
  refine ⟨_,_,?_,h⟩
  simp [Instr.alloc,zeroValue,typeInfo,hi,hz,newVar,newRow]
def Nk (cs:ym) (o:Nat) (l:ym) (k:ym->Prop):Prop :=
 List.rec (motive:=fun _=>ym->Nat->Prop) (fun cs _=>k cs) (fun v _ ih cs o=>Ib cs o v fun cs=>ih cs (o+1)) l cs o
theorem ab3 (cs:ym) (o:Nat) (v:Value) (vs:ym) (k:ym->Prop):Nk cs o (v::vs) k=Ib cs o v fun cs=>Nk cs (o+1) vs k:=rfl
def VR:ym->Nat->ym->ym
 | cs,_,[]=>cs
 | cs,o,v::vs=>VR (cs.set o v) (o+1) vs
theorem SD (vs:ym):∀(cs:ym) (o:Nat) (k:ym->Prop),Nk cs o vs k=k (VR cs o vs):=by
 induction vs with
 | nil=>intros;rfl
 | cons v vs ih=>intro cs o k;simp only [ab3,VR,S6,ih]
theorem VG (vs:ym):∀(cs:ym) (o:Nat),(VR cs o vs).length=cs.length:=by
 induction vs with
 | nil=>intros;rfl
 | cons v vs ih=>intro cs o;simp [VR,ih]
def JY (b:Bool) (k:Prop):Prop:=match b with
 | true=>k
 | false=>False
theorem PO {b:Bool} {k:Prop} (h:JY b k):b=true/\k:=by cases b;exact h.elim;exact ⟨rfl,h⟩
def PN (place:Nat->Option (Nat × Nat)) (l:List (Nat × Value)) (cs:ym) (k:ym->Prop):Prop :=
 List.rec (motive:=fun _=>ym->Prop) k (fun p _ ih cs=>match p with
  | (i,v)=>match place i with
   | none=>False
   | some p=>match p with
    | (o,n)=>SW v fun vs=>JY (Nat.beq vs.length n && Nat.ble (o+n) cs.length) (Nk cs o vs fun cs=>ih cs)) l cs
theorem Ql (place:Nat->Option (Nat × Nat)) (i:Nat) (v:Value) (r:List (Nat × Value)) (cs:ym) (k:ym->Prop):PN place ((i,v)::r) cs k=match place i with
   | none=>False
   | some p=>match p with
    | (o,n)=>SW v fun vs=>JY (Nat.beq vs.length n && Nat.ble (o+n) cs.length) (Nk cs o vs fun cs=>PN place r cs k):=rfl
theorem ab4 (vs:ym) (o:Nat):∀(j:Nat) (cs:Array Value),(vs.zipIdx j).foldl (fun cs (c,i)=>cs.setIfInBounds (o+i) c) cs=(VR cs.toList (o+j) vs).toArray:=by
 induction vs with
 | nil=>intro j cs;simp [VR]
 | cons v vs ih=>intro j cs;simp only [List.zipIdx_cons,List.foldl_cons,ih,VR];simp [Nat.add_assoc]
theorem aai {place:Nat->Option (Nat × Nat)} (ps:List (Nat × Value)):∀{cs:ym} {k:ym->Prop},PN place ps cs k ->
  ∃cs',Instr.fill place cs.toArray ps=some cs'/\k cs'.toList:=by
 induction ps with
 | nil=>exact fun h=>⟨_,rfl,h⟩
 | cons p r ih =>
  obtain ⟨i,v⟩:=p
  intro cs k h
  simp only [Ql,Wd,SD] at h
  split at h
  .grind
  .rename_i pr hp
   obtain ⟨o,n⟩:=pr
   dsimp only at h
   obtain ⟨hb,h⟩:=PO h
   simp only [yq4,Nat.beq_eq,Nat.ble_eq] at hb
   obtain ⟨cs',h1,h2⟩:=ih h
   refine ⟨cs',?_,h2⟩
   have hs:v.cells.size=n:=by grind
   simp only [Instr.fill,hp]
   rw [if_neg (by grind)]
   rw [<-h1]
   congr 1
   have:=ab4 v.cells.toList o 0 cs.toArray
   simp only [Nat.add_zero] at this
   rw [<-this,<-Array.foldl_toList,Array.toList_zipIdx]
def OC (n:Nat) (z:ym):(ym->Prop)->Prop :=
 Nat.rec (motive:=fun _=>(ym->Prop)->Prop) (fun k=>k []) (fun _ ih k=>ih fun cs=>OK z cs k) n
theorem aa6 (n:Nat) (z:ym) (k:ym->Prop):OC (n+1) z k=OC n z fun cs=>OK z cs k:=rfl
theorem QV (n:Nat) (z:ym) (k:ym->Prop):OC n z k=k (List.replicate n z).flatten:=by
 induction n generalizing k with
 | zero=>rfl
 | succ n ih=>simp only [aa6,ih,Sc,List.replicate_succ,List.flatten_cons]
theorem aa7 (n:Nat) (z:Array Value):((Array.range (n * z.size)).map fun i=>z[i % z.size]!)=(List.replicate n z.toList).flatten.toArray:=by
 apply Array.ext'
 simp only [Array.toList_map,Array.toList_range]
 induction n with
 | zero=>simp
 | succ n ih =>
  rw [lib,List.range_add,lXa,ih,List.replicate_succ',List.flatten_append]
  congr 1
  simp only [List.flatten_cons,List.flatten_nil,List.append_nil,List.map_map]
  apply List.ext_getElem
  .simp
  .intro i h1 h2
   simp only [List.length_map,List.length_range] at h1
   simp only [List.getElem_map,List.getElem_range,Function.comp]
   rw [Nat.mul_comm,Nat.mul_add_mod,Nat.mod_eq_of_lt h1]
   simp [h1]
theorem aaX {t e:TypeId} {n sz:Nat} {z:Value} {ps:Array (Nat × Value)} (hu:P.underlying t=some (.slice e)) (hz:(P.info? e).map (fun i=>(i.size,i.zero))=some (sz,some z))
  (hsz:z.cells.size=sz) (hn:n * sz<=16777216)
  (h:OC n z.cells.toList fun zs=>PN (fun i=>some (i * sz,sz)) ps.toList zs fun cs=>K (.slice (some ⟨w.heap.size,0,none⟩) n n) (w.alloc (.cells cs.toArray e))) :
  Zb P (Instr.buildSlice t n ps) w K:=by
 rw [QV] at h
 cases hi:P.info? e with
 | none=>simp [hi] at hz
 | some i =>
  simp only [hi,Option.map_some,Option.some.injEq,Prod.mk.injEq] at hz
  obtain ⟨h1,h2⟩:=hz
  obtain ⟨cs,hf,k⟩:=aai _ h
  refine ⟨_,_,?_,k⟩
  have hb:¬(16777216<n * sz):=by omega
  by_cases h0:n * sz=0
  .have:(List.replicate n z.cells.toList).flatten=[]:=by
    apply lma
    simp [hsz,h0]
   rw [this] at hf
   have hr:Array.range 0=#[]:=rfl
   simp [Instr.buildSlice,hr,run_underlying hu,sizeOf,typeInfo,hi,h1,h0,hf,newRow]
  .have I1:=aa7 n z.cells
   rw [hsz] at I1
   simp [Instr.buildSlice,run_underlying hu,sizeOf,typeInfo,zeroValue,hi,h1,h0,h2,hb,hsz,I1,hf,newRow]
def RB (w:World) (b:Nat) (cs:ym) (e:TypeId):Prop:=w.heap[b]?=some (.cells cs.toArray e (0,0))
def At (w:World) (b o:Nat) (vs:ym):Prop:=∃cs e fz,w.heap[b]?=some (.cells cs e fz)/\∀i v,vs[i]?=some v->cs[o+i]?=some v
structure HD (w w':World) (cs:ym) (e:TypeId):Prop where
 Vs:RB w' w.heap.size cs e
 below:Below w.heap.size w w'
 size:w'.heap.size=w.heap.size+1
structure Ka (w w':World) (b:Nat):Prop where
 os:w'.os=w.os
 tape:w'.tape=w.tape
 output:w'.output=w.output
 size:w'.heap.size=w.heap.size
 block:∀k,k≠b->w'.heap[k]?=w.heap[k]?
theorem HD.mk' (w:World) (cs:ym) (e:TypeId):HD w (w.alloc (.cells cs.toArray e)) cs e :=
 ⟨heap_alloc_new w _,(Below.refl _ _).alloc (loa _) _,by simp⟩
theorem Ka.below {B:Nat} {w0 w w':World} {b:Nat} (h:Ka w w' b) (hb:Below B w0 w) (hB:B<=b):Below B w0 w' :=
 ⟨h.os.trans hb.os,h.tape.trans hb.tape,h.output.trans hb.output,by rw [h.size];exact hb.size,fun k hk=>(h.block k yQ).trans (hb.block k hk)⟩
theorem RB.at {w:World} {b:Nat} {cs:ym} {e:TypeId} (h:RB w b cs e):At w b 0 cs :=
 ⟨_,_,_,h,fun i v hi=>by simpa using hi⟩
theorem RB.lt {w:World} {b:Nat} {cs:ym} {e:TypeId} (h:RB w b cs e):b<w.heap.size:=(lxa.1 h).1
theorem At.lt {w:World} {b o:Nat} {vs:ym} (h:At w b o vs):b<w.heap.size:=by
 obtain ⟨_,_,_,h,_⟩:=h;exact (lxa.1 h).1
theorem RB.keep {w w':World} {b:Nat} {cs:ym} {e:TypeId} (h:RB w b cs e) (hk:w'.heap[b]?=w.heap[b]?):RB w' b cs e:=hk.trans h
theorem RB.below {B:Nat} {w w':World} {b:Nat} {cs:ym} {e:TypeId} (h:RB w b cs e) (hb:Below B w w') (hB:b<B):RB w' b cs e:=h.keep (hb.block b hB)
theorem At.keep {w w':World} {b o:Nat} {vs:ym} (h:At w b o vs) (hk:w'.heap[b]?=w.heap[b]?):At w' b o vs:=by
 obtain ⟨cs,e,fz,h1,h2⟩:=h;exact ⟨cs,e,fz,hk.trans h1,h2⟩
theorem At.below {B:Nat} {w w':World} {b o:Nat} {vs:ym} (h:At w b o vs) (hb:Below B w w') (hB:b<B):At w' b o vs:=h.keep (hb.block b hB)
theorem At.sub {w:World} {b o:Nat} {vs:ym} (h:At w b o vs) (i n:Nat):At w b (o+i) ((vs.drop i).take n):=by
 obtain ⟨cs,e,fz,h1,h2⟩:=h
 refine ⟨cs,e,fz,h1,fun j v hj=>?_⟩
 rw [lJa] at hj
 split at hj
 .grind
 .grind
theorem anA {t:TypeId} {v:Value} (h:SW v fun cs=>∀w',HD w w' cs t->K (.pointer (some ⟨w.heap.size,0,none⟩)) w'):Zb P (Instr.box t v) w K :=
 akl (by rw [Wd] at h ⊢;exact h _ (HD.mk' _ _ _))
theorem aif {t:TypeId} {z:Value} (hz:(P.info? t).bind (fun i=>i.zero)=some z) (h:SW z fun cs=>∀w',HD w w' cs t->K (.pointer (some ⟨w.heap.size,0,none⟩)) w') :
  Zb P (Instr.alloc t true (.tuple #[])) w K :=
 afW hz (by rw [Wd] at h ⊢;exact h _ (HD.mk' _ _ _))
theorem aaz {place:Nat->Option (Nat × Nat)} (ps:List (Nat × Value)):∀{cs:ym} {k k':ym->Prop},PN place ps cs k->(∀cs,k cs->k' cs)->PN place ps cs k':=by
 induction ps with
 | nil=>exact fun h hk=>hk _ h
 | cons p r ih =>
  obtain ⟨i,v⟩:=p
  intro cs k k' h hk
  simp only [Ql,Wd,SD] at h ⊢
  split at h
  .omega
  .rename_i pr hp
   obtain ⟨o,n⟩:=pr
   dsimp only at h ⊢
   obtain ⟨hb,h⟩:=PO h
   rw [hb];exact ih h hk
theorem aaj {t e:TypeId} {n sz:Nat} {z:Value} {ps:Array (Nat × Value)} (hu:P.underlying t=some (.slice e)) (hz:(P.info? e).map (fun i=>(i.size,i.zero))=some (sz,some z))
  (hsz:z.cells.size=sz) (hn:n * sz<=16777216)
  (h:OC n z.cells.toList fun zs=>PN (fun i=>some (i * sz,sz)) ps.toList zs fun cs=>∀w',HD w w' cs e->K (.slice (some ⟨w.heap.size,0,none⟩) n n) w') :
  Zb P (Instr.buildSlice t n ps) w K :=
 aaX hu hz hsz hn (by rw [QV] at h ⊢;exact aaz _ h fun cs h=>h _ (HD.mk' _ _ _))
def Nj:TypeDesc->Bool
 | .struct _|.array _ _=>true
 | _=>false
theorem UA {t:TypeId} {d:TypeDesc} (hu:P.underlying t=some d):(isAgg t).run P w=.ok (Nj d) w:=by
 unfold isAgg
 rw [Sem.run_bind,run_underlying hu w]
 cases d <;> rfl
theorem At.cell {w:World} {b o:Nat} {vs:ym} (h:At w b o vs) {i:Nat} {v:Value} (hi:vs[i]?=some v):w.cell? ⟨b,o+i,none⟩=some v:=by
 obtain ⟨cs,e,fz,h1,h2⟩:=h
 rw [cell_of_row w b (o+i) cs e fz h1];exact h2 i v hi
theorem aih {t:TypeId} {d:TypeDesc} {b o:Nat} {v:Value} (hc:w.cell? ⟨b,o,none⟩=some v) (hu:P.underlying t=some d) (hd:Nj d=false) (k:K v w) :
  Zb P (Instr.loadAt t (.pointer (some ⟨b,o,none⟩))) w K:=by
 refine ⟨v,w,?_,k⟩
 simp [Instr.loadAt,Instr.sureAddr,loadVar,UA hu,hd,hc]
theorem akm {t:TypeId} {d:TypeDesc} {b o:Nat} {vs:ym} (h:At w b o vs) (i:Nat) (hu:P.underlying t=some d) (hd:Nj d=false) (k:JZ vs i fun v=>K v w) :
  Zb P (Instr.loadAt t (.pointer (some ⟨b,o+i,none⟩))) w K:=by
 obtain ⟨v,hv,k⟩:=PS k
 exact aih (h.cell hv) hu hd k
theorem afX {t:TypeId} {d:TypeDesc} {b o:Nat} {vs:ym} (h:At w b o vs) (hu:P.underlying t=some d) (hd:Nj d=true) (hs:(P.info? t).map (·.size)=some vs.length) (k:K (.agg vs.toArray) w) :
  Zb P (Instr.loadAt t (.pointer (some ⟨b,o,none⟩))) w K:=by
 refine ⟨_,w,?_,k⟩
 cases hi:P.info? t with
 | none=>simp [hi] at hs
 | some i =>
  have hl:i.size=vs.length:=by grind
  have:=run_loadCells_list (P:=P) w ⟨b,o,none⟩ vs (fun j v hv=>by rw [Addr.add_lit];exact h.cell hv)
  simp [Instr.loadAt,Instr.sureAddr,loadVar,UA hu,hd,sizeOf,typeInfo,hi,hl,this]
def Ni (l:ym):Nat->(ym->Prop)->Prop :=
 List.rec (motive:=fun _=>Nat->(ym->Prop)->Prop) (fun _ k=>k []) (fun x r ih n k=>Nat.rec (motive:=fun _=>Prop) (k (x::r)) (fun m _=>ih m k) n) l
theorem ab5 (x:Value) (r:ym) (n:Nat) (k:ym->Prop):Ni (x::r) (n+1) k=Ni r n k:=rfl
def LU (l:ym):Nat->(ym->Prop)->Prop :=
 List.rec (motive:=fun _=>Nat->(ym->Prop)->Prop) (fun n k=>Nat.rec (motive:=fun _=>Prop) (k []) (fun _ _=>False) n) (fun x _ ih n k=>Nat.rec (motive:=fun _=>Prop) (k []) (fun m _=>ih m fun l=>k (x::l)) n) l
theorem Ru (l:ym) (n:Nat) (k:ym->Prop):Ni l n k=k (l.drop n):=by
 induction l generalizing n with
 | nil=>cases n <;> rfl
 | cons x r ih=>cases n with
  | zero=>rfl
  | succ n=>simp [ab5,ih]
theorem PM {l:ym} {n:Nat} {k:ym->Prop} (h:LU l n k):n<=l.length/\k (l.take n):=by
 induction l generalizing n k with
 | nil=>cases n with
  | zero=>exact ⟨loa _,h⟩
  | succ n=>exact h.elim
 | cons x r ih=>cases n with
  | zero=>exact ⟨lHa _,h⟩
  | succ n=>obtain ⟨h1,h2⟩:=ih (n:=n) h;exact ⟨by simp;omega,by simpa using h2⟩
theorem aii {t:TypeId} {d:TypeDesc} {b o:Nat} {vs:ym} (h:At w b o vs) (i:Nat) (hu:P.underlying t=some d) (hd:Nj d=true)
  (k:Ni vs i fun r=>LU r (P.cellsOf t) fun us=>K (.agg us.toArray) w) :
  Zb P (Instr.loadAt t (.pointer (some ⟨b,o+i,none⟩))) w K:=by
 rw [Ru] at k
 obtain ⟨h1,h2⟩:=PM k
 refine afX (h.sub i (P.cellsOf t)) hu hd ?_ h2
 cases hi:P.info? t with
 | none=>simp [Program.underlying,hi] at hu
 | some j=>simp [Program.cellsOf,hi] at h1 ⊢;omega
theorem afY {t:TypeId} {e:TypeId} {b o:Nat} {cs:ym} {v:Value} {K:World->Prop} (hb:RB w b cs e) (ho:o<cs.length) (hs:(P.info? t).map (·.size)=some 1) (hv:v.oneCell'=true)
  (k:Ib cs o v fun cs'=>∀w',Ka w w' b->RB w' b cs' e->K w'):Ia P (Instr.storeAt t (.pointer (some ⟨b,o,none⟩)) v) w K:=by
 rw [S6] at k
 cases hi:P.info? t with
 | none=>simp [hi] at hs
 | some i =>
  have hl:i.size=1:=by grind
  have hvc:v.cells=#[v]:=by cases v <;> first|rfl|(simp [Value.oneCell'] at hv)
  have hc:w.cell? ⟨b,o,none⟩=some cs[o]:=by
   rw [cell_of_row w b o _ e (0,0) hb];simp [ho]
  have hf:w.frozen? ⟨b,o,none⟩=false:=frozen_of_row w b o _ e hb
  have hw:Ka w (w.setCell ⟨b,o,none⟩ v) b:=⟨rfl,rfl,rfl,by simp,fun k hk=>heap_setCell_other w _ k v hk⟩
  have Fj:RB (w.setCell ⟨b,o,none⟩ v) b (cs.set o v) e:=by
   unfold RB
   rw [heap_setCell_same w b o _ e v hb];simp
  refine ⟨_,?_,k _ hw Fj⟩
  have hst:(store ⟨b,o,none⟩ v).run P w=.ok () (w.setCell ⟨b,o,none⟩ v):=by
   cases v <;> first|(simp [Value.oneCell'] at hv;done)|simp [store,Sem.run,hc,hf]
  simp [Instr.storeAt,Instr.sureAddr,storeVar,sizeOf,typeInfo,hi,hl,hvc,storeCells,Addr.add_zero',hst]
theorem acB {t:TypeId} {e:TypeId} {b o:Nat} {cs:ym} {v:Value} {K:World->Prop} (hb:RB w b cs e) (ho:o<cs.length) (hs:(P.info? t).map (·.size)=some 1) (hv:v.oneCell'=true)
  (k:∀w',Ka w w' b->RB w' b (cs.set o v) e->K w'):Ia P (Instr.storeAt t (.pointer (some ⟨b,o,none⟩)) v) w K :=
 afY hb ho hs hv (by rw [S6];exact k)
theorem anB {t e:TypeId} {b o len cap:Nat} {ki:IntKind} {i:Int} (sz j p:Nat) (hj:i=j) (hl:j<len) (hp:o+j * sz=p) (ht:P.underlying t=some (.slice e)) (hs:(P.info? e).map (fun i=>i.size)=some sz)
  (k:K (.pointer (some ⟨b,p,none⟩)) w):Zb P (Instr.indexAt t (.slice (some ⟨b,o,none⟩) len cap) (.int ki i)) w K:=by
 subst hj;subst hp
 refine ⟨_,w,?_,k⟩
 cases hi':P.info? e with
 | none=>simp [hi'] at hs
 | some i' =>
  simp only [hi',Option.map_some,Option.some.injEq] at hs
  simp [Instr.indexAt,asIntOf,run_underlying ht,sizeOf,typeInfo,hi',hs,Addr.add_lit,hl]
theorem Ka.trans {w w' w'':World} {b:Nat} (h:Ka w w' b) (k:Ka w' w'' b):Ka w w'' b :=
 ⟨k.os.trans h.os,k.tape.trans h.tape,k.output.trans h.output,k.size.trans h.size,fun i hi=>(k.block i hi).trans (h.block i hi)⟩
theorem Ka.refl (w:World) (b:Nat):Ka w w b:=⟨rfl,rfl,rfl,rfl,fun _ _=>rfl⟩
def DF (l:List Field):Nat->(TypeId->Nat->Prop)->Prop :=
 List.rec (motive:=fun _=>Nat->(TypeId->Nat->Prop)->Prop) (fun _ _=>False) (fun f _ ih n k=>Nat.rec (motive:=fun _=>Prop) (match f with
  | ⟨_,ty,off,_,_,_,_⟩=>k ty off) (fun m _=>ih m k) n) l
theorem acC {l:List Field} {i:Nat} {k:TypeId->Nat->Prop} (h:DF l i k):∃f,l[i]?=some f/\k f.type f.offset:=by
 induction l generalizing i with
 | nil=>exact h.elim
 | cons f r ih=>cases i with
  | zero=>exact ⟨f,rfl,h⟩
  | succ i=>simpa using ih (i:=i) h
theorem Z9 {s:TypeId} {fs:Array Field} {i b o:Nat} (hu:P.underlying s=some (.struct fs)) (h:DF fs.toList i fun ty off=>JY (Nat.ble 1 (P.cellsOf ty)) (K (.pointer (some ⟨b,o+off,none⟩)) w)) :
  Zb P (Instr.fieldAt s (.pointer (some ⟨b,o,none⟩)) i) w K:=by
 obtain ⟨f,hf,h⟩:=acC h
 obtain ⟨h1,h2⟩:=PO h
 refine ⟨_,w,?_,h2⟩
 simp only [Array.getElem?_toList] at hf
 have h1:1<=P.cellsOf f.type:=by simpa using h1
 cases hi:P.info? f.type with
 | none=>simp [Program.cellsOf,hi] at h1
 | some j =>
  have:j.size≠0:=by grind [Program.cellsOf]
  simp [Instr.fieldAt,run_underlying hu,hf,Instr.sureAddr,fieldPlace,sizeOf,typeInfo,hi,this,Addr.add_lit]
def PL (P:Program) (ty:TypeId) (cs:ym) (off:Nat) (k:Value->Prop):Prop :=
 match P.underlying ty with
 | some d=>match Nj d with
  | true=>Ni cs off fun r=>LU r (P.cellsOf ty) fun vs=>k (.agg vs.toArray)
  | false=>JZ cs off k
 | none=>False
theorem aa8 {ty:TypeId} {cs:ym} {off:Nat} {k:Value->Prop} (h:PL P ty cs off k):∃v,(part ty cs.toArray off).run P w=.ok v w/\k v:=by
 unfold PL at h
 split at h
 .rename_i d hu
  split at h
  .rename_i hd
   rw [Ru] at h
   obtain ⟨h1,h2⟩:=PM h
   refine ⟨_,?_,h2⟩
   cases hi:P.info? ty with
   | none=>simp [Program.underlying,hi] at hu
   | some i =>
    simp [part,UA hu,hd,sizeOf,typeInfo,hi,Program.cellsOf]
  .rename_i hd
   obtain ⟨v,hv,h⟩:=PS h
   exact ⟨v,by simp [part,UA hu,hd,hv],h⟩
 .grind
theorem Lf {s:TypeId} {fs:Array Field} {i:Nat} {cs:Array Value} (hu:P.underlying s=some (.struct fs)) (h:DF fs.toList i fun ty off=>PL P ty cs.toList off fun v=>K v w) :
  Zb P (Instr.field s (.agg cs) i) w K:=by
 obtain ⟨f,hf,h⟩:=acC h
 obtain ⟨v,hv,h⟩:=aa8 (w:=w) h
 refine ⟨v,w,?_,h⟩
 simp only [Array.getElem?_toList] at hf
 simp only [Array.toArray_toList] at hv
 simp [Instr.field,run_underlying hu,hf,asAgg,hv]
def NL (P:Program) (l:List Field):(List (Nat × Nat)->Prop)->Prop :=
 List.rec (motive:=fun _=>(List (Nat × Nat)->Prop)->Prop) (fun k=>k []) (fun f _ ih k=>match f with
  | ⟨_,ty,off,_,_,_,_⟩=>ih fun l=>k ((off,P.cellsOf ty)::l)) l
theorem aaY (f:Field) (r:List Field) (k:List (Nat × Nat)->Prop):NL P (f::r) k=NL P r fun l=>k ((f.offset,P.cellsOf f.type)::l):=by cases f;rfl
theorem ab6 (l:List Field) (k:List (Nat × Nat)->Prop):NL P l k=k (l.map fun f=>(f.offset,P.cellsOf f.type)):=by
 induction l generalizing k with
 | nil=>rfl
 | cons f r ih=>simp [aaY,ih]
theorem aa9 {α β:Type} {g:α->Sem β} {h:α->β}:∀(l:List α),(∀a,a∈l->(g a).run P w=.ok (h a) w)->(l.mapM g).run P w=.ok (l.map h) w
 | [],_=>by simp
 | a::r,hl=>by
  rw [List.mapM_cons]
  simp only [Sem.run_bind,hl a (List.mem_cons_self ..),Result.andThen_ok,aa9 r fun b hb=>hl b (List.mem_cons_of_mem _ hb),Sem.run_pure,List.map_cons]
theorem ab7 {t:TypeId} (h:(P.info? t).isSome=true):(sizeOf t).run P w=.ok (P.cellsOf t) w:=by
 obtain ⟨j,hj⟩:=Option.isSome_iff_exists.1 h
 simp [sizeOf,typeInfo,hj,Program.cellsOf]
theorem Zs {t:TypeId} {fs:Array Field} {z:Value} {ps:Array (Nat × Value)} (hu:P.underlying t=some (.struct fs)) (hz:(P.info? t).bind (fun i=>i.zero)=some z)
  (hf:fs.toList.all (fun f=>(P.info? f.type).isSome)=true)
  (h:NL P fs.toList fun pl=>SW z fun zs=>PN (fun i=>pl[i]?) ps.toList zs fun cs=>K (.agg cs.toArray) w):Zb P (Instr.build t ps) w K:=by
 rw [ab6,Wd] at h
 obtain ⟨cs,h1,h2⟩:=aai _ h
 refine ⟨_,w,?_,h2⟩
 cases hi:P.info? t with
 | none=>simp [hi] at hz
 | some i =>
  simp only [hi,Option.bind_some] at hz
  have hm:(fs.mapM (m:=Sem) fun f=>do pure (f.offset,<-sizeOf f.type)).run P w=.ok (fs.toList.map fun f=>(f.offset,P.cellsOf f.type)).toArray w:=by
   rw [Array.mapM_eq_mapM_toList]
   rw [Sem.run_map,aa9 (h:=fun f=>(f.offset,P.cellsOf f.type)) _ (fun f hm=>?_)]
   .rfl
   .grind [Sem.run_bind,ab7,Result.andThen_ok,Sem.run_pure]
  have hzv:(zeroValue t).run P w=.ok z w:=by simp [zeroValue,typeInfo,hi,hz]
  simp only [Array.toArray_toList] at h1
  unfold Instr.build
  simp only [Sem.run_bind,hzv,Result.andThen_ok,run_underlying hu,hm,List.getElem?_toArray,h1,Sem.run_pure,Array.toArray_toList]
end YY
namespace YY
open Go Go.RowKit
variable {P:Program} {w:World} {K:Value->World->Prop}
theorem ad3 {lo:Nat} {w w':World} {e:TypeId} {sz:Nat} {v:Value} {n:Nat} {xs:ym} (h:w.ownsRow lo e sz v n xs) (hb:∀k,v.ownBlock=some k->w'.heap[k]?=w.heap[k]?):w'.ownsRow lo e sz v n xs:=by
 refine ⟨h.1,?_⟩
 rcases h.2 with hn|⟨g,cap,cur,rfl,AV,hgg,rest⟩
 .grind
 .refine .inr ⟨g,cap,cur,rfl,AV,?_,rest⟩
  rw [hb g rfl];exact hgg
theorem ad4 {lo lo':Nat} {w:World} {e:TypeId} {sz:Nat} {v:Value} {n:Nat} {xs:ym} (h:w.ownsRow lo e sz v n xs) (hl:lo'<=lo):w.ownsRow lo' e sz v n xs:=by
 refine ⟨h.1,?_⟩
 rcases h.2 with hn|⟨g,cap,cur,rfl,AV,rest⟩
 .grind
 .exact .inr ⟨g,cap,cur,rfl,lEa hl AV,rest⟩
theorem HD.own {w w':World} {cs:ym} {e:TypeId} (h:HD w w' cs e) (n sz:Nat) (hn:cs.length=n * sz) (hm:n<=140737488355328):w'.ownsRow w.heap.size e sz (.slice (some ⟨w.heap.size,0,none⟩) n n) n cs :=
 ⟨hn,.inr ⟨w.heap.size,n,cs.toArray,rfl,loa _,h.Vs,loa _,by simp [maxLen];omega,by simpa using hn,lua (by simp [hn])⟩⟩
abbrev Hv:=Nat->Obj->Prop
def Rg (w:World) (lo hi:Nat):Hv:=fun b o=>lo<=b/\b<hi/\w.heap[b]?=some o
def JX (H H':Hv):Prop:=∀b o,H b o->H' b o
theorem JX.refl (H:Hv):JX H H:=fun _ _ h=>h
theorem Rg.mono {w w':World} {lo hi lo' hi':Nat} (hlo:lo'<=lo) (hhi:hi<=hi') (hs:∀b,lo<=b->b<hi->w'.heap[b]?=w.heap[b]?):JX (Rg w lo hi) (Rg w' lo' hi') :=
 fun b o ⟨h1,h2,h3⟩=>⟨lEa hlo h1,Nat.lt_of_lt_of_le h2 hhi,(hs b h1 h2).trans h3⟩
theorem Rg.below {w w':World} {lo hi B:Nat} (hb:Below B w w') (h:hi<=B):JX (Rg w lo hi) (Rg w' lo hi):=Rg.mono (loa _) (loa _) fun b _ h2=>hb.block b (Nat.lt_of_lt_of_le h2 h)
def D7 (H:Hv) (b o:Nat) (vs:ym):Prop:=∃cs e fz,H b (.cells cs e fz)/\∀i v,vs[i]?=some v->cs[o+i]?=some v
theorem D7.at {w:World} {lo hi b o:Nat} {vs:ym} (h:D7 (Rg w lo hi) b o vs):At w b o vs:=by
 obtain ⟨cs,e,fz,⟨_,_,h1⟩,h2⟩:=h;exact ⟨cs,e,fz,h1,h2⟩
theorem D7.mono {H H':Hv} {b o:Nat} {vs:ym} (h:D7 H b o vs) (hh:JX H H'):D7 H' b o vs:=by
 obtain ⟨cs,e,fz,h1,h2⟩:=h;exact ⟨cs,e,fz,hh _ _ h1,h2⟩
section
variable {α:Type}
def Fh (R:Hv->ym->α->Prop) (sz:Nat) (H:Hv) (cells:ym) (xs:List α):Prop :=
 cells.length=xs.length * sz/\∀i x,xs[i]?=some x->R H ((cells.drop (i * sz)).take sz) x
def Wu (R:Hv->ym->α->Prop) (sz:Nat) (H:Hv) (v:Value) (xs:List α):Prop :=
 ∃a cap,v=.slice a xs.length cap/\(xs.length<=cap/\cap<=9223372036854775807)/\(a=none->xs=[]/\cap=0) /\
  (xs≠[]->∃b o news,a=some ⟨b,o,none⟩/\D7 H b o news/\Fh R sz H news xs)
def DE (R:Hv->ym->α->Prop):Prop:=∀H H' vs x,JX H H'->R H vs x->R H' vs x
theorem Fh.mono {R:Hv->ym->α->Prop} {sz:Nat} {H H':Hv} {cells:ym} {xs:List α} (hR:DE R) (h:Fh R sz H cells xs) (hh:JX H H'):Fh R sz H' cells xs :=
 ⟨h.1,fun i x hx=>hR _ _ _ _ hh (h.2 i x hx)⟩
theorem Wu.mono {R:Hv->ym->α->Prop} {sz:Nat} {H H':Hv} {v:Value} {xs:List α} (hR:DE R) (h:Wu R sz H v xs) (hh:JX H H'):Wu R sz H' v xs:=by
 obtain ⟨a,cap,h1,h2,h3,h4⟩:=h
 exact ⟨a,cap,h1,h2,h3,fun hx=>let ⟨b,o,news,e,k1,k2⟩:=h4 hx;⟨b,o,news,e,k1.mono hh,k2.mono hR hh⟩⟩
theorem Wu.len {R:Hv->ym->α->Prop} {sz:Nat} {H:Hv} {v:Value} {xs:List α} (h:Wu R sz H v xs):xs.length<=9223372036854775807:=by
 obtain ⟨a,cap,h1,h2,h3,h4⟩:=h;omega
theorem Wu.nil (R:Hv->ym->α->Prop) (sz:Nat) (H:Hv):Wu R sz H (.slice none 0 0) [] :=
 ⟨none,0,rfl,by simp,fun _=>⟨rfl,rfl⟩,fun h=>absurd rfl h⟩
theorem akn {R:Hv->ym->α->Prop} {sz:Nat} {H:Hv} {t ty e:TypeId} {v:Value} {xs:List α} (h:Wu R sz H v xs) (ht:P.underlying t=some (.slice e)) (k:K (.int .i64 xs.length) w) :
  Zb P (Builtin.len_ #[t] ty #[v]) w K:=by
 obtain ⟨a,cap,rfl,h2,h3,h4⟩:=h
 exact Vj ht k
end
end YY
namespace YY
open Go
theorem afZ (k:IntKind) (x:Int) (n:Nat) (hn:n<=k.bits):W0 k x n=x / 2 ^ n:=by grind [W0]
theorem Rt (n:Nat) (x:Int):((BitVec.ofInt n x).toNat:Int)=x % 2 ^ n:=by
 rw [BitVec.toNat_ofInt]
 have h:0<=x % ((2 ^ n:Nat):Int):=Int.emod_nonneg _ (by exact_mod_cast Nat.ne_of_gt (Nat.two_pow_pos n))
 rw [Int.toNat_of_nonneg h]
 norm_cast
theorem aaA (k:IntKind) (x:Int) (n:Nat) (hn:n<k.bits):Tl k x (2 ^ n-1)=x % 2 ^ n:=by
 unfold Tl
 have h1:(BitVec.ofInt k.bits (2 ^ n-1)).toNat=2 ^ n-1:=by
  have h2:=Rt k.bits (2 ^ n-1)
  have h3:((2:Int) ^ n-1) % 2 ^ k.bits=2 ^ n-1:=by
   have a:(0:Int)<2 ^ n:=by exact_mod_cast Nat.two_pow_pos n
   have b:(2:Int) ^ n<=2 ^ k.bits:=by exact_mod_cast lRa (by decide) (lab0 hn)
   exact Int.emod_eq_of_lt yQ yQ
  rw [h3] at h2
  have h4:((2 ^ n-1:Nat):Int)=2 ^ n-1:=by
   rw [Int.ofNat_sub (Nat.one_le_two_pow)];norm_cast
  omega
 rw [BitVec.toNat_and,h1,Nat.and_two_pow_sub_one_eq_mod]
 have h5:(((BitVec.ofInt k.bits x).toNat % 2 ^ n:Nat):Int)=x % 2 ^ n:=by
  rw [Int.natCast_emod,Rt]
  have:((2 ^ n:Nat):Int)=2 ^ n:=by norm_cast
  rw [this]
  exact Int.emod_emod_of_dvd x (by exact_mod_cast Nat.pow_dvd_pow 2 (lab0 hn))
 rw [h5]
 have a:(0:Int)<2 ^ n:=by exact_mod_cast Nat.two_pow_pos n
 have h6:=Int.emod_nonneg x (Int.ne_of_gt a)
 have h7:=Int.emod_lt_of_pos x a
 have h8:(2:Int) ^ n<=2 ^ (k.bits-1):=by exact_mod_cast lRa (by decide) yQ
 have h9:=Uq (k:=k) (n:=x % 2 ^ n) (by
   unfold IntKind.min;split
   .have:(0:Int)<2 ^ (k.bits-1):=by exact_mod_cast Nat.two_pow_pos _
    omega
   .exact h6) (by
   unfold IntKind.max
   have:(2:Int) ^ (k.bits-1)<=2 ^ k.bits:=by exact_mod_cast lRa (by decide) yQ
   split <;> omega)
 unfold ZM at h9
 exact h9
theorem af0 (k:IntKind) (a b:Nat) (n:Nat) (ha:a<2 ^ n) (hb:2 ^ n ∣ b) (hk:(a:Int)+b<=k.max):Rx k a b=a+b:=by
 unfold Rx
 have anC:k.max<2 ^ k.bits:=by cases k <;> decide
 have ea:(BitVec.ofInt k.bits (a:Int)).toNat=a:=by grind
 have eb:(BitVec.ofInt k.bits (b:Int)).toNat=b:=by grind
 obtain ⟨c,rfl⟩:=hb
 rw [BitVec.toNat_or,ea,eb,Nat.or_comm,<-Nat.two_pow_add_eq_or_of_lt ha]
 have:=Uq (k:=k) (n:=((2 ^ n * c+a:Nat):Int)) (by
  have:k.min<=0:=by cases k <;> decide
  omega) yQ
 unfold ZM at this
 rw [this]
 omega
theorem af1 (k:IntKind) (x:Int) (n:Nat) (hn:n<=k.bits):Wb k x n=ZM k (x * 2 ^ n):=by grind [Wb,ZM]
theorem Le (k:IntKind) (x:Int):Tl k x 127=x % 128:=aaA k x 7 (by cases k <;> decide)
theorem Xx (k:IntKind) (n:Int):k.min<=ZM k n/\ZM k n<=k.max:=by
 unfold ZM
 cases k <;> simp [IntKind.wrap,IntKind.min,IntKind.max,IntKind.bits,IntKind.signed] <;> omega
end YY
namespace X7
open Go YY
def W4 (n:Nat):yo:=if h:n<128 then [UInt8.ofNat n] else UInt8.ofNat (n % 128+128)::W4 (n / 128)
termination_by n
decreasing_by omega
def UY (n:Int):yo:=if h:-64<=n/\n<64 then [UInt8.ofNat (n % 128).toNat] else UInt8.ofNat ((n % 128).toNat+128)::UY (n / 128)
termination_by n.natAbs
decreasing_by omega
theorem PJ {n:Nat} (h:n<128):W4 n=[UInt8.ofNat n]:=by rw [W4,dif_pos h]
theorem PI {n:Nat} (h:128<=n):W4 n=UInt8.ofNat (n % 128+128)::W4 (n / 128):=by rw [W4,dif_neg yQ]
theorem R9 {n:Int} (h:-64<=n/\n<64):UY n=[UInt8.ofNat (n % 128).toNat]:=by rw [UY,dif_pos h]
theorem Rs {n:Int} (h:¬(-64<=n/\n<64)):UY n=UInt8.ofNat ((n % 128).toNat+128)::UY (n / 128):=by rw [UY,dif_neg h]
theorem ad5 (n:Nat):0<(W4 n).length:=by grind [PJ,PI]
theorem ad6 (n:Int):0<(UY n).length:=by grind [R9,Rs]
theorem Nh (k:Nat):∀n,n<128 ^ (k+1)->(W4 n).length<=k+1:=by
 induction k with
 | zero=>intro n h;rw [PJ yQ];simp
 | succ k ih =>
  intro n h
  by_cases h1:n<128
  .grind
  .grind [PI,List.length_cons,Nat.pow_succ]
theorem Ng (k:Nat):∀n:Int,-(64 * 128 ^ k:Nat)<=n->n<(64 * 128 ^ k:Nat)->(UY n).length<=k+1:=by
 induction k with
 | zero=>intro n h h';rw [R9 yQ];simp
 | succ k ih =>
  intro n h h'
  by_cases h1:-64<=n/\n<64
  .grind
  .rw [Rs h1,lia0]
   have e:64 * 128 ^ (k+1)=128 * (64 * 128 ^ k):=by omega
   rw [e] at h h'
   have:=ih (n / 128) yQ yQ
   omega
theorem VQ {n:Nat} (h:n<256):(UInt8.ofNat n).toNat=n:=by grind [UInt8.toNat_ofNat']
def Jd (bits:Nat):yo->Nat->Nat->Nat × Nat × Nat
 | [],_,_=>(0,0,3)
 | c::r,i,acc =>
  if bits<7 * i+7/\c.toNat / 2 ^ (bits-7 * i)≠0 then (0,0,4)
  else if c.toNat<128 then (acc+c.toNat % 128 * 2 ^ (7 * i),i+1,0)
  else Jd bits r (i+1) (acc+c.toNat % 128 * 2 ^ (7 * i))
def Me (c:Nat):Int:=if c % 128<64 then (c % 128:Nat) else (c % 128:Nat)-128
def Fg (bits i c:Nat):Prop:=bits<7 * i+7/\(128<=c\/Me c < -((2 ^ (bits-7 * i-1):Nat):Int)\/((2 ^ (bits-7 * i-1):Nat):Int)<=Me c)
instance (bits i c:Nat):Decidable (Fg bits i c):=by unfold Fg;exact inferInstance
def Ld (bits:Nat):yo->Nat->Nat->Int × Nat × Nat
 | [],_,_=>(0,0,3)
 | c::r,i,acc =>
  if Fg bits i c.toNat then (0,0,4)
  else if c.toNat<128 then (acc+Me c.toNat * (2 ^ (7 * i):Nat),i+1,0)
  else Ld bits r (i+1) (acc+c.toNat % 128 * 2 ^ (7 * i))
theorem TP (i:Nat):2 ^ (7 * (i+1))=128 * 2 ^ (7 * i):=by grind
theorem ad7 (bits:Nat) (more:yo):∀(m i acc:Nat),7 * i<bits->m<2 ^ (bits-7 * i) ->
  Jd bits (W4 m++more) i acc=(acc+m * 2 ^ (7 * i),i+(W4 m).length,0):=by
 intro m
 induction m using Nat.strongRecOn with
 | _ m ih =>
  intro i acc hi hm
  by_cases h:m<128
  .rw [PJ h,List.singleton_append,Jd,VQ yQ,if_neg,if_pos h,Nat.mod_eq_of_lt h]
   .rfl
   .rintro ⟨_,h2⟩;exact h2 (Nat.div_eq_of_lt hm)
  .have h8:7 * i+8<=bits:=by
    rcases lya bits (7 * i+8) with hl|hl
    .have:(2:Nat) ^ (bits-7 * i)<=2 ^ 7:=lRa (by decide) yQ
     omega
    .omega
   rw [PI yQ,lGa,Jd,VQ yQ,if_neg yQ,if_neg yQ]
   have e1:(m % 128+128) % 128=m % 128:=by omega
   rw [e1,ih (m / 128) yQ (i+1) _ yQ]
   .rw [TP,lia0]
    have e2:m % 128 * 2 ^ (7 * i)+m / 128 * (128 * 2 ^ (7 * i))=m * 2 ^ (7 * i):=by
     rw [<-Nat.mul_assoc,<-lDb];congr 1;omega
    refine Prod.ext yQ (Prod.ext ?_ rfl)
    .grind
   .have e3:2 ^ (bits-7 * i)=128 * 2 ^ (bits-7 * (i+1)):=by
     have:bits-7 * i=7+(bits-7 * (i+1)):=by omega
     rw [this,Nat.pow_add]
    rw [e3] at hm
    omega
theorem af2 (bits:Nat):∀(m i acc j:Nat),7 * i<bits->m<2 ^ (bits-7 * i)->j<(W4 m).length->Jd bits ((W4 m).take j) i acc=(0,0,3):=by
 intro m
 induction m using Nat.strongRecOn with
 | _ m ih =>
  intro i acc j hi hm hj
  by_cases h:m<128
  .rw [PJ h] at hj ⊢
   have:j=0:=by grind
   subst this;rfl
  .have h8:7 * i+8<=bits:=by
    rcases lya bits (7 * i+8) with hl|hl
    .have:(2:Nat) ^ (bits-7 * i)<=2 ^ 7:=lRa (by decide) yQ
     omega
    .omega
   rw [PI yQ] at hj ⊢
   cases j with
   | zero=>rfl
   | succ j =>
    rw [List.take_succ_cons,Jd,VQ yQ,if_neg yQ,if_neg yQ]
    have e3:2 ^ (bits-7 * i)=128 * 2 ^ (bits-7 * (i+1)):=by
     have:bits-7 * i=7+(bits-7 * (i+1)):=by omega
     rw [this,Nat.pow_add]
    exact ih (m / 128) yQ (i+1) _ j yQ yQ (by grind)
theorem ado (bits:Nat):∀(s:yo) (i acc n k:Nat),acc<2 ^ (7 * i)->Jd bits s i acc=(n,k,0)->n<2 ^ (7 * k)/\i<k/\k<=i+s.length:=by
 intro s
 induction s with
 | nil=>intro i acc n k _ h;simp [Jd] at h
 | cons c r ih =>
  intro i acc n k ha h
  have hb:acc+c.toNat % 128 * 2 ^ (7 * i)<2 ^ (7 * (i+1)):=by
   rw [TP]
   have h2:(c.toNat % 128+1) * 2 ^ (7 * i)<=128 * 2 ^ (7 * i):=lBa _ yQ
   rw [lDb] at h2
   omega
  rw [Jd] at h
  split at h
  .grind
  .split at h
   .grind
   .obtain ⟨h1,h2,h3⟩:=ih (i+1) _ n k hb h
    exact ⟨h1,by omega,by simp;omega⟩
theorem ab8 {n k:Nat} (h:n<2 ^ (7 * k)) (hk:0<k):(W4 n).length<=k:=by
 obtain ⟨j,rfl⟩:∃j,k=j+1:=⟨k-1,by omega⟩
 exact Nh j n (by grind [Nat.pow_mul])
theorem ad8 (m:Int) (h:-64<=m/\m<64):Me (m % 128).toNat=m:=by grind [Me]
theorem aba (bits:Nat) (more:yo):∀(k:Nat) (m:Int) (i acc:Nat),m.natAbs<=k->7 * i<bits->-((2 ^ (bits-7 * i-1):Nat):Int)<=m->m<((2 ^ (bits-7 * i-1):Nat):Int) ->
  Ld bits (UY m++more) i acc=(acc+m * (2 ^ (7 * i):Nat),i+(UY m).length,0):=by
 intro k
 induction k with
 | zero =>
  intro m i acc hk hi h1 h2
  have:m=0:=by omega
  subst this
  rw [R9 yQ,List.singleton_append,Ld]
  have e:(UInt8.ofNat ((0:Int) % 128).toNat).toNat=0:=rfl
  have hp:=Nat.two_pow_pos (bits-7 * i-1)
  rw [e,if_neg (by unfold Fg;rw [show Me 0=0 from rfl];omega),if_pos yQ]
  simp [Me]
 | succ k ih =>
  intro m i acc hk hi h1 h2
  by_cases h:-64<=m/\m<64
  .rw [R9 h,List.singleton_append,Ld,VQ yQ,ad8 m h,if_neg,if_pos yQ]
   .rfl
   .rintro ⟨_,h'|h'⟩
    .omega
    .grind [ad8]
  .have h8:7 * i+7<bits:=by
    rcases lya (7 * i+7) bits with hl|hl
    .omega
    .have:(2:Nat) ^ (bits-7 * i-1)<=2 ^ 6:=lRa (by decide) yQ
     omega
   rw [Rs h,lGa,Ld,VQ yQ,if_neg (by rintro ⟨h,_⟩;omega),if_neg yQ]
   have e3:2 ^ (bits-7 * i-1)=128 * 2 ^ (bits-7 * (i+1)-1):=by
    have:bits-7 * i-1=7+(bits-7 * (i+1)-1):=by omega
    rw [this,Nat.pow_add]
   rw [e3] at h1 h2
   rw [ih (m / 128) (i+1) _ yQ yQ yQ yQ]
   have e1:((m % 128).toNat+128) % 128=(m % 128).toNat:=by omega
   rw [e1,TP,lia0]
   refine Prod.ext ?_ (Prod.ext ?_ rfl)
   .grind
   .grind
theorem acD (bits:Nat):∀(k:Nat) (m:Int) (i acc j:Nat),m.natAbs<=k->7 * i<bits->-((2 ^ (bits-7 * i-1):Nat):Int)<=m->m<((2 ^ (bits-7 * i-1):Nat):Int)->j<(UY m).length ->
  Ld bits ((UY m).take j) i acc=(0,0,3):=by
 intro k
 induction k with
 | zero =>
  intro m i acc j hk hi h1 h2 hj
  have:m=0:=by omega
  subst this
  rw [R9 yQ] at hj ⊢
  have:j=0:=by grind
  subst this;rfl
 | succ k ih =>
  intro m i acc j hk hi h1 h2 hj
  by_cases h:-64<=m/\m<64
  .rw [R9 h] at hj ⊢
   have:j=0:=by grind
   subst this;rfl
  .have h8:7 * i+7<bits:=by
    rcases lya (7 * i+7) bits with hl|hl
    .omega
    .have:(2:Nat) ^ (bits-7 * i-1)<=2 ^ 6:=lRa (by decide) yQ
     omega
   rw [Rs h] at hj ⊢
   cases j with
   | zero=>rfl
   | succ j =>
    have e3:2 ^ (bits-7 * i-1)=128 * 2 ^ (bits-7 * (i+1)-1):=by
     have:bits-7 * i-1=7+(bits-7 * (i+1)-1):=by omega
     rw [this,Nat.pow_add]
    rw [e3] at h1 h2
    rw [List.take_succ_cons,Ld,VQ yQ,if_neg (by rintro ⟨h,_⟩;omega),if_neg yQ]
    exact ih (m / 128) (i+1) _ j yQ yQ yQ yQ (by grind)
theorem adp (bits:Nat):∀(s:yo) (i acc:Nat) (n:Int) (k:Nat),acc<2 ^ (7 * i)->Ld bits s i acc=(n,k,0) ->
  -((64 * 2 ^ (7 * (k-1)):Nat):Int)<=n/\n<((64 * 2 ^ (7 * (k-1)):Nat):Int)/\i<k/\k<=i+s.length:=by
 intro s
 induction s with
 | nil=>intro i acc n k _ h;simp [Ld] at h
 | cons c r ih =>
  intro i acc n k ha h
  rw [Ld] at h
  split at h
  .grind
  .split at h
   .simp only [Prod.mk.injEq] at h
    obtain ⟨rfl,rfl,_⟩:=h
    have hs:-64<=Me c.toNat/\Me c.toNat<=63:=by grind [Me]
    rw [lxb]
    generalize 2 ^ (7 * i)=p at *
    have a1:-64 * (p:Int)<=Me c.toNat * p:=lPb hs.1 yQ
    have a2:Me c.toNat * (p:Int)<=63 * p:=lPb hs.2 yQ
    refine ⟨?_,?_,by omega,by simp⟩ <;> push_cast <;> omega
   .have hb:acc+c.toNat % 128 * 2 ^ (7 * i)<2 ^ (7 * (i+1)):=by
     rw [TP]
     have h2:(c.toNat % 128+1) * 2 ^ (7 * i)<=128 * 2 ^ (7 * i):=lBa _ yQ
     rw [lDb] at h2
     omega
    obtain ⟨h1,h2,h3,h4⟩:=ih (i+1) _ n k hb h
    exact ⟨h1,h2,by omega,by simp;omega⟩
theorem aij (bits:Nat):∀(s:yo) (i acc:Nat),7 * i<bits->bits=32\/bits=64->acc<2 ^ (7 * i)->(Jd bits s i acc).1<2 ^ bits:=by
 intro s
 induction s with
 | nil=>intro i acc _ _ _;exact Nat.two_pow_pos _
 | cons c r ih =>
  intro i acc hi hb ha
  rw [Jd]
  split
  .grind
  .rename_i hno
   have e:(2:Nat) ^ bits=2 ^ (bits-7 * i) * 2 ^ (7 * i):=by rw [<-Nat.pow_add];congr 1;omega
   have h1:c.toNat % 128<2 ^ (bits-7 * i):=by
    by_cases h:bits<7 * i+7
    .grind
    .have:(2:Nat) ^ 7<=2 ^ (bits-7 * i):=lRa (by decide) yQ
     omega
   have h2:(c.toNat % 128+1) * 2 ^ (7 * i)<=2 ^ (bits-7 * i) * 2 ^ (7 * i):=lBa _ h1
   split
   .grind
   .rename_i hc
    have h7:7 * (i+1)<bits:=by grind
    refine ih (i+1) _ h7 hb ?_
    rw [TP]
    have h2:(c.toNat % 128+1) * 2 ^ (7 * i)<=128 * 2 ^ (7 * i):=lBa _ yQ
    rw [lDb] at h2
    omega
theorem aik (bits:Nat):∀(s:yo) (i acc:Nat),7 * i<bits->bits=32\/bits=64->acc<2 ^ (7 * i) ->
  -((2 ^ (bits-1):Nat):Int)<=(Ld bits s i acc).1/\(Ld bits s i acc).1<((2 ^ (bits-1):Nat):Int):=by
 intro s
 have hz:=Nat.two_pow_pos (bits-1)
 induction s with
 | nil=>intro i acc _ _ _;exact ⟨by show _<=(0:Int);omega,by show (0:Int)<_;omega⟩
 | cons c r ih =>
  intro i acc hi hb ha
  rw [Ld]
  split
  .omega
  .rename_i hno
   have e:(2:Nat) ^ (bits-1)=2 ^ (bits-7 * i-1) * 2 ^ (7 * i):=by rw [<-Nat.pow_add];congr 1;omega
   have hs:-64<=Me c.toNat/\Me c.toNat<=63:=by grind [Me]
   split
   .have h1:-((2 ^ (bits-7 * i-1):Nat):Int)<=Me c.toNat/\Me c.toNat+1<=((2 ^ (bits-7 * i-1):Nat):Int):=by
     by_cases h:bits<7 * i+7
     .constructor
      .apply Decidable.byContradiction;intro hh;exact hno ⟨h,.inr (.inl yQ)⟩
      .apply Decidable.byContradiction;intro hh;exact hno ⟨h,.inr (.inr yQ)⟩
     .have:(2:Nat) ^ 6<=2 ^ (bits-7 * i-1):=lRa (by decide) yQ
      omega
    rw [e]
    generalize 2 ^ (bits-7 * i-1)=M at *
    generalize 2 ^ (7 * i)=p at *
    have a1:-(M:Int) * p<=Me c.toNat * p:=lPb h1.1 yQ
    have a2:(Me c.toNat+1) * p<=(M:Int) * p:=lPb h1.2 yQ
    rw [Int.neg_mul] at a1
    rw [Int.add_mul,Int.one_mul] at a2
    rw [Int.natCast_mul]
    show _<=(acc:Int)+Me c.toNat * p/\(acc:Int)+Me c.toNat * p<_
    omega
   .rename_i hc
    have h7:7 * (i+1)<bits:=by
     by_cases h:bits<7 * i+7
     .exact absurd ⟨h,.inl yQ⟩ hno
     .omega
    refine ih (i+1) _ h7 hb ?_
    rw [TP]
    have h2:(c.toNat % 128+1) * 2 ^ (7 * i)<=128 * 2 ^ (7 * i):=lBa _ yQ
    rw [lDb] at h2
    omega
theorem ab9 {n:Int} {k:Nat} (h1:-((64 * 2 ^ (7 * (k-1)):Nat):Int)<=n) (h2:n<((64 * 2 ^ (7 * (k-1)):Nat):Int)) (hk:0<k):(UY n).length<=k:=by
 obtain ⟨j,rfl⟩:∃j,k=j+1:=⟨k-1,by omega⟩
 rw [lxb,Nat.pow_mul] at h1 h2
 exact Ng j n h1 h2
theorem ako (m:Int) (more:yo) (h:-9223372036854775808<=m/\m<=9223372036854775807):Ld 64 (UY m++more) 0 0=(m,(UY m).length,0):=by
 have h1:=aba 64 more m.natAbs m 0 0 (loa _) (by decide) yQ yQ
 rw [h1];simp
theorem akp (m:Int) (more:yo) (h:-2147483648<=m/\m<=2147483647):Ld 32 (UY m++more) 0 0=(m,(UY m).length,0):=by
 have h1:=aba 32 more m.natAbs m 0 0 (loa _) (by decide) yQ yQ
 rw [h1];simp
theorem akq (m:Nat) (more:yo) (h:m<2 ^ 32):Jd 32 (W4 m++more) 0 0=(m,(W4 m).length,0):=by
 have h1:=ad7 32 more m 0 0 (by decide) yQ
 rw [h1];simp
end X7
namespace YY
open Go Go.RowKit
def Still (w w':World):Prop:=∃d,w'={ w with drawn:=d }
theorem Still.refl (w:World):Still w w:=⟨w.drawn,rfl⟩
theorem Still.trans {a b c:World} (h:Still a b) (k:Still b c):Still a c:=by
 obtain ⟨d,rfl⟩:=h;obtain ⟨e,rfl⟩:=k;exact ⟨e,rfl⟩
theorem Still.drew (w:World):Still w w.drew:=⟨w.drawn+1,rfl⟩
theorem Still.heap {w w':World} (h:Still w w'):w'.heap=w.heap:=by obtain ⟨d,rfl⟩:=h;rfl
theorem Still.below {w w':World} (h:Still w w') (B:Nat):Below B w w':=by obtain ⟨d,rfl⟩:=h;exact ⟨rfl,rfl,rfl,loa _,fun _ _=>rfl⟩
inductive NU (P:Program) (S:World->Prop) (m:Sem Value) (K:Value->Prop):Prop
 | mk (v:Value) (h:∀w,S w->m.run P w=.ok v w) (k:K v)
theorem NU.of {P:Program} {S:World->Prop} {m:Sem Value} {K:Value->Prop} (v:Value) (h:∀w,S w->Zb P m w (fun u w'=>v=u/\w=w')) (k:K v):NU P S m K :=
 ⟨v,fun w hS=>(by obtain ⟨u,w',hm,rfl,rfl⟩:=h w hS;exact hm),k⟩
theorem tk {P:Program} {S:World->Prop} {m:Sem Value} {K:Value->Prop} {v:Value} (h:∀w,S w->Zb P m w (fun u w'=>v=u/\w=w')) (k:K v):NU P S m K:=NU.of v h k
def DD (P:Program) (S:World->Prop) (op:BinOp) (t:TypeId) (x y:Operand) (a b:Value) (K:Value->Prop):Prop :=
 match a with
 | .int k a=>match b with
  | .int k' b=>match op with
   | .shl=>Yy b (WQ (Wb k a b) fun n=>K (.int k n))
   | .shr=>Yy b (WQ (W0 k a b) fun n=>K (.int k n))
   | op=>match AW k k' with
    | true=>Sd op k a b K
    | false=>False
  | b=>NU P S (do eqGuard op t x y (.int k a) b;binOp op t (.int k a) b) K
 | a=>NU P S (do eqGuard op t x y a b;binOp op t a b) K
def unT (P:Program) (S:World->Prop) (op:UnOp) (a:Value) (K:Value->Prop):Prop :=
 match op with
 | .not=>match a with
  | .bool b=>K (.bool (!b))
  | _=>False
 | .neg=>match a with
  | .int k n=>WQ (ZM k (0-n)) fun m=>K (.int k m)
  | _=>False
 | op=>NU P S (Op.unary op a) K
def akr (v:Value) (K:Value->Prop):Prop :=
 match v with
 | .pointer p=>match p with
  | some a=>K (.pointer (some a))
  | none=>False
 | .func fn a b=>match fn with
  | .func f=>K (.func (.func f) a b)
  | _=>False
 | .iface t x=>K (.iface t x)
 | _=>False
def aks (v:Value) (i:Nat) (K:Value->Prop):Prop :=
 match v with
 | .tuple vs=>JZ vs.toList i K
 | _=>False
def Hf (P:Program) (S:World->Prop) (o:Oper) (ρ:ym) (K:Value->Prop):Prop :=
 match o.op with
 | .move x=>VH ρ x K
 | .assign x=>VH ρ x K
 | .pick c a b=>VH ρ c fun c=>match c with
  | .bool c=>Np c fun c=>match c with
   | true=>VH ρ a K
   | false=>VH ρ b K
  | _=>False
 | .build t parts=>OJ ρ parts.toList fun vs=>NU P S (Instr.build t vs.toArray) K
 | .load t x=>VH ρ x fun a=>NU P S (Instr.loadAt t a) K
 | .nilCheck x=>VH ρ x fun v=>akr v K
 | .binOp op t x y _=>VH ρ x fun a=>VH ρ y fun b=>DD P S op t x y a b K
 | .unOp op _ x=>VH ρ x fun a=>unT P S op a K
 | .convert s d x=>VH ρ x fun a=>NU P S (convert s d a) K
 | .makeInterface t x=>VH ρ x fun a=>NU P S (Instr.makeInterface t a) K
 | .makeFunc fn first captured=>TW ρ first.toList fun fs=>TW ρ captured.toList fun cs=>K (.func fn fs.toArray cs.toArray)
 | .slice t x lo hi mx=>VH ρ x fun a=>Ln ρ lo fun lo=>Ln ρ hi fun hi=>Ln ρ mx fun mx=>NU P S (Instr.sliceAt t a lo hi mx) K
 | .fieldAddr t x f=>VH ρ x fun a=>NU P S (Instr.fieldAt t a f) K
 | .field t x f=>VH ρ x fun a=>NU P S (Instr.field t a f) K
 | .indexAddr t x i=>VH ρ x fun a=>VH ρ i fun i=>NU P S (Instr.indexAt t a i) K
 | .index t x i=>VH ρ x fun a=>VH ρ i fun i=>NU P S (Instr.index t a i) K
 | .extract x i=>VH ρ x fun v=>aks v i K
 | .typeAssert x t u ok=>VH ρ x fun a=>NU P S (Instr.typeAssert a t u ok) K
 | .call c=>match c.callee with
  | .builtin .len=>TW ρ c.args.toList fun vs=>NU P S (Builtin.len_ c.argTypes o.type vs.toArray) K
  | .builtin .max=>TW ρ c.args.toList fun vs=>NU P S (Builtin.max_ c.argTypes o.type vs.toArray) K
  | .builtin .min=>TW ρ c.args.toList fun vs=>NU P S (Builtin.min_ c.argTypes o.type vs.toArray) K
  | _=>False
 | .lookup t x i ok=>VH ρ x fun a=>VH ρ i fun i=>NU P S (Instr.lookup t a i ok) K
 | _=>False
section
variable {P:Program} {S:World->Prop}
theorem Wz {o:Oper} {ρ:ym} {m:Sem Value} {K:Value->Prop} (he:execOp (ev ρ) o=(do pure (.value (<-m)))) (h:NU P S m K) :
  ∃v,(∀w,S w->(execOp (ev ρ) o).run P w=.ok (.value v) w)/\K v:=by
 obtain ⟨v,hm,k⟩:=h
 exact ⟨v,fun w hS=>by simp only [he,Sem.run_bind,hm w hS,Result.andThen_ok,Sem.run_pure],k⟩
theorem af3 {op:BinOp} {k:IntKind} {t:TypeId} {x y:Operand} {a b:Int} {K:Value->Prop} (anr:op≠.shl) (ant:op≠.shr) (h:Sd op k a b K) :
  ∃v,(∀w,(do eqGuard op t x y (.int k a) (.int k b);binOp op t (.int k a) (.int k b):Sem Value).run P w=.ok v w)/\K v:=by
 have hg:∀w,(eqGuard op t x y (.int k a) (.int k b)).run P w=.ok () w:=fun w=>by simp [eqGuard]
 cases op <;> simp only [Sd] at h <;> first
  | (obtain ⟨hb,_,rfl,h⟩:=h;refine ⟨_,fun w=>?_,h⟩;simp only [Sem.run_bind,hg,Result.andThen_ok];simp [binOp,Op.intDiv,hb,SY,Si];done)
  | (obtain ⟨_,rfl,h⟩:=h;refine ⟨_,fun w=>?_,h⟩;simp only [Sem.run_bind,hg,Result.andThen_ok];simp [binOp,Op.intArith,Op.intBits,Op.intCmp,ZM,Tl,Rx,Qp,QZ,Ti,Se,Sh,Sf];done)
  | (refine ⟨_,fun w=>?_,h⟩;simp only [Sem.run_bind,hg,Result.andThen_ok];simp [binOp,Op.intArith,Op.intBits,Op.intCmp,ZM,Tl,Rx,Qp,QZ,Ti,Se,Sh,Sf];done)
  | contradiction
  | exact h.elim
theorem acd {op:BinOp} {t:TypeId} {x y:Operand} {a b:Value} {K:Value->Prop} (h:DD P S op t x y a b K):NU P S (do eqGuard op t x y a b;binOp op t a b) K:=by
 unfold DD at h
 split at h
 .split at h
  .split at h
   .obtain ⟨hb,_,rfl,h⟩:=h
    refine ⟨_,fun w _=>?_,h⟩
    simp only [eqGuard,Sem.run_bind];simp [binOp,Op.shift,Wb,Int.not_lt.2 hb]
   .obtain ⟨hb,_,rfl,h⟩:=h
    refine ⟨_,fun w _=>?_,h⟩
    simp only [eqGuard,Sem.run_bind];simp [binOp,Op.shift,W0,Int.not_lt.2 hb]
   .rename_i Qo hk2
    split at h
    .rename_i hk
     obtain rfl:=I3 hk
     obtain ⟨v,h1,h2⟩:=af3 (P:=P) (t:=t) (x:=x) (y:=y) (fun e=>Qo e) (fun e=>hk2 e) h
     exact ⟨v,fun w _=>h1 w,h2⟩
    .exact h.elim
  .exact h
 .exact h
theorem SC {o:Oper} {ρ:ym} {K:Value->Prop} (h:Hf P S o ρ K):∃v,(∀w,S w->(execOp (ev ρ) o).run P w=.ok (.value v) w)/\K v:=by
 unfold Hf at h
 simp only [S5,NO,OI,Lm,SG] at h
 split at h
 case h_1 x ho=>exact ⟨_,fun w _=>by unfold execOp;rw [ho];rfl,h⟩
 case h_2 x ho=>exact ⟨_,fun w _=>by unfold execOp;rw [ho];rfl,h⟩
 case h_3 c a b ho =>
  split at h
  .rename_i cb hc
   split at h
   .exact ⟨_,fun w _=>by unfold execOp;rw [ho];simp [hc,asBool],h⟩
   .exact ⟨_,fun w _=>by unfold execOp;rw [ho];simp [hc,asBool],h⟩
  .grind
 case h_4 t ps ho =>
  exact Wz (m:=Instr.build t ((ps.toList.map fun (i,x)=>(i,ev ρ x)).toArray)) (by unfold execOp;rw [ho];simp [<-Array.toList_map]) h
 case h_5 t x ho=>exact Wz (by grind [execOp]) h
 case h_6 x ho =>
  unfold akr at h
  split at h
  .rename_i p hp
   split at h
   .exact ⟨_,fun w _=>by unfold execOp;rw [ho];simp only [hp];rfl,h⟩
   .grind
  .rename_i fn a b hp
   split at h
   .exact ⟨_,fun w _=>by unfold execOp;rw [ho];simp only [hp];rfl,h⟩
   .grind
  .rename_i t v hp
   exact ⟨_,fun w _=>by unfold execOp;rw [ho];simp only [hp];rfl,h⟩
  .grind
 case h_7 op t x y yt ho=>exact Wz (by grind [execOp]) (acd h)
 case h_8 op t x ho =>
  unfold unT at h
  split at h
  .split at h
   .rename_i b hb
    exact ⟨_,fun w _=>by unfold execOp;rw [ho];simp [hb,Op.unary],h⟩
   .grind
  .split at h
   .rename_i k n hb
    obtain ⟨_,rfl,h⟩:=h
    exact ⟨_,fun w _=>by unfold execOp;rw [ho];simp [hb,Op.unary,Op.intArith,ZM],h⟩
   .grind
  .exact Wz (by grind [execOp]) h
 case h_9 s d x ho=>exact Wz (by grind [execOp]) h
 case h_10 t x ho=>exact Wz (by grind [execOp]) h
 case h_11 fn fs cs ho =>
  exact ⟨_,fun w _=>by unfold execOp;rw [ho];simp [Instr.makeFunc,<-Array.toList_map],h⟩
 case h_12 t x lo hi mx ho=>exact Wz (by grind [execOp]) h
 case h_13 t x f ho=>exact Wz (by grind [execOp]) h
 case h_14 t x f ho=>exact Wz (by grind [execOp]) h
 case h_15 t x i ho=>exact Wz (by grind [execOp]) h
 case h_16 t x i ho=>exact Wz (by grind [execOp]) h
 case h_17 x i ho =>
  unfold aks at h
  split at h
  .rename_i vs hv
   obtain ⟨u,hu,h⟩:=PS h
   refine ⟨u,fun w _=>?_,h⟩
   unfold execOp;rw [ho]
   simp only [Array.getElem?_toList] at hu
   simp [hv,Instr.extract,hu]
  .grind
 case h_18 x t u ok ho=>exact Wz (by grind [execOp]) h
 case h_19 c ho =>
  have hargs:∀(xs:Array Operand),(xs.toList.map (ev ρ)).toArray=xs.map (ev ρ):=fun xs=>by simp [<-Array.toList_map]
  split at h
  .rename_i hc
   exact Wz (m:=Builtin.len_ c.argTypes o.type (c.args.map (ev ρ))) k_y k_v
  .rename_i hc
   exact Wz (m:=Builtin.max_ c.argTypes o.type (c.args.map (ev ρ))) k_y k_v
  .rename_i hc
   exact Wz (m:=Builtin.min_ c.argTypes o.type (c.args.map (ev ρ))) k_y k_v
  .grind
 case h_20 t x i ok ho=>exact Wz (by grind [execOp]) h
 case h_21=>exact h.elim
end
inductive Ze (S:Prop) (K:Prop):Prop
 | mk (h:S) (k:K)
def PG (P:Program) (ops:List Oper) (S:World->Prop) (K:ym->World->Prop) (plan:List (Nat × Bool)):ym->World->Prop :=
 List.rec (motive:=fun _=>ym->World->Prop) K (fun i _ ih ρ w=>match ops[i.1]? with
  | none=>False
  | some o=>match i.2 with
   | true=>XY ops o.guard ρ fun b ρ=>match b with
    | true=>Hf P S o ρ fun v=>Xt ρ o.dst v fun ρ=>ih ρ w
    | false=>Xt ρ o.dst undef fun ρ=>ih ρ w
   | false=>XY ops o.guard ρ fun b ρ=>match b with
    | true=>Ll P o ρ w fun v w'=>Ze (S w') (Xt ρ o.dst v fun ρ=>ih ρ w')
    | false=>Xt ρ o.dst undef fun ρ=>ih ρ w) plan
theorem ace (P:Program) (ops:List Oper) (S:World->Prop) (K:ym->World->Prop) (i:Nat × Bool) (r:List (Nat × Bool)) (ρ:ym) (w:World) :
  PG P ops S K (i::r) ρ w=match ops[i.1]? with
  | none=>False
  | some o=>match i.2 with
   | true=>XY ops o.guard ρ fun b ρ=>match b with
    | true=>Hf P S o ρ fun v=>Xt ρ o.dst v fun ρ=>PG P ops S K r ρ w
    | false=>Xt ρ o.dst undef fun ρ=>PG P ops S K r ρ w
   | false=>XY ops o.guard ρ fun b ρ=>match b with
    | true=>Ll P o ρ w fun v w'=>Ze (S w') (Xt ρ o.dst v fun ρ=>PG P ops S K r ρ w')
    | false=>Xt ρ o.dst undef fun ρ=>PG P ops S K r ρ w:=rfl
noncomputable def OB (ops:Array Oper) (plan:List (Nat × Bool)):Array Bool->Bool :=
 List.rec (motive:=fun _=>Array Bool->Bool) (fun listed=>(Region.ready .any ops listed).isEmpty) (fun i _ ih listed=>match ops[i.1]? with
  | none=>false
  | some o=>(match i.2 with
   | true=>Region.free .any ops listed i.1 && (Region.ready .any ops listed).contains i.1
   | false=>Region.ready .any ops listed == [i.1]) && ih (listed.setIfInBounds i.1 true)) plan
theorem Rr (ops:Array Oper) (i:Nat × Bool) (r:List (Nat × Bool)) (listed:Array Bool):OB ops (i::r) listed=match ops[i.1]? with
  | none=>false
  | some o=>(match i.2 with
   | true=>Region.free .any ops listed i.1 && (Region.ready .any ops listed).contains i.1
   | false=>Region.ready .any ops listed == [i.1]) && OB ops r (listed.setIfInBounds i.1 true):=rfl
noncomputable def Rq (ops:Array Oper) (plan:List (Nat × Bool)):Bool:=Region.noSelect ops && plan.length == ops.size && OB ops plan (Array.replicate ops.size false)
theorem Qk (ds:List Nat) (ρ:ym):agree ds ρ ρ:=⟨rfl,fun _ _=>rfl⟩
theorem XB {ds:List Nat} {ρ0 ρ:ym} (h:agree ds ρ0 ρ) {d:Option Nat} (hd:∀n,d=some n->n∈ds) (v:Value):agree ds ρ0 (put ρ d v):=by
 obtain ⟨h1,h2⟩:=h
 cases d with
 | none=>exact ⟨h1,h2⟩
 | some n =>
  refine ⟨by simp [put,h1],fun i hi=>?_⟩
  have:n≠i:=fun e=>hi (e ▸ hd n rfl)
  simp only [put]
  rw [List.getElem?_set_ne this]
  exact h2 i hi
section
variable {P:Program} {ops:Array Oper} {S:World->Prop} {K:ym->World->Prop} {ρ0:ym} {ds:List Deferred}
theorem abb (hs:Region.noSelect ops=true) (plan:List (Nat × Bool)):∀(fuel:Nat) (listed:Array Bool) (ρ:ym) (w:World),plan.length<=fuel->OB ops plan listed=true->S w->agree (Yt ops.toList) ρ0 ρ ->
  PG P ops.toList S K plan ρ w->wpAnyH P .any ops (fun e a w'=>e=.normal/\a.defers=ds/\agree (Yt ops.toList) ρ0 a.tmps.toList/\K a.tmps.toList w') S fuel listed ⟨ρ.toArray,ds⟩ w:=by
 induction plan with
 | nil =>
  intro fuel listed ρ w _ hok hS hag h
  exact wpAnyH_done (List.isEmpty_iff.1 hok) ⟨rfl,rfl,hag,h⟩ fuel
 | cons ib r ih =>
  obtain ⟨i,ail⟩:=ib
  intro fuel listed ρ w hfl hok hS hag h
  obtain ⟨f,rfl⟩:∃f,fuel=f+1:=⟨fuel-1,by simp at hfl;omega⟩
  have GP:r.length<=f:=by grind
  rw [Rr] at hok
  rw [ace] at h
  simp only [Array.getElem?_toList] at h
  cases ho:ops[i]? with
  | none=>rw [ho] at hok;cases hok
  | some o =>
   rw [ho] at hok h
   simp only [yq4] at hok h
   have hmem:∀n,o.dst=some n->n∈Yt ops.toList:=fun n hn=>by grind [Yt]
   cases hT:ail with
   | true =>
    rw [hT] at hok h
    simp only [yq4] at hok
    obtain ⟨⟨hfree,Wa⟩,Vq⟩:=hok
    obtain ⟨b,hb,h⟩:=XT h
    have key:∀v,YieldsIf P ops S o v ⟨ρ.toArray,ds⟩->PG P ops.toList S K r (put ρ o.dst v) w->wpAnyH P .any ops (fun e a w'=>e=.normal/\a.defers=ds/\agree (Yt ops.toList) ρ0 a.tmps.toList/\K a.tmps.toList w') S (f+1) listed ⟨ρ.toArray,ds⟩ w:=fun v hy hk =>
     wpAnyH_take ho hs hfree Wa (fun c a w hq=>by cases hq.1) hy hS (by
      rw [put_eq]
      exact ih f _ _ w GP Vq hS (XB hag hmem v) hk)
    cases b
    .simp only [X3] at h
     exact key undef (.inr ⟨hb,rfl⟩) h
    .obtain ⟨v,hv,hk⟩:=SC h
     rw [X3] at hk
     exact key v (.inl ⟨hb,fun w hS=>by rw [Yj];exact hv w hS⟩) hk
   | false =>
    rw [hT] at hok h
    simp only [beq_iff_eq] at hok
    obtain ⟨Wa,Vq⟩:=hok
    obtain ⟨b,hb,h⟩:=XT h
    refine wpAnyH_all Wa yO fun j hj=>?_
    obtain rfl:j=i:=by grind
    unfold wpOp
    rw [ho]
    simp only [hb]
    cases b
    .simp only [Bool.false_eq_true,if_false,X3] at h ⊢
     rw [put_eq]
     exact ⟨hS,ih f _ _ w GP Vq hS (XB hag hmem _) h⟩
    .simp only [if_true] at h ⊢
     refine .inl (UD h fun v w' ⟨D6,hk⟩=>?_)
     rw [X3] at hk
     rw [put_eq]
     exact ⟨D6,ih f _ _ w' GP Vq D6 (XB hag hmem v) hk⟩
theorem draw {id:Nat} {w:World} (S:World->Prop) (plan:List (Nat × Bool)) (hm:P.follows .mixedOrders=true) (hc:Rq ops plan=true)
  (h:∀w1,w1=w.drew->S w1/\PG P ops.toList S K plan ρ0 w1):Qy P id ops K ρ0 w:=by
 simp only [Rq,yq4,beq_iff_eq] at hc
 obtain ⟨⟨h1,h2⟩,h3⟩:=hc
 obtain ⟨hS,hk⟩:=h _ rfl
 exact ⟨fun ds=>wp_region_held hm (abb h1 plan _ _ _ _ (Nat.le_of_eq h2) h3 hS (Qk _ _) hk)⟩
end
end YY
namespace YY
open Go Go.RowKit
variable {P:Program} {w:World}
theorem aad {ty:TypeId} {cs:ym} {off:Nat} {k:Value->Prop} (h:PL P ty cs off k):∃v,(∀w,(part ty cs.toArray off).run P w=.ok v w)/\k v:=by
 unfold PL at h
 split at h
 .rename_i d hu
  split at h
  .rename_i hd
   rw [Ru] at h
   obtain ⟨h1,h2⟩:=PM h
   refine ⟨_,fun w=>?_,h2⟩
   cases hi:P.info? ty with
   | none=>simp [Program.underlying,hi] at hu
   | some i=>simp [part,UA hu,hd,sizeOf,typeInfo,hi,Program.cellsOf]
  .rename_i hd
   obtain ⟨v,hv,h⟩:=PS h
   exact ⟨v,fun w=>by simp [part,UA hu,hd,hv],h⟩
 .exact h.elim
theorem OA (vs:ym):∀(cs:ym) (o i:Nat),o+vs.length<=cs.length->(VR cs o vs)[i]?=if o<=i/\i<o+vs.length then vs[i-o]? else cs[i]?:=by
 induction vs with
 | nil=>intro cs o i h;rw [if_neg yO];rfl
 | cons v vs ih =>
  intro cs o i h
  simp only [List.length_cons] at h ⊢
  rw [VR,ih _ _ _ (by grind)]
  by_cases h2:o=i
  .grind
  .grind
theorem Up (vs cs:ym) (o:Nat) (h:o+vs.length<=cs.length):VR cs o vs=cs.take o++vs++cs.drop (o+vs.length):=by
 apply lFa
 intro i
 rw [OA vs cs o i h,lja]
 have hl:(cs.take o).length=o:=by grind
 by_cases h1:i<o
 .grind
 .grind
theorem af4 {t:TypeId} {e:TypeId} {b o:Nat} {cs vs:ym} {K:World->Prop} (hb:RB w b cs e) (hs:(P.info? t).map (·.size)=some vs.length) (ho':Nat.ble (o+vs.length) cs.length=true) (hv:vs.all (·.oneCell')=true)
  (k:Nk cs o vs fun cs'=>∀w',Ka w w' b->RB w' b cs' e->K w'):Ia P (Instr.storeAt t (.pointer (some ⟨b,o,none⟩)) (.agg vs.toArray)) w K:=by
 have ho:o+vs.length<=cs.length:=lcb ho'
 rw [SD,Up _ _ _ ho] at k
 cases hi:P.info? t with
 | none=>simp [hi] at hs
 | some i =>
  have hl:i.size=vs.length:=by grind
  have hst:=run_storeCells_at (P:=P) b o e vs 0 cs.toArray w hb yQ (fun v hm=>lqb.1 hv v hm)
  simp only [Nat.add_zero] at hst
  have Fj:RB (w.setRow b (cs.take o++vs++cs.drop (o+vs.length)).toArray) b (cs.take o++vs++cs.drop (o+vs.length)) e:=setRow_heap w b _ _ e (0,0) hb
  have hw:Ka w (w.setRow b (cs.take o++vs++cs.drop (o+vs.length)).toArray) b:=by
   refine ⟨rfl,rfl,rfl,by simp [World.setRow],fun j hj=>?_⟩
   unfold World.setRow
   simp only [Array.getElem?_modify]
   rw [if_neg (fun h=>hj h.symm)]
  refine ⟨_,?_,k _ hw Fj⟩
  simp [Instr.storeAt,Instr.sureAddr,storeVar,sizeOf,typeInfo,hi,hl,Value.cells,hst]
noncomputable def DC (P:Program) (n:Nat):TypeId->Value->Value->(Bool->Prop)->Prop :=
 Nat.rec (motive:=fun _=>TypeId->Value->Value->(Bool->Prop)->Prop) (fun _ _ _ _=>False)
  (fun _ ih ty a b k=>match P.underlying ty with
   | some d=>match d with
    | .int _=>match a with
     | .int k1 x=>match b with
      | .int k2 y=>JY (AW k1 k2) (k (Nq x y))
      | _=>False
     | _=>False
    | .bool=>match a with
     | .bool x=>match b with
      | .bool y=>k (x == y)
      | _=>False
     | _=>False
    | .string=>match a with
     | .string x=>match b with
      | .string y=>k (x.toList == y.toList)
      | _=>False
     | _=>False
    | .struct fs=>match a with
     | .agg xs=>match b with
      | .agg ys=>List.rec (motive:=fun _=>(Bool->Prop)->Prop) (fun k=>k true) (fun f _ Aa k=>match f with
       | ⟨_,DB,off,_,_,_,_⟩=>PL P DB xs.toList off fun a=>PL P DB ys.toList off fun b=>ih DB a b fun r=>Aa fun r'=>k (r && r')) fs.toList k
      | _=>False
     | _=>False
    | _=>False
   | none=>False) n
def JW (P:Program):Nat->TypeId->Bool
 | 0,_=>false
 | n+1,ty=>match P.underlying ty with
  | some (.struct fs)=>!P.stoodInHeld ty && fs.toList.all fun f=>f.name != "_" && JW P n f.type
  | _=>true
theorem acf (n:Nat):∀{ty:TypeId} {a b:Value} {k:Bool->Prop},JW P n ty=true->DC P n ty a b k->∃r,k r/\∀d w,n<=d->(Op.equalIn d ty a b).run P w=.ok r w:=by
 induction n with
 | zero=>exact fun _ h=>h.elim
 | succ n ih =>
  intro ty a b k hok h
  have hd:∀d,n+1<=d->∃d',d=d'+1/\n<=d':=fun d hd=>⟨d-1,by omega,by omega⟩
  change (match P.underlying ty with
   | some d=>_
   | none=>False) at h
  cases hu:P.underlying ty with
  | none=>rw [hu] at h;exact h.elim
  | some dsc =>
   rw [hu] at h
   cases dsc <;> dsimp only at h <;> first|exact h.elim|skip
   case int kk =>
    cases a <;> dsimp only at h <;> first|exact h.elim|skip
    cases b <;> dsimp only at h <;> first|exact h.elim|skip
    obtain ⟨hk,h'⟩:=PO h
    obtain rfl:=I3 hk
    refine ⟨_,h',fun d w hdl=>?_⟩
    obtain ⟨d',rfl,_⟩:=hd d hdl
    rw [run_equalIn_int w d' ty _ kk _ _ hu];rw [Ti]
   case bool =>
    cases a <;> dsimp only at h <;> first|exact h.elim|skip
    cases b <;> dsimp only at h <;> first|exact h.elim|skip
    refine ⟨_,h,fun d w hdl=>?_⟩
    obtain ⟨d',rfl,_⟩:=hd d hdl
    exact run_equalIn_bool' w d' ty _ _ hu
   case string =>
    cases a <;> dsimp only at h <;> first|exact h.elim|skip
    cases b <;> dsimp only at h <;> first|exact h.elim|skip
    refine ⟨_,h,fun d w hdl=>?_⟩
    obtain ⟨d',rfl,_⟩:=hd d hdl
    exact run_equalIn_string w d' ty _ _ hu
   case struct fs =>
    cases a <;> dsimp only at h <;> first|exact h.elim|skip
    cases b <;> dsimp only at h <;> first|exact h.elim|skip
    rename_i xs ys
    unfold JW at hok
    rw [hu] at hok
    simp only [yq4,List.all_eq_true] at hok
    have hp:P.stoodInHeld ty=false:=by simpa using hok.1
    have hall:=hok.2
    have hf:P.fieldsOf ty=fs:=by simp [Program.fieldsOf,hu]
    have key:∀(l:List Field) {k:Bool->Prop},(∀f,f∈l->(f.name != "_")=true/\JW P n f.type=true)->(List.rec (motive:=fun _=>(Bool->Prop)->Prop) (fun k=>k true) (fun f _ Aa k=>match f with
       | ⟨_,DB,off,_,_,_,_⟩=>PL P DB xs.toList off fun a=>PL P DB ys.toList off fun b=>DC P n DB a b fun r=>Aa fun r'=>k (r && r')) l k:Prop) ->
      ∃r,k r/\∀d w,n<=d->(Op.eqFields d xs ys l).run P w=.ok r w:=by
     intro l
     induction l with
     | nil=>exact fun _ h=>⟨true,h,fun d w _=>rfl⟩
     | cons f l ihl =>
      intro k hal h4
      have h3:=hal f (lmb ..)
      have hname:f.name≠ "_" := by simpa using h3.1
      obtain ⟨va,H6,h5⟩:=aad h4
      obtain ⟨vb,BO,h6⟩:=aad h5
      obtain ⟨r,h7,hr⟩:=ih h3.2 h6
      obtain ⟨r',h8,hr'⟩:=ihl (fun g hg=>hal g (lkb _ hg)) h7
      refine ⟨r && r',h8,fun d w hdl=>?_⟩
      simp only [Array.toArray_toList] at H6 BO
      simp only [Op.eqFields]
      rw [if_pos hname]
      simp only [Sem.run_bind,H6,Result.andThen_ok,BO,hr d w hdl]
      cases r
      .simp
      .simp [hr' d w hdl]
    obtain ⟨r,hk,hr⟩:=key fs.toList hall h
    refine ⟨r,hk,fun d w hdl=>?_⟩
    obtain ⟨d',rfl,hd'⟩:=hd d hdl
    rw [run_equalIn_struct w d' ty xs ys (by rw [hf];exact hu) hp,hf]
    exact hr d' w hd'
theorem QU {K:Value->World->Prop} {t:TypeId} {x y:Operand} {xs ys:Array Value} (hm:P.eqGuardType P.depth t=false) (hok:JW P 4 t=true) (h:DC P 4 t (.agg xs) (.agg ys) fun r=>K (.bool (!r)) w) :
  Zb P (do eqGuard .neq t x y (.agg xs) (.agg ys);binOp .neq t (.agg xs) (.agg ys)) w K:=by
 obtain ⟨r,hk,hr⟩:=acf 4 hok h
 refine ⟨_,w,?_,hk⟩
 simp only [Sem.run_bind,run_eqGuard_agg w .neq t x y xs ys hm,Result.andThen_ok,run_neq_struct,hr 10000 w (by decide)]
theorem bl {a b:Nat} (h:Nat.ble (a+1) b=true):a<b:=lcb h
section
variable {w0 w':World} {b b' o:Nat} {cs vs cs':ym} {e e':TypeId}
end
theorem rdA {t:TypeId} {d:TypeDesc} {b o:Nat} {vs:ym} {K:Value->Prop} (h:At w b o vs) (hu:P.underlying t=some d) (hd:Nj d=true) (hs:(P.info? t).map (·.size)=some vs.length) (k:K (.agg vs.toArray)) :
  H7 P (loadVar t ⟨b,o,none⟩) w K:=by
 refine ⟨_,?_,k⟩
 cases hi:P.info? t with
 | none=>simp [hi] at hs
 | some i =>
  have hl:i.size=vs.length:=by grind
  have:=run_loadCells_list (P:=P) w ⟨b,o,none⟩ vs (fun j v hv=>by rw [Addr.add_lit];exact h.cell hv)
  simp [loadVar,UA hu,hd,sizeOf,typeInfo,hi,hl,this]
def RE {α:Type} (en:α->ym) (ok:α->Prop):Hv->ym->α->Prop:=fun _ cs x=>cs=en x/\ok x
theorem RE.mono' {α:Type} (en:α->ym) (ok:α->Prop):DE (RE en ok):=fun _ _ _ _ _ h=>h
end YY
namespace YY
open Go Go.RowKit
variable {P:Program} {α:Type}
def Oz (lo:Nat) (w:World) (e:TypeId) (s:Nat) (en:α->ym) (v:Value) (xs:List α):Prop:=w.ownsRow lo e s v xs.length (xs.flatMap en)/\∀x,(en x).length=s
theorem Yp {en:α->ym} {s:Nat} (h:∀x,(en x).length=s) (xs:List α):(xs.flatMap en).length=xs.length * s:=by
 induction xs with
 | nil=>simp
 | cons x xs ih=>rw [lOa,lca,h,ih,lia0,lib];omega
theorem SB {en:α->ym} {s:Nat} (h:∀x,(en x).length=s):∀(xs:List α) (i:Nat) (x:α),xs[i]?=some x->((xs.flatMap en).drop (i * s)).take s=en x:=by
 intro xs
 induction xs with
 | nil=>intro i x hx;simp at hx
 | cons y ys ih =>
  intro i x hx
  cases i with
  | zero =>
   obtain rfl:=yq6 hx
   rw [lOa,Nat.zero_mul,lYa,lAa (by grind),lua (by grind)]
  | succ i =>
   rw [lOa,lib,Nat.add_comm,<-lZa,lpb (by grind),lza (l:=en y) (by grind),lLa]
   exact ih i x (by grind)
theorem Oz.nil (lo:Nat) (w:World) (e:TypeId) {s:Nat} {en:α->ym} (h:∀x,(en x).length=s):Oz lo w e s en (.slice none 0 0) []:=⟨World.ownsRow_nil w lo e s,h⟩
structure Gr (w w':World) (v v':Value):Prop where
 g:w.grownBy w' v.ownBlock
 at_:v'.ownBlock=v.ownBlock\/v'.ownBlock=none\/∃k,v'.ownBlock=some k/\w.heap.size<=k
theorem aaZ {w:World} {lo:Nat} {t ty e:TypeId} {i:TypeInfo} {z:Value} {s:Nat} (ht:P.underlying t=some (.slice e)) (hi:P.info? e=some i) (hz:i.zero=some z) (hs:i.size=s) (hzs:z.cells.size=s)
  {v:Value} {n:Nat} {xs:ym} (hown:w.ownsRow lo e s v n xs) {a:Addr} {m c:Nat} {news:ym} (hl:news.length=m * s) (hnews:∀j u,news[j]?=some u->w.cell? (a.add j)=some u) (h1:∀u∈news,u.oneCell'=true)
  (h63:n+m<=maxLen) (hbytes:(n+m) * i.bytes<=140737488355328) {v':Value} {w':World} (hr:(Builtin.append_ #[t,t] ty #[v,.slice (some a) m c]).run P w=.ok v' w') :
  v'.ownBlock=v.ownBlock\/v'.ownBlock=none\/v'.ownBlock=some w.heap.size:=by
 subst hs
 have hsmall:n+m<=9223372036854775807:=by grind [maxLen]
 have done:∀{u:Value} {w2:World},(Builtin.append_ #[t,t] ty #[v,.slice (some a) m c]).run P w=.ok u w2->v'=u:=fun h=>by grind
 rcases hown.2 with ⟨rfl,rfl⟩|⟨g,cap,cur,rfl,AV,hg,hnc,Qx,hcs,apx⟩
 .by_cases hm:m=0
  .subst hm
   have hn:news=[]:=lma yQ
   subst hn
   have:(Builtin.append_ #[t,t] ty #[.slice none 0 0,.slice (some a) 0 c]).run P w=.ok (.slice none 0 0) w:=by
    simp [Builtin.append_,run_underlying ht,sizeOf,typeInfo,hi,Builtin.lenOf,Builtin.firstCells,loadCells,loadCellsFrom]
   rw [done this];exact .inl rfl
  .have D5:=run_append_nil (P:=P) w t ty e i z ht hi hz a m c news hl hnews yQ yQ (by grind)
   rw [done D5];exact .inr (.inr rfl)
 .by_cases hroom:n+m<=cap
  .have hfit:n * i.size+news.length<=cur.size:=by rw [hl,hcs,<-lDb];exact lBa _ hroom
   have D5:=run_append_room (P:=P) w t ty e i ht hi g n cap cur hg a m c news hl hnews h1 hroom hfit
   rw [done D5];exact .inl rfl
  .have holds:∀j u,xs[j]?=some u->w.cell? ((⟨g,0,none⟩:Addr).add j)=some u:=hown.cells (g:=g) rfl
   have D5:=run_append_grow (P:=P) w t ty e i z ht hi hz ⟨g,0,none⟩ n cap xs hown.1 holds a m c news hl hnews yQ yQ (growslice_fits yQ hbytes)
   rw [done D5];exact .inr (.inr rfl)
theorem akt {w:World} {K:Value->World->Prop} {lo:Nat} {t ty e:TypeId} {en:α->ym} {s:Nat} {v:Value} {xs ys:List α} {m c b o:Nat} (z:Value) (PF:Nat) (hown:Oz lo w e s en v xs) (TK:At w b o (ys.flatMap en)) (hm:ys.length=m)
  (h1:∀y∈ys,((en y).all (·.oneCell'))=true) (hu:P.underlying t=some (.slice e)) (hz:(P.info? e).map (fun i=>(i.zero,i.size,i.bytes))=some (some z,s,PF)) (hzs:z.cells.size=s) (hsz:0<s)
  (hb:(xs.length+m) * PF<=140737488355328) (hml:xs.length+m<=140737488355328) (hlo:lo<=w.heap.size)
  (k:∀v' w',Oz lo w' e s en v' (xs++ys)->Gr w w' v v'->K v' w'):Zb P (Builtin.append_ #[t,t] ty #[v,.slice (some ⟨b,o,none⟩) m c]) w K:=by
 cases hi:P.info? e with
 | none=>simp [hi] at hz
 | some i =>
  simp only [hi,Option.map_some,Option.some.injEq,Prod.mk.injEq] at hz
  obtain ⟨h2,h3,h4⟩:=hz
  subst hm
  have hc:∀j u,(ys.flatMap en)[j]?=some u->w.cell? ((⟨b,o,none⟩:Addr).add j)=some u:=fun j u hj=>by rw [Addr.add_lit];exact TK.cell hj
  have ho:∀u∈ys.flatMap en,u.oneCell'=true:=fun u hu=>by grind
  obtain ⟨v',w',hr,a1,a2,a3⟩:=run_append_own (P:=P) w lo t ty e i z s PF hu hi h2 h3 h4 hzs hsz v xs.length (xs.flatMap en) hown.1 ⟨b,o,none⟩ ys.length c (ys.flatMap en) (Yp hown.2 ys) hc ho (by grind [maxLen]) hb hlo
  have Md:=aaZ hu hi h2 h3 hzs hown.1 (Yp hown.2 ys) hc ho (by grind [maxLen]) (by grind) hr
  refine ⟨v',w',hr,k v' w' ⟨by rw [lca,lQa];exact a1,hown.2⟩ ⟨a2,?_⟩⟩
  rcases Md with h|h|h
  .grind
  .grind
  .grind
theorem Oz.keep {lo:Nat} {w w':World} {e:TypeId} {s:Nat} {en:α->ym} {v:Value} {xs:List α} (h:Oz lo w e s en v xs) (hb:∀k,v.ownBlock=some k->w'.heap[k]?=w.heap[k]?):Oz lo w' e s en v xs:=⟨ad3 h.1 hb,h.2⟩
theorem Oz.lt {lo:Nat} {w:World} {e:TypeId} {s:Nat} {en:α->ym} {v:Value} {xs:List α} (h:Oz lo w e s en v xs) {k:Nat} (hk:v.ownBlock=some k):lo<=k/\k<w.heap.size:=h.1.lt k hk
theorem Oz.mono {lo lo':Nat} {w:World} {e:TypeId} {s:Nat} {en:α->ym} {v:Value} {xs:List α} (h:Oz lo w e s en v xs) (hl:lo'<=lo):Oz lo' w e s en v xs:=⟨ad4 h.1 hl,h.2⟩
section
variable {lo s:Nat} {w0 w w':World} {e e':TypeId} {en:α->ym} {v v' u:Value} {xs:List α} {cs:ym} {b:Nat}
def Dj (u v:Value):Prop:=∀k,u.ownBlock=some k->v.ownBlock≠some k
theorem Dj.symm (h:Dj u v):Dj v u:=fun k hk hu=>h k hu hk
theorem Dj.nil (v:Value):Dj (.slice none 0 0) v:=fun k hk=>by cases hk
theorem Oz.rd {ok:α->Prop} (h:Oz lo w e s en v xs) (hok:∀x∈xs,ok x) (hs0:0<s):Wu (RE en ok) s (Rg w lo w.heap.size) v xs:=by
 rcases h.1.2 with ⟨rfl,h0⟩|⟨g,cap,cur,rfl,hlo,hg,hnc,Qx,hcs,ht⟩
 .have:xs=[]:=lma h0
  subst this;exact Wu.nil _ _ _
 .refine ⟨_,cap,rfl,⟨hnc,by unfold maxLen at Qx;omega⟩,nofun,fun _=>⟨g,0,xs.flatMap en,rfl,⟨cur,e,(0,0),⟨hlo,(lxa.1 hg).1,hg⟩,fun i x hx=>?_⟩,Yp h.2 xs,fun i x hx=>⟨SB h.2 xs i x hx,hok x (lda hx)⟩⟩⟩
  rw [<-ht,lJa] at hx
  split at hx
  .grind
  .grind
theorem Oz.Vs (h:Oz lo w e s en v xs) (hne:xs≠[]):∃g cap cur,v=.slice (some ⟨g,0,none⟩) xs.length cap/\lo<=g/\RB w g cur e/\cur.take (xs.length * s)=xs.flatMap en/\xs.length * s<=cur.length/\xs.length<=cap/\cap<=9223372036854775807/\cur.length=cap * s:=by
 rcases h.1.2 with ⟨rfl,h0⟩|⟨g,cap,cur,rfl,hlo,hg,hnc,Qx,hcs,ht⟩
 .grind
 .have hle:xs.length * s<=cap * s:=lBa _ hnc
  have SA:cur.toList.length=cap * s:=by omega
  exact ⟨g,cap,cur.toList,rfl,hlo,hg,ht,by rw [SA];exact hle,hnc,by unfold maxLen at Qx;omega,SA⟩
theorem Oz.aim {g cap:Nat} {cur:ym} (hlo:lo<=g) (hb:RB w g cur e) (ht:cur.take (xs.length * s)=xs.flatMap en) (hn:xs.length<=cap) (hc:cap<=9223372036854775807) (hl:cur.length=cap * s) (hs:∀x,(en x).length=s) :
  Oz lo w e s en (.slice (some ⟨g,0,none⟩) xs.length cap) xs :=
 ⟨⟨Yp hs xs,.inr ⟨g,cap,cur.toArray,rfl,hlo,hb,hn,by unfold maxLen;omega,by simpa using hl,by simpa using ht⟩⟩,hs⟩
end
theorem abc {H:Hv} {R:Hv->ym->α->Prop} {sz:Nat} {a:Option Addr} {cap:Nat} {xs:List α} {l h:Nat} (hs:Wu R sz H (.slice a xs.length cap) xs) (hl:l<=h) (hh:h<=xs.length) :
  Wu R sz H (.slice (if cap=l then a else a.map (·.add (l * sz))) (h-l) (cap-l)) ((xs.take h).drop l):=by
 obtain ⟨a',cap',he,h2,h3,h4⟩:=hs
 injection he with e1 e2 e3
 subst e1;subst e3
 have hlen:((xs.take h).drop l).length=h-l:=by rw [lIa,lCa];omega
 have hel:∀i,i<h-l->((xs.take h).drop l)[i]?=xs[l+i]?:=fun i hi=>by rw [lUa,lJa,if_pos yQ]
 refine ⟨_,cap-l,by rw [hlen],by rw [hlen];omega,fun hn=>?_,fun hne=>?_⟩
 .have:a=none:=by
   split at hn
   .exact hn
   .cases a with
    | none=>rfl
    | some x=>cases hn
  obtain ⟨rfl,rfl⟩:=h3 this
  simp
 .have hpos:0<h-l:=by rw [<-hlen];exact lFb.2 hne
  obtain ⟨b,o,news,rfl,k1,k2⟩:=h4 (by intro e;subst e;simp at hh;omega)
  have hc:cap≠l:=by omega
  refine ⟨b,o+l * sz,(news.drop (l * sz)).take ((h-l) * sz),by rw [if_neg hc];simp [Addr.add_lit],?_,?_,fun i x hx=>?_⟩
  .obtain ⟨cs,e,fz,k3,k4⟩:=k1
   refine ⟨cs,e,fz,k3,fun i v hv=>?_⟩
   rw [lJa] at hv
   split at hv
   .rw [lUa] at hv;rw [lRb];exact k4 _ _ hv
   .cases hv
  .rw [lCa,lIa,k2.1,hlen]
   have:=lBa sz (show (h-l)+l<=xs.length by omega)
   rw [lDb] at this;omega
  .have hi:i<h-l:=by rw [<-hlen];exact (lba.1 hx).1
   rw [hel i hi] at hx
   have hr:=k2.2 (l+i) x hx
   have e:(((news.drop (l * sz)).take ((h-l) * sz)).drop (i * sz)).take sz=(news.drop ((l+i) * sz)).take sz:=by
    have:=lBa sz (show i+1<=h-l by omega)
    rw [lib] at this
    rw [lNb,lUb,lZa,lDb]
    congr 1;omega
   rw [e];exact hr
section
variable {w:World} {K:Value->World->Prop} {H:Hv} {R:Hv->ym->α->Prop} {sz:Nat} {t e:TypeId} {v:Value} {xs:List α}
theorem rSl {lo hi:Option Value} (l h:Nat) (hs:Wu R sz H v xs) (ht:P.underlying t=some (.slice e)) (hsz:(P.info? e).map (fun i=>i.size)=some sz) (hl:l<=h) (hh:h<=xs.length)
  (hlo:lo=none/\l=0\/∃k,lo=some (.int k l)) (hhi:hi=none/\h=xs.length\/∃k,hi=some (.int k h)) (k:∀v',Wu R sz H v' ((xs.take h).drop l)->K v' w):Zb P (Instr.sliceAt t v lo hi none) w K:=by
 obtain ⟨a,cap,rfl,h2,h3,h4⟩:=hs
 refine ⟨_,w,?_,k _ (abc (sz:=sz) ⟨a,cap,rfl,h2,h3,h4⟩ hl hh)⟩
 have he:P.elem t=e:=by simp [Program.elem,ht]
 rw [run_sliceAt_slice (P:=P) w t _ _ _ _ (by rw [he];exact ht)]
 cases hi':P.info? e with
 | none=>simp [hi'] at hsz
 | some i' =>
  simp only [hi',Option.map_some,Option.some.injEq] at hsz
  have hb:(Instr.sliceBounds true xs.length cap lo hi none).run P w=.ok (l,h,cap) w:=by
   unfold Instr.sliceBounds
   rcases hlo with ⟨rfl,rfl⟩|⟨kl,rfl⟩ <;> rcases hhi with ⟨rfl,rfl⟩|⟨kh,rfl⟩
   .simp
   .exact k_x
   .simp [run_sliceBound (P:=P) w kl (l:Int) xs.length _ yQ yQ]
   .simp [run_sliceBound (P:=P) w kh (h:Int) cap _ yQ yQ,run_sliceBound (P:=P) w kl (l:Int) h _ yQ yQ]
  unfold Instr.slice
  simp only [Sem.run_bind,run_underlying ht,Result.andThen_ok,hb]
  simp [sizeOf,typeInfo,hi',hsz]
end
abbrev Rd (en:α->ym) (ok:α->Prop) (s:Nat) (w:World) (v:Value) (xs:List α):Prop:=Wu (RE en ok) s (Rg w 0 w.heap.size) v xs
theorem Rd.next {en:α->ym} {ok:α->Prop} {s:Nat} {w w':World} {v:Value} {xs:List α} (h:Rd en ok s w v xs) (b:Below w.heap.size w w'):Rd en ok s w' v xs :=
 h.mono (RE.mono' en ok) (Rg.mono (loa _) b.size fun k _ hk=>b.block k hk)
theorem Wu.wide {en:α->ym} {ok:α->Prop} {s lo hi:Nat} {w:World} {v:Value} {xs:List α} (h:Wu (RE en ok) s (Rg w lo hi) v xs) (hh:hi<=w.heap.size):Rd en ok s w v xs :=
 h.mono (RE.mono' en ok) (Rg.mono (lHa _) hh fun _ _ _=>rfl)
theorem Wu.place {en:α->ym} {ok:α->Prop} {w:World} (s:Nat) {lo hi:Nat} {t e:TypeId} {v:Value} {xs:List α} (h:Wu (RE en ok) s (Rg w lo hi) v xs) (j:Nat) (x:α) (hx:xs[j]?=some x)
  (ht:P.underlying t=some (.slice e)) (hs:(P.info? e).map (fun i=>i.size)=some s) :
  ∃b o,At w b o (en x)/\ok x/\lo<=b/\b<hi/\∀{K:Value->World->Prop} {w':World} {i:Int} {ki:IntKind},i=j->K (.pointer (some ⟨b,o,none⟩)) w'->Zb P (Instr.indexAt t v (.int ki i)) w' K:=by
 have hl:=(lba.1 hx).1
 obtain ⟨a,cap,rfl,h2,h3,h4⟩:=h
 obtain ⟨b,o,news,rfl,k1,k2⟩:=h4 (by grind)
 obtain ⟨hR,hok⟩:=k2.2 j x hx
 have TK:=(k1.at.sub (j * s) s)
 rw [hR] at TK
 obtain ⟨_,_,_,⟨Sz,Qj,_⟩,_⟩:=k1
 refine ⟨b,o+j * s,TK,hok,Sz,Qj,fun {K w' i ki} hi k=>?_⟩
 subst hi
 refine ⟨_,w',?_,k⟩
 cases hi':P.info? e with
 | none=>simp [hi'] at hs
 | some i' =>
  simp only [hi',Option.map_some,Option.some.injEq] at hs
  simp [Instr.indexAt,asIntOf,run_underlying ht,sizeOf,typeInfo,hi',hs,Addr.add_lit,hl]
theorem TO {en:α->ym} {s:Nat} (h:∀x,(en x).length=s) (xs:List α) (j:Nat) (hj:j<=xs.length):(xs.flatMap en).take (j * s)=(xs.take j).flatMap en:=by
 have e:xs.flatMap en=(xs.take j).flatMap en++(xs.drop j).flatMap en:=by rw [<-lQa,leb]
 have hl:((xs.take j).flatMap en).length=j * s:=by grind [Yp,List.length_take,Nat.min_eq_left]
 rw [e,lAa yQ,lua yQ]
theorem Sy {en:α->ym} {s:Nat} (h:∀x,(en x).length=s) (xs:List α) (j:Nat) (hj:j<=xs.length):(xs.flatMap en).drop (j * s)=(xs.drop j).flatMap en:=by
 have e:xs.flatMap en=(xs.take j).flatMap en++(xs.drop j).flatMap en:=by rw [<-lQa,leb]
 have hl:((xs.take j).flatMap en).length=j * s:=by grind [Yp,List.length_take,Nat.min_eq_left]
 rw [e,lpb yQ,lza yQ,lLa]
theorem Oz.store {lo s:Nat} {w:World} {e:TypeId} {en:α->ym} {v:Value} {xs:List α} (h:Oz lo w e s en v xs) (j:Nat) (hj:j<xs.length) :
  ∃g cap cur,v=.slice (some ⟨g,0,none⟩) xs.length cap/\lo<=g/\RB w g cur e/\j * s+s<=cur.length/\∀(w':World) (x:α),RB w' g (VR cur (j * s) (en x)) e->Oz lo w' e s en v (xs.set j x):=by
 obtain ⟨g,cap,cur,rfl,hlo,hb,ht,hlen,hcap,Qx,SA⟩:=h.Vs (by grind)
 have hle:j * s+s<=xs.length * s:=by rw [<-lib];exact lBa _ hj
 refine ⟨g,cap,cur,rfl,hlo,hb,by omega,fun w' x hb'=>?_⟩
 have hxl:(en x).length=s:=h.2 x
 have VU:xs.set j x=xs.take j++x::xs.drop (j+1):=by
  rw [List.set_eq_take_append_cons_drop,if_pos hj]
 have key:(VR cur (j * s) (en x)).take (xs.length * s)=(xs.set j x).flatMap en:=by
  rw [Up _ _ _ yQ,VU,lQa,lOa,<-TO h.2 xs j (lab0 hj),<-Sy h.2 xs (j+1) hj,<-ht,hxl]
  apply lFa
  intro i
  simp only [List.getElem?_take,List.getElem?_append,yq7,List.length_take,List.getElem?_drop,List.append_assoc,hxl,Nat.succ_mul]
  rw [show min (j * s) cur.length=j * s by omega,show min (j * s) (min (xs.length * s) cur.length)=j * s by omega]
  by_cases h1:i<xs.length * s
  .grind
  .grind
 have:=Oz.aim (lo:=lo) (xs:=xs.set j x) (s:=s) (en:=en) (cap:=cap) hlo hb' (by grind) (by grind) Qx (by grind [VG]) h.2
 rw [lna] at this
 exact this
theorem abd {P:Program} {w:World} {t:TypeId} {e:TypeId} {b o:Nat} {cs vs:ym} {K:World->Prop} (hb:RB w b cs e) (hs:(P.info? t).map (·.size)=some vs.length) (ho:o+vs.length<=cs.length) (hv:vs.all (·.oneCell')=true)
  (k:∀w',Ka w w' b->RB w' b (VR cs o vs) e->K w'):Ia P (Instr.storeAt t (.pointer (some ⟨b,o,none⟩)) (.agg vs.toArray)) w K :=
 af4 hb hs (Nat.ble_eq_true_of_le ho) hv (by rw [SD];exact k)
end YY
namespace YY
open Go Go.RowKit
structure Ev (w w':World) (fp:Nat->Prop):Prop where
 os:w'.os=w.os
 tape:w'.tape=w.tape
 output:w'.output=w.output
 size:w.heap.size<=w'.heap.size
 block:∀k,k<w.heap.size->¬fp k->w'.heap[k]?=w.heap[k]?
def Fr (w:World) (fp fp':Nat->Prop):Prop:=∀k,fp' k->fp k\/w.heap.size<=k
def Ap (f g:Nat->Prop):Prop:=∀k,f k->¬g k
section
variable {w w' w0 w1:World} {fp fp' f g:Nat->Prop} {b:Nat} {v v':Value} {cs:ym} {e:TypeId} {α:Type}
theorem Ev.refl (w:World) (fp:Nat->Prop):Ev w w fp:=⟨rfl,rfl,rfl,loa _,fun _ _ _=>rfl⟩
theorem Ev.new (n:HD w w' cs e) (fp:Nat->Prop):Ev w w' fp:=⟨n.below.os,n.below.tape,n.below.output,n.below.size,fun k hk _=>n.below.block k hk⟩
theorem Ev.FF (u:Ka w w' b) (h:fp b):Ev w w' fp:=⟨u.os,u.tape,u.output,by rw [u.size];exact loa _,fun k _ hk=>u.block k (fun e=>hk (e ▸ h))⟩
theorem Ev.below (n:Below w.heap.size w w') (fp:Nat->Prop):Ev w w' fp:=⟨n.os,n.tape,n.output,n.size,fun k hk _=>n.block k hk⟩
theorem Ev.still (s:Still w w') (fp:Nat->Prop):Ev w w' fp:=by obtain ⟨d,rfl⟩:=s;exact ⟨rfl,rfl,rfl,loa _,fun _ _ _=>rfl⟩
theorem Ev.trans (a:Ev w w1 f) (c:Ev w1 w' g) (hf:∀k,f k->fp k) (hg:∀k,k<w.heap.size->g k->fp k):Ev w w' fp :=
 ⟨c.os.trans a.os,c.tape.trans a.tape,c.output.trans a.output,lEa a.size c.size,fun k hk hn=>(c.block k (Nat.lt_of_lt_of_le hk a.size) (fun h=>hn (hg k hk h))).trans (a.block k hk (fun h=>hn (hf k h)))⟩
theorem Ev.mono (a:Ev w w' f) (hf:∀k,f k->fp k):Ev w w' fp:=⟨a.os,a.tape,a.output,a.size,fun k hk hn=>a.block k hk (fun h=>hn (hf k h))⟩
theorem gE (G:Below w0.heap.size w0 w) (x:Ev w w' fp) (h:∀k,fp k->w0.heap.size<=k):Below w0.heap.size w0 w' :=
 ⟨x.os.trans G.os,x.tape.trans G.tape,x.output.trans G.output,lEa G.size x.size,fun k hk=>(x.block k (Nat.lt_of_lt_of_le hk G.size) (fun hf=>Nat.lt_irrefl _ (Nat.lt_of_lt_of_le hk (h k hf)))).trans (G.block k hk)⟩
theorem Fr.refl (w:World) (fp:Nat->Prop):Fr w fp fp:=fun _ h=>.inl h
theorem Fr.trans (a:Fr w f g) (x:w.heap.size<=w1.heap.size) (c:Fr w1 g fp):Fr w f fp:=fun k hk=>by
 rcases c k hk with h|h
 .exact a k h
 .omega
theorem Fr.low (a:Fr w f g) {lo:Nat} (hf:∀k,f k->lo<=k) (hw:lo<=w.heap.size):∀k,g k->lo<=k:=fun k hk=>by
 rcases a k hk with h|h
 .grind
 .omega
theorem Ap.fr (a:Ap f g) (x:Fr w g fp) (hl:∀k,f k->k<w.heap.size):Ap f fp:=fun k hk hp=>by
 rcases x k hp with h|h
 .exact a k hk h
 .grind
theorem Ap.symm (a:Ap f g):Ap g f:=fun k hk hf=>a k hf hk
end
theorem Oz.one {α:Type} {lo s:Nat} {w:World} {e:TypeId} {en:α->ym} {v:Value} {xs:List α} (h:Oz lo w e s en v xs):v.oneCell'=true:=by
 rcases h.1.2 with ⟨e,_⟩|⟨_,_,_,e,_⟩ <;> rw [e] <;> rfl
theorem Oz.form {α:Type} {lo s:Nat} {w:World} {e:TypeId} {en:α->ym} {v:Value} {xs:List α} (h:Oz lo w e s en v xs):∃a c,v=.slice a xs.length c:=by
 rcases h.1.2 with ⟨e,h0⟩|⟨g,cap,cur,e,_⟩
 .grind
 .grind
section
variable {P:Program} {w:World} {K:Value->World->Prop}
theorem Xd {t e:TypeId} {x y:Operand} {a:Option Addr} {n c:Nat} (ht:P.underlying t=some (.slice e)) (k:K (.bool a.isNone) w) :
  Zb P (do eqGuard .eql t x y (.slice a n c) (.slice none 0 0);binOp .eql t (.slice a n c) (.slice none 0 0)) w K:=by
 refine ⟨_,w,?_,k⟩
 have hg:(eqGuard .eql t x y (.slice a n c) (.slice none 0 0)).run P w=.ok () w:=by simp [eqGuard]
 simp only [Sem.run_bind,hg,Result.andThen_ok]
 simp only [binOp,Sem.run_bind,run_equal_slice_nil (P:=P) w t e a n c ht,Result.andThen_ok,Sem.run_pure]
end
end YY
namespace YY
open Go Go.RowKit
section
variable {P:Program} {w:World} {K:Value->World->Prop}
theorem Ff {t e:TypeId} {a:Option Addr} {n cap l h m sz:Nat} {lo hi mx:Option Value} (ht:P.underlying t=some (.slice e)) (hsz:(P.info? e).map (fun i=>i.size)=some sz)
  (hb:(Instr.sliceBounds true n cap lo hi mx).run P w=.ok (l,h,m) w) (k:K (.slice (if m=l then a else a.map (·.add (l * sz))) (h-l) (m-l)) w):Zb P (Instr.sliceAt t (.slice a n cap) lo hi mx) w K:=by
 refine ⟨_,w,?_,k⟩
 have he:P.elem t=e:=by grind [Program.elem]
 rw [run_sliceAt_slice (P:=P) w t _ _ _ _ (by grind)]
 cases hi':P.info? e with
 | none=>simp [hi'] at hsz
 | some i' =>
  simp only [hi',Option.map_some,Option.some.injEq] at hsz
  unfold Instr.slice
  simp only [Sem.run_bind,run_underlying ht,Result.andThen_ok,hb]
  simp [sizeOf,typeInfo,hi',hsz]
theorem anD {k:IntKind} {i:Int} {n cap h:Nat} (hi:i=h) (hh:h<=cap):(Instr.sliceBounds true n cap none (some (.int k i)) none).run P w=.ok (0,h,cap) w:=by
 subst hi
 simp [Instr.sliceBounds,run_sliceBound (P:=P) w k (h:Int) cap _ yQ yQ]
theorem R8 {w:World} {g o:Nat} {cur vs:ym} {e:TypeId} (hb:RB w g cur e) (h:o+vs.length<=cur.length) :
  Ka w (w.setRow g (cur.take o++vs++cur.drop (o+vs.length)).toArray) g/\RB (w.setRow g (cur.take o++vs++cur.drop (o+vs.length)).toArray) g (VR cur o vs) e:=by
 refine ⟨⟨rfl,rfl,rfl,by simp [World.setRow],fun j hj=>?_⟩,?_⟩
 .grind [World.setRow]
 .rw [Up _ _ _ h];exact setRow_heap w g _ _ e (0,0) hb
theorem anE {t e:TypeId} {g o n cap sz:Nat} {k:IntKind} {i:Int} (h:Nat) (ht:P.underlying t=some (.slice e)) (hsz:(P.info? e).map (fun i=>i.size)=some sz) (hi:i=h) (hh:h<=cap)
  (q:K (.slice (some ⟨g,o,none⟩) h cap) w):Zb P (Instr.sliceAt t (.slice (some ⟨g,o,none⟩) n cap) none (some (.int k i)) none) w K:=by
 refine Ff ht hsz (anD hi hh) ?_
 have:(if cap=0 then some ⟨g,o,none⟩ else (some ⟨g,o,none⟩:Option Addr).map (·.add (0 * sz)))=some ⟨g,o,none⟩:=by grind [Addr.add_lit]
 rw [this]
 exact q
end
theorem At.none {w:World} {b o:Nat} {cs:ym} {e:TypeId} (h:RB w b cs e):At w b o []:=⟨_,_,_,h,fun i v hv=>by simp at hv⟩
end YY
namespace YY
open Go Go.RowKit
section
variable {P:Program} {α:Type} {lo s:Nat} {w w' w0:World} {e e':TypeId} {en:α->ym} {v v' u:Value} {xs ys:List α} {b:Nat} {cs:ym} {K:Value->World->Prop}
def RM (lo:Nat) (w:World) (e:TypeId) (s:Nat) (en:α->ym) (v:Value) (xs:List α):Prop :=
 ((v=.slice none 0 0/\xs=[])\/∃g o cap cur,v=.slice (some ⟨g,o,none⟩) xs.length cap/\lo<=g/\RB w g cur e/\o+cap * s<=cur.length/\xs.length<=cap/\cap<=9223372036854775807/\(cur.drop o).take (xs.length * s)=xs.flatMap en)/\∀x,(en x).length=s
theorem RM.nil (lo:Nat) (w:World) (e:TypeId) (h:∀x,(en x).length=s):RM lo w e s en (.slice none 0 0) []:=⟨.inl ⟨rfl,rfl⟩,h⟩
theorem RM.lt (h:RM lo w e s en v xs) {k:Nat} (hk:v.ownBlock=some k):lo<=k/\k<w.heap.size:=by
 rcases h.1 with ⟨rfl,_⟩|⟨g,o,cap,cur,rfl,hlo,hb,_⟩
 .cases hk
 .obtain rfl:=yq6 hk;exact ⟨hlo,hb.lt⟩
theorem RM.keep (h:RM lo w e s en v xs) (hb:∀k,v.ownBlock=some k->w'.heap[k]?=w.heap[k]?):RM lo w' e s en v xs:=by
 refine ⟨?_,h.2⟩
 rcases h.1 with h|⟨g,o,cap,cur,rfl,hlo,hk,r⟩
 .grind
 .exact .inr ⟨g,o,cap,cur,rfl,hlo,hk.keep (hb g rfl),r⟩
theorem RM.ev {fp:Nat->Prop} (h:RM lo w e s en v xs) (x:Ev w w' fp) (hn:∀k,v.ownBlock=some k->¬fp k):RM lo w' e s en v xs:=h.keep fun k hk=>x.block k (h.lt hk).2 (hn k hk)
theorem RM.one (h:RM lo w e s en v xs):v.oneCell'=true:=by
 rcases h.1 with ⟨rfl,_⟩|⟨_,_,_,_,rfl,_⟩ <;> rfl
theorem RM.form (h:RM lo w e s en v xs):∃a c,v=.slice a xs.length c:=by
 rcases h.1 with ⟨rfl,rfl⟩|⟨_,_,_,_,rfl,_⟩
 .simp
 .simp
theorem RM.own (h:w.ownsRow lo e s v xs.length (xs.flatMap en)) (hs:∀x,(en x).length=s):RM lo w e s en v xs:=by
 refine ⟨?_,hs⟩
 rcases h.2 with ⟨rfl,h0⟩|⟨g,cap,cur,rfl,hlo,hg,hnc,Qx,hcs,ht⟩
 .grind
 .exact .inr ⟨g,0,cap,cur.toList,rfl,hlo,hg,by simp [hcs],hnc,by unfold maxLen at Qx;omega,by simpa using ht⟩
theorem aku {t ty:TypeId} {m c b o:Nat} (z:Value) (PF:Nat) (hown:RM lo w e s en v xs) (TK:At w b o (ys.flatMap en)) (hm:ys.length=m)
  (h1:∀y∈ys,((en y).all (·.oneCell'))=true) (hu:P.underlying t=some (.slice e)) (hz:(P.info? e).map (fun i=>(i.zero,i.size,i.bytes))=some (some z,s,PF)) (hzs:z.cells.size=s) (hsz:0<s)
  (hb:(xs.length+m) * PF<=140737488355328) (hml:xs.length+m<=140737488355328) (hlo:lo<=w.heap.size)
  (k:∀v' w',RM lo w' e s en v' (xs++ys)->Gr w w' v v'->K v' w'):Zb P (Builtin.append_ #[t,t] ty #[v,.slice (some ⟨b,o,none⟩) m c]) w K:=by
 rcases hown.1 with ⟨rfl,rfl⟩|⟨g,of,cap,cur,rfl,BN,JV,hfit,hnc,Qx,ht⟩
 .refine akt z PF (Oz.nil lo w e hown.2) TK hm h1 hu hz hzs hsz hb hml hlo fun v' w' hO hG=>k v' w' ?_ hG
  exact RM.own hO.1 hO.2
 .have HZ:(xs.flatMap en).length=xs.length * s:=Yp hown.2 xs
  have He:(ys.flatMap en).length=m * s:=by rw [<-hm];exact Yp hown.2 ys
  have ho:∀u∈ys.flatMap en,u.oneCell'=true:=fun u hu=>by grind
  cases hi:P.info? e with
  | none=>simp [hi] at hz
  | some i =>
   simp only [hi,Option.map_some,Option.some.injEq,Prod.mk.injEq] at hz
   obtain ⟨h2,h3,h4⟩:=hz
   subst h3
   by_cases hr:xs.length+m<=cap
   .have hcap:(xs.length+m) * i.size<=cap * i.size:=lBa _ hr
    rw [lDb] at hcap
    have hst:=run_storeCells_at (P:=P) g (of+xs.length * i.size) e (ys.flatMap en) 0 cur.toArray w JV (by grind) ho
    simp only [Nat.add_zero] at hst
    have D4:=run_firstCells_some (P:=P) w i.size m ⟨b,o,none⟩ m c (ys.flatMap en) He (fun j u hj=>by rw [Addr.add_lit];exact TK.cell hj)
    obtain ⟨hU,hB⟩:=R8 (o:=of+xs.length * i.size) (vs:=ys.flatMap en) JV yQ
    refine ⟨.slice (some ⟨g,of,none⟩) (xs.length+m) cap,_,?_,k _ _ ⟨.inr ⟨g,of,cap,_,by rw [lca,hm],BN,hB,by rw [VG];exact hfit,by rw [lca,hm];exact hr,Qx,?_⟩,hown.2⟩ ⟨⟨hU.os,hU.tape,hU.output,by rw [hU.size];exact loa _,fun k _ hk=>hU.block k (fun e=>hk (by rw [e];rfl))⟩,.inl rfl⟩⟩
    .simp [Builtin.append_,run_underlying hu,sizeOf,typeInfo,hi,Builtin.lenOf,hr,D4,Addr.add_lit,hst]
    .rw [lca,hm,lQa,<-ht,Up _ _ _ yQ,lja,lpb (by grind),<-lja,lNb,
      show of+xs.length * i.size-of=xs.length * i.size by omega,lAa (by grind),lua (by grind)]
   .have DA:At w g of (xs.flatMap en):=by
     have:=JV.at.sub of (xs.length * i.size);rw [ht,lKb] at this;exact this
    obtain ⟨v',w',hrun,r1,r2⟩:=run_append_arg_grows (P:=P) w t ty e i z i.size PF hu hi h2 rfl h4 hzs hsz ⟨g,of,none⟩ xs.length cap (xs.flatMap en) HZ (fun j u hj=>by rw [Addr.add_lit];exact DA.cell hj) ⟨b,o,none⟩ m c (ys.flatMap en) He (fun j u hj=>by rw [Addr.add_lit];exact TK.cell hj) yQ (by grind [maxLen]) hb
    have hO:RM w.heap.size w' e i.size en v' (xs++ys):=RM.own (by grind) hown.2
    refine ⟨v',w',hrun,k v' w' ?_ ⟨⟨r2.os,r2.tape,r2.output,r2.size,fun k hk _=>r2.block k hk yO⟩,?_⟩⟩
    .refine ⟨?_,hown.2⟩
     rcases hO.1 with h|⟨g',o',c',cu',a1,a2,a3⟩
     .grind
     .exact .inr ⟨g',o',c',cu',a1,lEa hlo a2,a3⟩
    .rcases hO.1 with ⟨h,_⟩|⟨g',o',c',cu',a1,a2,a3⟩
     .exact .inr (.inl (by rw [h];rfl))
     .exact .inr (.inr ⟨g',by rw [a1];rfl,a2⟩)
theorem RM.tail {x:α} {g o n cap:Nat} (h:RM lo w e s en (.slice (some ⟨g,o,none⟩) n cap) (x::xs)):RM lo w e s en (.slice (some ⟨g,if cap=1 then o else o+1 * s,none⟩) (n-1) (cap-1)) xs:=by
 rcases h.1 with ⟨_,h0⟩|⟨g',o',cap',cur,he,hlo,hb,hfit,hnc,Qx,hct⟩
 .cases h0
 .injection he with h1 h2 h3
  injection h1 with h1
  injection h1 with h1 h4
  subst h1;subst h2;subst h3;subst h4
  simp only [List.length_cons] at hnc hct ⊢
  refine ⟨.inr ⟨g,if cap=1 then o else o+1 * s,cap-1,cur,by rw [lxb],hlo,hb,?_,by omega,by omega,?_⟩,h.2⟩
  .split
   .grind
   .have:(cap-1) * s+s=cap * s:=by rw [<-lib];congr 1;omega
    omega
  .split
   .have:xs=[]:=lma yQ
    subst this;simp
   .have e1:=yq5 (List.drop s) hct
    rw [lNb,lZa,lOa,lpb (by rw [h.2];exact loa _),lza (l:=en x) (by rw [h.2];exact loa _),lLa,lib,lxb] at e1
    rw [Nat.one_mul];exact e1
theorem RM.head {x:α} (h:RM lo w e s en v (x::xs)):∃g o cap,v=.slice (some ⟨g,o,none⟩) (xs.length+1) cap/\lo<=g/\At w g o (en x):=by
 rcases h.1 with ⟨_,h0⟩|⟨g,o,cap,cur,rfl,hlo,hb,hfit,hnc,Qx,hct⟩
 .grind
 .refine ⟨g,o,cap,rfl,hlo,?_⟩
  have:=hb.at.sub o s
  rw [lKb] at this
  have e1:=yq5 (List.take s) hct
  rw [lUb,lia0,lnb (by grind),lOa,lAa (by rw [h.2];exact loa _)] at e1
  rw [e1,lua (by rw [h.2];exact loa _)] at this;exact this
end
theorem ad9 {P:Program} {w:World} {K:Value->World->Prop} {t e:TypeId} {b o n:Nat} {ki:IntKind} {i:Int} (sz j p:Nat) (hj:i=j) (hl:j<n) (hp:o+j * sz=p) (ht:P.underlying t=some (.array n e)) (hs:(P.info? e).map (fun i=>i.size)=some sz)
  (k:K (.pointer (some ⟨b,p,none⟩)) w):Zb P (Instr.indexAt t (.pointer (some ⟨b,o,none⟩)) (.int ki i)) w K:=by
 subst hj;subst hp
 refine ⟨_,w,?_,k⟩
 cases hi':P.info? e with
 | none=>simp [hi'] at hs
 | some i' =>
  simp only [hi',Option.map_some,Option.some.injEq] at hs
  simp [Instr.indexAt,Instr.sureAddr,asIntOf,run_underlying ht,sizeOf,typeInfo,hi',hs,Addr.add_lit,hl]
end YY
namespace YY
open Go
def VP (l:List Nat):Nat:=l.foldr (fun t m=>Nat.lor (Nat.shiftLeft 1 t) m) 0
theorem Uz (l:List Nat) (j:Nat):(VP l).testBit j=true↔j∈l:=by
 induction l with
 | nil=>simp [VP]
 | cons t r ih =>
  have e:VP (t::r)=(1 <<< t) ||| VP r:=rfl
  rw [e,lAb,Bool.or_eq_true,ih,Nat.one_shiftLeft,lQb,List.mem_cons]
  simp;constructor
  .grind
  .grind
structure Rec where
 i:Nat
 take:Bool
 af:Nat
 lk:Nat
 ds:Nat
def T3 (o:Oper):Nat:=VP (o.after.toList.filterMap fun e=>if Region.binds .any e then some e.on else none)
def ahx (ops:Array Oper) (p:Nat × Bool):Option Rec:=(ops[p.1]?).map fun o=>⟨p.1,p.2,T3 o,VP (o.looksAt ops),VP o.dst.toList⟩
def GO (n:Nat):Bool:=Nat.beq n 0
def PE (x y:Rec):Bool:=GO (Nat.land x.ds (Nat.lor y.lk y.ds)) && GO (Nat.land y.ds x.lk)
def I0 (m i:Nat):Bool:=Nat.beq (Nat.land (Nat.shiftRight m i) 1) 1
def TJ:List Rec->Nat->Nat->Bool
 | [],listed,all=>Nat.beq listed all
 | r::rest,listed,all=>Nat.beq (Nat.land r.af listed) r.af && !I0 listed r.i &&
   (match r.take with
   | true=>rest.all fun q=>I0 q.af r.i || PE r q
   | false=>rest.all fun q=>!Nat.beq (Nat.land q.af listed) q.af) && TJ rest (Nat.lor listed (Nat.shiftLeft 1 r.i)) all
def R7 (ops:Array Oper):List (Nat × Bool)->Option (List Rec)
 | []=>some []
 | p::r=>match ahx ops p with
  | none=>none
  | some x=>match R7 ops r with
   | none=>none
   | some l=>some (x::l)
def Nf (ops:Array Oper) (plan:List (Nat × Bool)):Bool:=Region.noSelect ops && Nat.beq plan.length ops.size && match R7 ops plan with
 | none=>false
 | some l=>TJ l 0 (2 ^ ops.size-1)
theorem TH (m i:Nat):I0 m i=m.testBit i:=by
 unfold I0
 rw [show Nat.land (Nat.shiftRight m i) 1=(m >>> i) &&& 1 from rfl,Nat.and_one_is_mod]
 rw [Nat.testBit,Nat.one_and_eq_mod_two]
 rcases Nat.mod_two_eq_zero_or_one (m >>> i) with h|h <;> rw [h] <;> rfl
theorem PD {a b:Nat} (h:Nat.beq (Nat.land a b) a=true) (j:Nat) (hj:a.testBit j=true):b.testBit j=true:=by
 have h:=ldb h
 have h2:(a &&& b).testBit j=a.testBit j:=yq5 (fun n=>Nat.testBit n j) h
 rw [Nat.testBit_and,hj] at h2
 simpa using h2
theorem aea {a b:Nat} (h:(!Nat.beq (Nat.land a b) a)=true):∃j,a.testBit j=true/\b.testBit j=false:=by
 apply Classical.byContradiction
 intro hn
 have e:a &&& b=a:=by
  apply Nat.eq_of_testBit_eq
  intro j
  rw [Nat.testBit_and]
  cases ha:a.testBit j
  .rfl
  .grind
 rw [show Nat.land a b=a from e] at h
 simp at h
theorem aaB {a b:Nat} (h:GO (Nat.land a b)=true) (j:Nat) (ha:a.testBit j=true):b.testBit j=false:=by
 have h:=ldb h
 have h2:(a &&& b).testBit j=false:=by rw [show a &&& b=0 from h];simp
 rw [Nat.testBit_and,ha] at h2
 simpa using h2
theorem Vc (o:Oper) (j:Nat):(T3 o).testBit j=true↔∃e∈o.after,Region.binds .any e=true/\e.on=j:=by
 unfold T3
 rw [Uz,List.mem_filterMap]
 constructor
 .simp
 .simp
theorem aaa {ops:Array Oper} {x y:Oper} {rx ry:Rec} (hx:rx.lk=VP (x.looksAt ops)) (hx':rx.ds=VP x.dst.toList) (hy:ry.lk=VP (y.looksAt ops)) (hy':ry.ds=VP y.dst.toList)
  (h:PE rx ry=true):x.apart ops y=true:=by
 unfold PE at h
 rw [yq4] at h
 obtain ⟨h1,h2⟩:=h
 unfold Oper.apart
 rw [yq4]
 constructor
 .split
  .rename_i d hd
   have hb:rx.ds.testBit d=true:=by grind [Uz]
   have h3:=aaB h1 d hb
   rw [show Nat.lor ry.lk ry.ds=ry.lk ||| ry.ds from rfl,lAb,Bool.or_eq_false_iff] at h3
   obtain ⟨h4,h5⟩:=h3
   rw [yq4]
   constructor
   .rw [Bool.not_eq_true',<-Bool.not_eq_true,List.contains_iff_mem]
    intro hm
    rw [hy,<-Bool.not_eq_true,Uz] at h4
    exact h4 hm
   .grind
  .rfl
 .split
  .rename_i d hd
   have hb:ry.ds.testBit d=true:=by grind [Uz]
   have h3:=aaB h2 d hb
   rw [Bool.not_eq_true',<-Bool.not_eq_true,List.contains_iff_mem]
   intro hm
   rw [hx,<-Bool.not_eq_true,Uz] at h3
   exact h3 hm
  .rfl
theorem aak {ops:Array Oper} {p:Nat × Bool} {r:List (Nat × Bool)} {l:List Rec} (h:R7 ops (p::r)=some l) :
  ∃x l' o,l=x::l'/\R7 ops r=some l'/\ops[p.1]?=some o/\x=⟨p.1,p.2,T3 o,VP (o.looksAt ops),VP o.dst.toList⟩:=by
 unfold R7 at h
 split at h
 .cases h
 .rename_i x hx
  split at h
  .cases h
  .rename_i l' hl
   obtain rfl:=yq6 h
   unfold ahx at hx
   cases ho:ops[p.1]? with
   | none=>rw [ho] at hx;cases hx
   | some o=>rw [ho] at hx;exact ⟨x,l',o,rfl,hl,rfl,(yq6 hx).symm⟩
theorem acg {ops:Array Oper}:∀{r:List (Nat × Bool)} {l:List Rec},R7 ops r=some l->∀q∈l,∃o,ops[q.i]?=some o/\q.af=T3 o/\q.lk=VP (o.looksAt ops)/\q.ds=VP o.dst.toList:=by
 intro r
 induction r with
 | nil=>intro l h q hq;unfold R7 at h;obtain rfl:=yq6 h;cases hq
 | cons p r ih =>
  intro l h q hq
  obtain ⟨x,l',o,rfl,hl,ho,rfl⟩:=aak h
  rcases List.mem_cons.1 hq with rfl|hq
  .grind
  .grind
theorem ach:∀(l:List Rec) (m all:Nat),TJ l m all=true->∀j,all.testBit j=true->m.testBit j=true\/∃q∈l,q.i=j:=by
 intro l
 induction l with
 | nil =>
  intro m all h j hj
  unfold TJ at h
  have:=ldb h
  subst this
  exact .inl hj
 | cons r l ih =>
  intro m all h j hj
  unfold TJ at h
  rw [yq4] at h
  rcases ih _ _ h.2 j hj with h1|⟨q,hq,e⟩
  .rw [show Nat.lor m (Nat.shiftLeft 1 r.i)=m ||| (1 <<< r.i) from rfl,lAb,Bool.or_eq_true,Nat.one_shiftLeft,lQb] at h1
   rcases h1 with h1|h1
   .grind
   .grind
  .grind
theorem af5:∀{l:List Rec} {m n j:Nat},n<=j->TJ l m (2 ^ n-1)=true->m.testBit j=true->False:=by
 intro l
 induction l with
 | nil =>
  intro m n j hj h hb
  unfold TJ at h
  have:=ldb h
  rw [this,lCb] at hb
  simp at hb;omega
 | cons r l ih =>
  intro m n j hj h hb
  unfold TJ at h
  rw [yq4] at h
  refine ih hj h.2 ?_
  rw [show Nat.lor m (Nat.shiftLeft 1 r.i)=m ||| (1 <<< r.i) from rfl,lAb,hb,Bool.true_or]
theorem abe {ops:Array Oper}:∀(plan:List (Nat × Bool)) (l:List Rec) (m:Nat) (listed:Array Bool),R7 ops plan=some l->TJ l m (2 ^ ops.size-1)=true->listed.size=ops.size ->
  (∀j,j<ops.size->listed.getD j true=m.testBit j)->OB ops plan listed=true:=by
 intro plan
 induction plan with
 | nil =>
  intro l m listed hl hok hsz hm
  unfold R7 at hl
  obtain rfl:=yq6 hl
  unfold TJ at hok
  have hok:=ldb hok
  show (Region.ready .any ops listed).isEmpty=true
  rw [List.isEmpty_iff,List.eq_nil_iff_forall_not_mem]
  intro j hj
  obtain ⟨h0,o,ho,_⟩:=mem_ready.1 hj
  have hlt:j<ops.size:=(lxa.1 ho).1
  rw [hm j hlt,hok,lCb] at h0
  simp [hlt] at h0
 | cons p plan ih =>
  intro l m listed hl hok hsz hm
  obtain ⟨x,l',o,rfl,hl',ho,rfl⟩:=aak hl
  have anF:=ach _ _ _ hok
  unfold TJ at hok
  simp only [yq4] at hok
  obtain ⟨⟨⟨hr,hun⟩,hk⟩,Vq⟩:=hok
  have hlt:p.1<ops.size:=(lxa.1 ho).1
  have anG:listed.getD p.1 true=false:=by grind [TH]
  have ain:∀e∈o.after,Region.binds .any e=true->listed.getD e.on false=true:=fun e he hb=>by
   have h1:=PD hr e.on ((Vc o e.on).2 ⟨e,he,hb,rfl⟩)
   have h3:e.on<ops.size:=by
    rcases lya e.on ops.size with h|h
    .exact h
    .exact (af5 h Vq (by rw [show Nat.lor m (Nat.shiftLeft 1 p.1)=m ||| (1 <<< p.1) from rfl,lAb,h1,Bool.true_or])).elim
   have h2:=hm e.on h3
   rw [h1] at h2
   simp only [Array.getD_eq_getD_getElem?] at h2 ⊢
   rw [lhb yQ] at h2 ⊢
   simpa using h2
  have Wa:p.1∈Region.ready .any ops listed:=mem_ready.2 ⟨anG,o,ho,ain⟩
  have acE:∀j oj,ops[j]?=some oj->j≠p.1->listed.getD j true=false->∃q∈l',q.i=j/\q.af=T3 oj/\q.lk=VP (oj.looksAt ops)/\q.ds=VP oj.dst.toList:=fun j oj hj hne hu=>by
   have hjl:j<ops.size:=(lxa.1 hj).1
   rcases anF j (by grind) with h1|⟨q,hq,e⟩
   .grind
   .rcases List.mem_cons.1 hq with rfl|hq
    .grind
    .obtain ⟨o',ho',h1,h2,h3⟩:=acg hl' q hq
     rw [e,hj] at ho'
     obtain rfl:=yq6 ho'
     exact ⟨q,hq,e,h1,h2,h3⟩
  rw [Rr,ho]
  simp only [yq4]
  refine ⟨?_,ih l' _ _ hl' Vq (by grind) fun j hj=>?_⟩
  .obtain ⟨i,take⟩:=p
   dsimp only at *
   cases take with
   | true =>
    dsimp only at hk ⊢
    rw [yq4]
    refine ⟨?_,by simpa using Wa⟩
    unfold Region.free
    rw [ho]
    simp only [List.all_eq_true,List.mem_range]
    intro j hj
    cases hji:(j == i)
    .cases hlj:listed.getD j true
     .rw [lhb hj]
      simp only [Bool.false_or]
      obtain ⟨q,hq,e,h1,h2,h3⟩:=acE j ops[j] (lhb hj) (by grind) hlj
      have h4:=lqb.1 hk q hq
      rw [Bool.or_eq_true] at h4 ⊢
      rcases h4 with h4|h4
      .grind [TH,Vc,Array.any_eq_true']
      .right
       exact aaa rfl rfl h2 h3 h4
     .simp
    .simp
   | false =>
    dsimp only at hk ⊢
    rw [beq_iff_eq]
    have akv:∀j∈Region.ready .any ops listed,j=i:=fun j hj=>by
     apply Classical.byContradiction
     intro hne
     obtain ⟨h0,oj,Mm,hall⟩:=mem_ready.1 hj
     obtain ⟨q,hq,e,h1,h2,h3⟩:=acE j oj Mm hne h0
     have h4:=lqb.1 hk q hq
     obtain ⟨b,Sz,Qj⟩:=aea h4
     rw [h1,Vc] at Sz
     obtain ⟨ed,he,hb,BM⟩:=Sz
     have h5:=hall ed he hb
     rw [BM] at h5
     have Md:b<ops.size:=by grind
     have h6:=hm b Md
     rw [Qj] at h6
     simp only [Array.getD_eq_getD_getElem?] at h5 h6
     rw [lhb yQ] at h5 h6
     simp at h5 h6
     rw [h5] at h6;cases h6
    have hnd:(Region.ready .any ops listed).Nodup:=by
     unfold Region.ready;exact List.Pairwise.filter _ List.nodup_range
    generalize Region.ready .any ops listed=R at *
    match R,hnd,akv,Wa with
    | [],_,_,h=>cases h
    | [a],_,hu,_=>rw [hu a lmb]
    | a::b::r,hnd,hu,_ =>
     have h1:=hu a lmb
     have h2:=hu b yO
     rw [List.nodup_cons] at hnd
     exact absurd (by grind) hnd.1
  .show (listed.setIfInBounds p.1 true).getD j true=(m ||| (1 <<< p.1)).testBit j
   rw [lAb,Nat.one_shiftLeft,lQb,<-hm j hj]
   by_cases h:p.1=j
   .subst h;simp [hsz,hj]
   .simp [Array.getElem?_setIfInBounds_ne h,h]
theorem aac {ops:Array Oper} {plan:List (Nat × Bool)} (h:Nf ops plan=true):Rq ops plan=true:=by
 unfold Nf at h
 simp only [yq4] at h
 obtain ⟨⟨h1,h2⟩,h3⟩:=h
 split at h3
 .grind
 .rename_i l hl
  unfold Rq
  rw [h1,abe plan l 0 _ hl h3 yO (fun j hj=>by simp [hj])]
  simp [Nat.eq_of_beq_eq_true h2]
theorem apy {P:Program} {ops:Array Oper} {K:ym->World->Prop} {ρ0:ym} {id:Nat} {w:World} (S:World->Prop) (plan:List (Nat × Bool)) (hm:P.follows .mixedOrders=true) (hc:Nf ops plan=true)
  (h:∀w1,w1=w.drew->S w1/\PG P ops.toList S K plan ρ0 w1):Qy P id ops K ρ0 w:=draw S plan hm (aac hc) h
end YY
end Go.Proofs.YtakpnepblgfknaaGreatDoor
