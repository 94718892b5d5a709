/- Texts of this claim, one behind the other. -/
import Derived.Tactics
import Derived.Below
import Derived.ScopeJumps
import Derived.Laws.Slices
import Derived.Laws.Small
import Derived.Laws.StructEq
import Derived.Laws.Pointers
import Derived.Laws.Cover3
import Derived.Laws.Strings
import Derived.Laws.BytesString
import Derived.Laws.Build
import Derived.Laws.OwnMore
import Derived.Laws.MakeOwn
import Derived.Laws.CopyOwn
import Derived.Laws.BytesArg
import Derived.KernelRfl
import Derived.OrdersHeld
import Derived.Laws.CopyRow
import Derived.Laws.AppendOwn
import Derived.ArgAppend
namespace Go.Proofs.YtbbdfhgcmkljeaaGreatDoor.Eng
open Go

/-- A program, and what holds where a panic leaves one of its functions. -/
structure PP extends Program where
  pq : List PanicEntry → World → Prop
instance : Coe Program PP := ⟨fun p => ⟨p, fun _ _ => False⟩⟩
instance : CoeOut PP Program := ⟨PP.toProgram⟩
/-! ## Frames as lists; every value is brought to its form before it is stored. -/
def gt : List Value → Nat → Value
  | [], _ => undef
  | v :: _, 0 => v
  | _ :: r, n + 1 => gt r n
/- The recursions are written out by their recursors, so that the kernel and the elaborator come to the same forms. -/
def gtK (l : List Value) : Nat → (Value → Prop) → Prop :=
  List.rec (motive := fun _ => Nat → (Value → Prop) → Prop) (fun _ k => k undef) (fun v _ ih n k => Nat.rec (motive := fun _ => Prop) (k v) (fun m _ => ih m k) n) l
def stK (l : List Value) : Nat → Value → (List Value → Prop) → Prop :=
  List.rec (motive := fun _ => Nat → Value → (List Value → Prop) → Prop) (fun _ _ k => k []) (fun x r ih n v k => Nat.rec (motive := fun _ => Prop) (k (v :: r)) (fun m _ => ih m v (fun r' => k (x :: r'))) n) l
theorem stK_nil (n : Nat) (v : Value) (k : List Value → Prop) : stK [] n v k = k [] := rfl
theorem stK_succ (x : Value) (r : List Value) (n : Nat) (v : Value) (k : List Value → Prop) : stK (x :: r) (n + 1) v k = stK r n v (fun r' => k (x :: r')) := rfl
def ev (ρ : List Value) : Operand → Value
  | .tmp t => gt ρ t
  | .const v => v
  | .global g => .pointer (some ⟨g, 0, none⟩)
  | .func f => .func (.func f) #[] #[]
def evK (ρ : List Value) : Operand → (Value → Prop) → Prop
  | .tmp t, k => gtK ρ t k
  | .const v, k => k v
  | .global g, k => k (.pointer (some ⟨g, 0, none⟩))
  | .func f, k => k (.func (.func f) #[] #[])
def evsK (ρ : List Value) (l : List Operand) : (List Value → Prop) → Prop :=
  List.rec (motive := fun _ => (List Value → Prop) → Prop) (fun k => k []) (fun x _ ih k => evK ρ x fun v => ih fun vs => k (v :: vs)) l
theorem evsK_cons (ρ : List Value) (x : Operand) (r : List Operand) (k : List Value → Prop) : evsK ρ (x :: r) k = evK ρ x fun v => evsK ρ r fun vs => k (v :: vs) := rfl
def putK (ρ : List Value) (d : Option Nat) (v : Value) (k : List Value → Prop) : Prop :=
  match d with
  | none => k ρ
  | some d => stK ρ d v k

theorem gtK_eq (ρ : List Value) (n : Nat) (k : Value → Prop) : gtK ρ n k = k (gt ρ n) := by
  induction ρ generalizing n with
  | nil => rfl
  | cons v r ih => cases n with
    | zero => rfl
    | succ n => exact ih n
theorem stK_eq (ρ : List Value) (n : Nat) (v : Value) (k : List Value → Prop) : stK ρ n v k = k (ρ.set n v) := by
  induction ρ generalizing n k with
  | nil => simp [stK_nil]
  | cons x r ih => cases n with
    | zero => rfl
    | succ n => simp [stK_succ, ih]
theorem evK_eq (ρ : List Value) (x : Operand) (k : Value → Prop) : evK ρ x k = k (ev ρ x) := by
  cases x <;> simp [evK, ev, gtK_eq]
theorem evsK_eq (ρ : List Value) (xs : List Operand) (k : List Value → Prop) : evsK ρ xs k = k (xs.map (ev ρ)) := by
  induction xs generalizing k with
  | nil => rfl
  | cons x r ih => simp [evsK_cons, evK_eq, ih]
def put (ρ : List Value) (d : Option Nat) (v : Value) : List Value :=
  match d with
  | none => ρ
  | some d => ρ.set d v
theorem putK_eq (ρ : List Value) (d : Option Nat) (v : Value) (k : List Value → Prop) : putK ρ d v k = k (put ρ d v) := by
  cases d <;> simp [putK, put, stK_eq]
theorem gt_eq (ρ : List Value) (n : Nat) : gt ρ n = ρ.toArray.getD n undef := by
  induction ρ generalizing n with
  | nil => simp [gt]
  | cons v r ih => cases n with
    | zero => simp [gt]
    | succ n => simp [gt, ih]
theorem ev_eq (ρ : List Value) {ds : List Deferred} : (⟨ρ.toArray, ds⟩ : Act).eval = ev ρ := by
  funext x; cases x <;> simp [Act.eval, ev, gt_eq]
theorem put_eq (ρ : List Value) (d : Option Nat) (v : Value) {ds : List Deferred} : (⟨ρ.toArray, ds⟩ : Act).put d v = ⟨(put ρ d v).toArray, ds⟩ := by
  cases d <;> simp [Act.put, put]

/-! ## Bits -/
def vAnd (k : IntKind) (x y : Int) : Int := k.wrap (BitVec.ofInt k.bits x &&& BitVec.ofInt k.bits y).toNat
def vOr (k : IntKind) (x y : Int) : Int := k.wrap (BitVec.ofInt k.bits x ||| BitVec.ofInt k.bits y).toNat
def vXor (k : IntKind) (x y : Int) : Int := k.wrap (BitVec.ofInt k.bits x ^^^ BitVec.ofInt k.bits y).toNat
def vAndNot (k : IntKind) (x y : Int) : Int := k.wrap (BitVec.ofInt k.bits x &&& ~~~(BitVec.ofInt k.bits y)).toNat
def vShl (k : IntKind) (x y : Int) : Int := k.wrap (x * 2 ^ min y.toNat k.bits)
def vShr (k : IntKind) (x y : Int) : Int := x.fdiv (2 ^ min y.toNat k.bits)
def vWrap (k : IntKind) (x : Int) : Int := k.wrap x
def vQuo (k : IntKind) (x y : Int) : Int := k.wrap (x.tdiv y)
def vRem (x y : Int) : Int := x.tmod y
/- The tests are chosen, so that nobody, the kernel neither, looks into them. -/
theorem vLt_ex : ∃ f : Int → Int → Bool, ∀ x y, f x y = decide (x < y) := ⟨_, fun _ _ => rfl⟩
theorem vLe_ex : ∃ f : Int → Int → Bool, ∀ x y, f x y = decide (x ≤ y) := ⟨_, fun _ _ => rfl⟩
theorem vEq_ex : ∃ f : Int → Int → Bool, ∀ x y, f x y = (x == y) := ⟨_, fun _ _ => rfl⟩
theorem vNe_ex : ∃ f : Int → Int → Bool, ∀ x y, f x y = (x != y) := ⟨_, fun _ _ => rfl⟩
noncomputable def vLt : Int → Int → Bool := Classical.choose vLt_ex
noncomputable def vLe : Int → Int → Bool := Classical.choose vLe_ex
noncomputable def vEq : Int → Int → Bool := Classical.choose vEq_ex
noncomputable def vNe : Int → Int → Bool := Classical.choose vNe_ex
theorem vLt_def (x y : Int) : vLt x y = decide (x < y) := Classical.choose_spec vLt_ex x y
theorem vLe_def (x y : Int) : vLe x y = decide (x ≤ y) := Classical.choose_spec vLe_ex x y
theorem vEq_def (x y : Int) : vEq x y = (x == y) := Classical.choose_spec vEq_ex x y
theorem vNe_def (x y : Int) : vNe x y = (x != y) := Classical.choose_spec vNe_ex x y
attribute [irreducible] vAnd vOr vXor vAndNot vShl vShr vWrap vQuo vRem vLt vLe vEq vNe
def kEq : IntKind → IntKind → Bool
  | .i8, .i8 | .i16, .i16 | .i32, .i32 | .i64, .i64 | .u8, .u8 | .u16, .u16 | .u32, .u32 | .u64, .u64 => true
  | _, _ => false
theorem kEq_eq {k k' : IntKind} (h : kEq k k' = true) : k = k' := by cases k <;> cases k' <;> first | rfl | cases h

/-! ## What is asked at an operation that simp could not run -/
/-- An operation that the plain rules do not run: it yields v and leaves w'. -/
inductive RunP (P : PP) (m : Sem Value) (w : World) (K : Value → World → Prop) : Prop
  | mk (v : Value) (w' : World) (h : m.run P w = .ok v w') (k : K v w')
inductive DoP (P : PP) (m : Sem Unit) (w : World) (K : World → Prop) : Prop
  | mk (w' : World) (h : m.run P w = .ok () w') (k : K w')
/-- A call of function f is entered, and hands back a value. -/
structure Fc (P : PP) (f : FuncId) (args : Array Value) (w : World) (R : Value → World → Prop) : Prop where
  entered : (callFunc f args).run P w = .ok (.enter f args) w
  calls0 : Calls P f args w fun e w' => (∃ v, e = .returned v ∧ R v w') ∨ ∃ c, e = .panicked c ∧ P.pq c w'
theorem Fc.calls {P : Program} {f : FuncId} {args : Array Value} {w : World} {R : Value → World → Prop} (h : Fc P f args w R) : Calls P f args w fun e w' => ∃ v, e = .returned v ∧ R v w' :=
  h.calls0.mono fun _ _ h => h.elim id fun ⟨_, _, h⟩ => h.elim
/-- What never panics may stand where panics are known. -/
theorem Fc.lift {p : Program} {P : PP} {f : FuncId} {args : Array Value} {w : World} {R : Value → World → Prop} (h : Fc p f args w R) (hp : P.toProgram = p := by rfl) : Fc P f args w R := by
  subst hp
  exact ⟨h.entered, h.calls.mono fun _ _ h => .inl h⟩
/-- A panic. -/
inductive PanP (P : PP) (v : Value) (w : World) : Prop
  | mk (u : Value) (h : (Instr.panic v : Sem Value).run P w = .halt (.panic u) w) (k : P.pq [{ v := u, recovered := false }] w)
inductive CallP (P : PP) (f : FuncId) (args : Array Value) (w : World) (K : Value → World → Prop) : Prop
  | mk (h : Fc P f args w K)
inductive MethP (P : PP) (recv : Value) (name : String) (args : Array Value) (w : World) (K : Value → World → Prop) : Prop
  | mk (f : FuncId) (r : Value) (w1 : World) (t : TypeId) (v : Value) (hr : recv = .iface t v)
      (hm : (method (P.types.size + Made.depth) t v name).run P w = .ok (f, r) w1) (h : Fc P f (#[r] ++ args) w1 K)
def boolK (b : Bool) (k : Bool → Prop) : Prop := match b with
  | true => k true
  | false => k false
theorem boolK_eq (b : Bool) (k : Bool → Prop) : boolK b k = k b := by cases b <;> rfl
theorem br {b : Bool} {X Y : Prop} (t : b = true → X) (f : b = false → Y) : boolK.match_1 (fun _ => Prop) b (fun _ => X) (fun _ => Y) := by
  cases b
  · exact f rfl
  · exact t rfl
theorem br_t {b : Bool} {X Y : Prop} (h : b = true) (t : X) : boolK.match_1 (fun _ => Prop) b (fun _ => X) (fun _ => Y) := by subst h; exact t
theorem br_f {b : Bool} {X Y : Prop} (h : b = false) (f : Y) : boolK.match_1 (fun _ => Prop) b (fun _ => X) (fun _ => Y) := by subst h; exact f
inductive DivP (b : Int) (K : Prop) : Prop
  | mk (h : b ≠ 0) (k : K)
inductive ShiftP (b : Int) (K : Prop) : Prop
  | mk (h : 0 ≤ b) (k : K)

/-- A number that may be brought to another form before it is stored. -/
inductive EqP (e : Int) (K : Int → Prop) : Prop
  | mk (m : Int) (h : e = m) (k : K m)
theorem EqP.keep {e : Int} {K : Int → Prop} (k : K e) : EqP e K := ⟨e, rfl, k⟩
theorem EqP.imp {e : Int} {K K' : Int → Prop} (h : EqP e K) (hk : ∀ m, K m → K' m) : EqP e K' := by obtain ⟨m, e, k⟩ := h; exact ⟨m, e, hk _ k⟩

def intBin (op : BinOp) (k : IntKind) (a b : Int) (K : Value → Prop) : Prop :=
  match op with
  | .add => EqP (vWrap k (a + b)) fun n => K (.int k n)
  | .sub => EqP (vWrap k (a - b)) fun n => K (.int k n)
  | .mul => EqP (vWrap k (a * b)) fun n => K (.int k n)
  | .quo => DivP b (EqP (vQuo k a b) fun n => K (.int k n))
  | .rem => DivP b (EqP (vRem a b) fun n => K (.int k n))
  | .and => EqP (vAnd k a b) fun n => K (.int k n)
  | .or => EqP (vOr k a b) fun n => K (.int k n)
  | .xor => EqP (vXor k a b) fun n => K (.int k n)
  | .andNot => EqP (vAndNot k a b) fun n => K (.int k n)
  | .eql => K (.bool (vEq a b))
  | .neq => K (.bool (vNe a b))
  | .lss => K (.bool (vLt a b))
  | .leq => K (.bool (vLe a b))
  | .gtr => K (.bool (vLt b a))
  | .geq => K (.bool (vLe b a))
  | _ => False

def binK (P : PP) (op : BinOp) (t : TypeId) (x y : Operand) (a b : Value) (w : World) (K : Value → World → Prop) : Prop :=
  match a with
  | .int k a => match b with
    | .int k' b => match op with
      | .shl => ShiftP b (EqP (vShl k a b) fun n => K (.int k n) w)
      | .shr => ShiftP b (EqP (vShr k a b) fun n => K (.int k n) w)
      | op => match kEq k k' with
        | true => intBin op k a b fun v => K v w
        | false => False
    | b => RunP P (do eqGuard op t x y (.int k a) b; binOp op t (.int k a) b) w K
  | a => RunP P (do eqGuard op t x y a b; binOp op t a b) w K

def appK (l : List Value) : List Value → (List Value → Prop) → Prop :=
  List.rec (motive := fun _ => List Value → (List Value → Prop) → Prop) (fun ys k => k ys) (fun x _ ih ys k => ih ys fun zs => k (x :: zs)) l
theorem appK_cons (x : Value) (xs ys : List Value) (k : List Value → Prop) : appK (x :: xs) ys k = appK xs ys fun zs => k (x :: zs) := rfl
theorem appK_eq (xs ys : List Value) (k : List Value → Prop) : appK xs ys k = k (xs ++ ys) := by
  induction xs generalizing k with
  | nil => rfl
  | cons x xs ih => simp [appK_cons, ih]
def calleeK (P : PP) (f : Value) (args : List Value) (w : World) (K : Value → World → Prop) : Prop :=
  match f with
  | .func fn first captured => match fn with
    | .func id => appK args captured.toList fun a => appK first.toList a fun a => CallP P id a.toArray w K
    | _ => False
  | _ => False
def nthK (l : List Value) : Nat → (Value → Prop) → Prop :=
  List.rec (motive := fun _ => Nat → (Value → Prop) → Prop) (fun _ _ => False) (fun v _ ih n k => Nat.rec (motive := fun _ => Prop) (k v) (fun m _ => ih m k) n) l
theorem nthK_eq {l : List Value} {n : Nat} {k : Value → Prop} (h : nthK l n k) : ∃ v, l[n]? = some v ∧ k v := by
  induction l generalizing n with
  | nil => exact h.elim
  | cons x r ih => cases n with
    | zero => exact ⟨x, rfl, h⟩
    | succ n => simpa using ih (n := n) h
theorem nthK_imp {l : List Value} {n : Nat} {k k' : Value → Prop} (h : nthK l n k) (hk : ∀ v, k v → k' v) : nthK l n k' := by
  induction l generalizing n with
  | nil => exact h.elim
  | cons x r ih => cases n with
    | zero => exact hk _ h
    | succ n => exact ih (n := n) h

def unK (P : PP) (op : UnOp) (a : Value) (w : World) (K : Value → World → Prop) : Prop :=
  match op with
  | .not => match a with
    | .bool b => K (.bool (!b)) w
    | _ => False
  | .neg => match a with
    | .int k n => EqP (vWrap k (0 - n)) fun m => K (.int k m) w
    | _ => False
  | op => RunP P (Op.unary op a) w K

def convK (P : PP) (src dst : TypeId) (a : Value) (w : World) (K : Value → World → Prop) : Prop :=
  RunP P (convert src dst a) w K

def nilK (v : Value) (w : World) (K : Value → World → Prop) : Prop :=
  match v with
  | .pointer p => match p with
    | some a => K (.pointer (some a)) w
    | none => False
  | .func fn a b => match fn with
    | .func f => K (.func (.func f) a b) w
    | _ => False
  | .iface t x => K (.iface t x) w
  | _ => False

def pairsK (ρ : List Value) (l : List (Nat × Operand)) : (List (Nat × Value) → Prop) → Prop :=
  List.rec (motive := fun _ => (List (Nat × Value) → Prop) → Prop) (fun k => k []) (fun p _ ih k => match p with
    | (i, x) => evK ρ x fun v => ih fun vs => k ((i, v) :: vs)) l
theorem pairsK_cons (ρ : List Value) (i : Nat) (x : Operand) (r : List (Nat × Operand)) (k : List (Nat × Value) → Prop) : pairsK ρ ((i, x) :: r) k = evK ρ x fun v => pairsK ρ r fun vs => k ((i, v) :: vs) := rfl
theorem pairsK_eq (ρ : List Value) (xs : List (Nat × Operand)) (k : List (Nat × Value) → Prop) :
    pairsK ρ xs k = k (xs.map fun (i, x) => (i, ev ρ x)) := by
  induction xs generalizing k with
  | nil => rfl
  | cons x r ih => obtain ⟨i, x⟩ := x; simp [pairsK_cons, evK_eq, ih]
def optK (ρ : List Value) : Option Operand → (Option Value → Prop) → Prop
  | none, k => k none
  | some x, k => evK ρ x fun v => k (some v)
theorem optK_eq (ρ : List Value) (x : Option Operand) (k : Option Value → Prop) : optK ρ x k = k (x.map (ev ρ)) := by
  cases x <;> simp [optK, evK_eq]

def tupK (v : Value) (i : Nat) (w : World) (K : Value → World → Prop) : Prop :=
  match v with
  | .tuple vs => nthK vs.toList i fun v => K v w
  | _ => False

def opK (P : PP) (o : Oper) (ρ : List Value) (w : World) (K : Value → World → Prop) : Prop :=
  match o.op with
  | .move x => evK ρ x fun v => K v w
  | .assign x => evK ρ x fun v => K v w
  | .pick c a b => evK ρ c fun c => match c with
    | .bool c => boolK c fun c => match c with
      | true => evK ρ a fun v => K v w
      | false => evK ρ b fun v => K v w
    | _ => False
  | .alloc t => RunP P (Instr.alloc t true (.tuple #[])) w K
  | .box t x => evK ρ x fun v => RunP P (Instr.box t v) w K
  | .build t parts => pairsK ρ parts.toList fun vs => RunP P (Instr.build t vs.toArray) w K
  | .buildSlice t n parts => pairsK ρ parts.toList fun vs => RunP P (Instr.buildSlice t n vs.toArray) w K
  | .load t x => evK ρ x fun a => RunP P (Instr.loadAt t a) w K
  | .store t x y => evK ρ x fun a => evK ρ y fun v => DoP P (Instr.storeAt t a v) w (K undef)
  | .nilCheck x => evK ρ x fun v => nilK v w K
  | .binOp op t x y _ => evK ρ x fun a => evK ρ y fun b => binK P op t x y a b w K
  | .unOp op _ x => evK ρ x fun a => unK P op a w K
  | .convert s d x => evK ρ x fun a => convK P s d a w K
  | .makeInterface t x => evK ρ x fun a => RunP P (Instr.makeInterface t a) w K
  | .makeFunc fn first captured => evsK ρ first.toList fun fs => evsK ρ captured.toList fun cs => K (.func fn fs.toArray cs.toArray) w
  | .makeSlice t l c => evK ρ l fun l => evK ρ c fun c => RunP P (Instr.makeSlice t l c) w K
  | .slice t x lo hi mx => evK ρ x fun a => optK ρ lo fun lo => optK ρ hi fun hi => optK ρ mx fun mx => RunP P (Instr.sliceAt t a lo hi mx) w K
  | .fieldAddr t x f => evK ρ x fun a => RunP P (Instr.fieldAt t a f) w K
  | .field t x f => evK ρ x fun a => RunP P (Instr.field t a f) w K
  | .indexAddr t x i => evK ρ x fun a => evK ρ i fun i => RunP P (Instr.indexAt t a i) w K
  | .index t x i => evK ρ x fun a => evK ρ i fun i => RunP P (Instr.index t a i) w K
  | .extract x i => evK ρ x fun v => tupK v i w K
  | .typeAssert x t u ok => evK ρ x fun a => RunP P (Instr.typeAssert a t u ok) w K
  | .call c => match c.callee with
    | .value f => evK ρ f fun f => evsK ρ c.args.toList fun vs => calleeK P f vs w K
    | .builtin .append => evsK ρ c.args.toList fun vs => RunP P (Builtin.append_ c.argTypes o.type vs.toArray) w K
    | .builtin .len => evsK ρ c.args.toList fun vs => RunP P (Builtin.len_ c.argTypes o.type vs.toArray) w K
    | .builtin .copy => evsK ρ c.args.toList fun vs => RunP P (Builtin.copy_ c.argTypes o.type vs.toArray) w K
    | .builtin .max => evsK ρ c.args.toList fun vs => RunP P (Builtin.max_ c.argTypes o.type vs.toArray) w K
    | .builtin .min => evsK ρ c.args.toList fun vs => RunP P (Builtin.min_ c.argTypes o.type vs.toArray) w K
    | .builtin .cap => evsK ρ c.args.toList fun vs => RunP P (Builtin.cap_ c.argTypes o.type vs.toArray) w K
    | .builtin .clear => evsK ρ c.args.toList fun vs => RunP P (Builtin.clear_ c.argTypes o.type vs.toArray) w K
    | .builtin .delete => evsK ρ c.args.toList fun vs => RunP P (Builtin.delete_ c.argTypes o.type vs.toArray) w K
    | .builtin .unsafeSliceData => evsK ρ c.args.toList fun vs => RunP P (Builtin.unsafeSliceData_ c.argTypes o.type vs.toArray) w K
    | .builtin .unsafeString => evsK ρ c.args.toList fun vs => RunP P (Builtin.unsafeString_ c.argTypes o.type vs.toArray) w K
    | .invoke r name => evK ρ r fun r => evsK ρ c.args.toList fun vs => MethP P r name vs.toArray w K
    | _ => False
  | .makeMap t r => optK ρ r fun r => RunP P (Instr.makeMap t r) w K
  | .lookup t x i ok => evK ρ x fun a => evK ρ i fun i => RunP P (Instr.lookup t a i ok) w K
  | .mapUpdate t m k x => evK ρ m fun m => evK ρ k fun k => evK ρ x fun x => DoP P (Instr.mapUpdate t m k x) w (K undef)
  | .range t x => evK ρ x fun a => RunP P (Instr.range t a) w K
  | .next it st => evK ρ it fun a => RunP P (Instr.next a st o.type) w K
  | .entry it => evK ρ it fun a => RunP P (Instr.entry a) w K
  | .panic x => evK ρ x fun v => PanP P v w
  | _ => False

/-! ## Soundness of one operation -/
theorem RunP.imp {P : PP} {m : Sem Value} {w : World} {K K' : Value → World → Prop} (h : RunP P m w K) (hk : ∀ v w', K v w' → K' v w') : RunP P m w K' := by
  obtain ⟨v, w', h, k⟩ := h; exact ⟨v, w', h, hk _ _ k⟩
theorem DoP.imp {P : PP} {m : Sem Unit} {w : World} {K K' : World → Prop} (h : DoP P m w K) (hk : ∀ w', K w' → K' w') : DoP P m w K' := by
  obtain ⟨w', h, k⟩ := h; exact ⟨w', h, hk _ k⟩
theorem Fc.imp {P : PP} {f : FuncId} {args : Array Value} {w : World} {R R' : Value → World → Prop} (h : Fc P f args w R) (hk : ∀ v w', R v w' → R' v w') : Fc P f args w R' :=
  ⟨h.entered, h.calls0.mono fun _ _ h => h.imp (fun ⟨v, he, hr⟩ => ⟨v, he, hk _ _ hr⟩) id⟩
theorem CallP.imp {P : PP} {f : FuncId} {args : Array Value} {w : World} {R R' : Value → World → Prop} (h : CallP P f args w R) (hk : ∀ v w', R v w' → R' v w') : CallP P f args w R' := by
  obtain ⟨h⟩ := h; exact ⟨h.imp hk⟩
theorem MethP.imp {P : PP} {r : Value} {n : String} {args : Array Value} {w : World} {R R' : Value → World → Prop} (h : MethP P r n args w R) (hk : ∀ v w', R v w' → R' v w') : MethP P r n args w R' := by
  obtain ⟨f, r, w1, t, v, hr, hm, h⟩ := h; exact ⟨f, r, w1, t, v, hr, hm, h.imp hk⟩
theorem intBin_imp {op : BinOp} {k : IntKind} {a b : Int} {K K' : Value → Prop} (h : intBin op k a b K) (hk : ∀ v, K v → K' v) : intBin op k a b K' := by
  cases op <;> simp only [intBin] at h ⊢ <;> first | exact hk _ h | exact h.imp fun m => hk _ | (obtain ⟨h, k⟩ := h; exact ⟨h, k.imp fun m => hk _⟩) | exact h
theorem binK_imp {P : PP} {op : BinOp} {t : TypeId} {x y : Operand} {a b : Value} {w : World} {K K' : Value → World → Prop}
    (h : binK P op t x y a b w K) (hk : ∀ v w', K v w' → K' v w') : binK P op t x y a b w K' := by
  unfold binK at h ⊢
  split at h
  · split at h
    · split at h
      · obtain ⟨h, k⟩ := h; exact ⟨h, k.imp fun m => hk _ _⟩
      · obtain ⟨h, k⟩ := h; exact ⟨h, k.imp fun m => hk _ _⟩
      · split at h
        · exact intBin_imp h fun v => hk v w
        · exact h
    · exact h.imp hk
  · exact h.imp hk
theorem unK_imp {P : PP} {op : UnOp} {a : Value} {w : World} {K K' : Value → World → Prop}
    (h : unK P op a w K) (hk : ∀ v w', K v w' → K' v w') : unK P op a w K' := by
  unfold unK at h ⊢
  split at h
  · split at h
    · exact hk _ _ h
    · exact h
  · split at h
    · exact h.imp fun m => hk _ _
    · exact h
  · exact h.imp hk
theorem nilK_imp {a : Value} {w : World} {K K' : Value → World → Prop}
    (h : nilK a w K) (hk : ∀ v w', K v w' → K' v w') : nilK a w K' := by
  unfold nilK at h ⊢
  split at h
  · split at h
    · exact hk _ _ h
    · exact h
  · split at h
    · exact hk _ _ h
    · exact h
  · exact hk _ _ h
  · exact h
theorem tupK_imp {a : Value} {i : Nat} {w : World} {K K' : Value → World → Prop}
    (h : tupK a i w K) (hk : ∀ v w', K v w' → K' v w') : tupK a i w K' := by
  unfold tupK at h ⊢
  split at h
  · exact nthK_imp h fun v => hk v w
  · exact h
theorem calleeK_imp {P : PP} {f : Value} {vs : List Value} {w : World} {K K' : Value → World → Prop}
    (h : calleeK P f vs w K) (hk : ∀ v w', K v w' → K' v w') : calleeK P f vs w K' := by
  unfold calleeK at h ⊢
  simp only [appK_eq] at h ⊢
  split at h
  · split at h
    · exact h.imp hk
    · exact h
  · exact h
theorem opK_imp {P : PP} {o : Oper} {ρ : List Value} {w : World} {K K' : Value → World → Prop}
    (h : opK P o ρ w K) (hk : ∀ v w', K v w' → K' v w') : opK P o ρ w K' := by
  unfold opK at h ⊢
  simp only [evK_eq, evsK_eq, pairsK_eq, optK_eq, boolK_eq] at h ⊢
  split at h <;> first
    | exact h.imp hk
    | exact hk _ _ h
    | exact binK_imp h hk
    | exact unK_imp h hk
    | exact RunP.imp h hk
    | exact nilK_imp h hk
    | exact tupK_imp h hk
    | exact h.imp fun w' => hk _ w'
    | exact h
    | (split at h <;> first | exact calleeK_imp h hk | exact RunP.imp h hk | exact MethP.imp h hk | exact h | (split at h <;> exact hk _ _ h))

theorem upon_run {P : PP} {o : Oper} {a : Act} {m : Sem Value} {w : World} {next : Act → World → Prop} {Q : Exit → Act → World → Prop}
    (he : execOp a.eval o = (do pure (.value (← m)))) (h : RunP P m w fun v w' => next (a.put o.dst v) w') : o.wp P a w next Q := by
  obtain ⟨v, w', hm, k⟩ := h
  simp only [Oper.wp, he, Sem.run_bind, hm, Result.andThen_ok, Sem.run_pure, Oper.upon]
  exact k
theorem upon_val {P : PP} {o : Oper} {a : Act} {v : Value} {w w' : World} {next : Act → World → Prop} {Q : Exit → Act → World → Prop}
    (he : (execOp a.eval o).run P w = .ok (.value v) w') (h : next (a.put o.dst v) w') : o.wp P a w next Q := by
  simp only [Oper.wp, he, Oper.upon]
  exact h
theorem upon_call {P : PP} {o : Oper} {a : Act} {f : FuncId} {args : Array Value} {w : World} {next : Act → World → Prop} {Q : Exit → Act → World → Prop}
    (he : (execOp a.eval o).run P w = (callFunc f args).run P w) (hq : ∀ c w', P.pq c w' → Q (.panic c) a w') (h : Fc P f args w fun v w' => next (a.put o.dst v) w') : o.wp P a w next Q := by
  obtain ⟨h1, h2⟩ := h
  simp only [Oper.wp, he, h1, Oper.upon]
  refine h2.mono ?_
  rintro e w' (⟨v, rfl, hr⟩ | ⟨c, rfl, hr⟩)
  · exact hr
  · exact hq _ _ hr
theorem intBin_sound {P : PP} {op : BinOp} {k : IntKind} {t : TypeId} {x y : Operand} {a b : Int} {w : World} {K : Value → Prop} (hop1 : op ≠ .shl) (hop2 : op ≠ .shr)
    (h : intBin op k a b K) : RunP P (do eqGuard op t x y (.int k a) (.int k b); binOp op t (.int k a) (.int k b)) w fun v w' => w' = w ∧ K v := by
  have hg : (eqGuard op t x y (.int k a) (.int k b)).run P w = .ok () w := by
    unfold eqGuard; split <;> rfl
  cases op <;> simp only [intBin] at h <;> first
    | (obtain ⟨hb, _, rfl, h⟩ := h; refine ⟨_, w, ?_, rfl, h⟩; simp only [Sem.run_bind, hg, Result.andThen_ok]; simp [binOp, Op.intDiv, hb, vQuo, vRem])
    | (obtain ⟨_, rfl, h⟩ := h; refine ⟨_, w, ?_, rfl, h⟩; simp only [Sem.run_bind, hg, Result.andThen_ok]; simp [binOp, Op.intArith, Op.intBits, Op.intCmp, vWrap, vAnd, vOr, vXor, vAndNot, vEq_def, vNe_def, vLt_def, vLe_def])
    | (refine ⟨_, w, ?_, rfl, h⟩; simp only [Sem.run_bind, hg, Result.andThen_ok]; simp [binOp, Op.intArith, Op.intBits, Op.intCmp, vWrap, vAnd, vOr, vXor, vAndNot, vEq_def, vNe_def, vLt_def, vLe_def])
    | contradiction
    | exact h.elim
theorem binK_sound {P : PP} {op : BinOp} {t : TypeId} {x y : Operand} {a b : Value} {w : World} {K : Value → World → Prop}
    (h : binK P op t x y a b w K) : RunP P (do eqGuard op t x y a b; binOp op t a b) w K := by
  unfold binK at h
  split at h
  · split at h
    · split at h
      · obtain ⟨hb, _, rfl, h⟩ := h
        refine ⟨_, w, ?_, h⟩
        simp only [eqGuard, Sem.run_bind]; simp [binOp, Op.shift, vShl, Int.not_lt.2 hb]
      · obtain ⟨hb, _, rfl, h⟩ := h
        refine ⟨_, w, ?_, h⟩
        simp only [eqGuard, Sem.run_bind]; simp [binOp, Op.shift, vShr, Int.not_lt.2 hb]
      · rename_i hk1 hk2
        split at h
        · rename_i hk
          obtain rfl := kEq_eq hk
          exact (intBin_sound (fun e => hk1 e) (fun e => hk2 e) h).imp fun v w' ⟨e, k⟩ => e ▸ k
        · exact h.elim
    · exact h
  · exact h
theorem opK_sound {ds : List Deferred} {P : PP} {o : Oper} {ρ : List Value} {w : World} {K : Value → World → Prop} {next : Act → World → Prop} {Q : Exit → Act → World → Prop}
    (h : opK P o ρ w K) (hq : ∀ c w', P.pq c w' → Q (.panic c) ⟨ρ.toArray, ds⟩ w') (hn : ∀ v w', K v w' → next ((⟨ρ.toArray, ds⟩ : Act).put o.dst v) w') : o.wp P ⟨ρ.toArray, ds⟩ w next Q := by
  have h := opK_imp h hn
  clear hn
  unfold opK at h
  simp only [evK_eq, evsK_eq, pairsK_eq, optK_eq, boolK_eq] at h
  split at h
  case h_1 x ho => exact upon_val (v := ev ρ x) (w' := w) (by rw [ev_eq]; unfold execOp; rw [ho]; rfl) h
  case h_2 x ho => exact upon_val (v := ev ρ x) (w' := w) (by rw [ev_eq]; unfold execOp; rw [ho]; rfl) h
  case h_3 c a b ho =>
    split at h
    · rename_i cb hc
      split at h
      · exact upon_val (v := ev ρ a) (w' := w) (by rw [ev_eq]; unfold execOp; rw [ho]; simp [hc, asBool]) h
      · exact upon_val (v := ev ρ b) (w' := w) (by rw [ev_eq]; unfold execOp; rw [ho]; simp [hc, asBool]) h
    · exact h.elim
  case h_4 t ho => exact upon_run (by unfold execOp; rw [ho]) h
  case h_5 t x ho => exact upon_run (by rw [ev_eq]; unfold execOp; rw [ho]) h
  case h_6 t ps ho =>
    refine upon_run (m := Instr.build t ((ps.toList.map fun (i, x) => (i, ev ρ x)).toArray)) (by rw [ev_eq]; unfold execOp; rw [ho]; simp [← Array.toList_map]) h
  case h_7 t n ps ho =>
    refine upon_run (m := Instr.buildSlice t n ((ps.toList.map fun (i, x) => (i, ev ρ x)).toArray)) (by rw [ev_eq]; unfold execOp; rw [ho]; simp [← Array.toList_map]) h
  case h_8 t x ho => exact upon_run (by rw [ev_eq]; unfold execOp; rw [ho]) h
  case h_9 t x y ho =>
    obtain ⟨w', hm, k⟩ := h
    have he : (execOp (⟨ρ.toArray, ds⟩ : Act).eval o).run P w = .ok .skip w' := by
      rw [ev_eq]; unfold execOp; rw [ho]; simp only [Sem.run_bind, hm, Result.andThen_ok, Sem.run_pure]
    simp only [Oper.wp, he, Oper.upon]
    exact k
  case h_10 x ho =>
    have he : ∀ u, nilK (ev ρ x) w u → ∃ v, (execOp (ev ρ) o).run P w = .ok (.value v) w ∧ u v w := by
      intro u hu
      unfold nilK at hu
      unfold execOp
      rw [ho]
      simp only
      split at hu
      · rename_i p hp
        split at hu
        · exact ⟨_, by rw [hp]; rfl, hu⟩
        · exact hu.elim
      · rename_i fn a b hp
        split at hu
        · exact ⟨_, by rw [hp]; rfl, hu⟩
        · exact hu.elim
      · rename_i t v hp
        exact ⟨_, by rw [hp]; rfl, hu⟩
      · exact hu.elim
    obtain ⟨v, h1, h2⟩ := he _ h
    exact upon_val (by rw [ev_eq]; exact h1) h2
  case h_11 op t x y yt ho => exact upon_run (by rw [ev_eq]; unfold execOp; rw [ho]) (binK_sound h)
  case h_12 op t x ho =>
    unfold unK at h
    split at h
    · split at h
      · rename_i b hb
        refine upon_val (v := .bool (!b)) (w' := w) ?_ h
        rw [ev_eq]; unfold execOp; rw [ho]; simp [hb, Op.unary]
      · exact h.elim
    · split at h
      · rename_i k n hb
        obtain ⟨_, rfl, h⟩ := h
        refine upon_val (v := .int k (vWrap k (0 - n))) (w' := w) ?_ h
        rw [ev_eq]; unfold execOp; rw [ho]; simp [hb, Op.unary, Op.intArith, vWrap]
      · exact h.elim
    · exact upon_run (by rw [ev_eq]; unfold execOp; rw [ho]) h
  case h_13 s d x ho => exact upon_run (by rw [ev_eq]; unfold execOp; rw [ho]) h
  case h_14 t x ho => exact upon_run (by rw [ev_eq]; unfold execOp; rw [ho]) h
  case h_15 fn fs cs ho =>
    refine upon_val (w' := w) ?_ h
    rw [ev_eq]; unfold execOp; rw [ho]; simp [Instr.makeFunc, ← Array.toList_map]
  case h_16 t l c ho => exact upon_run (by rw [ev_eq]; unfold execOp; rw [ho]) h
  case h_17 t x lo hi mx ho => exact upon_run (by rw [ev_eq]; unfold execOp; rw [ho]) h
  case h_18 t x f ho => exact upon_run (by rw [ev_eq]; unfold execOp; rw [ho]) h
  case h_19 t x f ho => exact upon_run (by rw [ev_eq]; unfold execOp; rw [ho]) h
  case h_20 t x i ho => exact upon_run (by rw [ev_eq]; unfold execOp; rw [ho]) h
  case h_21 t x i ho => exact upon_run (by rw [ev_eq]; unfold execOp; rw [ho]) h
  case h_22 x i ho =>
    unfold tupK at h
    split at h
    · rename_i vs hv
      obtain ⟨u, hu, h⟩ := nthK_eq h
      refine upon_val (v := u) (w' := w) ?_ h
      rw [ev_eq]; unfold execOp; rw [ho]
      simp only [Array.getElem?_toList] at hu
      simp [hv, Instr.extract, hu]
    · exact h.elim
  case h_23 x t u ok ho => exact upon_run (by rw [ev_eq]; unfold execOp; rw [ho]) h
  case h_24 c ho =>
    have hargs : ∀ (xs : Array Operand), (xs.toList.map (ev ρ)).toArray = xs.map (ev ρ) := fun xs => by simp [← Array.toList_map]
    split at h
    · rename_i f hf
      unfold calleeK at h
      simp only [appK_eq] at h
      split at h
      · rename_i fn fst cap hv
        split at h
        · rename_i id
          obtain ⟨h⟩ := h
          refine upon_call (f := id) ?_ hq h
          have he : (fst.toList ++ (List.map (ev ρ) c.args.toList ++ cap.toList)).toArray = fst ++ Array.map (ev ρ) c.args ++ cap := by
            apply Array.ext'; simp
          rw [ev_eq]; unfold execOp; rw [ho]
          simp only [resolve, hf, hv, Deferred.ofValue, Sem.run_bind, Sem.run_pure, Result.andThen_ok, invoke, he]
        · exact h.elim
      · exact h.elim
    · rename_i hc
      refine upon_run (m := Builtin.append_ c.argTypes o.type (c.args.map (ev ρ))) ?_ (by rw [← hargs]; exact h)
      rw [ev_eq]; unfold execOp; rw [ho]; simp only [resolve, hc, pure_bind, invoke, builtin]
    · rename_i hc
      refine upon_run (m := Builtin.len_ c.argTypes o.type (c.args.map (ev ρ))) ?_ (by rw [← hargs]; exact h)
      rw [ev_eq]; unfold execOp; rw [ho]; simp only [resolve, hc, pure_bind, invoke, builtin]
    · rename_i hc
      refine upon_run (m := Builtin.copy_ c.argTypes o.type (c.args.map (ev ρ))) ?_ (by rw [← hargs]; exact h)
      rw [ev_eq]; unfold execOp; rw [ho]; simp only [resolve, hc, pure_bind, invoke, builtin]
    · rename_i hc
      refine upon_run (m := Builtin.max_ c.argTypes o.type (c.args.map (ev ρ))) ?_ (by rw [← hargs]; exact h)
      rw [ev_eq]; unfold execOp; rw [ho]; simp only [resolve, hc, pure_bind, invoke, builtin]
    · rename_i hc
      refine upon_run (m := Builtin.min_ c.argTypes o.type (c.args.map (ev ρ))) ?_ (by rw [← hargs]; exact h)
      rw [ev_eq]; unfold execOp; rw [ho]; simp only [resolve, hc, pure_bind, invoke, builtin]
    · rename_i hc
      refine upon_run (m := Builtin.cap_ c.argTypes o.type (c.args.map (ev ρ))) ?_ (by rw [← hargs]; exact h)
      rw [ev_eq]; unfold execOp; rw [ho]; simp only [resolve, hc, pure_bind, invoke, builtin]
    · rename_i hc
      refine upon_run (m := Builtin.clear_ c.argTypes o.type (c.args.map (ev ρ))) ?_ (by rw [← hargs]; exact h)
      rw [ev_eq]; unfold execOp; rw [ho]; simp only [resolve, hc, pure_bind, invoke, builtin]
    · rename_i hc
      refine upon_run (m := Builtin.delete_ c.argTypes o.type (c.args.map (ev ρ))) ?_ (by rw [← hargs]; exact h)
      rw [ev_eq]; unfold execOp; rw [ho]; simp only [resolve, hc, pure_bind, invoke, builtin]
    · rename_i hc
      refine upon_run (m := Builtin.unsafeSliceData_ c.argTypes o.type (c.args.map (ev ρ))) ?_ (by rw [← hargs]; exact h)
      rw [ev_eq]; unfold execOp; rw [ho]; simp only [resolve, hc, pure_bind, invoke, builtin]
    · rename_i hc
      refine upon_run (m := Builtin.unsafeString_ c.argTypes o.type (c.args.map (ev ρ))) ?_ (by rw [← hargs]; exact h)
      rw [ev_eq]; unfold execOp; rw [ho]; simp only [resolve, hc, pure_bind, invoke, builtin]
    · rename_i r name hc
      obtain ⟨f, rv, w1, t, v, hr, hm, h⟩ := h
      obtain ⟨h1, h2⟩ := h
      have he : (execOp (⟨ρ.toArray, ds⟩ : Act).eval o).run P w = .ok (.enter f (#[rv] ++ (c.args.toList.map (ev ρ)).toArray)) w1 := by
        rw [ev_eq]; unfold execOp; rw [ho]
        simp only [resolve, hc, pure_bind, invoke, hr]
        have e1 : (#[Value.iface t v] ++ Array.map (ev ρ) c.args)[0]? = some (.iface t v) := by
          rw [Array.getElem?_append_left (Nat.zero_lt_one)]; rfl
        have e2 : (#[Value.iface t v] ++ Array.map (ev ρ) c.args).extract 1 (#[Value.iface t v] ++ Array.map (ev ρ) c.args).size = Array.map (ev ρ) c.args := by
          apply Array.ext'; simp [List.take_of_length_le]
        simp only [e1, e2, callMethod]
        have e3 : ∀ (k : FuncId × Value → Sem Next), (do let __do_lift ← program; let x ← method (__do_lift.types.size + Made.depth) t v name; k x : Sem Next).run P w = (k (f, rv)).run P w1 := by
          intro k
          show (method (P.types.size + Made.depth) t v name >>= fun x => k x).run P w = _
          rw [Sem.run_bind, hm]; rfl
        rw [hargs] at h1 ⊢
        exact (e3 _).trans h1
      simp only [Oper.wp, he, Oper.upon]
      refine h2.mono ?_
      rintro e w' (⟨v, rfl, hr⟩ | ⟨c, rfl, hr⟩)
      · exact hr
      · exact hq _ _ hr
    · exact h.elim
  case h_25 t r ho => exact upon_run (by rw [ev_eq]; unfold execOp; rw [ho]) h
  case h_26 t x i ok ho => exact upon_run (by rw [ev_eq]; unfold execOp; rw [ho]) h
  case h_27 t m k x ho =>
    obtain ⟨w', hm, k⟩ := h
    have he : (execOp (⟨ρ.toArray, ds⟩ : Act).eval o).run P w = .ok .skip w' := by
      rw [ev_eq]; unfold execOp; rw [ho]; simp only [Sem.run_bind, hm, Result.andThen_ok, Sem.run_pure]
    simp only [Oper.wp, he, Oper.upon]
    exact k
  case h_28 t x ho => exact upon_run (by rw [ev_eq]; unfold execOp; rw [ho]) h
  case h_29 it st ho => exact upon_run (by rw [ev_eq]; unfold execOp; rw [ho]) h
  case h_30 it ho => exact upon_run (by rw [ev_eq]; unfold execOp; rw [ho]) h
  case h_31 x ho =>
    obtain ⟨u, hu, k⟩ := h
    have he : (execOp (⟨ρ.toArray, ds⟩ : Act).eval o).run P w = .halt (.panic u) w := by
      rw [ev_eq]; unfold execOp; rw [ho]
      simp only [Sem.run_bind, hu]
      rfl
    simp only [Oper.wp, he, Oper.upon]
    exact hq _ _ k
  case h_32 => exact h.elim
/-! ## Code -/
/-- The value of a guard: 'none' where the operation has none. -/
def guardK (ops : List Oper) (g : Option (Nat × Bool)) (ρ : List Value) (k : Bool → List Value → Prop) : Prop :=
  match g with
  | none => k true ρ
  | some (j, want) => match ops[j]? with
    | none => False
    | some oj => match oj.dst with
      | none => False
      | some d => gtK ρ d fun v => match v with
        | .bool b => boolK b fun b => stK ρ d (.bool b) fun ρ => match b with
          | true => match want with
            | true => k true ρ
            | false => k false ρ
          | false => match want with
            | true => k false ρ
            | false => k true ρ
        | .tuple _ => k false ρ
        | _ => False
def opsK (P : PP) (ops : List Oper) (K : List Value → World → Prop) (l : List Oper) : List Value → World → Prop :=
  List.rec (motive := fun _ => List Value → World → Prop) K (fun o _ ih ρ w => guardK ops o.guard ρ fun b ρ => match b with
    | true => opK P o ρ w fun v w => putK ρ o.dst v fun ρ => ih ρ w
    | false => putK ρ o.dst undef fun ρ => ih ρ w) l
theorem opsK_nil (P : PP) (ops : List Oper) (K : List Value → World → Prop) (ρ : List Value) (w : World) : opsK P ops K [] ρ w = K ρ w := rfl
theorem opsK_cons (P : PP) (ops : List Oper) (K : List Value → World → Prop) (o : Oper) (r : List Oper) (ρ : List Value) (w : World) : opsK P ops K (o :: r) ρ w = guardK ops o.guard ρ fun b ρ => match b with
    | true => opK P o ρ w fun v w => putK ρ o.dst v fun ρ => opsK P ops K r ρ w
    | false => putK ρ o.dst undef fun ρ => opsK P ops K r ρ w := rfl
def thenK (next : List Value → World → Prop) (Q : Exit → List Value → World → Prop) (e : Exit) (ρ : List Value) (w : World) : Prop :=
  match e with
  | .normal => next ρ w
  | e => Q e ρ w
def blockK (id : Nat) (Q : Exit → List Value → World → Prop) (e : Exit) (ρ : List Value) (w : World) : Prop :=
  match e with
  | .exit id' => match id' == id with
    | true => Q .normal ρ w
    | false => Q (.exit id') ρ w
  | e => Q e ρ w
def noGotoK (Q : Exit → List Value → World → Prop) (e : Exit) (ρ : List Value) (w : World) : Prop :=
  match e with
  | .goto _ => False
  | e => Q e ρ w
/-- As Q; by a goto to label l: J. -/
def jumpK (l : Nat) (J : List Value → World → Prop) (Q : Exit → List Value → World → Prop) (e : Exit) (ρ : List Value) (w : World) : Prop :=
  match e with
  | .goto l' => l' = l ∧ J ρ w
  | e => Q e ρ w
/-- The meaning of a piece of code: what it must come to, from a frame and a world. -/
abbrev Mng := (Exit → List Value → World → Prop) → List Value → World → Prop
/-- A loop: a word that holds at each round's head, and a measure. -/
inductive LoopP (P : PP) (c : Code) (B : Mng) (Q : Exit → List Value → World → Prop) (ρ : List Value) (w : World) : Prop
  | mk (I : List Value → World → Prop) (μ : List Value → World → Nat) (h0 : I ρ w)
      (round : ∀ ρ w, I ρ w → B (thenK (fun ρ' w' => I ρ' w' ∧ μ ρ' w' < μ ρ w) Q) ρ w)
/-- A test of the text's own. -/
inductive CondP (P : PP) (x y : Code) (B C : Mng) (b : Bool) (Q : Exit → List Value → World → Prop) (ρ : List Value) (w : World) : Prop
  | mk (t : b = true → B Q ρ w) (f : b = false → C Q ρ w)
/-- A block that is left by its number. -/
inductive BlkP (P : PP) (c : Code) (B : Mng) (id : Nat) (Q : Exit → List Value → World → Prop) (ρ : List Value) (w : World) : Prop
  | mk (h : B (blockK id Q) ρ w)
theorem cT {P : PP} {x y : Code} {B C : Mng} {b : Bool} {Q : Exit → List Value → World → Prop} {ρ : List Value} {w : World} (h : b = true) (k : B Q ρ w) : CondP P x y B C b Q ρ w :=
  ⟨fun _ => k, fun e => (by rw [h] at e; cases e)⟩
theorem cF {P : PP} {x y : Code} {B C : Mng} {b : Bool} {Q : Exit → List Value → World → Prop} {ρ : List Value} {w : World} (h : b = false) (k : C Q ρ w) : CondP P x y B C b Q ρ w :=
  ⟨fun e => (by rw [h] at e; cases e), fun _ => k⟩
theorem cI {P : PP} {x y : Code} {B C : Mng} {b : Bool} {Q : Exit → List Value → World → Prop} {ρ : List Value} {w : World} (t : b = true → B Q ρ w) (f : b = false → C Q ρ w) : CondP P x y B C b Q ρ w := ⟨t, f⟩
theorem bk {P : PP} {c : Code} {B : Mng} {id : Nat} {Q : Exit → List Value → World → Prop} {ρ : List Value} {w : World} (h : B (blockK id Q) ρ w) : BlkP P c B id Q ρ w := ⟨h⟩
def opsDsts (ops : List Oper) : List Nat := ops.filterMap fun o => o.dst
def agree (ds : List Nat) (ρ ρ' : List Value) : Prop := ρ'.length = ρ.length ∧ ∀ i, i ∉ ds → ρ'[i]? = ρ[i]?
def dstsC : Code → List Nat
  | .seq x y => dstsC x ++ dstsC y
  | .cond _ x y => dstsC x ++ dstsC y
  | .block _ c => dstsC c
  | .loop c => dstsC c
  | .scope c => dstsC c
  | .region _ ops _ => opsDsts ops.toList
  | _ => []
theorem dstsC_label {l : Nat} : ∀ {c rest : Code}, findLabel c l = some rest → ∀ i, i ∈ dstsC rest → i ∈ dstsC c := by
  intro c
  induction c with
  | seq x y ihx ihy =>
    intro rest h i hi
    unfold findLabel at h
    cases hx : findLabel x l with
    | some r =>
      rw [hx] at h
      obtain rfl := Option.some.inj h
      rcases List.mem_append.1 hi with hi | hi
      · exact List.mem_append_left _ (ihx hx i hi)
      · exact List.mem_append_right _ hi
    | none => rw [hx] at h; exact List.mem_append_right _ (ihy h i hi)
  | label l' =>
    intro rest h i hi
    unfold findLabel at h
    split at h
    · obtain rfl := Option.some.inj h; cases hi
    · cases h
  | _ => intro rest h; simp [findLabel] at h
/-- What a piece of code must come to: by a panic, what is known of panics; what is not of D stays. -/
def lift (P : PP) (ds : List Deferred) (D : List Nat) (ρ0 : List Value) (Q : Exit → List Value → World → Prop) (e : Exit) (a : Act) (w : World) : Prop := a.defers = ds ∧ agree D ρ0 a.tmps.toList ∧ match e with
  | .panic c => P.pq c w
  | e => Q e a.tmps.toList w
/-- As 'lift', where a piece ends as code does that has no jumps. -/
def nrm (P : PP) (ds : List Deferred) (D : List Nat) (ρ0 : List Value) (K : List Value → World → Prop) (e : Exit) (a : Act) (w : World) : Prop := match e with
  | .panic c => a.defers = ds ∧ agree D ρ0 a.tmps.toList ∧ P.pq c w
  | e => e = .normal ∧ a.defers = ds ∧ agree D ρ0 a.tmps.toList ∧ K a.tmps.toList w
theorem nrm_imp {P : PP} {ds : List Deferred} {D : List Nat} {ρ0 : List Value} {K K' : List Value → World → Prop} (hk : ∀ ρ w, agree D ρ0 ρ → K ρ w → K' ρ w) (e : Exit) (a : Act) (w : World) (h : nrm P ds D ρ0 K e a w) : nrm P ds D ρ0 K' e a w := by
  cases e <;> simp only [nrm] at h ⊢ <;> first | exact h | exact ⟨h.1, h.2.1, h.2.2.1, hk _ _ h.2.2.1 h.2.2.2⟩
theorem nrm_put {P : PP} {ds : List Deferred} {D : List Nat} {ρ0 : List Value} {K : List Value → World → Prop} {d : Option Nat} {v : Value} (hd : ∀ n, d = some n → n ∈ D) (c : List PanicEntry) (a : Act) (w : World) (h : nrm P ds D ρ0 K (.panic c) (a.put d v) w) : nrm P ds D ρ0 K (.panic c) a w := by
  cases d with
  | none => exact h
  | some n =>
    obtain ⟨h1, ⟨h2, h3⟩, h4⟩ := h
    refine ⟨h1, ⟨?_, fun i hi => ?_⟩, h4⟩
    · simpa [Act.put] using h2
    · have e : n ≠ i := fun e => hi (e ▸ hd n rfl)
      have := h3 i hi
      simpa [Act.put, Array.getElem?_setIfInBounds, e] using this
/-- A meaning that may be trusted of a piece of code. -/
structure Fine (P : PP) (c : Code) (M : Mng) : Prop where
  sound : ∀ {Q : Exit → List Value → World → Prop} {ρ : List Value} {w : World} {ds : List Deferred} {D : List Nat} {ρ0 : List Value}, (∀ i, i ∈ dstsC c → i ∈ D) → agree D ρ0 ρ → M Q ρ w → c.wp P (lift P ds D ρ0 Q) ⟨ρ.toArray, ds⟩ w
  imp : ∀ {Q Q' : Exit → List Value → World → Prop} {ρ : List Value} {w : World}, M Q ρ w → (∀ e ρ w, Q e ρ w → Q' e ρ w) → M Q' ρ w
  frame : ∀ {Q : Exit → List Value → World → Prop} {ρ : List Value} {w : World}, M Q ρ w → M (fun e ρ' w' => Q e ρ' w' ∧ agree (dstsC c) ρ ρ') ρ w
/-- A scope: no jump, or jumps to one label. -/
inductive ScopeP (P : PP) (c : Code) (B : Mng) (Q : Exit → List Value → World → Prop) (ρ : List Value) (w : World) : Prop
  | straight (h : B (noGotoK Q) ρ w)
  | jumps (l : Nat) (rest : Code) (M : Mng) (hM : Fine P rest M) (J : List Value → World → Prop) (μ : List Value → World → Nat) (hf : findLabel c l = some rest) (first : B (jumpK l J Q) ρ w)
      (pass : ∀ ρ w, J ρ w → M (jumpK l (fun ρ' w' => J ρ' w' ∧ μ ρ' w' < μ ρ w) Q) ρ w)
/-- A region that draws its order. -/
inductive DrawP (P : PP) (id : Nat) (ops : Array Oper) (K : List Value → World → Prop) (ρ : List Value) (w : World) : Prop
  | mk (h : ∀ ds, (Code.region id ops true).wp P (nrm P ds (opsDsts ops.toList) ρ K) ⟨ρ.toArray, ds⟩ w)
def wpR (P : PP) (c : Code) : Mng :=
  Code.rec (motive := fun _ => Mng)
    (fun Q ρ w => Q .normal ρ w)
    (fun id ops draw Q ρ w => match draw with
      | false => opsK P ops.toList (Q .normal) ops.toList ρ w
      | true => DrawP P id ops (Q .normal) ρ w)
    (fun _ _ ihx ihy Q ρ w => ihx (thenK (ihy Q) Q) ρ w)
    (fun c x y ihx ihy Q ρ w => evK ρ c fun v => match v with
      | .bool b => CondP P x y ihx ihy b Q ρ w
      | _ => False)
    (fun id c ih Q ρ w => match c with
      | .loop _ => ih (blockK id Q) ρ w
      | c => BlkP P c ih id Q ρ w)
    (fun c ih Q ρ w => LoopP P c ih Q ρ w)
    (fun _ _ _ _ _ _ _ _ _ => False)
    (fun id Q ρ w => Q (.exit id) ρ w)
    (fun c ih Q ρ w => ScopeP P c ih Q ρ w)
    (fun _ Q ρ w => Q .normal ρ w)
    (fun l Q ρ w => Q (.goto l) ρ w)
    (fun Q ρ w => Q .ret ρ w)
    (fun _ _ _ _ => False) c
section
variable (P : PP) (Q : Exit → List Value → World → Prop) (ρ : List Value) (w : World)
theorem wpR_seq (x y : Code) : wpR P (.seq x y) Q ρ w = wpR P x (thenK (wpR P y Q) Q) ρ w := rfl
theorem wpR_cond (c : Operand) (x y : Code) : wpR P (.cond c x y) Q ρ w = evK ρ c fun v => match v with
      | .bool b => CondP P x y (wpR P x) (wpR P y) b Q ρ w
      | _ => False := rfl
theorem wpR_block (id : Nat) (c : Code) : wpR P (.block id c) Q ρ w ↔ wpR P c (blockK id Q) ρ w := by
  have h : BlkP P c (wpR P c) id Q ρ w ↔ wpR P c (blockK id Q) ρ w := ⟨fun ⟨h⟩ => h, fun h => ⟨h⟩⟩
  cases c <;> first | exact h | exact Iff.rfl
end
theorem wpR_scope {P : PP} {Q : Exit → List Value → World → Prop} {ρ : List Value} {w : World} (c : Code) : wpR P (.scope c) Q ρ w = ScopeP P c (wpR P c) Q ρ w := rfl
theorem noGotoK_imp {Q Q' : Exit → List Value → World → Prop} (hq : ∀ e ρ w, Q e ρ w → Q' e ρ w) : ∀ e ρ w, noGotoK Q e ρ w → noGotoK Q' e ρ w := fun e ρ w h => by
  cases e <;> simp only [noGotoK] at h ⊢ <;> exact hq _ _ _ h
theorem jumpK_imp {l : Nat} {J J' : List Value → World → Prop} {Q Q' : Exit → List Value → World → Prop} (hj : ∀ ρ w, J ρ w → J' ρ w) (hq : ∀ e ρ w, Q e ρ w → Q' e ρ w) : ∀ e ρ w, jumpK l J Q e ρ w → jumpK l J' Q' e ρ w := fun e ρ w h => by
  cases e <;> simp only [jumpK] at h ⊢ <;> first | exact ⟨h.1, hj _ _ h.2⟩ | exact hq _ _ _ h
theorem CondP_iff {P : PP} {x y : Code} {B C : Mng} {b : Bool} {Q : Exit → List Value → World → Prop} {ρ : List Value} {w : World} : CondP P x y B C b Q ρ w ↔ if b then B Q ρ w else C Q ρ w := by
  constructor
  · rintro ⟨t, f⟩; cases b
    · exact f rfl
    · exact t rfl
  · intro h; cases b
    · exact cF rfl h
    · exact cT rfl h

theorem guardK_imp {ops : List Oper} {g : Option (Nat × Bool)} {ρ : List Value} {k k' : Bool → List Value → Prop} (h : guardK ops g ρ k) (hk : ∀ b ρ, k b ρ → k' b ρ) : guardK ops g ρ k' := by
  unfold guardK at h ⊢
  split at h
  · exact hk _ _ h
  · simp only [gtK_eq, stK_eq, boolK_eq] at h ⊢
    split at h
    · exact h.elim
    · split at h
      · exact h.elim
      · split at h
        · split at h <;> (split at h <;> exact hk _ _ h)
        · exact hk _ _ h
        · exact h.elim
theorem opsK_imp {P : PP} {ops : List Oper} {K K' : List Value → World → Prop} (hk : ∀ ρ w, K ρ w → K' ρ w) (l : List Oper) :
    ∀ {ρ : List Value} {w : World}, opsK P ops K l ρ w → opsK P ops K' l ρ w := by
  induction l with
  | nil => exact fun h => hk _ _ h
  | cons o r ih =>
    intro ρ w h
    simp only [opsK_cons] at h ⊢
    refine guardK_imp h fun b ρ h => ?_
    cases b
    · simp only [putK_eq] at h ⊢; exact ih h
    · simp only [putK_eq] at h ⊢; exact opK_imp h fun v w h => ih h
theorem wpR_imp {P : PP} (c : Code) : ∀ {Q Q' : Exit → List Value → World → Prop} {ρ : List Value} {w : World}, wpR P c Q ρ w → (∀ e ρ w, Q e ρ w → Q' e ρ w) → wpR P c Q' ρ w := by
  induction c with
  | skip => exact fun h hq => hq _ _ _ h
  | label l => exact fun h hq => hq _ _ _ h
  | exit i => exact fun h hq => hq _ _ _ h
  | ret => exact fun h hq => hq _ _ _ h
  | seq x y ihx ihy =>
    intro Q Q' ρ w h hq
    simp only [wpR_seq] at h ⊢
    refine ihx h fun e ρ w he => ?_
    cases e <;> simp only [thenK] at he ⊢ <;> first | exact ihy he hq | exact hq _ _ _ he
  | cond c x y ihx ihy =>
    intro Q Q' ρ w h hq
    simp only [wpR_cond, evK_eq, CondP_iff] at h ⊢
    split at h
    · split at h
      · rw [if_pos (by assumption)]; exact ihx h hq
      · rw [if_neg (by assumption)]; exact ihy h hq
    · exact h.elim
  | block id c ih =>
    intro Q Q' ρ w h hq
    rw [wpR_block] at h ⊢
    refine ih h fun e ρ w he => ?_
    cases e <;> simp only [blockK] at he ⊢ <;> first | exact hq _ _ _ he | (split at he <;> exact hq _ _ _ he)
  | region id ops draw =>
    intro Q Q' ρ w h hq
    cases draw
    · exact opsK_imp (fun ρ w => hq .normal ρ w) _ h
    · obtain ⟨h⟩ := h
      exact ⟨fun ds => Code.wp_mono (nrm_imp fun ρ w _ h => hq _ _ _ h) (h ds)⟩
  | loop c ih =>
    intro Q Q' ρ w h hq
    obtain ⟨I, μ, h0, hr⟩ := h
    refine ⟨I, μ, h0, fun ρ w hI => ih (hr ρ w hI) fun e ρ w he => ?_⟩
    cases e <;> simp only [thenK] at he ⊢ <;> first | exact hq _ _ _ he | exact he
  | rangeFunc => exact fun h => h.elim
  | scope c ih =>
    intro Q Q' ρ w h hq
    rw [wpR_scope] at h ⊢
    cases h with
    | straight h => exact .straight (ih h (noGotoK_imp hq))
    | jumps l rest M hM J μ hf first pass => exact .jumps l rest M hM J μ hf (ih first (jumpK_imp (fun _ _ h => h) hq)) fun ρ w hJ => hM.imp (pass ρ w hJ) (jumpK_imp (fun _ _ h => h) hq)
  | goto => exact fun h hq => hq _ _ _ h
  | refuse => exact fun h => h.elim

/-! ## Soundness -/
theorem act_eta {a : Act} {ds : List Deferred} (h : a.defers = ds) : a = ⟨a.tmps.toList.toArray, ds⟩ := by
  cases a; simp only at h; subst h; simp
theorem guardK_sound {ops : Array Oper} {o : Oper} {ρ : List Value} {k : Bool → List Value → Prop} (h : guardK ops.toList o.guard ρ k) :
    ∃ b, Region.wanted o (yielded ops ρ.toArray) = b ∧ k b ρ := by
  unfold guardK at h
  split at h
  · rename_i hg; exact ⟨true, by simp [Region.wanted, hg], h⟩
  · rename_i j want hg
    simp only [gtK_eq, stK_eq, boolK_eq] at h
    split at h
    · exact h.elim
    · rename_i oj hj
      split at h
      · exact h.elim
      · rename_i d hd
        split at h
        · rename_i b hb
          have hset : ρ.set d (.bool b) = ρ := by
            apply List.ext_getElem?
            intro i
            rw [List.getElem?_set]
            split
            · rename_i e; subst e
              by_cases hl : d < ρ.length
              · rw [if_pos hl]
                rw [gt_eq] at hb
                simp only [Array.getD_eq_getD_getElem?, List.getElem?_toArray] at hb
                rw [List.getElem?_eq_getElem hl] at hb ⊢
                simp only [Option.getD_some] at hb
                rw [hb]
              · rw [if_neg hl]
                rw [List.getElem?_eq_none (Nat.le_of_not_lt hl)]
            · rfl
          have hy : yielded ops ρ.toArray j = some b := by
            have hl : d < ρ.length := by
              rcases Nat.lt_or_ge d ρ.length with hl | hl
              · exact hl
              · rw [gt_eq] at hb
                simp [Array.getD_eq_getD_getElem?, List.getElem?_eq_none hl, undef] at hb
            rw [gt_eq] at hb
            simp only [Array.getD_eq_getD_getElem?, List.getElem?_toArray, List.getElem?_eq_getElem hl, Option.getD_some] at hb
            simp only [Array.getElem?_toList] at hj
            simp [yielded, hj, hd, List.getElem?_eq_getElem hl, hb]
          rw [hset] at h
          cases b <;> cases want <;> simp only at h <;> exact ⟨_, by simp [Region.wanted, hg, hy], h⟩
        · rename_i vs hb
          refine ⟨false, ?_, h⟩
          have hy : yielded ops ρ.toArray j = none := by
            simp only [Array.getElem?_toList] at hj
            rw [gt_eq] at hb
            simp only [yielded, hj, Option.bind_some, hd]
            cases hl : ρ[d]? with
            | none => simp [hl]
            | some v =>
              simp [Array.getD_eq_getD_getElem?, hl] at hb
              simp [hl, hb]
          simp [Region.wanted, hg, hy]
        · exact h.elim
/-! ## What code leaves alone -/
theorem agree.refl (ds : List Nat) (ρ : List Value) : agree ds ρ ρ := ⟨rfl, fun _ _ => rfl⟩
theorem agree.trans {ds : List Nat} {a b c : List Value} (h : agree ds a b) (k : agree ds b c) : agree ds a c :=
  ⟨k.1.trans h.1, fun i hi => (k.2 i hi).trans (h.2 i hi)⟩
theorem agree.mono {ds ds' : List Nat} {a b : List Value} (h : agree ds a b) (hs : ∀ i, i ∈ ds → i ∈ ds') : agree ds' a b :=
  ⟨h.1, fun i hi => h.2 i fun hh => hi (hs i hh)⟩
theorem agree.put {ds : List Nat} {a b : List Value} (h : agree ds a b) (d : Option Nat) (hd : ∀ i, d = some i → i ∈ ds) (v : Value) : agree ds a (put b d v) := by
  cases d with
  | none => exact h
  | some d =>
    refine ⟨by simp [Eng.put, h.1], fun i hi => ?_⟩
    have : d ≠ i := fun e => hi (e ▸ hd d rfl)
    simp only [Eng.put, List.getElem?_set, if_neg this]
    exact h.2 i hi
theorem guardK_frame {ops : List Oper} {g : Option (Nat × Bool)} {ρ : List Value} {k : Bool → List Value → Prop} (h : guardK ops g ρ k) :
    guardK ops g ρ fun b ρ' => k b ρ' ∧ agree (opsDsts ops) ρ ρ' := by
  unfold guardK at h ⊢
  split at h
  · exact ⟨h, agree.refl _ _⟩
  · simp only [gtK_eq, stK_eq, boolK_eq] at h ⊢
    split at h
    · exact h.elim
    · rename_i oj hj
      split at h
      · exact h.elim
      · rename_i d hd
        have hmem : d ∈ opsDsts ops := by
          unfold opsDsts
          exact List.mem_filterMap.2 ⟨oj, List.mem_of_getElem? hj, hd⟩
        split at h
        · rename_i b hb
          split at h <;> (split at h <;> exact ⟨h, (agree.refl _ _).put (some d) (fun i e => by cases e; exact hmem) _⟩)
        · exact ⟨h, agree.refl _ _⟩
        · exact h.elim
theorem opsK_frame {P : PP} {ops : List Oper} {K : List Value → World → Prop} (l : List Oper) (hl : ∀ o, o ∈ l → o ∈ ops) :
    ∀ {ρ0 ρ : List Value} {w : World}, agree (opsDsts ops) ρ0 ρ → opsK P ops K l ρ w → opsK P ops (fun ρ' w' => K ρ' w' ∧ agree (opsDsts ops) ρ0 ρ') l ρ w := by
  induction l with
  | nil => exact fun ha h => ⟨h, ha⟩
  | cons o r ih =>
    intro ρ0 ρ w ha h
    simp only [opsK_cons] at h ⊢
    refine guardK_imp (guardK_frame h) fun b ρ1 ⟨h, ha1⟩ => ?_
    have hmem : ∀ i, o.dst = some i → i ∈ opsDsts ops := fun i e => by
      unfold opsDsts
      exact List.mem_filterMap.2 ⟨o, hl o (List.mem_cons_self ..), e⟩
    have ih' := fun {ρ : List Value} {w : World} => @ih (fun o ho => hl o (List.mem_cons_of_mem _ ho)) ρ0 ρ w
    cases b
    · simp only [putK_eq] at h ⊢
      exact ih' ((ha.trans ha1).put _ hmem _) h
    · simp only [putK_eq] at h ⊢
      exact opK_imp h fun v w h => ih' ((ha.trans ha1).put _ hmem _) h
theorem wpR_frame {P : PP} (c : Code) : ∀ {Q : Exit → List Value → World → Prop} {ρ : List Value} {w : World}, wpR P c Q ρ w →
    wpR P c (fun e ρ' w' => Q e ρ' w' ∧ agree (dstsC c) ρ ρ') ρ w := by
  induction c with
  | skip => exact fun h => ⟨h, agree.refl _ _⟩
  | label l => exact fun h => ⟨h, agree.refl _ _⟩
  | exit i => exact fun h => ⟨h, agree.refl _ _⟩
  | ret => exact fun h => ⟨h, agree.refl _ _⟩
  | seq x y ihx ihy =>
    intro Q ρ w h
    simp only [wpR_seq] at h ⊢
    refine wpR_imp x (ihx h) fun e ρ1 w1 ⟨he, ha⟩ => ?_
    have ha' : agree (dstsC (.seq x y)) ρ ρ1 := ha.mono fun i hi => List.mem_append_left _ hi
    cases e <;> simp only [thenK] at he ⊢
    · exact wpR_imp y (ihy he) fun e ρ2 w2 ⟨h2, h3⟩ => ⟨h2, ha'.trans (h3.mono fun i hi => List.mem_append_right _ hi)⟩
    all_goals exact ⟨he, ha'⟩
  | cond c x y ihx ihy =>
    intro Q ρ w h
    simp only [wpR_cond, evK_eq, CondP_iff] at h ⊢
    split at h
    · split at h
      · rw [if_pos (by assumption)]
        exact wpR_imp x (ihx h) fun e ρ2 w2 ⟨h2, h3⟩ => ⟨h2, h3.mono fun i hi => List.mem_append_left _ hi⟩
      · rw [if_neg (by assumption)]
        exact wpR_imp y (ihy h) fun e ρ2 w2 ⟨h2, h3⟩ => ⟨h2, h3.mono fun i hi => List.mem_append_right _ hi⟩
    · exact h.elim
  | block id c ih =>
    intro Q ρ w h
    rw [wpR_block] at h ⊢
    refine wpR_imp c (ih h) fun e ρ1 w1 ⟨he, ha⟩ => ?_
    cases e <;> simp only [blockK] at he ⊢
    case exit i => split at he <;> exact ⟨he, ha⟩
    all_goals exact ⟨he, ha⟩
  | region id ops draw =>
    intro Q ρ w h
    cases draw
    · exact opsK_frame _ (fun _ h => h) (agree.refl _ _) h
    · obtain ⟨h⟩ := h
      exact ⟨fun ds => Code.wp_mono (nrm_imp fun ρ w h3 h4 => ⟨h4, h3⟩) (h ds)⟩
  | loop c ih =>
    intro Q ρ w h
    obtain ⟨I, μ, h0, hr⟩ := h
    refine ⟨fun ρ' w' => I ρ' w' ∧ agree (dstsC c) ρ ρ', μ, ⟨h0, agree.refl _ _⟩, fun ρ1 w1 ⟨hI, ha⟩ => wpR_imp c (ih (hr ρ1 w1 hI)) fun e ρ2 w2 ⟨he, ha2⟩ => ?_⟩
    cases e <;> simp only [thenK] at he ⊢
    · exact ⟨⟨he.1, ha.trans ha2⟩, he.2⟩
    all_goals exact ⟨he, ha.trans ha2⟩
  | rangeFunc => exact fun h => h.elim
  | scope c ih =>
    intro Q ρ w h
    rw [wpR_scope] at h ⊢
    cases h with
    | straight h => exact .straight (wpR_imp c (ih h) fun e ρ1 w1 ⟨he, ha⟩ => by cases e <;> simp only [noGotoK] at he ⊢ <;> exact ⟨he, ha⟩)
    | jumps l rest M hM J μ hf first pass =>
      refine .jumps l rest M hM (fun ρ' w' => J ρ' w' ∧ agree (dstsC c) ρ ρ') μ hf (wpR_imp c (ih first) fun e ρ1 w1 ⟨he, ha⟩ => ?_) fun ρ1 w1 ⟨hJ, ha⟩ => hM.imp (hM.frame (pass ρ1 w1 hJ)) fun e ρ2 w2 ⟨he, ha2⟩ => ?_
      · cases e <;> simp only [jumpK] at he ⊢ <;> first | exact ⟨he.1, he.2, ha⟩ | exact ⟨he, ha⟩
      · have ha3 : agree (dstsC c) ρ ρ2 := ha.trans (ha2.mono fun i hi => dstsC_label hf i hi)
        cases e <;> simp only [jumpK] at he ⊢ <;> first | exact ⟨he.1, ⟨he.2.1, ha3⟩, he.2.2⟩ | exact ⟨he, ha3⟩
  | goto => exact fun h => ⟨h, agree.refl _ _⟩
  | refuse => exact fun h => h.elim

theorem opsK_sound {P : PP} {ops : Array Oper} {Q : Exit → List Value → World → Prop} {D : List Nat} {ρ0 : List Value} (l : List Oper) (hl : ∀ o, o ∈ l → ∀ i, o.dst = some i → i ∈ D) :
    ∀ {ρ : List Value} {w : World} {ds : List Deferred}, agree D ρ0 ρ → opsK P ops.toList (Q .normal) l ρ w → wpList P ops (lift P ds D ρ0 Q) l ⟨ρ.toArray, ds⟩ w := by
  induction l with
  | nil => exact fun ha h => ⟨rfl, ha, by simpa [opsK_nil] using h⟩
  | cons o r ih =>
    intro ρ w ds ha h
    simp only [opsK_cons, putK_eq] at h
    obtain ⟨b, hb, h⟩ := guardK_sound h
    have hm := hl o (List.mem_cons_self ..)
    have ih' := fun {ρ : List Value} {w : World} => @ih (fun o ho => hl o (List.mem_cons_of_mem _ ho)) ρ w ds
    unfold wpList
    cases b
    · rw [if_neg (by simp [hb]), put_eq]
      exact ih' (ha.put _ hm _) h
    · rw [if_pos hb]
      exact .inl (opK_sound h (fun c w h => ⟨rfl, ha, h⟩) fun v w' h => by rw [put_eq]; exact ih' (ha.put _ hm _) h)
theorem wpR_sound {P : PP} (c : Code) : ∀ {Q : Exit → List Value → World → Prop} {ρ : List Value} {w : World} {ds : List Deferred} {D : List Nat} {ρ0 : List Value}, (∀ i, i ∈ dstsC c → i ∈ D) → agree D ρ0 ρ → wpR P c Q ρ w → c.wp P (lift P ds D ρ0 Q) ⟨ρ.toArray, ds⟩ w := by
  induction c with
  | skip => exact fun _ ha h => wp_skip ⟨rfl, ha, h⟩
  | label l => exact fun _ ha h => wp_label ⟨rfl, ha, h⟩
  | exit i => exact fun _ ha h => wp_exit ⟨rfl, ha, h⟩
  | ret => exact fun _ ha h => wp_ret ⟨rfl, ha, h⟩
  | seq x y ihx ihy =>
    intro Q ρ w ds D ρ0 hD ha h
    simp only [wpR_seq] at h
    refine wp_seq (wp_mono (ihx (fun i hi => hD i (List.mem_append_left _ hi)) ha h) ?_)
    rintro e a w ⟨hd, ha, he⟩
    cases e <;> simp only [thenK] at he <;> simp only [Exit.then]
    · rw [act_eta hd]; exact ihy (fun i hi => hD i (List.mem_append_right _ hi)) ha he
    all_goals exact ⟨hd, ha, he⟩
  | cond c x y ihx ihy =>
    intro Q ρ w ds D ρ0 hD ha h
    simp only [wpR_cond, evK_eq, CondP_iff] at h
    split at h
    · rename_i b hb
      refine wp_cond (t := b) (by rw [ev_eq]; exact hb) ?_
      split at h
      · rw [if_pos (by assumption)]; exact ihx (fun i hi => hD i (List.mem_append_left _ hi)) ha h
      · rw [if_neg (by assumption)]; exact ihy (fun i hi => hD i (List.mem_append_right _ hi)) ha h
    · exact h.elim
  | block id c ih =>
    intro Q ρ w ds D ρ0 hD ha h
    rw [wpR_block] at h
    refine wp_block (wp_mono (ih hD ha h) ?_)
    rintro e a w ⟨hd, ha, he⟩
    cases e <;> simp only [blockK] at he <;> simp only [Exit.inBlock]
    case exit id' =>
      by_cases hi : id' = id
      · subst hi; simp only [beq_self_eq_true] at he; rw [if_pos rfl]; exact ⟨hd, ha, he⟩
      · have : (id' == id) = false := by simpa using hi
        simp only [this] at he; rw [if_neg hi]; exact ⟨hd, ha, he⟩
    all_goals exact ⟨hd, ha, he⟩
  | region id ops draw =>
    intro Q ρ w ds D ρ0 hD ha h
    cases draw
    · exact wp_region_list (opsK_sound _ (fun o ho i hi => hD i (List.mem_filterMap.2 ⟨o, ho, hi⟩)) ha h)
    · obtain ⟨h⟩ := h
      refine wp_mono (h _) ?_
      intro e a w h
      have up : ∀ {a : Act}, agree (opsDsts ops.toList) ρ a.tmps.toList → agree D ρ0 a.tmps.toList := fun h => ha.trans (h.mono hD)
      cases e <;> simp only [nrm] at h
      · exact ⟨h.2.1, up h.2.2.1, h.2.2.2⟩
      · cases h.1
      · cases h.1
      · cases h.1
      · exact ⟨h.1, up h.2.1, h.2.2⟩
      · cases h.1
  | loop c ih =>
    intro Q ρ w ds D ρ0 hD ha h
    obtain ⟨I, μ, h0, hr⟩ := h
    refine wp_loop (fun a w => a.defers = ds ∧ agree D ρ0 a.tmps.toList ∧ I a.tmps.toList w) (fun a w => μ a.tmps.toList w) ⟨rfl, ha, h0⟩ ?_
    rintro a w ⟨hd, ha, hI⟩
    rw [act_eta hd]
    refine wp_mono (ih hD ha (hr _ _ hI)) ?_
    rintro e a' w' ⟨hd', ha', he⟩
    cases e <;> simp only [thenK] at he <;> simp only [Exit.then]
    · exact ⟨⟨hd', ha', he.1⟩, he.2⟩
    all_goals exact ⟨hd', ha', he⟩
  | rangeFunc => exact fun _ _ h => h.elim
  | scope c ih =>
    intro Q ρ w ds D ρ0 hD ha h
    rw [wpR_scope] at h
    cases h with
    | straight h =>
      refine wp_scope_straight (wp_mono (ih hD ha h) ?_)
      rintro e a w ⟨hd, ha, he⟩
      cases e <;> simp only [noGotoK] at he <;> exact ⟨hd, ha, he⟩
    | jumps l rest M hM J μ hf first pass =>
      refine wp_scope_jumps l (fun a w => a.defers = ds ∧ agree D ρ0 a.tmps.toList ∧ J a.tmps.toList w) (fun a w => μ a.tmps.toList w) hf (wp_mono (ih hD ha first) ?_) ?_
      · rintro e a w ⟨hd, ha, he⟩
        cases e <;> simp only [jumpK] at he <;> first | exact ⟨he.1, hd, ha, he.2⟩ | exact ⟨hd, ha, he⟩
      · rintro a w ⟨hd, ha, hJ⟩
        rw [act_eta hd]
        refine wp_mono (hM.sound (fun i hi => hD i (dstsC_label hf i hi)) ha (pass _ _ hJ)) ?_
        rintro e a' w' ⟨hd', ha', he⟩
        cases e <;> simp only [jumpK] at he <;> first | exact ⟨he.1, ⟨hd', ha', he.2.1⟩, he.2.2⟩ | exact ⟨hd', ha', he⟩
  | goto => exact fun _ ha h => wp_goto ⟨rfl, ha, h⟩
  | refuse => exact fun _ _ h => h.elim
/-! ## Loops and joins -/
def hvK (l : List Nat) (f : Nat → Value) : List Value → (List Value → Prop) → Prop :=
  List.rec (motive := fun _ => List Value → (List Value → Prop) → Prop) (fun ρ k => k ρ) (fun d _ ih ρ k => stK ρ d (f d) fun ρ => ih ρ k) l
theorem hvK_cons (d : Nat) (ds : List Nat) (f : Nat → Value) (ρ : List Value) (k : List Value → Prop) : hvK (d :: ds) f ρ k = stK ρ d (f d) fun ρ => hvK ds f ρ k := rfl
def slK (l : List (Nat × Value)) : List Value → (List Value → Prop) → Prop :=
  List.rec (motive := fun _ => List Value → (List Value → Prop) → Prop) (fun ρ k => k ρ) (fun p _ ih ρ k => match p with
    | (i, v) => stK ρ i v fun ρ => ih ρ k) l
theorem slK_cons (i : Nat) (v : Value) (r : List (Nat × Value)) (ρ : List Value) (k : List Value → Prop) : slK ((i, v) :: r) ρ k = stK ρ i v fun ρ => slK r ρ k := rfl
/-- The slots hold these values. -/
def mt : List (Nat × Value) → List Value → Prop
  | [], _ => True
  | (i, v) :: r, ρ => gt ρ i = v ∧ mt r ρ
theorem mt_nil {ρ : List Value} : mt [] ρ := trivial
theorem mt_cons {i : Nat} {v : Value} {r : List (Nat × Value)} {ρ : List Value} (h : gt ρ i = v) (k : mt r ρ) : mt ((i, v) :: r) ρ := ⟨h, k⟩
theorem mt_i {i : Nat} {k : IntKind} {a b : Int} {r : List (Nat × Value)} {ρ : List Value} (hg : gt ρ i = .int k a) (h : a = b) (t : mt r ρ) : mt ((i, .int k b) :: r) ρ := ⟨by rw [hg, h], t⟩
theorem int_eq {k : IntKind} {a b : Int} (h : a = b) : Value.int k a = .int k b := by rw [h]
theorem hvK_agree {ρ' : List Value} (ds : List Nat) {k : List Value → Prop} : ∀ {ρ1 : List Value}, agree ds ρ1 ρ' → hvK ds (gt ρ') ρ1 k → k ρ' := by
  induction ds with
  | nil =>
    intro ρ1 ha h
    have : ρ' = ρ1 := List.ext_getElem? fun i => ha.2 i (by simp)
    rw [this]; exact h
  | cons d ds ih =>
    intro ρ1 ha h
    simp only [hvK_cons, stK_eq] at h
    refine ih ?_ h
    refine ⟨by simpa using ha.1, fun i hi => ?_⟩
    rw [List.getElem?_set]
    split
    · rename_i e; subst e
      split
      · rename_i hl
        have hl' : d < ρ'.length := by rw [ha.1]; exact hl
        rw [gt_eq]
        simp [Array.getD_eq_getD_getElem?, List.getElem?_eq_getElem hl']
      · rename_i hl
        rw [List.getElem?_eq_none (by rw [ha.1]; exact Nat.le_of_not_lt hl)]
    · rename_i hne
      exact ha.2 i fun hm => by cases hm <;> contradiction
theorem slK_mt {ρ : List Value} (sl : List (Nat × Value)) {k : List Value → Prop} (hm : mt sl ρ) (h : slK sl ρ k) : k ρ := by
  induction sl with
  | nil => exact h
  | cons p r ih =>
    obtain ⟨i, v⟩ := p
    obtain ⟨hv, hm⟩ := hm
    simp only [slK_cons, stK_eq] at h
    have : ρ.set i v = ρ := by
      apply List.ext_getElem?
      intro j
      rw [List.getElem?_set]
      split
      · rename_i e; subst e
        split
        · rename_i hl
          rw [gt_eq] at hv
          simp only [Array.getD_eq_getD_getElem?, List.getElem?_toArray, List.getElem?_eq_getElem hl, Option.getD_some] at hv
          rw [List.getElem?_eq_getElem hl, hv]
        · rename_i hl
          rw [List.getElem?_eq_none (Nat.le_of_not_lt hl)]
      · rfl
    rw [this] at h
    exact ih hm h
/-- What is owed at a round's end, and where ways meet. -/
inductive Nxt {α : Type} (sl : α → List (Nat × Value)) (inv : α → World → Prop) (p : α → Prop) (ρ : List Value) (w : World) : Prop
  | mk (y : α) (hm : mt (sl y) ρ) (hi : inv y w) (hp : p y)
inductive Jn {α : Type} (sl : α → List (Nat × Value)) (inv : α → World → Prop) (ρ : List Value) (w : World) : Prop
  | mk (y : α) (hm : mt (sl y) ρ) (hi : inv y w)
theorem LoopP.rule {P : PP} {c : Code} {B : Mng} {Q : Exit → List Value → World → Prop} {ρ : List Value} {w : World} {α : Type} (x0 : α) (sl : α → List (Nat × Value)) (inv : α → World → Prop) (μ : α → Nat)
    (hm : mt (sl x0) ρ) (h0 : inv x0 w)
    (round : ∀ x (f : Nat → Value) w', inv x w' → hvK (dstsC c) f ρ fun ρ => slK (sl x) ρ fun ρ =>
      B (thenK (fun ρ' w'' => Nxt sl inv (fun y => μ y < μ x) ρ' w'') Q) ρ w') (hB : B = wpR P c := by rfl) : LoopP P c B Q ρ w := by
  subst hB
  classical
  have hex : ∀ (p : Nat → Prop), (∃ n, p n) → ∃ n, p n ∧ ∀ m, p m → n ≤ m := fun p ⟨n, hn⟩ => by
    induction n using Nat.strongRecOn with
    | _ n ih =>
      by_cases h : ∃ m, m < n ∧ p m
      · obtain ⟨m, hm, hp⟩ := h; exact ih m hm hp
      · exact ⟨n, hn, fun m hp => Nat.le_of_not_lt fun hl => h ⟨m, hl, hp⟩⟩
  let p : List Value → World → Nat → Prop := fun ρ' w' n => ∃ x, μ x = n ∧ mt (sl x) ρ' ∧ inv x w'
  let M : List Value → World → Nat := fun ρ' w' => if h : ∃ n, p ρ' w' n then Classical.choose (hex _ h) else 0
  have hM : ∀ ρ' w', (∃ n, p ρ' w' n) → p ρ' w' (M ρ' w') ∧ ∀ m, p ρ' w' m → M ρ' w' ≤ m := fun ρ' w' h => by
    simp only [M, dif_pos h]
    exact Classical.choose_spec (hex _ h)
  refine ⟨fun ρ' w' => (∃ n, p ρ' w' n) ∧ agree (dstsC c) ρ ρ', M, ⟨⟨_, x0, rfl, hm, h0⟩, agree.refl _ _⟩, ?_⟩
  rintro ρ1 w1 ⟨hp, ha⟩
  obtain ⟨⟨x, hx, hmx, hix⟩, -⟩ := hM ρ1 w1 hp
  have hb := round x (gt ρ1) w1 hix
  have hb := slK_mt _ hmx (hvK_agree _ ha hb)
  refine wpR_imp c (wpR_frame c hb) ?_
  rintro e ρ2 w2 ⟨he, ha2⟩
  cases e <;> simp only [thenK] at he ⊢
  · obtain ⟨y, hmy, hiy, hlt⟩ := he
    refine ⟨⟨⟨_, y, rfl, hmy, hiy⟩, ha.trans ha2⟩, ?_⟩
    have := (hM ρ2 w2 ⟨_, y, rfl, hmy, hiy⟩).2 _ ⟨y, rfl, hmy, hiy⟩
    omega
  all_goals exact he
/-- The ways of a test meet behind it. -/
theorem cond_join {P : PP} {x y : Code} {B C : Mng} {K : List Value → World → Prop} {Q : Exit → List Value → World → Prop} {ρ : List Value} {w : World} {b : Bool} {α : Type} (sl : α → List (Nat × Value)) (inv : α → World → Prop)
    (hx : b = true → B (thenK (fun ρ' w' => Jn sl inv ρ' w') Q) ρ w)
    (hy : b = false → C (thenK (fun ρ' w' => Jn sl inv ρ' w') Q) ρ w)
    (hk : ∀ a (f : Nat → Value) w', inv a w' → hvK (dstsC x ++ dstsC y) f ρ fun ρ => slK (sl a) ρ fun ρ => K ρ w') (hB : B = wpR P x := by rfl) (hC : C = wpR P y := by rfl) :
    CondP P x y B C b (thenK K Q) ρ w := by
  subst hB
  subst hC
  refine ⟨fun hb => ?_, fun hb => ?_⟩
  · refine wpR_imp x (wpR_frame x (hx hb)) ?_
    rintro e ρ2 w2 ⟨he, ha⟩
    cases e <;> simp only [thenK] at he ⊢
    · obtain ⟨a, hm, hi⟩ := he
      exact slK_mt _ hm (hvK_agree _ (ha.mono fun i hi => List.mem_append_left _ hi) (hk a (gt ρ2) w2 hi))
    all_goals exact he
  · refine wpR_imp y (wpR_frame y (hy hb)) ?_
    rintro e ρ2 w2 ⟨he, ha⟩
    cases e <;> simp only [thenK] at he ⊢
    · obtain ⟨a, hm, hi⟩ := he
      exact slK_mt _ hm (hvK_agree _ (ha.mono fun i hi => List.mem_append_right _ hi) (hk a (gt ρ2) w2 hi))
    all_goals exact he
/-- The ways out of a block meet behind it. -/
theorem block_join {P : PP} {c : Code} {B : Mng} {id : Nat} {K : List Value → World → Prop} {Q : Exit → List Value → World → Prop} {ρ : List Value} {w : World} {α : Type} (sl : α → List (Nat × Value)) (inv : α → World → Prop)
    (hx : B (blockK id (thenK (fun ρ' w' => Jn sl inv ρ' w') Q)) ρ w)
    (hk : ∀ a (f : Nat → Value) w', inv a w' → hvK (dstsC c) f ρ fun ρ => slK (sl a) ρ fun ρ => K ρ w') (hB : B = wpR P c := by rfl) :
    BlkP P c B id (thenK K Q) ρ w := by
  subst hB
  refine ⟨wpR_imp c (wpR_frame c hx) ?_⟩
  have key : ∀ ρ2 w2, Jn sl inv ρ2 w2 → agree (dstsC c) ρ ρ2 → K ρ2 w2 := fun ρ2 w2 ⟨a, hm, hi⟩ ha =>
    slK_mt _ hm (hvK_agree _ ha (hk a (gt ρ2) w2 hi))
  rintro e ρ2 w2 ⟨he, ha⟩
  cases e <;> simp only [blockK, thenK] at he ⊢
  · exact key _ _ he ha
  · split at he
    · exact key _ _ he ha
    · exact he
  all_goals exact he

/-! ## A function -/
inductive Done (R : Value → World → Prop) (v : Value) (w : World) : Prop
  | mk (h : R v w)
inductive ReadP (P : PP) (m : Sem Value) (w : World) (K : Value → Prop) : Prop
  | mk (v : Value) (h : m.run P w = .ok v w) (k : K v)
def repK (n : Nat) : List Value → (List Value → Prop) → Prop :=
  Nat.rec (motive := fun _ => List Value → (List Value → Prop) → Prop) (fun acc k => k acc) (fun _ ih acc k => ih (undef :: acc) k) n
theorem repK_succ (n : Nat) (acc : List Value) (k : List Value → Prop) : repK (n + 1) acc k = repK n (undef :: acc) k := rfl
def resK (P : PP) (ρ : List Value) (w : World) (l : List ResultVar) : (List Value → Prop) → Prop :=
  List.rec (motive := fun _ => (List Value → Prop) → Prop) (fun k => k []) (fun x _ ih k => match x with
    | .tmp t => gtK ρ t fun v => ih fun vs => k (v :: vs)
    | .cell a t => gtK ρ a fun v => match v with
      | .pointer p => match p with
        | some a => ReadP P (loadVar t a) w fun v => ih fun vs => k (v :: vs)
        | none => False
      | _ => False) l
theorem resK_tmp (P : PP) (ρ : List Value) (w : World) (t : Nat) (r : List ResultVar) (k : List Value → Prop) : resK P ρ w (.tmp t :: r) k = gtK ρ t fun v => resK P ρ w r fun vs => k (v :: vs) := rfl
theorem resK_cell (P : PP) (ρ : List Value) (w : World) (a : Nat) (t : TypeId) (r : List ResultVar) (k : List Value → Prop) : resK P ρ w (.cell a t :: r) k = gtK ρ a fun v => match v with
      | .pointer p => match p with
        | some a => ReadP P (loadVar t a) w fun v => resK P ρ w r fun vs => k (v :: vs)
        | none => False
      | _ => False := rfl
def oneK (R : Value → World → Prop) (w : World) (vs : List Value) : Prop :=
  match vs with
  | [v] => Done R v w
  | [] => Done R (.tuple #[]) w
  | u :: v :: r => Done R (.tuple (u :: v :: r).toArray) w
def bodyK (P : PP) (rs : List ResultVar) (R : Value → World → Prop) (e : Exit) (ρ : List Value) (w : World) : Prop :=
  match e with
  | .normal => resK P ρ w rs fun vs => oneK R w vs
  | .ret => resK P ρ w rs fun vs => oneK R w vs
  | _ => False
def entK (P : PP) (fn : Func) (c : Code) (args : List Value) (w : World) (R : Value → World → Prop) : Prop :=
  repK (fn.ntmps - args.length) [] fun us => appK args us fun ρ => wpR P c (bodyK P fn.results.toList R) ρ w
theorem repK_eq (n : Nat) (acc : List Value) (k : List Value → Prop) : repK n acc k = k (List.replicate n undef ++ acc) := by
  induction n generalizing acc with
  | zero => rfl
  | succ n ih => simp only [repK_succ, ih]; congr 1; rw [List.replicate_succ', List.append_assoc]; rfl
def resF (tmps : Array Value) : ResultVar → Sem Value
  | .tmp t => pure (tmps.getD t undef)
  | .cell a t => do loadVar t (← asAddr (tmps.getD a undef))
theorem results_eq (fn : Func) (tmps : Array Value) : results fn tmps = (do let vs ← fn.results.mapM (resF tmps); pure (if h : vs.size = 1 then vs[0] else .tuple vs)) := by
  have : (fun (x : ResultVar) => (match x with
    | .tmp t => pure (tmps.getD t undef)
    | .cell a t => do loadVar t (← asAddr (tmps.getD a undef)) : Sem Value)) = resF tmps := by
    funext x; cases x <;> rfl
  unfold results
  rw [← this]
  rfl
theorem resK_sound {P : PP} {ρ : List Value} {w : World} : ∀ (rs : List ResultVar) {k : List Value → Prop}, resK P ρ w rs k →
    ∃ vs, (rs.mapM (resF ρ.toArray)).run P w = .ok vs w ∧ k vs := by
  intro rs
  induction rs with
  | nil => exact fun h => ⟨[], by simp, h⟩
  | cons x r ih =>
    intro k h
    cases x with
    | tmp t =>
      simp only [resK_tmp, gtK_eq] at h
      obtain ⟨vs, h1, h2⟩ := ih h
      exact ⟨gt ρ t :: vs, by rw [List.mapM_cons]; simp only [resF, Sem.run_bind, Sem.run_pure, Result.andThen_ok, h1, gt_eq], h2⟩
    | cell a t =>
      simp only [resK_cell, gtK_eq] at h
      split at h
      · rename_i p hp
        split at h
        · rename_i ad
          obtain ⟨v, hv, h⟩ := h
          obtain ⟨vs, h1, h2⟩ := ih h
          refine ⟨_, ?_, h2⟩
          rw [List.mapM_cons]
          rw [gt_eq] at hp
          simp only [resF, hp, asAddr, pure_bind, Sem.run_bind, Sem.run_pure, Result.andThen_ok, hv, h1]
        · exact h.elim
      · exact h.elim
theorem bodyK_sound {P : PP} {fn : Func} {R : Value → World → Prop} {e : Exit} {a : Act} {w : World} {D : List Nat} {ρ0 : List Value} (h : lift P [] D ρ0 (bodyK P fn.results.toList R) e a w) :
    bodyPost P fn (fun e w' => (∃ v, e = .returned v ∧ R v w') ∨ ∃ c, e = .panicked c ∧ P.pq c w') e a w := by
  obtain ⟨hd, -, h⟩ := h
  rw [act_eta hd]
  have key : (resK P a.tmps.toList w fn.results.toList fun vs => oneK R w vs) →
      ∃ v, (results fn a.tmps.toList.toArray).run P w = .ok v w ∧ ∃ v', Ending.returned v = .returned v' ∧ R v' w := by
    intro h
    obtain ⟨vs, h1, h2⟩ := resK_sound _ h
    have hm : (fn.results.mapM (resF a.tmps.toList.toArray)).run P w = .ok vs.toArray w := by
      rw [Array.mapM_eq_mapM_toList]
      simp only [Sem.run_map, h1, Result.andThen_ok]
    unfold oneK at h2
    split at h2
    · rename_i v
      obtain ⟨h2⟩ := h2
      exact ⟨v, by rw [results_eq]; simp only [Sem.run_bind, hm, Result.andThen_ok]; rfl, v, rfl, h2⟩
    · obtain ⟨h2⟩ := h2
      exact ⟨_, by rw [results_eq]; simp only [Sem.run_bind, hm, Result.andThen_ok]; rfl, _, rfl, h2⟩
    · rename_i u v r
      obtain ⟨h2⟩ := h2
      refine ⟨.tuple (u :: v :: r).toArray, ?_, _, rfl, h2⟩
      rw [results_eq]; simp only [Sem.run_bind, hm, Result.andThen_ok, Sem.run_pure]
      rw [dif_neg (by simp)]
  cases e
  case normal => obtain ⟨v, h1, h2⟩ := key h; exact ⟨rfl, v, h1, .inl h2⟩
  case ret => obtain ⟨v, h1, h2⟩ := key h; exact ⟨rfl, v, h1, .inl h2⟩
  case panic c => exact ⟨rfl, .inr ⟨c, rfl, h⟩⟩
  all_goals exact False.elim h
theorem Fc.of {P : PP} {f : FuncId} {fn : Func} {c : Code} {args : Array Value} {w : World} {R : Value → World → Prop}
    (hf : P.funcs[f]? = some fn) (hb : fn.body = some c) (hn : (fn.name == "runtime.NumGoroutine") = false) (h : entK P fn c args.toList w R) : Fc P f args w R := by
  refine ⟨?_, ?_⟩
  · simp only [callFunc, Sem.run_bind, program, Sem.run, Result.andThen_ok, hf]
    rw [if_neg (by rw [hn]; decide), if_neg (by rw [hb]; simp)]
    rfl
  · refine calls_of_wp hf hb ?_
    unfold entK at h
    rw [repK_eq, appK_eq, List.append_nil] at h
    have := wpR_sound (ds := []) c (fun _ h => h) (agree.refl _ _) h
    have e : (args.toList ++ List.replicate (fn.ntmps - args.toList.length) undef).toArray = args ++ Array.replicate (fn.ntmps - args.size) undef := by
      apply Array.ext'; simp
    rw [e] at this
    exact wp_mono this fun e a w h => bodyK_sound h
end Go.Proofs.YtbbdfhgcmkljeaaGreatDoor.Eng
namespace Go.Proofs.YtbbdfhgcmkljeaaGreatDoor.Eng
open Go Go.RowKit
set_option linter.unusedVariables false
variable {P : PP} {w : World} {K : Value → World → Prop}

/-! ## Numbers -/
theorem vWrap_id {k : IntKind} {n : Int} (h0 : k.min ≤ n) (h1 : n ≤ k.max) : vWrap k n = n := by
  unfold vWrap
  cases k <;> simp [IntKind.wrap, IntKind.min, IntKind.max, IntKind.bits, IntKind.signed] at * <;> omega
theorem wi64 {n : Int} (h : -9223372036854775808 ≤ n ∧ n ≤ 9223372036854775807) : vWrap .i64 n = n := vWrap_id (by simpa [IntKind.min, IntKind.signed, IntKind.bits] using h.1) (by simpa [IntKind.max, IntKind.signed, IntKind.bits] using h.2)
theorem wu64 {n : Int} (h : 0 ≤ n ∧ n ≤ 18446744073709551615) : vWrap .u64 n = n := vWrap_id (by simpa [IntKind.min, IntKind.signed, IntKind.bits] using h.1) (by simpa [IntKind.max, IntKind.signed, IntKind.bits] using h.2)
theorem wu8 {n : Int} (h : 0 ≤ n ∧ n ≤ 255) : vWrap .u8 n = n := vWrap_id (by simpa [IntKind.min, IntKind.signed, IntKind.bits] using h.1) (by simpa [IntKind.max, IntKind.signed, IntKind.bits] using h.2)
theorem vLt_t {a b : Int} (h : vLt a b = true) : a < b := by rw [vLt_def] at h; simpa using h
theorem vLt_f {a b : Int} (h : vLt a b = false) : b ≤ a := by rw [vLt_def] at h; simpa using h
theorem vLe_t {a b : Int} (h : vLe a b = true) : a ≤ b := by rw [vLe_def] at h; simpa using h
theorem vLe_f {a b : Int} (h : vLe a b = false) : b < a := by rw [vLe_def] at h; simpa using h
theorem vEq_t {a b : Int} (h : vEq a b = true) : a = b := by rw [vEq_def] at h; simpa using h
theorem vEq_f {a b : Int} (h : vEq a b = false) : a ≠ b := by rw [vEq_def] at h; simpa using h
theorem vNe_t {a b : Int} (h : vNe a b = true) : a ≠ b := by rw [vNe_def] at h; simpa using h
theorem vNe_f {a b : Int} (h : vNe a b = false) : a = b := by rw [vNe_def] at h; simpa using h
theorem vLt_iff {a b : Int} : vLt a b = decide (a < b) := vLt_def _ _
theorem vLe_iff {a b : Int} : vLe a b = decide (a ≤ b) := vLe_def _ _
theorem vEq_iff {a b : Int} : vEq a b = decide (a = b) := by rw [vEq_def]; rw [Bool.eq_iff_iff]; simp
theorem vNe_iff {a b : Int} : vNe a b = !decide (a = b) := by rw [vNe_def]; rw [Bool.eq_iff_iff]; simp

theorem rConvInt {s d : TypeId} {k0 k : IntKind} {n : Int} (hs : (P.underlying s).isSome = true) (hd : P.underlying d = some (.int k)) (h : K (.int k (vWrap k n)) w) :
    RunP P (convert s d (.int k0 n)) w K := by
  obtain ⟨ds, hds⟩ := Option.isSome_iff_exists.1 hs
  refine ⟨_, w, ?_, h⟩
  unfold convert
  simp only [Sem.run_bind, run_underlying hds, run_underlying hd, Result.andThen_ok, Conv.intToInt]
  unfold vWrap; rfl
theorem rConvIntE {s d : TypeId} {k0 k : IntKind} {n : Int} (m : Int) (e : vWrap k n = m) (hs : (P.underlying s).isSome = true) (hd : P.underlying d = some (.int k)) (h : K (.int k m) w) :
    RunP P (convert s d (.int k0 n)) w K := rConvInt hs hd (e ▸ h)
/-! ## Strings -/
def bs (l : List UInt8) : ByteArray := ⟨l.toArray⟩
theorem bs_size (l : List UInt8) : (bs l).size = l.length := by simp [bs, ByteArray.size]
theorem bs_of (s : ByteArray) : s = bs s.data.toList := by cases s; simp [bs]
theorem bs_toList (l : List UInt8) : (bs l).toList = l := by simp [bs]
theorem bs_extract (l : List UInt8) (i j : Nat) : (bs l).extract i j = bs ((l.take j).drop i) := by
  apply ByteArray.ext
  simp only [bs, ByteArray.data_extract]
  apply Array.ext'
  simp [List.drop_take]
theorem bs_append (a b : List UInt8) : bs a ++ bs b = bs (a ++ b) := by
  apply ByteArray.ext
  simp [bs]
theorem rLenStr {t ty : TypeId} {s : List UInt8} (ht : P.underlying t = some .string) (h : K (.int .i64 s.length) w) : RunP P (Builtin.len_ #[t] ty #[.string (bs s)]) w K :=
  ⟨_, w, run_len_string (P := P) w t ty (bs s) ht, by rw [bs_size]; exact h⟩
theorem rLenSl {t ty e : TypeId} {a : Option Addr} {n c : Nat} (ht : P.underlying t = some (.slice e)) (h : K (.int .i64 n) w) : RunP P (Builtin.len_ #[t] ty #[.slice a n c]) w K :=
  ⟨_, w, by simp [Builtin.len_, run_underlying ht, goInt], h⟩
theorem rIdxStr {t : TypeId} {s : List UInt8} {k : IntKind} {i : Int} (ht : P.underlying t = some .string) (j : Nat) (hj : i = j) (hl : j < s.length) (h : K (.int .u8 (s[j].toNat : Int)) w) :
    RunP P (Instr.index t (.string (bs s)) (.int k i)) w K := by
  subst hj
  refine ⟨_, w, ?_, h⟩
  rw [run_index_string (P := P) w t (bs s) k j ht, dif_pos ⟨by omega, by rw [bs_size]; omega⟩]
  rfl
theorem rSub {t : TypeId} {s : List UInt8} {kl kh : IntKind} {l h : Int} (ht : P.underlying t = some .string) (i j : Nat) (hi : l = i) (hj : h = j) (hij : i ≤ j) (hl : j ≤ s.length)
    (k : K (.string (bs ((s.take j).drop i))) w) : RunP P (Instr.sliceAt t (.string (bs s)) (some (.int kl l)) (some (.int kh h)) none) w K := by
  subst hi; subst hj
  refine ⟨_, w, ?_, k⟩
  have hb : (bs s).size = s.length := bs_size s
  rw [run_sliceAt_string (P := P) w t _ _ _ _ ht]
  simp [Instr.slice, run_underlying ht, Instr.sliceBounds, run_sliceBound, hb, bs_extract, hij, hl]
theorem rSubL {t : TypeId} {s : List UInt8} {kl : IntKind} {l : Int} (ht : P.underlying t = some .string) (i : Nat) (hi : l = i) (hl : i ≤ s.length)
    (k : K (.string (bs (s.drop i))) w) : RunP P (Instr.sliceAt t (.string (bs s)) (some (.int kl l)) none none) w K := by
  subst hi
  refine ⟨_, w, ?_, k⟩
  have hb : (bs s).size = s.length := bs_size s
  rw [run_sliceAt_string (P := P) w t _ _ _ _ ht, run_slice_string_l (P := P) w t _ ht kl i (by omega) (by omega)]
  simp [hb, bs_extract]
theorem rSubH {t : TypeId} {s : List UInt8} {kh : IntKind} {h : Int} (ht : P.underlying t = some .string) (j : Nat) (hj : h = j) (hl : j ≤ s.length)
    (k : K (.string (bs (s.take j))) w) : RunP P (Instr.sliceAt t (.string (bs s)) none (some (.int kh h)) none) w K := by
  subst hj
  refine ⟨_, w, ?_, k⟩
  have hb : (bs s).size = s.length := bs_size s
  rw [run_sliceAt_string (P := P) w t _ _ _ _ ht, run_slice_string_h (P := P) w t _ ht kh j (by omega) (by omega)]
  simp [bs_extract]
theorem rCat {t : TypeId} {x y : Operand} {a b : List UInt8} (hl : a.length + b.length ≤ 9223372036854775807) (k : K (.string (bs (a ++ b))) w) :
    RunP P (do eqGuard .add t x y (.string (bs a)) (.string (bs b)); binOp .add t (.string (bs a)) (.string (bs b))) w K := by
  refine ⟨_, w, ?_, k⟩
  simp only [eqGuard_add, pure_bind, binOp_string_add, Op.stringOp]
  rw [if_neg (by simp [bs_size]; omega)]
  simp [bs_append]
theorem rStrEq {t : TypeId} {x y : Operand} {a b : List UInt8} (k : K (.bool (decide (a = b))) w) :
    RunP P (do eqGuard .eql t x y (.string (bs a)) (.string (bs b)); binOp .eql t (.string (bs a)) (.string (bs b))) w K := by
  refine ⟨_, w, ?_, k⟩
  simp only [eqGuard_at_string, pure_bind, binOp_string_eql, bs_toList, Sem.run_pure]
  congr 2
  rw [Bool.eq_iff_iff]; simp
theorem rStrNe {t : TypeId} {x y : Operand} {a b : List UInt8} (k : K (.bool (!decide (a = b))) w) :
    RunP P (do eqGuard .neq t x y (.string (bs a)) (.string (bs b)); binOp .neq t (.string (bs a)) (.string (bs b))) w K := by
  refine ⟨_, w, ?_, k⟩
  simp only [eqGuard_at_string, pure_bind, binOp_string_neq, bs_toList, Sem.run_pure]
  congr 3
  rw [Bool.eq_iff_iff]; simp
theorem rBoolNe {t : TypeId} {x y : Operand} {a b : Bool} (hu : P.underlying t = some .bool) (k : K (.bool (!(a == b))) w) :
    RunP P (do eqGuard .neq t x y (.bool a) (.bool b); binOp .neq t (.bool a) (.bool b)) w K := by
  refine ⟨_, w, ?_, k⟩
  simp only [eqGuard_at_bool, pure_bind]
  simp only [binOp, Sem.run_bind, run_equal_bool (P := P) w t a b hu, Result.andThen_ok, Sem.run_pure]

/-! ## New blocks -/
def cellsK (v : Value) (k : List Value → Prop) : Prop :=
  match v with
  | .agg cs => k cs.toList
  | v => k [v]
theorem cellsK_eq (v : Value) (k : List Value → Prop) : cellsK v k = k v.cells.toList := by
  cases v <;> rfl
theorem rBox0 {t : TypeId} {v : Value} (h : cellsK v fun cs => K (.pointer (some ⟨w.heap.size, 0, none⟩)) (w.alloc (.cells cs.toArray t))) : RunP P (Instr.box t v) w K := by
  rw [cellsK_eq] at h
  exact ⟨_, _, rfl, by simpa using h⟩
theorem rAlloc0 {t : TypeId} {z : Value} (hz : (P.info? t).bind (fun i => i.zero) = some z) (h : cellsK z fun cs => K (.pointer (some ⟨w.heap.size, 0, none⟩)) (w.alloc (.cells cs.toArray t))) :
    RunP P (Instr.alloc t true (.tuple #[])) w K := by
  rw [cellsK_eq] at h
  cases hi : P.info? t with
  | none => simp [hi] at hz
  | some i =>
    simp only [hi, Option.bind_some] at hz
    refine ⟨_, _, ?_, h⟩
    simp [Instr.alloc, zeroValue, typeInfo, hi, hz, newVar, newRow]
def setsK (cs : List Value) (o : Nat) (l : List Value) (k : List Value → Prop) : Prop :=
  List.rec (motive := fun _ => List Value → Nat → Prop) (fun cs _ => k cs) (fun v _ ih cs o => stK cs o v fun cs => ih cs (o + 1)) l cs o
theorem setsK_cons (cs : List Value) (o : Nat) (v : Value) (vs : List Value) (k : List Value → Prop) : setsK cs o (v :: vs) k = stK cs o v fun cs => setsK cs (o + 1) vs k := rfl
def setsL : List Value → Nat → List Value → List Value
  | cs, _, [] => cs
  | cs, o, v :: vs => setsL (cs.set o v) (o + 1) vs
theorem setsK_eq (vs : List Value) : ∀ (cs : List Value) (o : Nat) (k : List Value → Prop), setsK cs o vs k = k (setsL cs o vs) := by
  induction vs with
  | nil => intros; rfl
  | cons v vs ih => intro cs o k; simp only [setsK_cons, setsL, stK_eq, ih]
theorem setsL_length (vs : List Value) : ∀ (cs : List Value) (o : Nat), (setsL cs o vs).length = cs.length := by
  induction vs with
  | nil => intros; rfl
  | cons v vs ih => intro cs o; simp [setsL, ih]
def trueK (b : Bool) (k : Prop) : Prop := match b with
  | true => k
  | false => False
theorem trueK_eq {b : Bool} {k : Prop} (h : trueK b k) : b = true ∧ k := by cases b; exact h.elim; exact ⟨rfl, h⟩
def fillK (place : Nat → Option (Nat × Nat)) (l : List (Nat × Value)) (cs : List Value) (k : List Value → Prop) : Prop :=
  List.rec (motive := fun _ => List Value → Prop) k (fun p _ ih cs => match p with
    | (i, v) => match place i with
      | none => False
      | some p => match p with
        | (o, n) => cellsK v fun vs => trueK (Nat.beq vs.length n && Nat.ble (o + n) cs.length) (setsK cs o vs fun cs => ih cs)) l cs
theorem fillK_cons (place : Nat → Option (Nat × Nat)) (i : Nat) (v : Value) (r : List (Nat × Value)) (cs : List Value) (k : List Value → Prop) : fillK place ((i, v) :: r) cs k = match place i with
      | none => False
      | some p => match p with
        | (o, n) => cellsK v fun vs => trueK (Nat.beq vs.length n && Nat.ble (o + n) cs.length) (setsK cs o vs fun cs => fillK place r cs k) := rfl
theorem foldl_sets (vs : List Value) (o : Nat) : ∀ (j : Nat) (cs : Array Value), (vs.zipIdx j).foldl (fun cs (c, i) => cs.setIfInBounds (o + i) c) cs = (setsL cs.toList (o + j) vs).toArray := by
  induction vs with
  | nil => intro j cs; simp [setsL]
  | cons v vs ih => intro j cs; simp only [List.zipIdx_cons, List.foldl_cons, ih, setsL]; simp [Nat.add_assoc]
theorem fillK_sound {place : Nat → Option (Nat × Nat)} (ps : List (Nat × Value)) : ∀ {cs : List Value} {k : List Value → Prop}, fillK place ps cs k →
    ∃ cs', Instr.fill place cs.toArray ps = some cs' ∧ k cs'.toList := by
  induction ps with
  | nil => exact fun h => ⟨_, rfl, h⟩
  | cons p r ih =>
    obtain ⟨i, v⟩ := p
    intro cs k h
    simp only [fillK_cons, cellsK_eq, setsK_eq] at h
    split at h
    · exact h.elim
    · rename_i pr hp
      obtain ⟨o, n⟩ := pr
      dsimp only at h
      obtain ⟨hb, h⟩ := trueK_eq h
      simp only [Bool.and_eq_true, Nat.beq_eq, Nat.ble_eq] at hb
      obtain ⟨cs', h1, h2⟩ := ih h
      refine ⟨cs', ?_, h2⟩
      have hs : v.cells.size = n := by simpa using hb.1
      simp only [Instr.fill, hp]
      rw [if_neg (by simp [hs]; omega)]
      rw [← h1]
      congr 1
      have := foldl_sets v.cells.toList o 0 cs.toArray
      simp only [Nat.add_zero] at this
      rw [← this, ← Array.foldl_toList, Array.toList_zipIdx]
def zerosK (n : Nat) (z : List Value) : (List Value → Prop) → Prop :=
  Nat.rec (motive := fun _ => (List Value → Prop) → Prop) (fun k => k []) (fun _ ih k => ih fun cs => appK z cs k) n
theorem zerosK_succ (n : Nat) (z : List Value) (k : List Value → Prop) : zerosK (n + 1) z k = zerosK n z fun cs => appK z cs k := rfl
theorem zerosK_eq (n : Nat) (z : List Value) (k : List Value → Prop) : zerosK n z k = k (List.replicate n z).flatten := by
  induction n generalizing k with
  | zero => rfl
  | succ n ih => simp only [zerosK_succ, ih, appK_eq, List.replicate_succ, List.flatten_cons]
theorem zeros_eq (n : Nat) (z : Array Value) : ((Array.range (n * z.size)).map fun i => z[i % z.size]!) = (List.replicate n z.toList).flatten.toArray := by
  apply Array.ext'
  simp only [Array.toList_map, Array.toList_range]
  induction n with
  | zero => simp
  | succ n ih =>
    rw [Nat.succ_mul, List.range_add, List.map_append, ih, List.replicate_succ', List.flatten_append]
    congr 1
    simp only [List.flatten_cons, List.flatten_nil, List.append_nil, List.map_map]
    apply List.ext_getElem
    · simp
    · intro i h1 h2
      simp only [List.length_map, List.length_range] at h1
      simp only [List.getElem_map, List.getElem_range, Function.comp]
      rw [Nat.mul_comm, Nat.mul_add_mod, Nat.mod_eq_of_lt h1]
      simp [h1]
theorem rBuildSlice0 {t e : TypeId} {n sz : Nat} {z : Value} {ps : Array (Nat × Value)} (hu : P.underlying t = some (.slice e)) (hz : (P.info? e).map (fun i => (i.size, i.zero)) = some (sz, some z))
    (hsz : z.cells.size = sz) (hn : n * sz ≤ 16777216)
    (h : zerosK n z.cells.toList fun zs => fillK (fun i => some (i * sz, sz)) ps.toList zs fun cs => K (.slice (some ⟨w.heap.size, 0, none⟩) n n) (w.alloc (.cells cs.toArray e))) :
    RunP P (Instr.buildSlice t n ps) w K := by
  rw [zerosK_eq] at h
  cases hi : P.info? e with
  | none => simp [hi] at hz
  | some i =>
    simp only [hi, Option.map_some, Option.some.injEq, Prod.mk.injEq] at hz
    obtain ⟨h1, h2⟩ := hz
    obtain ⟨cs, hf, k⟩ := fillK_sound _ h
    refine ⟨_, _, ?_, k⟩
    have hb : ¬ (16777216 < n * sz) := by omega
    by_cases h0 : n * sz = 0
    · have : (List.replicate n z.cells.toList).flatten = [] := by
        apply List.eq_nil_of_length_eq_zero
        simp [hsz, h0]
      rw [this] at hf
      have hr : Array.range 0 = #[] := rfl
      simp [Instr.buildSlice, hr, run_underlying hu, sizeOf, typeInfo, hi, h1, h0, hf, newRow]
    · have hzz := zeros_eq n z.cells
      rw [hsz] at hzz
      simp [Instr.buildSlice, run_underlying hu, sizeOf, typeInfo, zeroValue, hi, h1, h0, h2, hb, hsz, hzz, hf, newRow]

/-! ## Blocks -/
/-- Block b is a row of these cells, whole. -/
def Blk (w : World) (b : Nat) (cs : List Value) (e : TypeId) : Prop := w.heap[b]? = some (.cells cs.toArray e (0, 0))
/-- At block b, from offset o on, lie these cells. -/
def At (w : World) (b o : Nat) (vs : List Value) : Prop := ∃ cs e fz, w.heap[b]? = some (.cells cs e fz) ∧ ∀ i v, vs[i]? = some v → cs[o + i]? = some v
/-- A new block. -/
structure New (w w' : World) (cs : List Value) (e : TypeId) : Prop where
  blk : Blk w' w.heap.size cs e
  below : Below w.heap.size w w'
  size : w'.heap.size = w.heap.size + 1
/-- Block b alone may have changed. -/
structure Upd (w w' : World) (b : Nat) : Prop where
  os : w'.os = w.os
  tape : w'.tape = w.tape
  output : w'.output = w.output
  size : w'.heap.size = w.heap.size
  block : ∀ k, k ≠ b → w'.heap[k]? = w.heap[k]?
theorem New.mk' (w : World) (cs : List Value) (e : TypeId) : New w (w.alloc (.cells cs.toArray e)) cs e :=
  ⟨heap_alloc_new w _, (Below.refl _ _).alloc (Nat.le_refl _) _, by simp⟩
theorem Upd.below {B : Nat} {w0 w w' : World} {b : Nat} (h : Upd w w' b) (hb : Below B w0 w) (hB : B ≤ b) : Below B w0 w' :=
  ⟨h.os.trans hb.os, h.tape.trans hb.tape, h.output.trans hb.output, by rw [h.size]; exact hb.size, fun k hk => (h.block k (by omega)).trans (hb.block k hk)⟩
theorem Blk.at {w : World} {b : Nat} {cs : List Value} {e : TypeId} (h : Blk w b cs e) : At w b 0 cs :=
  ⟨_, _, _, h, fun i v hi => by simpa using hi⟩
theorem Blk.lt {w : World} {b : Nat} {cs : List Value} {e : TypeId} (h : Blk w b cs e) : b < w.heap.size := (Array.getElem?_eq_some_iff.1 h).1
theorem At.lt {w : World} {b o : Nat} {vs : List Value} (h : At w b o vs) : b < w.heap.size := by
  obtain ⟨_, _, _, h, _⟩ := h; exact (Array.getElem?_eq_some_iff.1 h).1
theorem Blk.keep {w w' : World} {b : Nat} {cs : List Value} {e : TypeId} (h : Blk w b cs e) (hk : w'.heap[b]? = w.heap[b]?) : Blk w' b cs e := hk.trans h
theorem Blk.below {B : Nat} {w w' : World} {b : Nat} {cs : List Value} {e : TypeId} (h : Blk w b cs e) (hb : Below B w w') (hB : b < B) : Blk w' b cs e := h.keep (hb.block b hB)
theorem At.keep {w w' : World} {b o : Nat} {vs : List Value} (h : At w b o vs) (hk : w'.heap[b]? = w.heap[b]?) : At w' b o vs := by
  obtain ⟨cs, e, fz, h1, h2⟩ := h; exact ⟨cs, e, fz, hk.trans h1, h2⟩
theorem At.below {B : Nat} {w w' : World} {b o : Nat} {vs : List Value} (h : At w b o vs) (hb : Below B w w') (hB : b < B) : At w' b o vs := h.keep (hb.block b hB)
theorem At.sub {w : World} {b o : Nat} {vs : List Value} (h : At w b o vs) (i n : Nat) : At w b (o + i) ((vs.drop i).take n) := by
  obtain ⟨cs, e, fz, h1, h2⟩ := h
  refine ⟨cs, e, fz, h1, fun j v hj => ?_⟩
  rw [List.getElem?_take] at hj
  split at hj
  · rw [List.getElem?_drop] at hj; rw [Nat.add_assoc]; exact h2 _ _ hj
  · cases hj
theorem rBox {t : TypeId} {v : Value} (h : cellsK v fun cs => ∀ w', New w w' cs t → K (.pointer (some ⟨w.heap.size, 0, none⟩)) w') : RunP P (Instr.box t v) w K :=
  rBox0 (by rw [cellsK_eq] at h ⊢; exact h _ (New.mk' _ _ _))
theorem rAlloc {t : TypeId} {z : Value} (hz : (P.info? t).bind (fun i => i.zero) = some z) (h : cellsK z fun cs => ∀ w', New w w' cs t → K (.pointer (some ⟨w.heap.size, 0, none⟩)) w') :
    RunP P (Instr.alloc t true (.tuple #[])) w K :=
  rAlloc0 hz (by rw [cellsK_eq] at h ⊢; exact h _ (New.mk' _ _ _))
theorem fillK_imp {place : Nat → Option (Nat × Nat)} (ps : List (Nat × Value)) : ∀ {cs : List Value} {k k' : List Value → Prop}, fillK place ps cs k → (∀ cs, k cs → k' cs) → fillK place ps cs k' := by
  induction ps with
  | nil => exact fun h hk => hk _ h
  | cons p r ih =>
    obtain ⟨i, v⟩ := p
    intro cs k k' h hk
    simp only [fillK_cons, cellsK_eq, setsK_eq] at h ⊢
    split at h
    · exact h.elim
    · rename_i pr hp
      obtain ⟨o, n⟩ := pr
      dsimp only at h ⊢
      obtain ⟨hb, h⟩ := trueK_eq h
      rw [hb]; exact ih h hk
theorem rBuildSlice {t e : TypeId} {n sz : Nat} {z : Value} {ps : Array (Nat × Value)} (hu : P.underlying t = some (.slice e)) (hz : (P.info? e).map (fun i => (i.size, i.zero)) = some (sz, some z))
    (hsz : z.cells.size = sz) (hn : n * sz ≤ 16777216)
    (h : zerosK n z.cells.toList fun zs => fillK (fun i => some (i * sz, sz)) ps.toList zs fun cs => ∀ w', New w w' cs e → K (.slice (some ⟨w.heap.size, 0, none⟩) n n) w') :
    RunP P (Instr.buildSlice t n ps) w K :=
  rBuildSlice0 hu hz hsz hn (by rw [zerosK_eq] at h ⊢; exact fillK_imp _ h fun cs h => h _ (New.mk' _ _ _))

/-! ## Loads, stores, places -/
def aggB : TypeDesc → Bool
  | .struct _ | .array _ _ => true
  | _ => false
theorem isAgg_run {t : TypeId} {d : TypeDesc} (hu : P.underlying t = some d) : (isAgg t).run P w = .ok (aggB d) w := by
  unfold isAgg
  rw [Sem.run_bind, run_underlying hu w]
  cases d <;> rfl
theorem At.cell {w : World} {b o : Nat} {vs : List Value} (h : At w b o vs) {i : Nat} {v : Value} (hi : vs[i]? = some v) : w.cell? ⟨b, o + i, none⟩ = some v := by
  obtain ⟨cs, e, fz, h1, h2⟩ := h
  rw [cell_of_row w b (o + i) cs e fz h1]; exact h2 i v hi
theorem rLoadC {t : TypeId} {d : TypeDesc} {b o : Nat} {v : Value} (hc : w.cell? ⟨b, o, none⟩ = some v) (hu : P.underlying t = some d) (hd : aggB d = false) (k : K v w) :
    RunP P (Instr.loadAt t (.pointer (some ⟨b, o, none⟩))) w K := by
  refine ⟨v, w, ?_, k⟩
  simp [Instr.loadAt, Instr.sureAddr, loadVar, isAgg_run hu, hd, hc]
theorem rLoad {t : TypeId} {d : TypeDesc} {b o : Nat} {vs : List Value} (h : At w b o vs) (i : Nat) (hu : P.underlying t = some d) (hd : aggB d = false) (k : nthK vs i fun v => K v w) :
    RunP P (Instr.loadAt t (.pointer (some ⟨b, o + i, none⟩))) w K := by
  obtain ⟨v, hv, k⟩ := nthK_eq k
  exact rLoadC (h.cell hv) hu hd k
theorem rLoadA0 {t : TypeId} {d : TypeDesc} {b o : Nat} {vs : List Value} (h : At w b o vs) (hu : P.underlying t = some d) (hd : aggB d = true) (hs : (P.info? t).map (·.size) = some vs.length) (k : K (.agg vs.toArray) w) :
    RunP P (Instr.loadAt t (.pointer (some ⟨b, o, none⟩))) w K := by
  refine ⟨_, w, ?_, k⟩
  cases hi : P.info? t with
  | none => simp [hi] at hs
  | some i =>
    have hl : i.size = vs.length := by simpa [hi] using hs
    have := run_loadCells_list (P := P) w ⟨b, o, none⟩ vs (fun j v hv => by rw [Addr.add_lit]; exact h.cell hv)
    simp [Instr.loadAt, Instr.sureAddr, loadVar, isAgg_run hu, hd, sizeOf, typeInfo, hi, hl, this]
def dropK (l : List Value) : Nat → (List Value → Prop) → Prop :=
  List.rec (motive := fun _ => Nat → (List Value → Prop) → Prop) (fun _ k => k []) (fun x r ih n k => Nat.rec (motive := fun _ => Prop) (k (x :: r)) (fun m _ => ih m k) n) l
theorem dropK_succ (x : Value) (r : List Value) (n : Nat) (k : List Value → Prop) : dropK (x :: r) (n + 1) k = dropK r n k := rfl
def takeK (l : List Value) : Nat → (List Value → Prop) → Prop :=
  List.rec (motive := fun _ => Nat → (List Value → Prop) → Prop) (fun n k => Nat.rec (motive := fun _ => Prop) (k []) (fun _ _ => False) n) (fun x _ ih n k => Nat.rec (motive := fun _ => Prop) (k []) (fun m _ => ih m fun l => k (x :: l)) n) l
theorem dropK_eq (l : List Value) (n : Nat) (k : List Value → Prop) : dropK l n k = k (l.drop n) := by
  induction l generalizing n with
  | nil => cases n <;> rfl
  | cons x r ih => cases n with
    | zero => rfl
    | succ n => simp [dropK_succ, ih]
theorem takeK_eq {l : List Value} {n : Nat} {k : List Value → Prop} (h : takeK l n k) : n ≤ l.length ∧ k (l.take n) := by
  induction l generalizing n k with
  | nil => cases n with
    | zero => exact ⟨Nat.le_refl _, h⟩
    | succ n => exact h.elim
  | cons x r ih => cases n with
    | zero => exact ⟨Nat.zero_le _, h⟩
    | succ n => obtain ⟨h1, h2⟩ := ih (n := n) h; exact ⟨by simp; omega, by simpa using h2⟩
/-- A struct or array out of the middle of known cells. -/
theorem rLoadA {t : TypeId} {d : TypeDesc} {b o : Nat} {vs : List Value} (h : At w b o vs) (i : Nat) (hu : P.underlying t = some d) (hd : aggB d = true)
    (k : dropK vs i fun r => takeK r (P.cellsOf t) fun us => K (.agg us.toArray) w) :
    RunP P (Instr.loadAt t (.pointer (some ⟨b, o + i, none⟩))) w K := by
  rw [dropK_eq] at k
  obtain ⟨h1, h2⟩ := takeK_eq k
  refine rLoadA0 (h.sub i (P.cellsOf t)) hu hd ?_ h2
  cases hi : P.info? t with
  | none => simp [Program.underlying, hi] at hu
  | some j => simp [Program.cellsOf, hi] at h1 ⊢; omega
theorem rStoreC {t : TypeId} {e : TypeId} {b o : Nat} {cs : List Value} {v : Value} {K : World → Prop} (hb : Blk w b cs e) (ho : o < cs.length) (hs : (P.info? t).map (·.size) = some 1) (hv : v.oneCell' = true)
    (k : stK cs o v fun cs' => ∀ w', Upd w w' b → Blk w' b cs' e → K w') : DoP P (Instr.storeAt t (.pointer (some ⟨b, o, none⟩)) v) w K := by
  rw [stK_eq] at k
  cases hi : P.info? t with
  | none => simp [hi] at hs
  | some i =>
    have hl : i.size = 1 := by simpa [hi] using hs
    have hvc : v.cells = #[v] := by cases v <;> first | rfl | (simp [Value.oneCell'] at hv)
    have hc : w.cell? ⟨b, o, none⟩ = some cs[o] := by
      rw [cell_of_row w b o _ e (0, 0) hb]; simp [ho]
    have hf : w.frozen? ⟨b, o, none⟩ = false := frozen_of_row w b o _ e hb
    have hw : Upd w (w.setCell ⟨b, o, none⟩ v) b := ⟨rfl, rfl, rfl, by simp, fun k hk => heap_setCell_other w _ k v hk⟩
    have hw2 : Blk (w.setCell ⟨b, o, none⟩ v) b (cs.set o v) e := by
      unfold Blk
      rw [heap_setCell_same w b o _ e v hb]; simp
    refine ⟨_, ?_, k _ hw hw2⟩
    have hst : (store ⟨b, o, none⟩ v).run P w = .ok () (w.setCell ⟨b, o, none⟩ v) := by
      cases v <;> first | (simp [Value.oneCell'] at hv; done) | simp [store, Sem.run, hc, hf]
    simp [Instr.storeAt, Instr.sureAddr, storeVar, sizeOf, typeInfo, hi, hl, hvc, storeCells, Addr.add_zero', hst]
theorem rStoreL {t : TypeId} {e : TypeId} {b o : Nat} {cs : List Value} {v : Value} {K : World → Prop} (hb : Blk w b cs e) (ho : o < cs.length) (hs : (P.info? t).map (·.size) = some 1) (hv : v.oneCell' = true)
    (k : ∀ w', Upd w w' b → Blk w' b (cs.set o v) e → K w') : DoP P (Instr.storeAt t (.pointer (some ⟨b, o, none⟩)) v) w K :=
  rStoreC hb ho hs hv (by rw [stK_eq]; exact k)
theorem rIdx {t e : TypeId} {b o len cap : Nat} {ki : IntKind} {i : Int} (sz j p : Nat) (hj : i = j) (hl : j < len) (hp : o + j * sz = p) (ht : P.underlying t = some (.slice e)) (hs : (P.info? e).map (fun i => i.size) = some sz)
    (k : K (.pointer (some ⟨b, p, none⟩)) w) : RunP P (Instr.indexAt t (.slice (some ⟨b, o, none⟩) len cap) (.int ki i)) w K := by
  subst hj; subst hp
  refine ⟨_, w, ?_, k⟩
  cases hi' : P.info? e with
  | none => simp [hi'] at hs
  | some i' =>
    simp only [hi', Option.map_some, Option.some.injEq] at hs
    simp [Instr.indexAt, asIntOf, run_underlying ht, sizeOf, typeInfo, hi', hs, Addr.add_lit, hl]
theorem Upd.trans {w w' w'' : World} {b : Nat} (h : Upd w w' b) (k : Upd w' w'' b) : Upd w w'' b :=
  ⟨k.os.trans h.os, k.tape.trans h.tape, k.output.trans h.output, k.size.trans h.size, fun i hi => (k.block i hi).trans (h.block i hi)⟩
theorem Upd.refl (w : World) (b : Nat) : Upd w w b := ⟨rfl, rfl, rfl, rfl, fun _ _ => rfl⟩
def fldK (l : List Field) : Nat → (TypeId → Nat → Prop) → Prop :=
  List.rec (motive := fun _ => Nat → (TypeId → Nat → Prop) → Prop) (fun _ _ => False) (fun f _ ih n k => Nat.rec (motive := fun _ => Prop) (match f with
    | ⟨_, ty, off, _, _, _, _⟩ => k ty off) (fun m _ => ih m k) n) l
theorem fldK_eq {l : List Field} {i : Nat} {k : TypeId → Nat → Prop} (h : fldK l i k) : ∃ f, l[i]? = some f ∧ k f.type f.offset := by
  induction l generalizing i with
  | nil => exact h.elim
  | cons f r ih => cases i with
    | zero => exact ⟨f, rfl, h⟩
    | succ i => simpa using ih (i := i) h
theorem rFieldAt {s : TypeId} {fs : Array Field} {i b o : Nat} (hu : P.underlying s = some (.struct fs)) (h : fldK fs.toList i fun ty off => trueK (Nat.ble 1 (P.cellsOf ty)) (K (.pointer (some ⟨b, o + off, none⟩)) w)) :
    RunP P (Instr.fieldAt s (.pointer (some ⟨b, o, none⟩)) i) w K := by
  obtain ⟨f, hf, h⟩ := fldK_eq h
  obtain ⟨h1, h2⟩ := trueK_eq h
  refine ⟨_, w, ?_, h2⟩
  simp only [Array.getElem?_toList] at hf
  have h1 : 1 ≤ P.cellsOf f.type := by simpa using h1
  cases hi : P.info? f.type with
  | none => simp [Program.cellsOf, hi] at h1
  | some j =>
    have : j.size ≠ 0 := by simp [Program.cellsOf, hi] at h1; omega
    simp [Instr.fieldAt, run_underlying hu, hf, Instr.sureAddr, fieldPlace, sizeOf, typeInfo, hi, this, Addr.add_lit]
def partK (P : PP) (ty : TypeId) (cs : List Value) (off : Nat) (k : Value → Prop) : Prop :=
  match P.underlying ty with
  | some d => match aggB d with
    | true => dropK cs off fun r => takeK r (P.cellsOf ty) fun vs => k (.agg vs.toArray)
    | false => nthK cs off k
  | none => False
def placesK (P : PP) (l : List Field) : (List (Nat × Nat) → Prop) → Prop :=
  List.rec (motive := fun _ => (List (Nat × Nat) → Prop) → Prop) (fun k => k []) (fun f _ ih k => match f with
    | ⟨_, ty, off, _, _, _, _⟩ => ih fun l => k ((off, P.cellsOf ty) :: l)) l
theorem placesK_cons (f : Field) (r : List Field) (k : List (Nat × Nat) → Prop) : placesK P (f :: r) k = placesK P r fun l => k ((f.offset, P.cellsOf f.type) :: l) := by cases f; rfl
theorem placesK_eq (l : List Field) (k : List (Nat × Nat) → Prop) : placesK P l k = k (l.map fun f => (f.offset, P.cellsOf f.type)) := by
  induction l generalizing k with
  | nil => rfl
  | cons f r ih => simp [placesK_cons, ih]
theorem mapM_run {α β : Type} {g : α → Sem β} {h : α → β} : ∀ (l : List α), (∀ a, a ∈ l → (g a).run P w = .ok (h a) w) → (l.mapM g).run P w = .ok (l.map h) w
  | [], _ => by simp
  | a :: r, hl => by
    rw [List.mapM_cons]
    simp only [Sem.run_bind, hl a (List.mem_cons_self ..), Result.andThen_ok, mapM_run r fun b hb => hl b (List.mem_cons_of_mem _ hb), Sem.run_pure, List.map_cons]
theorem sizeOf_run {t : TypeId} (h : (P.info? t).isSome = true) : (sizeOf t).run P w = .ok (P.cellsOf t) w := by
  obtain ⟨j, hj⟩ := Option.isSome_iff_exists.1 h
  simp [sizeOf, typeInfo, hj, Program.cellsOf]
theorem rBuild {t : TypeId} {fs : Array Field} {z : Value} {ps : Array (Nat × Value)} (hu : P.underlying t = some (.struct fs)) (hz : (P.info? t).bind (fun i => i.zero) = some z)
    (hf : fs.toList.all (fun f => (P.info? f.type).isSome) = true)
    (h : placesK P fs.toList fun pl => cellsK z fun zs => fillK (fun i => pl[i]?) ps.toList zs fun cs => K (.agg cs.toArray) w) : RunP P (Instr.build t ps) w K := by
  rw [placesK_eq, cellsK_eq] at h
  obtain ⟨cs, h1, h2⟩ := fillK_sound _ h
  refine ⟨_, w, ?_, h2⟩
  cases hi : P.info? t with
  | none => simp [hi] at hz
  | some i =>
    simp only [hi, Option.bind_some] at hz
    have hm : (fs.mapM (m := Sem) fun f => do pure (f.offset, ← sizeOf f.type)).run P w = .ok (fs.toList.map fun f => (f.offset, P.cellsOf f.type)).toArray w := by
      rw [Array.mapM_eq_mapM_toList]
      rw [Sem.run_map, mapM_run (h := fun f => (f.offset, P.cellsOf f.type)) _ (fun f hm => ?_)]
      · rfl
      · have := List.all_eq_true.1 hf f hm
        simp only [Sem.run_bind, sizeOf_run this, Result.andThen_ok, Sem.run_pure]
    have hzv : (zeroValue t).run P w = .ok z w := by simp [zeroValue, typeInfo, hi, hz]
    simp only [Array.toArray_toList] at h1
    unfold Instr.build
    simp only [Sem.run_bind, hzv, Result.andThen_ok, run_underlying hu, hm, List.getElem?_toArray, h1, Sem.run_pure, Array.toArray_toList]
end Go.Proofs.YtbbdfhgcmkljeaaGreatDoor.Eng
namespace Go.Proofs.YtbbdfhgcmkljeaaGreatDoor.Eng
open Go Go.RowKit
set_option linter.unusedVariables false
variable {P : PP} {w : World} {K : Value → World → Prop}

/-! ## Own rows: grown by append -/
theorem own_keep {lo : Nat} {w w' : World} {e : TypeId} {sz : Nat} {v : Value} {n : Nat} {xs : List Value} (h : w.ownsRow lo e sz v n xs) (hb : ∀ k, v.ownBlock = some k → w'.heap[k]? = w.heap[k]?) : w'.ownsRow lo e sz v n xs := by
  refine ⟨h.1, ?_⟩
  rcases h.2 with hn | ⟨g, cap, cur, rfl, hbg, hgg, rest⟩
  · exact .inl hn
  · refine .inr ⟨g, cap, cur, rfl, hbg, ?_, rest⟩
    rw [hb g rfl]; exact hgg
theorem own_mono {lo lo' : Nat} {w : World} {e : TypeId} {sz : Nat} {v : Value} {n : Nat} {xs : List Value} (h : w.ownsRow lo e sz v n xs) (hl : lo' ≤ lo) : w.ownsRow lo' e sz v n xs := by
  refine ⟨h.1, ?_⟩
  rcases h.2 with hn | ⟨g, cap, cur, rfl, hbg, rest⟩
  · exact .inl hn
  · exact .inr ⟨g, cap, cur, rfl, Nat.le_trans hl hbg, rest⟩
theorem New.own {w w' : World} {cs : List Value} {e : TypeId} (h : New w w' cs e) (n sz : Nat) (hn : cs.length = n * sz) (hm : n ≤ 140737488355328) : w'.ownsRow w.heap.size e sz (.slice (some ⟨w.heap.size, 0, none⟩) n n) n cs :=
  ⟨hn, .inr ⟨w.heap.size, n, cs.toArray, rfl, Nat.le_refl _, h.blk, Nat.le_refl _, by simp [maxLen]; omega, by simpa using hn, List.take_of_length_le (by simp [hn])⟩⟩
/-! ## Bytes to strings -/
/-! ## Slices that read as lists -/
abbrev Hv := Nat → Obj → Prop
/-- The blocks from lo to hi of a world. -/
def Rg (w : World) (lo hi : Nat) : Hv := fun b o => lo ≤ b ∧ b < hi ∧ w.heap[b]? = some o
def Hle (H H' : Hv) : Prop := ∀ b o, H b o → H' b o
theorem Hle.refl (H : Hv) : Hle H H := fun _ _ h => h
theorem Rg.mono {w w' : World} {lo hi lo' hi' : Nat} (hlo : lo' ≤ lo) (hhi : hi ≤ hi') (hs : ∀ b, lo ≤ b → b < hi → w'.heap[b]? = w.heap[b]?) : Hle (Rg w lo hi) (Rg w' lo' hi') :=
  fun b o ⟨h1, h2, h3⟩ => ⟨Nat.le_trans hlo h1, Nat.lt_of_lt_of_le h2 hhi, (hs b h1 h2).trans h3⟩
theorem Rg.below {w w' : World} {lo hi B : Nat} (hb : Below B w w') (h : hi ≤ B) : Hle (Rg w lo hi) (Rg w' lo hi) := Rg.mono (Nat.le_refl _) (Nat.le_refl _) fun b _ h2 => hb.block b (Nat.lt_of_lt_of_le h2 h)
def AtH (H : Hv) (b o : Nat) (vs : List Value) : Prop := ∃ cs e fz, H b (.cells cs e fz) ∧ ∀ i v, vs[i]? = some v → cs[o + i]? = some v
theorem AtH.at {w : World} {lo hi b o : Nat} {vs : List Value} (h : AtH (Rg w lo hi) b o vs) : At w b o vs := by
  obtain ⟨cs, e, fz, ⟨_, _, h1⟩, h2⟩ := h; exact ⟨cs, e, fz, h1, h2⟩
theorem AtH.mono {H H' : Hv} {b o : Nat} {vs : List Value} (h : AtH H b o vs) (hh : Hle H H') : AtH H' b o vs := by
  obtain ⟨cs, e, fz, h1, h2⟩ := h; exact ⟨cs, e, fz, hh _ _ h1, h2⟩
section
variable {α : Type}
/-- Cells that read as a list, sz cells an element. -/
def RowR (R : Hv → List Value → α → Prop) (sz : Nat) (H : Hv) (cells : List Value) (xs : List α) : Prop :=
  cells.length = xs.length * sz ∧ ∀ i x, xs[i]? = some x → R H ((cells.drop (i * sz)).take sz) x
/-- A slice that reads as a list. -/
def SlR (R : Hv → List Value → α → Prop) (sz : Nat) (H : Hv) (v : Value) (xs : List α) : Prop :=
  ∃ a cap, v = .slice a xs.length cap ∧ (xs.length ≤ cap ∧ cap ≤ 9223372036854775807) ∧ (a = none → xs = [] ∧ cap = 0) ∧
    (xs ≠ [] → ∃ b o news, a = some ⟨b, o, none⟩ ∧ AtH H b o news ∧ RowR R sz H news xs)
def Mono (R : Hv → List Value → α → Prop) : Prop := ∀ H H' vs x, Hle H H' → R H vs x → R H' vs x
theorem RowR.mono {R : Hv → List Value → α → Prop} {sz : Nat} {H H' : Hv} {cells : List Value} {xs : List α} (hR : Mono R) (h : RowR R sz H cells xs) (hh : Hle H H') : RowR R sz H' cells xs :=
  ⟨h.1, fun i x hx => hR _ _ _ _ hh (h.2 i x hx)⟩
theorem SlR.mono {R : Hv → List Value → α → Prop} {sz : Nat} {H H' : Hv} {v : Value} {xs : List α} (hR : Mono R) (h : SlR R sz H v xs) (hh : Hle H H') : SlR R sz H' v xs := by
  obtain ⟨a, cap, h1, h2, h3, h4⟩ := h
  exact ⟨a, cap, h1, h2, h3, fun hx => let ⟨b, o, news, e, k1, k2⟩ := h4 hx; ⟨b, o, news, e, k1.mono hh, k2.mono hR hh⟩⟩
theorem SlR.len {R : Hv → List Value → α → Prop} {sz : Nat} {H : Hv} {v : Value} {xs : List α} (h : SlR R sz H v xs) : xs.length ≤ 9223372036854775807 := by
  obtain ⟨a, cap, h1, h2, h3, h4⟩ := h; omega
theorem SlR.nil (R : Hv → List Value → α → Prop) (sz : Nat) (H : Hv) : SlR R sz H (.slice none 0 0) [] :=
  ⟨none, 0, rfl, by simp, fun _ => ⟨rfl, rfl⟩, fun h => absurd rfl h⟩
theorem rLenR {R : Hv → List Value → α → Prop} {sz : Nat} {H : Hv} {t ty e : TypeId} {v : Value} {xs : List α} (h : SlR R sz H v xs) (ht : P.underlying t = some (.slice e)) (k : K (.int .i64 xs.length) w) :
    RunP P (Builtin.len_ #[t] ty #[v]) w K := by
  obtain ⟨a, cap, rfl, h2, h3, h4⟩ := h
  exact rLenSl ht k
end
end Go.Proofs.YtbbdfhgcmkljeaaGreatDoor.Eng
namespace Go.Proofs.YtbbdfhgcmkljeaaGreatDoor.Eng
open Go
theorem vShr_eq (k : IntKind) (x : Int) (n : Nat) (hn : n ≤ k.bits) : vShr k x n = x / 2 ^ n := by
  unfold vShr
  rw [Int.toNat_natCast, Nat.min_eq_left hn]
  rw [Int.fdiv_eq_ediv_of_nonneg _ (by exact_mod_cast Nat.zero_le (2 ^ n))]
theorem ofInt_toNat (n : Nat) (x : Int) : ((BitVec.ofInt n x).toNat : Int) = x % 2 ^ n := by
  rw [BitVec.toNat_ofInt]
  have h : 0 ≤ x % ((2 ^ n : Nat) : Int) := Int.emod_nonneg _ (by exact_mod_cast Nat.ne_of_gt (Nat.two_pow_pos n))
  rw [Int.toNat_of_nonneg h]
  norm_cast
theorem vAnd_mask (k : IntKind) (x : Int) (n : Nat) (hn : n < k.bits) : vAnd k x (2 ^ n - 1) = x % 2 ^ n := by
  unfold vAnd
  have h1 : (BitVec.ofInt k.bits (2 ^ n - 1)).toNat = 2 ^ n - 1 := by
    have h2 := ofInt_toNat k.bits (2 ^ n - 1)
    have h3 : ((2 : Int) ^ n - 1) % 2 ^ k.bits = 2 ^ n - 1 := by
      have a : (0 : Int) < 2 ^ n := by exact_mod_cast Nat.two_pow_pos n
      have b : (2 : Int) ^ n ≤ 2 ^ k.bits := by exact_mod_cast Nat.pow_le_pow_right (by decide) (Nat.le_of_lt hn)
      exact Int.emod_eq_of_lt (by omega) (by omega)
    rw [h3] at h2
    have h4 : ((2 ^ n - 1 : Nat) : Int) = 2 ^ n - 1 := by
      rw [Int.ofNat_sub (Nat.one_le_two_pow)]; norm_cast
    omega
  rw [BitVec.toNat_and, h1, Nat.and_two_pow_sub_one_eq_mod]
  have h5 : (((BitVec.ofInt k.bits x).toNat % 2 ^ n : Nat) : Int) = x % 2 ^ n := by
    rw [Int.natCast_emod, ofInt_toNat]
    have : ((2 ^ n : Nat) : Int) = 2 ^ n := by norm_cast
    rw [this]
    exact Int.emod_emod_of_dvd x (by exact_mod_cast Nat.pow_dvd_pow 2 (Nat.le_of_lt hn))
  rw [h5]
  have a : (0 : Int) < 2 ^ n := by exact_mod_cast Nat.two_pow_pos n
  have h6 := Int.emod_nonneg x (Int.ne_of_gt a)
  have h7 := Int.emod_lt_of_pos x a
  have h8 : (2 : Int) ^ n ≤ 2 ^ (k.bits - 1) := by exact_mod_cast Nat.pow_le_pow_right (by decide) (by omega)
  have h9 := vWrap_id (k := k) (n := x % 2 ^ n) (by
      unfold IntKind.min; split
      · have : (0 : Int) < 2 ^ (k.bits - 1) := by exact_mod_cast Nat.two_pow_pos _
        omega
      · exact h6) (by
      unfold IntKind.max
      have : (2 : Int) ^ (k.bits - 1) ≤ 2 ^ k.bits := by exact_mod_cast Nat.pow_le_pow_right (by decide) (by omega)
      split <;> omega)
  unfold vWrap at h9
  exact h9
theorem vOr_add (k : IntKind) (a b : Nat) (n : Nat) (ha : a < 2 ^ n) (hb : 2 ^ n ∣ b) (hk : (a : Int) + b ≤ k.max) : vOr k a b = a + b := by
  unfold vOr
  have hmax : k.max < 2 ^ k.bits := by cases k <;> decide
  have ea : (BitVec.ofInt k.bits (a : Int)).toNat = a := by
    have := ofInt_toNat k.bits a
    rw [Int.emod_eq_of_lt (by omega) (by omega)] at this
    omega
  have eb : (BitVec.ofInt k.bits (b : Int)).toNat = b := by
    have := ofInt_toNat k.bits b
    rw [Int.emod_eq_of_lt (by omega) (by omega)] at this
    omega
  obtain ⟨c, rfl⟩ := hb
  rw [BitVec.toNat_or, ea, eb, Nat.or_comm, ← Nat.two_pow_add_eq_or_of_lt ha]
  have := vWrap_id (k := k) (n := ((2 ^ n * c + a : Nat) : Int)) (by
    have : k.min ≤ 0 := by cases k <;> decide
    omega) (by omega)
  unfold vWrap at this
  rw [this]
  omega
theorem vShl_eq (k : IntKind) (x : Int) (n : Nat) (hn : n ≤ k.bits) : vShl k x n = vWrap k (x * 2 ^ n) := by
  unfold vShl vWrap
  rw [Int.toNat_natCast, Nat.min_eq_left hn]
theorem vAnd127 (k : IntKind) (x : Int) : vAnd k x 127 = x % 128 := vAnd_mask k x 7 (by cases k <;> decide)
end Go.Proofs.YtbbdfhgcmkljeaaGreatDoor.Eng
/- Plain facts on numbers written in bytes of seven bits: no program in sight. -/
namespace Go.Proofs.YtbbdfhgcmkljeaaGreatDoor.Leb
open Go Go.Proofs.YtbbdfhgcmkljeaaGreatDoor.Eng

/-- A number that is at least 0, written. -/
def uleb (n : Nat) : List UInt8 := if h : n < 128 then [UInt8.ofNat n] else UInt8.ofNat (n % 128 + 128) :: uleb (n / 128)
termination_by n
decreasing_by omega
/-- A number with a sign, written. -/
def sleb (n : Int) : List UInt8 := if h : -64 ≤ n ∧ n < 64 then [UInt8.ofNat (n % 128).toNat] else UInt8.ofNat ((n % 128).toNat + 128) :: sleb (n / 128)
termination_by n.natAbs
decreasing_by omega
theorem uleb_lt {n : Nat} (h : n < 128) : uleb n = [UInt8.ofNat n] := by rw [uleb, dif_pos h]
theorem uleb_ge {n : Nat} (h : 128 ≤ n) : uleb n = UInt8.ofNat (n % 128 + 128) :: uleb (n / 128) := by rw [uleb, dif_neg (by omega)]
theorem sleb_in {n : Int} (h : -64 ≤ n ∧ n < 64) : sleb n = [UInt8.ofNat (n % 128).toNat] := by rw [sleb, dif_pos h]
theorem sleb_out {n : Int} (h : ¬ (-64 ≤ n ∧ n < 64)) : sleb n = UInt8.ofNat ((n % 128).toNat + 128) :: sleb (n / 128) := by rw [sleb, dif_neg h]
theorem uleb_pos (n : Nat) : 0 < (uleb n).length := by
  by_cases h : n < 128
  · rw [uleb_lt h]; simp
  · rw [uleb_ge (by omega)]; simp
theorem sleb_pos (n : Int) : 0 < (sleb n).length := by
  by_cases h : -64 ≤ n ∧ n < 64
  · rw [sleb_in h]; simp
  · rw [sleb_out h]; simp
theorem uleb_len (k : Nat) : ∀ n, n < 128 ^ (k + 1) → (uleb n).length ≤ k + 1 := by
  induction k with
  | zero => intro n h; rw [uleb_lt (by omega)]; simp
  | succ k ih =>
    intro n h
    by_cases h1 : n < 128
    · rw [uleb_lt h1]; simp
    · rw [uleb_ge (by omega), List.length_cons]
      have := ih (n / 128) (by rw [Nat.pow_succ] at h; omega)
      omega
theorem sleb_len (k : Nat) : ∀ n : Int, -(64 * 128 ^ k : Nat) ≤ n → n < (64 * 128 ^ k : Nat) → (sleb n).length ≤ k + 1 := by
  induction k with
  | zero => intro n h h'; rw [sleb_in (by omega)]; simp
  | succ k ih =>
    intro n h h'
    by_cases h1 : -64 ≤ n ∧ n < 64
    · rw [sleb_in h1]; simp
    · rw [sleb_out h1, List.length_cons]
      have e : 64 * 128 ^ (k + 1) = 128 * (64 * 128 ^ k) := by rw [Nat.pow_succ]; omega
      rw [e] at h h'
      have := ih (n / 128) (by omega) (by omega)
      omega
theorem byte_toNat {n : Nat} (h : n < 256) : (UInt8.ofNat n).toNat = n := by simp [UInt8.toNat_ofNat']; omega

/-! ## Reading -/
def rdU (bits : Nat) : List UInt8 → Nat → Nat → Nat × Nat × Nat
  | [], _, _ => (0, 0, 3)
  | c :: r, i, acc =>
    if bits < 7 * i + 7 ∧ c.toNat / 2 ^ (bits - 7 * i) ≠ 0 then (0, 0, 4)
    else if c.toNat < 128 then (acc + c.toNat % 128 * 2 ^ (7 * i), i + 1, 0)
    else rdU bits r (i + 1) (acc + c.toNat % 128 * 2 ^ (7 * i))
/-- The seven bits of a byte, with their sign. -/
def sev (c : Nat) : Int := if c % 128 < 64 then (c % 128 : Nat) else (c % 128 : Nat) - 128
def badS (bits i c : Nat) : Prop := bits < 7 * i + 7 ∧ (128 ≤ c ∨ sev c < -((2 ^ (bits - 7 * i - 1) : Nat) : Int) ∨ ((2 ^ (bits - 7 * i - 1) : Nat) : Int) ≤ sev c)
instance (bits i c : Nat) : Decidable (badS bits i c) := by unfold badS; exact inferInstance
def rdS (bits : Nat) : List UInt8 → Nat → Nat → Int × Nat × Nat
  | [], _, _ => (0, 0, 3)
  | c :: r, i, acc =>
    if badS bits i c.toNat then (0, 0, 4)
    else if c.toNat < 128 then (acc + sev c.toNat * (2 ^ (7 * i) : Nat), i + 1, 0)
    else rdS bits r (i + 1) (acc + c.toNat % 128 * 2 ^ (7 * i))
theorem pow_succ7 (i : Nat) : 2 ^ (7 * (i + 1)) = 128 * 2 ^ (7 * i) := by rw [Nat.mul_succ, Nat.pow_add]; omega
/-- What is written is read, whatever stands behind. -/
theorem rdU_uleb (bits : Nat) (more : List UInt8) : ∀ (m i acc : Nat), 7 * i < bits → m < 2 ^ (bits - 7 * i) →
    rdU bits (uleb m ++ more) i acc = (acc + m * 2 ^ (7 * i), i + (uleb m).length, 0) := by
  intro m
  induction m using Nat.strongRecOn with
  | _ m ih =>
    intro i acc hi hm
    by_cases h : m < 128
    · rw [uleb_lt h, List.singleton_append, rdU, byte_toNat (by omega), if_neg, if_pos h, Nat.mod_eq_of_lt h]
      · rfl
      · rintro ⟨_, h2⟩; exact h2 (Nat.div_eq_of_lt hm)
    · have h8 : 7 * i + 8 ≤ bits := by
        rcases Nat.lt_or_ge bits (7 * i + 8) with hl | hl
        · have : (2 : Nat) ^ (bits - 7 * i) ≤ 2 ^ 7 := Nat.pow_le_pow_right (by decide) (by omega)
          omega
        · exact hl
      rw [uleb_ge (by omega), List.cons_append, rdU, byte_toNat (by omega), if_neg (by omega), if_neg (by omega)]
      have e1 : (m % 128 + 128) % 128 = m % 128 := by omega
      rw [e1, ih (m / 128) (by omega) (i + 1) _ (by omega)]
      · rw [pow_succ7, List.length_cons]
        have e2 : m % 128 * 2 ^ (7 * i) + m / 128 * (128 * 2 ^ (7 * i)) = m * 2 ^ (7 * i) := by
          rw [← Nat.mul_assoc, ← Nat.add_mul]; congr 1; omega
        refine Prod.ext ?_ (Prod.ext ?_ rfl)
        · show acc + m % 128 * 2 ^ (7 * i) + m / 128 * (128 * 2 ^ (7 * i)) = acc + m * 2 ^ (7 * i)
          omega
        · show i + 1 + (uleb (m / 128)).length = i + ((uleb (m / 128)).length + 1)
          omega
      · have e3 : 2 ^ (bits - 7 * i) = 128 * 2 ^ (bits - 7 * (i + 1)) := by
          have : bits - 7 * i = 7 + (bits - 7 * (i + 1)) := by omega
          rw [this, Nat.pow_add]
        rw [e3] at hm
        omega
theorem rdU_cut (bits : Nat) : ∀ (m i acc j : Nat), 7 * i < bits → m < 2 ^ (bits - 7 * i) → j < (uleb m).length → rdU bits ((uleb m).take j) i acc = (0, 0, 3) := by
  intro m
  induction m using Nat.strongRecOn with
  | _ m ih =>
    intro i acc j hi hm hj
    by_cases h : m < 128
    · rw [uleb_lt h] at hj ⊢
      have : j = 0 := by simpa using hj
      subst this; rfl
    · have h8 : 7 * i + 8 ≤ bits := by
        rcases Nat.lt_or_ge bits (7 * i + 8) with hl | hl
        · have : (2 : Nat) ^ (bits - 7 * i) ≤ 2 ^ 7 := Nat.pow_le_pow_right (by decide) (by omega)
          omega
        · exact hl
      rw [uleb_ge (by omega)] at hj ⊢
      cases j with
      | zero => rfl
      | succ j =>
        rw [List.take_succ_cons, rdU, byte_toNat (by omega), if_neg (by omega), if_neg (by omega)]
        have e3 : 2 ^ (bits - 7 * i) = 128 * 2 ^ (bits - 7 * (i + 1)) := by
          have : bits - 7 * i = 7 + (bits - 7 * (i + 1)) := by omega
          rw [this, Nat.pow_add]
        exact ih (m / 128) (by omega) (i + 1) _ j (by omega) (by rw [e3] at hm; omega) (by simpa using hj)
/-- What is read as n in k bytes is written in k bytes at the most. -/
theorem rdU_short (bits : Nat) : ∀ (s : List UInt8) (i acc n k : Nat), acc < 2 ^ (7 * i) → rdU bits s i acc = (n, k, 0) → n < 2 ^ (7 * k) ∧ i < k ∧ k ≤ i + s.length := by
  intro s
  induction s with
  | nil => intro i acc n k _ h; simp [rdU] at h
  | cons c r ih =>
    intro i acc n k ha h
    have hb : acc + c.toNat % 128 * 2 ^ (7 * i) < 2 ^ (7 * (i + 1)) := by
      rw [pow_succ7]
      have h2 : (c.toNat % 128 + 1) * 2 ^ (7 * i) ≤ 128 * 2 ^ (7 * i) := Nat.mul_le_mul_right _ (by omega)
      rw [Nat.add_mul] at h2
      omega
    rw [rdU] at h
    split at h
    · simp at h
    · split at h
      · simp only [Prod.mk.injEq] at h
        obtain ⟨rfl, rfl, _⟩ := h
        exact ⟨hb, by omega, by simp⟩
      · obtain ⟨h1, h2, h3⟩ := ih (i + 1) _ n k hb h
        exact ⟨h1, by omega, by simp; omega⟩
theorem uleb_short {n k : Nat} (h : n < 2 ^ (7 * k)) (hk : 0 < k) : (uleb n).length ≤ k := by
  obtain ⟨j, rfl⟩ : ∃ j, k = j + 1 := ⟨k - 1, by omega⟩
  exact uleb_len j n (by rw [Nat.pow_mul] at h; exact h)
/-! ## With signs -/
theorem sev_eq (m : Int) (h : -64 ≤ m ∧ m < 64) : sev (m % 128).toNat = m := by
  unfold sev; split <;> omega
theorem rdS_sleb (bits : Nat) (more : List UInt8) : ∀ (k : Nat) (m : Int) (i acc : Nat), m.natAbs ≤ k → 7 * i < bits → -((2 ^ (bits - 7 * i - 1) : Nat) : Int) ≤ m → m < ((2 ^ (bits - 7 * i - 1) : Nat) : Int) →
    rdS bits (sleb m ++ more) i acc = (acc + m * (2 ^ (7 * i) : Nat), i + (sleb m).length, 0) := by
  intro k
  induction k with
  | zero =>
    intro m i acc hk hi h1 h2
    have : m = 0 := by omega
    subst this
    rw [sleb_in (by omega), List.singleton_append, rdS]
    have e : (UInt8.ofNat ((0 : Int) % 128).toNat).toNat = 0 := rfl
    have hp := Nat.two_pow_pos (bits - 7 * i - 1)
    rw [e, if_neg (by unfold badS; rw [show sev 0 = 0 from rfl]; omega), if_pos (by omega)]
    simp [sev]
  | succ k ih =>
    intro m i acc hk hi h1 h2
    by_cases h : -64 ≤ m ∧ m < 64
    · rw [sleb_in h, List.singleton_append, rdS, byte_toNat (by omega), sev_eq m h, if_neg, if_pos (by omega)]
      · rfl
      · rintro ⟨_, h' | h'⟩
        · omega
        · rw [sev_eq m h] at h'; omega
    · have h8 : 7 * i + 7 < bits := by
        rcases Nat.lt_or_ge (7 * i + 7) bits with hl | hl
        · exact hl
        · have : (2 : Nat) ^ (bits - 7 * i - 1) ≤ 2 ^ 6 := Nat.pow_le_pow_right (by decide) (by omega)
          omega
      rw [sleb_out h, List.cons_append, rdS, byte_toNat (by omega), if_neg (by rintro ⟨h, _⟩; omega), if_neg (by omega)]
      have e3 : 2 ^ (bits - 7 * i - 1) = 128 * 2 ^ (bits - 7 * (i + 1) - 1) := by
        have : bits - 7 * i - 1 = 7 + (bits - 7 * (i + 1) - 1) := by omega
        rw [this, Nat.pow_add]
      rw [e3] at h1 h2
      rw [ih (m / 128) (i + 1) _ (by omega) (by omega) (by omega) (by omega)]
      have e1 : ((m % 128).toNat + 128) % 128 = (m % 128).toNat := by omega
      rw [e1, pow_succ7, List.length_cons]
      refine Prod.ext ?_ (Prod.ext ?_ rfl)
      · show ((acc + (m % 128).toNat * 2 ^ (7 * i) : Nat) : Int) + m / 128 * ((128 * 2 ^ (7 * i) : Nat) : Int) = acc + m * ((2 ^ (7 * i) : Nat) : Int)
        generalize 2 ^ (7 * i) = p
        have e4 : (((m % 128).toNat * p : Nat) : Int) = m % 128 * p := by
          rw [Int.natCast_mul, Int.toNat_of_nonneg (by omega)]
        have e5 : m = m % 128 + 128 * (m / 128) := by omega
        have e6 : m * (p : Int) = m % 128 * p + 128 * (m / 128) * p := by
          rw [← Int.add_mul, ← e5]
        rw [Int.natCast_add, e4, e6, Int.natCast_mul, Int.add_assoc]
        congr 2
        rw [← Int.mul_assoc, Int.mul_comm (m / 128)]
        rfl
      · show i + 1 + (sleb (m / 128)).length = i + ((sleb (m / 128)).length + 1)
        omega
theorem rdS_cut (bits : Nat) : ∀ (k : Nat) (m : Int) (i acc j : Nat), m.natAbs ≤ k → 7 * i < bits → -((2 ^ (bits - 7 * i - 1) : Nat) : Int) ≤ m → m < ((2 ^ (bits - 7 * i - 1) : Nat) : Int) → j < (sleb m).length →
    rdS bits ((sleb m).take j) i acc = (0, 0, 3) := by
  intro k
  induction k with
  | zero =>
    intro m i acc j hk hi h1 h2 hj
    have : m = 0 := by omega
    subst this
    rw [sleb_in (by omega)] at hj ⊢
    have : j = 0 := by simpa using hj
    subst this; rfl
  | succ k ih =>
    intro m i acc j hk hi h1 h2 hj
    by_cases h : -64 ≤ m ∧ m < 64
    · rw [sleb_in h] at hj ⊢
      have : j = 0 := by simpa using hj
      subst this; rfl
    · have h8 : 7 * i + 7 < bits := by
        rcases Nat.lt_or_ge (7 * i + 7) bits with hl | hl
        · exact hl
        · have : (2 : Nat) ^ (bits - 7 * i - 1) ≤ 2 ^ 6 := Nat.pow_le_pow_right (by decide) (by omega)
          omega
      rw [sleb_out h] at hj ⊢
      cases j with
      | zero => rfl
      | succ j =>
        have e3 : 2 ^ (bits - 7 * i - 1) = 128 * 2 ^ (bits - 7 * (i + 1) - 1) := by
          have : bits - 7 * i - 1 = 7 + (bits - 7 * (i + 1) - 1) := by omega
          rw [this, Nat.pow_add]
        rw [e3] at h1 h2
        rw [List.take_succ_cons, rdS, byte_toNat (by omega), if_neg (by rintro ⟨h, _⟩; omega), if_neg (by omega)]
        exact ih (m / 128) (i + 1) _ j (by omega) (by omega) (by omega) (by omega) (by simpa using hj)
theorem rdS_short (bits : Nat) : ∀ (s : List UInt8) (i acc : Nat) (n : Int) (k : Nat), acc < 2 ^ (7 * i) → rdS bits s i acc = (n, k, 0) →
    -((64 * 2 ^ (7 * (k - 1)) : Nat) : Int) ≤ n ∧ n < ((64 * 2 ^ (7 * (k - 1)) : Nat) : Int) ∧ i < k ∧ k ≤ i + s.length := by
  intro s
  induction s with
  | nil => intro i acc n k _ h; simp [rdS] at h
  | cons c r ih =>
    intro i acc n k ha h
    rw [rdS] at h
    split at h
    · simp at h
    · split at h
      · simp only [Prod.mk.injEq] at h
        obtain ⟨rfl, rfl, _⟩ := h
        have hs : -64 ≤ sev c.toNat ∧ sev c.toNat ≤ 63 := by unfold sev; split <;> omega
        rw [Nat.add_sub_cancel]
        generalize 2 ^ (7 * i) = p at *
        have a1 : -64 * (p : Int) ≤ sev c.toNat * p := Int.mul_le_mul_of_nonneg_right hs.1 (by omega)
        have a2 : sev c.toNat * (p : Int) ≤ 63 * p := Int.mul_le_mul_of_nonneg_right hs.2 (by omega)
        refine ⟨?_, ?_, by omega, by simp⟩ <;> push_cast <;> omega
      · have hb : acc + c.toNat % 128 * 2 ^ (7 * i) < 2 ^ (7 * (i + 1)) := by
          rw [pow_succ7]
          have h2 : (c.toNat % 128 + 1) * 2 ^ (7 * i) ≤ 128 * 2 ^ (7 * i) := Nat.mul_le_mul_right _ (by omega)
          rw [Nat.add_mul] at h2
          omega
        obtain ⟨h1, h2, h3, h4⟩ := ih (i + 1) _ n k hb h
        exact ⟨h1, h2, by omega, by simp; omega⟩
theorem rdU_bd (bits : Nat) : ∀ (s : List UInt8) (i acc : Nat), 7 * i < bits → bits = 32 ∨ bits = 64 → acc < 2 ^ (7 * i) → (rdU bits s i acc).1 < 2 ^ bits := by
  intro s
  induction s with
  | nil => intro i acc _ _ _; exact Nat.two_pow_pos _
  | cons c r ih =>
    intro i acc hi hb ha
    rw [rdU]
    split
    · exact Nat.two_pow_pos _
    · rename_i hno
      have e : (2 : Nat) ^ bits = 2 ^ (bits - 7 * i) * 2 ^ (7 * i) := by rw [← Nat.pow_add]; congr 1; omega
      have h1 : c.toNat % 128 < 2 ^ (bits - 7 * i) := by
        by_cases h : bits < 7 * i + 7
        · have h2 : c.toNat / 2 ^ (bits - 7 * i) = 0 := Decidable.byContradiction fun h2 => hno ⟨h, h2⟩
          have := (Nat.div_eq_zero_iff.1 h2).resolve_left (Nat.ne_of_gt (Nat.two_pow_pos _))
          exact Nat.lt_of_le_of_lt (Nat.mod_le _ _) this
        · have : (2 : Nat) ^ 7 ≤ 2 ^ (bits - 7 * i) := Nat.pow_le_pow_right (by decide) (by omega)
          omega
      have h2 : (c.toNat % 128 + 1) * 2 ^ (7 * i) ≤ 2 ^ (bits - 7 * i) * 2 ^ (7 * i) := Nat.mul_le_mul_right _ h1
      split
      · rw [Nat.add_mul] at h2
        show acc + _ < _
        omega
      · rename_i hc
        have h7 : 7 * (i + 1) < bits := by
          by_cases h : bits < 7 * i + 7
          · exfalso
            apply hno
            refine ⟨h, fun h2 => ?_⟩
            have h3 := (Nat.div_eq_zero_iff.1 h2).resolve_left (Nat.ne_of_gt (Nat.two_pow_pos _))
            have : (2 : Nat) ^ (bits - 7 * i) ≤ 2 ^ 7 := Nat.pow_le_pow_right (by decide) (by omega)
            omega
          · omega
        refine ih (i + 1) _ h7 hb ?_
        rw [pow_succ7]
        have h2 : (c.toNat % 128 + 1) * 2 ^ (7 * i) ≤ 128 * 2 ^ (7 * i) := Nat.mul_le_mul_right _ (by omega)
        rw [Nat.add_mul] at h2
        omega
theorem rdS_bd (bits : Nat) : ∀ (s : List UInt8) (i acc : Nat), 7 * i < bits → bits = 32 ∨ bits = 64 → acc < 2 ^ (7 * i) →
    -((2 ^ (bits - 1) : Nat) : Int) ≤ (rdS bits s i acc).1 ∧ (rdS bits s i acc).1 < ((2 ^ (bits - 1) : Nat) : Int) := by
  intro s
  have hz := Nat.two_pow_pos (bits - 1)
  induction s with
  | nil => intro i acc _ _ _; exact ⟨by show _ ≤ (0 : Int); omega, by show (0 : Int) < _; omega⟩
  | cons c r ih =>
    intro i acc hi hb ha
    rw [rdS]
    split
    · exact ⟨by show _ ≤ (0 : Int); omega, by show (0 : Int) < _; omega⟩
    · rename_i hno
      have e : (2 : Nat) ^ (bits - 1) = 2 ^ (bits - 7 * i - 1) * 2 ^ (7 * i) := by rw [← Nat.pow_add]; congr 1; omega
      have hs : -64 ≤ sev c.toNat ∧ sev c.toNat ≤ 63 := by unfold sev; split <;> omega
      split
      · have h1 : -((2 ^ (bits - 7 * i - 1) : Nat) : Int) ≤ sev c.toNat ∧ sev c.toNat + 1 ≤ ((2 ^ (bits - 7 * i - 1) : Nat) : Int) := by
          by_cases h : bits < 7 * i + 7
          · constructor
            · apply Decidable.byContradiction; intro hh; exact hno ⟨h, .inr (.inl (by omega))⟩
            · apply Decidable.byContradiction; intro hh; exact hno ⟨h, .inr (.inr (by omega))⟩
          · have : (2 : Nat) ^ 6 ≤ 2 ^ (bits - 7 * i - 1) := Nat.pow_le_pow_right (by decide) (by omega)
            omega
        rw [e]
        generalize 2 ^ (bits - 7 * i - 1) = M at *
        generalize 2 ^ (7 * i) = p at *
        have a1 : -(M : Int) * p ≤ sev c.toNat * p := Int.mul_le_mul_of_nonneg_right h1.1 (by omega)
        have a2 : (sev c.toNat + 1) * p ≤ (M : Int) * p := Int.mul_le_mul_of_nonneg_right h1.2 (by omega)
        rw [Int.neg_mul] at a1
        rw [Int.add_mul, Int.one_mul] at a2
        rw [Int.natCast_mul]
        show _ ≤ (acc : Int) + sev c.toNat * p ∧ (acc : Int) + sev c.toNat * p < _
        omega
      · rename_i hc
        have h7 : 7 * (i + 1) < bits := by
          by_cases h : bits < 7 * i + 7
          · exact absurd ⟨h, .inl (by omega)⟩ hno
          · omega
        refine ih (i + 1) _ h7 hb ?_
        rw [pow_succ7]
        have h2 : (c.toNat % 128 + 1) * 2 ^ (7 * i) ≤ 128 * 2 ^ (7 * i) := Nat.mul_le_mul_right _ (by omega)
        rw [Nat.add_mul] at h2
        omega
theorem sleb_short {n : Int} {k : Nat} (h1 : -((64 * 2 ^ (7 * (k - 1)) : Nat) : Int) ≤ n) (h2 : n < ((64 * 2 ^ (7 * (k - 1)) : Nat) : Int)) (hk : 0 < k) : (sleb n).length ≤ k := by
  obtain ⟨j, rfl⟩ : ∃ j, k = j + 1 := ⟨k - 1, by omega⟩
  rw [Nat.add_sub_cancel, Nat.pow_mul] at h1 h2
  exact sleb_len j n h1 h2
theorem rdS64 (m : Int) (more : List UInt8) (h : -9223372036854775808 ≤ m ∧ m ≤ 9223372036854775807) : rdS 64 (sleb m ++ more) 0 0 = (m, (sleb m).length, 0) := by
  have h1 := rdS_sleb 64 more m.natAbs m 0 0 (Nat.le_refl _) (by decide) (by simpa using h.1) (by have := h.2; simp; omega)
  rw [h1]; simp
theorem rdS32 (m : Int) (more : List UInt8) (h : -2147483648 ≤ m ∧ m ≤ 2147483647) : rdS 32 (sleb m ++ more) 0 0 = (m, (sleb m).length, 0) := by
  have h1 := rdS_sleb 32 more m.natAbs m 0 0 (Nat.le_refl _) (by decide) (by simpa using h.1) (by have := h.2; simp; omega)
  rw [h1]; simp
theorem rdU32 (m : Nat) (more : List UInt8) (h : m < 2 ^ 32) : rdU 32 (uleb m ++ more) 0 0 = (m, (uleb m).length, 0) := by
  have h1 := rdU_uleb 32 more m 0 0 (by decide) (by simpa using h)
  rw [h1]; simp
end Go.Proofs.YtbbdfhgcmkljeaaGreatDoor.Leb
/- Regions that draw their order: a walk along one plan stands for all orders. -/
namespace Go.Proofs.YtbbdfhgcmkljeaaGreatDoor.Eng
open Go Go.RowKit
set_option linter.unusedVariables false
/-- The world but for the count of drawn orders. -/
def Still (w w' : World) : Prop := ∃ d, w' = { w with drawn := d }
theorem Still.refl (w : World) : Still w w := ⟨w.drawn, rfl⟩
theorem Still.trans {a b c : World} (h : Still a b) (k : Still b c) : Still a c := by
  obtain ⟨d, rfl⟩ := h; obtain ⟨e, rfl⟩ := k; exact ⟨e, rfl⟩
theorem Still.drew (w : World) : Still w w.drew := ⟨w.drawn + 1, rfl⟩
theorem Still.heap {w w' : World} (h : Still w w') : w'.heap = w.heap := by obtain ⟨d, rfl⟩ := h; rfl
theorem Still.below {w w' : World} (h : Still w w') (B : Nat) : Below B w w' := by obtain ⟨d, rfl⟩ := h; exact ⟨rfl, rfl, rfl, Nat.le_refl _, fun _ _ => rfl⟩
/-- An operation that yields v in every world that meets S, and leaves the world. -/
inductive TkP (P : PP) (S : World → Prop) (m : Sem Value) (K : Value → Prop) : Prop
  | mk (v : Value) (h : ∀ w, S w → m.run P w = .ok v w) (k : K v)
theorem TkP.of {P : PP} {S : World → Prop} {m : Sem Value} {K : Value → Prop} (v : Value) (h : ∀ w, S w → RunP P m w (fun u w' => v = u ∧ w = w')) (k : K v) : TkP P S m K :=
  ⟨v, fun w hS => (by obtain ⟨u, w', hm, rfl, rfl⟩ := h w hS; exact hm), k⟩
theorem tk {P : PP} {S : World → Prop} {m : Sem Value} {K : Value → Prop} {v : Value} (h : ∀ w, S w → RunP P m w (fun u w' => v = u ∧ w = w')) (k : K v) : TkP P S m K := TkP.of v h k
def binT (P : PP) (S : World → Prop) (op : BinOp) (t : TypeId) (x y : Operand) (a b : Value) (K : Value → Prop) : Prop :=
  match a with
  | .int k a => match b with
    | .int k' b => match op with
      | .shl => ShiftP b (EqP (vShl k a b) fun n => K (.int k n))
      | .shr => ShiftP b (EqP (vShr k a b) fun n => K (.int k n))
      | op => match kEq k k' with
        | true => intBin op k a b K
        | false => False
    | b => TkP P S (do eqGuard op t x y (.int k a) b; binOp op t (.int k a) b) K
  | a => TkP P S (do eqGuard op t x y a b; binOp op t a b) K
def unT (P : PP) (S : World → Prop) (op : UnOp) (a : Value) (K : Value → Prop) : Prop :=
  match op with
  | .not => match a with
    | .bool b => K (.bool (!b))
    | _ => False
  | .neg => match a with
    | .int k n => EqP (vWrap k (0 - n)) fun m => K (.int k m)
    | _ => False
  | op => TkP P S (Op.unary op a) K
def nilT (v : Value) (K : Value → Prop) : Prop :=
  match v with
  | .pointer p => match p with
    | some a => K (.pointer (some a))
    | none => False
  | .func fn a b => match fn with
    | .func f => K (.func (.func f) a b)
    | _ => False
  | .iface t x => K (.iface t x)
  | _ => False
def tupT (v : Value) (i : Nat) (K : Value → Prop) : Prop :=
  match v with
  | .tuple vs => nthK vs.toList i K
  | _ => False
def opT (P : PP) (S : World → Prop) (o : Oper) (ρ : List Value) (K : Value → Prop) : Prop :=
  match o.op with
  | .move x => evK ρ x K
  | .assign x => evK ρ x K
  | .pick c a b => evK ρ c fun c => match c with
    | .bool c => boolK c fun c => match c with
      | true => evK ρ a K
      | false => evK ρ b K
    | _ => False
  | .build t parts => pairsK ρ parts.toList fun vs => TkP P S (Instr.build t vs.toArray) K
  | .load t x => evK ρ x fun a => TkP P S (Instr.loadAt t a) K
  | .nilCheck x => evK ρ x fun v => nilT v K
  | .binOp op t x y _ => evK ρ x fun a => evK ρ y fun b => binT P S op t x y a b K
  | .unOp op _ x => evK ρ x fun a => unT P S op a K
  | .convert s d x => evK ρ x fun a => TkP P S (convert s d a) K
  | .makeInterface t x => evK ρ x fun a => TkP P S (Instr.makeInterface t a) K
  | .makeFunc fn first captured => evsK ρ first.toList fun fs => evsK ρ captured.toList fun cs => K (.func fn fs.toArray cs.toArray)
  | .slice t x lo hi mx => evK ρ x fun a => optK ρ lo fun lo => optK ρ hi fun hi => optK ρ mx fun mx => TkP P S (Instr.sliceAt t a lo hi mx) K
  | .fieldAddr t x f => evK ρ x fun a => TkP P S (Instr.fieldAt t a f) K
  | .field t x f => evK ρ x fun a => TkP P S (Instr.field t a f) K
  | .indexAddr t x i => evK ρ x fun a => evK ρ i fun i => TkP P S (Instr.indexAt t a i) K
  | .index t x i => evK ρ x fun a => evK ρ i fun i => TkP P S (Instr.index t a i) K
  | .extract x i => evK ρ x fun v => tupT v i K
  | .typeAssert x t u ok => evK ρ x fun a => TkP P S (Instr.typeAssert a t u ok) K
  | .call c => match c.callee with
    | .builtin .len => evsK ρ c.args.toList fun vs => TkP P S (Builtin.len_ c.argTypes o.type vs.toArray) K
    | .builtin .max => evsK ρ c.args.toList fun vs => TkP P S (Builtin.max_ c.argTypes o.type vs.toArray) K
    | .builtin .min => evsK ρ c.args.toList fun vs => TkP P S (Builtin.min_ c.argTypes o.type vs.toArray) K
    | _ => False
  | .lookup t x i ok => evK ρ x fun a => evK ρ i fun i => TkP P S (Instr.lookup t a i ok) K
  | _ => False
section
variable {P : PP} {S : World → Prop}
theorem run_TkP {o : Oper} {ρ : List Value} {m : Sem Value} {K : Value → Prop} (he : execOp (ev ρ) o = (do pure (.value (← m)))) (h : TkP P S m K) :
    ∃ v, (∀ w, S w → (execOp (ev ρ) o).run P w = .ok (.value v) w) ∧ K v := by
  obtain ⟨v, hm, k⟩ := h
  exact ⟨v, fun w hS => by simp only [he, Sem.run_bind, hm w hS, Result.andThen_ok, Sem.run_pure], k⟩
theorem intBinT {op : BinOp} {k : IntKind} {t : TypeId} {x y : Operand} {a b : Int} {K : Value → Prop} (hop1 : op ≠ .shl) (hop2 : op ≠ .shr) (h : intBin op k a b K) :
    ∃ v, (∀ w, (do eqGuard op t x y (.int k a) (.int k b); binOp op t (.int k a) (.int k b) : Sem Value).run P w = .ok v w) ∧ K v := by
  have hg : ∀ w, (eqGuard op t x y (.int k a) (.int k b)).run P w = .ok () w := fun w => by
    unfold eqGuard; split <;> rfl
  cases op <;> simp only [intBin] at h <;> first
    | (obtain ⟨hb, _, rfl, h⟩ := h; refine ⟨_, fun w => ?_, h⟩; simp only [Sem.run_bind, hg, Result.andThen_ok]; simp [binOp, Op.intDiv, hb, vQuo, vRem]; done)
    | (obtain ⟨_, rfl, h⟩ := h; refine ⟨_, fun w => ?_, h⟩; simp only [Sem.run_bind, hg, Result.andThen_ok]; simp [binOp, Op.intArith, Op.intBits, Op.intCmp, vWrap, vAnd, vOr, vXor, vAndNot, vEq_def, vNe_def, vLt_def, vLe_def]; done)
    | (refine ⟨_, fun w => ?_, h⟩; simp only [Sem.run_bind, hg, Result.andThen_ok]; simp [binOp, Op.intArith, Op.intBits, Op.intCmp, vWrap, vAnd, vOr, vXor, vAndNot, vEq_def, vNe_def, vLt_def, vLe_def]; done)
    | contradiction
    | exact h.elim
theorem binT_sound {op : BinOp} {t : TypeId} {x y : Operand} {a b : Value} {K : Value → Prop} (h : binT P S op t x y a b K) : TkP P S (do eqGuard op t x y a b; binOp op t a b) K := by
  unfold binT at h
  split at h
  · split at h
    · split at h
      · obtain ⟨hb, _, rfl, h⟩ := h
        refine ⟨_, fun w _ => ?_, h⟩
        simp only [eqGuard, Sem.run_bind]; simp [binOp, Op.shift, vShl, Int.not_lt.2 hb]
      · obtain ⟨hb, _, rfl, h⟩ := h
        refine ⟨_, fun w _ => ?_, h⟩
        simp only [eqGuard, Sem.run_bind]; simp [binOp, Op.shift, vShr, Int.not_lt.2 hb]
      · rename_i hk1 hk2
        split at h
        · rename_i hk
          obtain rfl := kEq_eq hk
          obtain ⟨v, h1, h2⟩ := intBinT (P := P) (t := t) (x := x) (y := y) (fun e => hk1 e) (fun e => hk2 e) h
          exact ⟨v, fun w _ => h1 w, h2⟩
        · exact h.elim
    · exact h
  · exact h
theorem opT_sound {o : Oper} {ρ : List Value} {K : Value → Prop} (h : opT P S o ρ K) : ∃ v, (∀ w, S w → (execOp (ev ρ) o).run P w = .ok (.value v) w) ∧ K v := by
  unfold opT at h
  simp only [evK_eq, evsK_eq, pairsK_eq, optK_eq, boolK_eq] at h
  split at h
  case h_1 x ho => exact ⟨_, fun w _ => by unfold execOp; rw [ho]; rfl, h⟩
  case h_2 x ho => exact ⟨_, fun w _ => by unfold execOp; rw [ho]; rfl, h⟩
  case h_3 c a b ho =>
    split at h
    · rename_i cb hc
      split at h
      · exact ⟨_, fun w _ => by unfold execOp; rw [ho]; simp [hc, asBool], h⟩
      · exact ⟨_, fun w _ => by unfold execOp; rw [ho]; simp [hc, asBool], h⟩
    · exact h.elim
  case h_4 t ps ho =>
    exact run_TkP (m := Instr.build t ((ps.toList.map fun (i, x) => (i, ev ρ x)).toArray)) (by unfold execOp; rw [ho]; simp [← Array.toList_map]) h
  case h_5 t x ho => exact run_TkP (by unfold execOp; rw [ho]) h
  case h_6 x ho =>
    unfold nilT at h
    split at h
    · rename_i p hp
      split at h
      · exact ⟨_, fun w _ => by unfold execOp; rw [ho]; simp only [hp]; rfl, h⟩
      · exact h.elim
    · rename_i fn a b hp
      split at h
      · exact ⟨_, fun w _ => by unfold execOp; rw [ho]; simp only [hp]; rfl, h⟩
      · exact h.elim
    · rename_i t v hp
      exact ⟨_, fun w _ => by unfold execOp; rw [ho]; simp only [hp]; rfl, h⟩
    · exact h.elim
  case h_7 op t x y yt ho => exact run_TkP (by unfold execOp; rw [ho]) (binT_sound h)
  case h_8 op t x ho =>
    unfold unT at h
    split at h
    · split at h
      · rename_i b hb
        exact ⟨_, fun w _ => by unfold execOp; rw [ho]; simp [hb, Op.unary], h⟩
      · exact h.elim
    · split at h
      · rename_i k n hb
        obtain ⟨_, rfl, h⟩ := h
        exact ⟨_, fun w _ => by unfold execOp; rw [ho]; simp [hb, Op.unary, Op.intArith, vWrap], h⟩
      · exact h.elim
    · exact run_TkP (by unfold execOp; rw [ho]) h
  case h_9 s d x ho => exact run_TkP (by unfold execOp; rw [ho]) h
  case h_10 t x ho => exact run_TkP (by unfold execOp; rw [ho]) h
  case h_11 fn fs cs ho =>
    exact ⟨_, fun w _ => by unfold execOp; rw [ho]; simp [Instr.makeFunc, ← Array.toList_map], h⟩
  case h_12 t x lo hi mx ho => exact run_TkP (by unfold execOp; rw [ho]) h
  case h_13 t x f ho => exact run_TkP (by unfold execOp; rw [ho]) h
  case h_14 t x f ho => exact run_TkP (by unfold execOp; rw [ho]) h
  case h_15 t x i ho => exact run_TkP (by unfold execOp; rw [ho]) h
  case h_16 t x i ho => exact run_TkP (by unfold execOp; rw [ho]) h
  case h_17 x i ho =>
    unfold tupT at h
    split at h
    · rename_i vs hv
      obtain ⟨u, hu, h⟩ := nthK_eq h
      refine ⟨u, fun w _ => ?_, h⟩
      unfold execOp; rw [ho]
      simp only [Array.getElem?_toList] at hu
      simp [hv, Instr.extract, hu]
    · exact h.elim
  case h_18 x t u ok ho => exact run_TkP (by unfold execOp; rw [ho]) h
  case h_19 c ho =>
    have hargs : ∀ (xs : Array Operand), (xs.toList.map (ev ρ)).toArray = xs.map (ev ρ) := fun xs => by simp [← Array.toList_map]
    split at h
    · rename_i hc
      exact run_TkP (m := Builtin.len_ c.argTypes o.type (c.args.map (ev ρ))) (by unfold execOp; rw [ho]; simp only [resolve, hc, pure_bind, invoke, builtin]) (by rw [← hargs]; exact h)
    · rename_i hc
      exact run_TkP (m := Builtin.max_ c.argTypes o.type (c.args.map (ev ρ))) (by unfold execOp; rw [ho]; simp only [resolve, hc, pure_bind, invoke, builtin]) (by rw [← hargs]; exact h)
    · rename_i hc
      exact run_TkP (m := Builtin.min_ c.argTypes o.type (c.args.map (ev ρ))) (by unfold execOp; rw [ho]; simp only [resolve, hc, pure_bind, invoke, builtin]) (by rw [← hargs]; exact h)
    · exact h.elim
  case h_20 t x i ok ho => exact run_TkP (by unfold execOp; rw [ho]) h
  case h_21 => exact h.elim
end
/-- After an operation that may turn the world, S is to be shown anew. -/
inductive KeepP (S : Prop) (K : Prop) : Prop
  | mk (h : S) (k : K)
/-- The walk along the plan. -/
def planK (P : PP) (ops : List Oper) (S : World → Prop) (K : List Value → World → Prop) (plan : List (Nat × Bool)) : List Value → World → Prop :=
  List.rec (motive := fun _ => List Value → World → Prop) K (fun i _ ih ρ w => match ops[i.1]? with
    | none => False
    | some o => match i.2 with
      | true => guardK ops o.guard ρ fun b ρ => match b with
        | true => opT P S o ρ fun v => putK ρ o.dst v fun ρ => ih ρ w
        | false => putK ρ o.dst undef fun ρ => ih ρ w
      | false => guardK ops o.guard ρ fun b ρ => match b with
        | true => opK P o ρ w fun v w' => KeepP (S w') (putK ρ o.dst v fun ρ => ih ρ w')
        | false => putK ρ o.dst undef fun ρ => ih ρ w) plan
theorem planK_cons (P : PP) (ops : List Oper) (S : World → Prop) (K : List Value → World → Prop) (i : Nat × Bool) (r : List (Nat × Bool)) (ρ : List Value) (w : World) :
    planK P ops S K (i :: r) ρ w = match ops[i.1]? with
    | none => False
    | some o => match i.2 with
      | true => guardK ops o.guard ρ fun b ρ => match b with
        | true => opT P S o ρ fun v => putK ρ o.dst v fun ρ => planK P ops S K r ρ w
        | false => putK ρ o.dst undef fun ρ => planK P ops S K r ρ w
      | false => guardK ops o.guard ρ fun b ρ => match b with
        | true => opK P o ρ w fun v w' => KeepP (S w') (putK ρ o.dst v fun ρ => planK P ops S K r ρ w')
        | false => putK ρ o.dst undef fun ρ => planK P ops S K r ρ w := rfl
noncomputable def planOk (ops : Array Oper) (plan : List (Nat × Bool)) : Array Bool → Bool :=
  List.rec (motive := fun _ => Array Bool → Bool) (fun listed => (Region.ready .any ops listed).isEmpty) (fun i _ ih listed => match ops[i.1]? with
    | none => false
    | some o => (match i.2 with
      | true => Region.free .any ops listed i.1 && (Region.ready .any ops listed).contains i.1
      | false => Region.ready .any ops listed == [i.1]) && ih (listed.setIfInBounds i.1 true)) plan
theorem planOk_cons (ops : Array Oper) (i : Nat × Bool) (r : List (Nat × Bool)) (listed : Array Bool) : planOk ops (i :: r) listed = match ops[i.1]? with
    | none => false
    | some o => (match i.2 with
      | true => Region.free .any ops listed i.1 && (Region.ready .any ops listed).contains i.1
      | false => Region.ready .any ops listed == [i.1]) && planOk ops r (listed.setIfInBounds i.1 true) := rfl
noncomputable def regionOk (ops : Array Oper) (plan : List (Nat × Bool)) : Bool := Region.noSelect ops && plan.length == ops.size && planOk ops plan (Array.replicate ops.size false)
theorem agree_refl (ds : List Nat) (ρ : List Value) : agree ds ρ ρ := ⟨rfl, fun _ _ => rfl⟩
theorem agree_put {ds : List Nat} {ρ0 ρ : List Value} (h : agree ds ρ0 ρ) {d : Option Nat} (hd : ∀ n, d = some n → n ∈ ds) (v : Value) : agree ds ρ0 (put ρ d v) := by
  obtain ⟨h1, h2⟩ := h
  cases d with
  | none => exact ⟨h1, h2⟩
  | some n =>
    refine ⟨by simp [put, h1], fun i hi => ?_⟩
    have : n ≠ i := fun e => hi (e ▸ hd n rfl)
    simp only [put]
    rw [List.getElem?_set_ne this]
    exact h2 i hi
section
variable {P : PP} {ops : Array Oper} {S : World → Prop} {K : List Value → World → Prop} {ρ0 : List Value} {ds : List Deferred}
theorem planK_sound (hs : Region.noSelect ops = true) (plan : List (Nat × Bool)) : ∀ (fuel : Nat) (listed : Array Bool) (ρ : List Value) (w : World), plan.length ≤ fuel → planOk ops plan listed = true → S w → agree (opsDsts ops.toList) ρ0 ρ →
    planK P ops.toList S K plan ρ w → wpAnyH P .any ops (nrm P ds (opsDsts ops.toList) ρ0 K) S fuel listed ⟨ρ.toArray, ds⟩ w := by
  induction plan with
  | nil =>
    intro fuel listed ρ w _ hok hS hag h
    exact wpAnyH_done (List.isEmpty_iff.1 hok) ⟨rfl, rfl, hag, h⟩ fuel
  | cons ib r ih =>
    obtain ⟨i, isTake⟩ := ib
    intro fuel listed ρ w hfl hok hS hag h
    obtain ⟨f, rfl⟩ : ∃ f, fuel = f + 1 := ⟨fuel - 1, by simp at hfl; omega⟩
    have hfl2 : r.length ≤ f := by simpa using hfl
    rw [planOk_cons] at hok
    rw [planK_cons] at h
    simp only [Array.getElem?_toList] at h
    cases ho : ops[i]? with
    | none => rw [ho] at hok; cases hok
    | some o =>
      rw [ho] at hok h
      simp only [Bool.and_eq_true] at hok h
      have hmem : ∀ n, o.dst = some n → n ∈ opsDsts ops.toList := fun n hn => by
        unfold opsDsts
        rw [List.mem_filterMap]
        exact ⟨o, by simpa using Array.mem_of_getElem? ho, hn⟩
      cases hT : isTake with
      | true =>
        rw [hT] at hok h
        simp only [Bool.and_eq_true] at hok
        obtain ⟨⟨hfree, hready⟩, hrest⟩ := hok
        obtain ⟨b, hb, h⟩ := guardK_sound h
        have key : ∀ v, YieldsIf P ops S o v ⟨ρ.toArray, ds⟩ → planK P ops.toList S K r (put ρ o.dst v) w → wpAnyH P .any ops (nrm P ds (opsDsts ops.toList) ρ0 K) S (f + 1) listed ⟨ρ.toArray, ds⟩ w := fun v hy hk =>
          wpAnyH_take ho hs hfree hready (nrm_put hmem) hy hS (by
            rw [put_eq]
            exact ih f _ _ w hfl2 hrest hS (agree_put hag hmem v) hk)
        cases b
        · simp only [putK_eq] at h
          exact key undef (.inr ⟨hb, rfl⟩) h
        · obtain ⟨v, hv, hk⟩ := opT_sound h
          rw [putK_eq] at hk
          exact key v (.inl ⟨hb, fun w hS => by rw [ev_eq]; exact hv w hS⟩) hk
      | false =>
        rw [hT] at hok h
        simp only [beq_iff_eq] at hok
        obtain ⟨hready, hrest⟩ := hok
        obtain ⟨b, hb, h⟩ := guardK_sound h
        refine wpAnyH_all hready (by simp) fun j hj => ?_
        obtain rfl : j = i := by simpa using hj
        unfold wpOp
        rw [ho]
        simp only [hb]
        cases b
        · simp only [Bool.false_eq_true, if_false, putK_eq] at h ⊢
          rw [put_eq]
          exact ⟨hS, ih f _ _ w hfl2 hrest hS (agree_put hag hmem _) h⟩
        · simp only [if_true] at h ⊢
          refine .inl (opK_sound h (fun c w h => ⟨rfl, hag, h⟩) fun v w' ⟨hS', hk⟩ => ?_)
          rw [putK_eq] at hk
          rw [put_eq]
          exact ⟨hS', ih f _ _ w' hfl2 hrest hS' (agree_put hag hmem v) hk⟩
/-- A region that draws, walked along a plan. -/
theorem draw {id : Nat} {w : World} (S : World → Prop) (plan : List (Nat × Bool)) (hm : P.follows .mixedOrders = true) (hc : regionOk ops plan = true)
    (h : ∀ w1, w1 = w.drew → S w1 ∧ planK P ops.toList S K plan ρ0 w1) : DrawP P id ops K ρ0 w := by
  simp only [regionOk, Bool.and_eq_true, beq_iff_eq] at hc
  obtain ⟨⟨h1, h2⟩, h3⟩ := hc
  obtain ⟨hS, hk⟩ := h _ rfl
  exact ⟨fun ds => wp_region_held hm (planK_sound h1 plan _ _ _ _ (Nat.le_of_eq h2) h3 hS (agree_refl _ _) hk)⟩
end
end Go.Proofs.YtbbdfhgcmkljeaaGreatDoor.Eng
/- Structs: stored whole, compared. -/
set_option linter.unusedVariables false
namespace Go.Proofs.YtbbdfhgcmkljeaaGreatDoor.Eng
open Go Go.RowKit
variable {P : PP} {w : World}
theorem partK_sound' {ty : TypeId} {cs : List Value} {off : Nat} {k : Value → Prop} (h : partK P ty cs off k) : ∃ v, (∀ w, (part ty cs.toArray off).run P w = .ok v w) ∧ k v := by
  unfold partK at h
  split at h
  · rename_i d hu
    split at h
    · rename_i hd
      rw [dropK_eq] at h
      obtain ⟨h1, h2⟩ := takeK_eq h
      refine ⟨_, fun w => ?_, h2⟩
      cases hi : P.info? ty with
      | none => simp [Program.underlying, hi] at hu
      | some i => simp [part, isAgg_run hu, hd, sizeOf, typeInfo, hi, Program.cellsOf]
    · rename_i hd
      obtain ⟨v, hv, h⟩ := nthK_eq h
      exact ⟨v, fun w => by simp [part, isAgg_run hu, hd, hv], h⟩
  · exact h.elim
theorem setsL_get (vs : List Value) : ∀ (cs : List Value) (o i : Nat), o + vs.length ≤ cs.length → (setsL cs o vs)[i]? = if o ≤ i ∧ i < o + vs.length then vs[i - o]? else cs[i]? := by
  induction vs with
  | nil => intro cs o i h; rw [if_neg (by simp only [List.length_nil]; omega)]; rfl
  | cons v vs ih =>
    intro cs o i h
    simp only [List.length_cons] at h ⊢
    rw [setsL, ih _ _ _ (by rw [List.length_set]; omega)]
    by_cases h2 : o = i
    · subst h2; rw [if_neg (by omega), if_pos (by omega), Nat.sub_self, List.getElem?_set_self (by omega)]; rfl
    · rw [List.getElem?_set_ne h2]
      by_cases h3 : o ≤ i ∧ i < o + (vs.length + 1)
      · rw [if_pos (by omega), if_pos h3, show i - o = (i - (o + 1)) + 1 by omega]; rfl
      · rw [if_neg (by omega), if_neg h3]
theorem setsL_eq (vs cs : List Value) (o : Nat) (h : o + vs.length ≤ cs.length) : setsL cs o vs = cs.take o ++ vs ++ cs.drop (o + vs.length) := by
  apply List.ext_getElem?
  intro i
  rw [setsL_get vs cs o i h, List.append_assoc]
  have hl : (cs.take o).length = o := by rw [List.length_take]; omega
  by_cases h1 : i < o
  · rw [if_neg (by omega), List.getElem?_append_left (by omega), List.getElem?_take, if_pos h1]
  · rw [List.getElem?_append_right (by omega), hl]
    by_cases h2 : i < o + vs.length
    · rw [if_pos (by omega), List.getElem?_append_left (by omega)]
    · rw [if_neg (by omega), List.getElem?_append_right (by omega), List.getElem?_drop]; congr 1; omega
/-- A struct or an array is stored whole. -/
theorem rStoreA {t : TypeId} {e : TypeId} {b o : Nat} {cs vs : List Value} {K : World → Prop} (hb : Blk w b cs e) (hs : (P.info? t).map (·.size) = some vs.length) (ho' : Nat.ble (o + vs.length) cs.length = true) (hv : vs.all (·.oneCell') = true)
    (k : setsK cs o vs fun cs' => ∀ w', Upd w w' b → Blk w' b cs' e → K w') : DoP P (Instr.storeAt t (.pointer (some ⟨b, o, none⟩)) (.agg vs.toArray)) w K := by
  have ho : o + vs.length ≤ cs.length := Nat.le_of_ble_eq_true ho'
  rw [setsK_eq, setsL_eq _ _ _ ho] at k
  cases hi : P.info? t with
  | none => simp [hi] at hs
  | some i =>
    have hl : i.size = vs.length := by simpa [hi] using hs
    have hst := run_storeCells_at (P := P) b o e vs 0 cs.toArray w hb (by simpa using ho) (fun v hm => List.all_eq_true.1 hv v hm)
    simp only [Nat.add_zero] at hst
    have hw2 : Blk (w.setRow b (cs.take o ++ vs ++ cs.drop (o + vs.length)).toArray) b (cs.take o ++ vs ++ cs.drop (o + vs.length)) e := setRow_heap w b _ _ e (0, 0) hb
    have hw : Upd w (w.setRow b (cs.take o ++ vs ++ cs.drop (o + vs.length)).toArray) b := by
      refine ⟨rfl, rfl, rfl, by simp [World.setRow], fun j hj => ?_⟩
      unfold World.setRow
      simp only [Array.getElem?_modify]
      rw [if_neg (fun h => hj h.symm)]
    refine ⟨_, ?_, k _ hw hw2⟩
    simp [Instr.storeAt, Instr.sureAddr, storeVar, sizeOf, typeInfo, hi, hl, Value.cells, hst]

/-! ## Structs compared -/
noncomputable def eqvK (P : PP) (n : Nat) : TypeId → Value → Value → (Bool → Prop) → Prop :=
  Nat.rec (motive := fun _ => TypeId → Value → Value → (Bool → Prop) → Prop) (fun _ _ _ _ => False)
    (fun _ ih ty a b k => match P.underlying ty with
      | some d => match d with
        | .int _ => match a with
          | .int k1 x => match b with
            | .int k2 y => trueK (kEq k1 k2) (k (vEq x y))
            | _ => False
          | _ => False
        | .bool => match a with
          | .bool x => match b with
            | .bool y => k (x == y)
            | _ => False
          | _ => False
        | .string => match a with
          | .string x => match b with
            | .string y => k (x.toList == y.toList)
            | _ => False
          | _ => False
        | .struct fs => match a with
          | .agg xs => match b with
            | .agg ys => List.rec (motive := fun _ => (Bool → Prop) → Prop) (fun k => k true) (fun f _ ihf k => match f with
              | ⟨_, fty, off, _, _, _, _⟩ => partK P fty xs.toList off fun a => partK P fty ys.toList off fun b => ih fty a b fun r => ihf fun r' => k (r && r')) fs.toList k
            | _ => False
          | _ => False
        | _ => False
      | none => False) n
/-- No field without a name, nothing stood in. -/
def eqOkB (P : PP) : Nat → TypeId → Bool
  | 0, _ => false
  | n + 1, ty => match P.underlying ty with
    | some (.struct fs) => !P.stoodInHeld ty && fs.toList.all fun f => f.name != "_" && eqOkB P n f.type
    | _ => true
theorem eqvK_sound (n : Nat) : ∀ {ty : TypeId} {a b : Value} {k : Bool → Prop}, eqOkB P n ty = true → eqvK P n ty a b k → ∃ r, k r ∧ ∀ d w, n ≤ d → (Op.equalIn d ty a b).run P w = .ok r w := by
  induction n with
  | zero => exact fun _ h => h.elim
  | succ n ih =>
    intro ty a b k hok h
    have hd : ∀ d, n + 1 ≤ d → ∃ d', d = d' + 1 ∧ n ≤ d' := fun d hd => ⟨d - 1, by omega, by omega⟩
    change (match P.underlying ty with
      | some d => _
      | none => False) at h
    cases hu : P.underlying ty with
    | none => rw [hu] at h; exact h.elim
    | some dsc =>
      rw [hu] at h
      cases dsc <;> dsimp only at h <;> first | exact h.elim | skip
      case int kk =>
        cases a <;> dsimp only at h <;> first | exact h.elim | skip
        cases b <;> dsimp only at h <;> first | exact h.elim | skip
        obtain ⟨hk, h'⟩ := trueK_eq h
        obtain rfl := kEq_eq hk
        refine ⟨_, h', fun d w hdl => ?_⟩
        obtain ⟨d', rfl, _⟩ := hd d hdl
        rw [run_equalIn_int w d' ty _ kk _ _ hu]; rw [vEq_def]
      case bool =>
        cases a <;> dsimp only at h <;> first | exact h.elim | skip
        cases b <;> dsimp only at h <;> first | exact h.elim | skip
        refine ⟨_, h, fun d w hdl => ?_⟩
        obtain ⟨d', rfl, _⟩ := hd d hdl
        exact run_equalIn_bool' w d' ty _ _ hu
      case string =>
        cases a <;> dsimp only at h <;> first | exact h.elim | skip
        cases b <;> dsimp only at h <;> first | exact h.elim | skip
        refine ⟨_, h, fun d w hdl => ?_⟩
        obtain ⟨d', rfl, _⟩ := hd d hdl
        exact run_equalIn_string w d' ty _ _ hu
      case struct fs =>
        cases a <;> dsimp only at h <;> first | exact h.elim | skip
        cases b <;> dsimp only at h <;> first | exact h.elim | skip
        rename_i xs ys
        unfold eqOkB at hok
        rw [hu] at hok
        simp only [Bool.and_eq_true, List.all_eq_true] at hok
        have hp : P.stoodInHeld ty = false := by simpa using hok.1
        have hall := hok.2
        have hf : P.fieldsOf ty = fs := by simp [Program.fieldsOf, hu]
        have key : ∀ (l : List Field) {k : Bool → Prop}, (∀ f, f ∈ l → (f.name != "_") = true ∧ eqOkB P n f.type = true) → (List.rec (motive := fun _ => (Bool → Prop) → Prop) (fun k => k true) (fun f _ ihf k => match f with
              | ⟨_, fty, off, _, _, _, _⟩ => partK P fty xs.toList off fun a => partK P fty ys.toList off fun b => eqvK P n fty a b fun r => ihf fun r' => k (r && r')) l k : Prop) →
            ∃ r, k r ∧ ∀ d w, n ≤ d → (Op.eqFields d xs ys l).run P w = .ok r w := by
          intro l
          induction l with
          | nil => exact fun _ h => ⟨true, h, fun d w _ => rfl⟩
          | cons f l ihl =>
            intro k hal h4
            have h3 := hal f (List.mem_cons_self ..)
            have hname : f.name ≠ "_" := by simpa using h3.1
            obtain ⟨va, hva, h5⟩ := partK_sound' h4
            obtain ⟨vb, hvb, h6⟩ := partK_sound' h5
            obtain ⟨r, h7, hr⟩ := ih h3.2 h6
            obtain ⟨r', h8, hr'⟩ := ihl (fun g hg => hal g (List.mem_cons_of_mem _ hg)) h7
            refine ⟨r && r', h8, fun d w hdl => ?_⟩
            simp only [Array.toArray_toList] at hva hvb
            simp only [Op.eqFields]
            rw [if_pos hname]
            simp only [Sem.run_bind, hva, Result.andThen_ok, hvb, hr d w hdl]
            cases r
            · simp
            · simp [hr' d w hdl]
        obtain ⟨r, hk, hr⟩ := key fs.toList hall h
        refine ⟨r, hk, fun d w hdl => ?_⟩
        obtain ⟨d', rfl, hd'⟩ := hd d hdl
        rw [run_equalIn_struct w d' ty xs ys (by rw [hf]; exact hu) hp, hf]
        exact hr d' w hd'
theorem rStructNe {K : Value → World → Prop} {t : TypeId} {x y : Operand} {xs ys : Array Value} (hm : P.eqGuardType P.depth t = false) (hok : eqOkB P 4 t = true) (h : eqvK P 4 t (.agg xs) (.agg ys) fun r => K (.bool (!r)) w) :
    RunP P (do eqGuard .neq t x y (.agg xs) (.agg ys); binOp .neq t (.agg xs) (.agg ys)) w K := by
  obtain ⟨r, hk, hr⟩ := eqvK_sound 4 hok h
  refine ⟨_, w, ?_, hk⟩
  simp only [Sem.run_bind, run_eqGuard_agg w .neq t x y xs ys hm, Result.andThen_ok, run_neq_struct, hr 10000 w (by decide)]
/-! ## Facts carried on -/
section
variable {w0 w' : World} {b b' o : Nat} {cs vs cs' : List Value} {e e' : TypeId}
end
/-- What a result variable that lies in memory reads as. -/
theorem rdA {t : TypeId} {d : TypeDesc} {b o : Nat} {vs : List Value} {K : Value → Prop} (h : At w b o vs) (hu : P.underlying t = some d) (hd : aggB d = true) (hs : (P.info? t).map (·.size) = some vs.length) (k : K (.agg vs.toArray)) :
    ReadP P (loadVar t ⟨b, o, none⟩) w K := by
  refine ⟨_, ?_, k⟩
  cases hi : P.info? t with
  | none => simp [hi] at hs
  | some i =>
    have hl : i.size = vs.length := by simpa [hi] using hs
    have := run_loadCells_list (P := P) w ⟨b, o, none⟩ vs (fun j v hv => by rw [Addr.add_lit]; exact h.cell hv)
    simp [loadVar, isAgg_run hu, hd, sizeOf, typeInfo, hi, hl, this]
theorem rdC {t : TypeId} {d : TypeDesc} {b o : Nat} {v : Value} {K : Value → Prop} (hc : w.cell? ⟨b, o, none⟩ = some v) (hu : P.underlying t = some d) (hd : aggB d = false) (k : K v) :
    ReadP P (loadVar t ⟨b, o, none⟩) w K := by
  refine ⟨v, ?_, k⟩
  simp [loadVar, isAgg_run hu, hd, hc]
/-- Cells that are written out flat. -/
def RE {α : Type} (en : α → List Value) (ok : α → Prop) : Hv → List Value → α → Prop := fun _ cs x => cs = en x ∧ ok x
theorem RE.mono' {α : Type} (en : α → List Value) (ok : α → Prop) : Mono (RE en ok) := fun _ _ _ _ _ h => h
end Go.Proofs.YtbbdfhgcmkljeaaGreatDoor.Eng
/- Rows of the call's own that read as lists: grown, read, written. -/
set_option linter.unusedVariables false
namespace Go.Proofs.YtbbdfhgcmkljeaaGreatDoor.Eng
open Go Go.RowKit
variable {P : PP} {α : Type}
/-- A row of the call's own (from block lo on) that reads as xs, s cells an element. -/
def Own (lo : Nat) (w : World) (e : TypeId) (s : Nat) (en : α → List Value) (v : Value) (xs : List α) : Prop := w.ownsRow lo e s v xs.length (xs.flatMap en) ∧ ∀ x, (en x).length = s
theorem flat_len {en : α → List Value} {s : Nat} (h : ∀ x, (en x).length = s) (xs : List α) : (xs.flatMap en).length = xs.length * s := by
  induction xs with
  | nil => simp
  | cons x xs ih => rw [List.flatMap_cons, List.length_append, h, ih, List.length_cons, Nat.succ_mul]; omega
theorem flat_part {en : α → List Value} {s : Nat} (h : ∀ x, (en x).length = s) : ∀ (xs : List α) (i : Nat) (x : α), xs[i]? = some x → ((xs.flatMap en).drop (i * s)).take s = en x := by
  intro xs
  induction xs with
  | nil => intro i x hx; simp at hx
  | cons y ys ih =>
    intro i x hx
    cases i with
    | zero =>
      obtain rfl := Option.some.inj hx
      rw [List.flatMap_cons, Nat.zero_mul, List.drop_zero, List.take_append_of_le_length (by rw [h]; exact Nat.le_refl _), List.take_of_length_le (by rw [h]; exact Nat.le_refl _)]
    | succ i =>
      rw [List.flatMap_cons, Nat.succ_mul, Nat.add_comm, ← List.drop_drop, List.drop_append_of_le_length (by rw [h]; exact Nat.le_refl _), List.drop_of_length_le (l := en y) (by rw [h]; exact Nat.le_refl _), List.nil_append]
      exact ih i x (by simpa using hx)
theorem Own.nil (lo : Nat) (w : World) (e : TypeId) {s : Nat} {en : α → List Value} (h : ∀ x, (en x).length = s) : Own lo w e s en (.slice none 0 0) [] := ⟨World.ownsRow_nil w lo e s, h⟩
/-- What an own row's growth leaves alone. -/
structure Gr (w w' : World) (v v' : Value) : Prop where
  g : w.grownBy w' v.ownBlock
  at_ : v'.ownBlock = v.ownBlock ∨ v'.ownBlock = none ∨ ∃ k, v'.ownBlock = some k ∧ w.heap.size ≤ k
theorem append_block {w : World} {lo : Nat} {t ty e : TypeId} {i : TypeInfo} {z : Value} {s : Nat} (ht : P.underlying t = some (.slice e)) (hi : P.info? e = some i) (hz : i.zero = some z) (hs : i.size = s) (hzs : z.cells.size = s)
    {v : Value} {n : Nat} {xs : List Value} (hown : w.ownsRow lo e s v n xs) {a : Addr} {m c : Nat} {news : List Value} (hl : news.length = m * s) (hnews : ∀ j u, news[j]? = some u → w.cell? (a.add j) = some u) (h1 : ∀ u ∈ news, u.oneCell' = true)
    (h63 : n + m ≤ maxLen) (hbytes : (n + m) * i.bytes ≤ 140737488355328) {v' : Value} {w' : World} (hr : (Builtin.append_ #[t, t] ty #[v, .slice (some a) m c]).run P w = .ok v' w') :
    v'.ownBlock = v.ownBlock ∨ v'.ownBlock = none ∨ v'.ownBlock = some w.heap.size := by
  subst hs
  have hsmall : n + m ≤ 9223372036854775807 := by simp only [maxLen] at h63; omega
  have done : ∀ {u : Value} {w2 : World}, (Builtin.append_ #[t, t] ty #[v, .slice (some a) m c]).run P w = .ok u w2 → v' = u := fun h => by
    rw [hr] at h; injection h
  rcases hown.2 with ⟨rfl, rfl⟩ | ⟨g, cap, cur, rfl, hbg, hg, hnc, hcm, hcs, htake⟩
  · by_cases hm : m = 0
    · subst hm
      have hn : news = [] := List.eq_nil_of_length_eq_zero (by simpa using hl)
      subst hn
      have : (Builtin.append_ #[t, t] ty #[.slice none 0 0, .slice (some a) 0 c]).run P w = .ok (.slice none 0 0) w := by
        simp [Builtin.append_, run_underlying ht, sizeOf, typeInfo, hi, Builtin.lenOf, Builtin.firstCells, loadCells, loadCellsFrom]
      rw [done this]; exact .inl rfl
    · have hr2 := run_append_nil (P := P) w t ty e i z ht hi hz a m c news hl hnews (by omega) (by omega) (by have hb := hbytes; simp only [Nat.zero_add] at hb; omega)
      rw [done hr2]; exact .inr (.inr rfl)
  · by_cases hroom : n + m ≤ cap
    · have hfit : n * i.size + news.length ≤ cur.size := by rw [hl, hcs, ← Nat.add_mul]; exact Nat.mul_le_mul_right _ hroom
      have hr2 := run_append_room (P := P) w t ty e i ht hi g n cap cur hg a m c news hl hnews h1 hroom hfit
      rw [done hr2]; exact .inl rfl
    · have holds : ∀ j u, xs[j]? = some u → w.cell? ((⟨g, 0, none⟩ : Addr).add j) = some u := hown.cells (g := g) rfl
      have hr2 := run_append_grow (P := P) w t ty e i z ht hi hz ⟨g, 0, none⟩ n cap xs hown.1 holds a m c news hl hnews (by omega) (by omega) (growslice_fits (by omega) hbytes)
      rw [done hr2]; exact .inr (.inr rfl)
/-- append of things that lie somewhere -/
theorem rAppO {w : World} {K : Value → World → Prop} {lo : Nat} {t ty e : TypeId} {en : α → List Value} {s : Nat} {v : Value} {xs ys : List α} {m c b o : Nat} (z : Value) (by_ : Nat) (hown : Own lo w e s en v xs) (hat : At w b o (ys.flatMap en)) (hm : ys.length = m)
    (h1 : ∀ y ∈ ys, ((en y).all (·.oneCell')) = true) (hu : P.underlying t = some (.slice e)) (hz : (P.info? e).map (fun i => (i.zero, i.size, i.bytes)) = some (some z, s, by_)) (hzs : z.cells.size = s) (hsz : 0 < s)
    (hb : (xs.length + m) * by_ ≤ 140737488355328) (hml : xs.length + m ≤ 140737488355328) (hlo : lo ≤ w.heap.size)
    (k : ∀ v' w', Own lo w' e s en v' (xs ++ ys) → Gr w w' v v' → K v' w') : RunP P (Builtin.append_ #[t, t] ty #[v, .slice (some ⟨b, o, none⟩) m c]) w K := by
  cases hi : P.info? e with
  | none => simp [hi] at hz
  | some i =>
    simp only [hi, Option.map_some, Option.some.injEq, Prod.mk.injEq] at hz
    obtain ⟨h2, h3, h4⟩ := hz
    subst hm
    have hc : ∀ j u, (ys.flatMap en)[j]? = some u → w.cell? ((⟨b, o, none⟩ : Addr).add j) = some u := fun j u hj => by rw [Addr.add_lit]; exact hat.cell hj
    have ho : ∀ u ∈ ys.flatMap en, u.oneCell' = true := fun u hu => by
      obtain ⟨y, hy, hu⟩ := List.mem_flatMap.1 hu
      exact List.all_eq_true.1 (h1 y hy) u hu
    obtain ⟨v', w', hr, a1, a2, a3⟩ := run_append_own (P := P) w lo t ty e i z s by_ hu hi h2 h3 h4 hzs hsz v xs.length (xs.flatMap en) hown.1 ⟨b, o, none⟩ ys.length c (ys.flatMap en) (flat_len hown.2 ys) hc ho (by simp [maxLen]; omega) hb hlo
    have hbl := append_block hu hi h2 h3 hzs hown.1 (flat_len hown.2 ys) hc ho (by simp [maxLen]; omega) (by rw [h4]; exact hb) hr
    refine ⟨v', w', hr, k v' w' ⟨by rw [List.length_append, List.flatMap_append]; exact a1, hown.2⟩ ⟨a2, ?_⟩⟩
    rcases hbl with h | h | h
    · exact .inl h
    · exact .inr (.inl h)
    · exact .inr (.inr ⟨_, h, Nat.le_refl _⟩)
theorem Own.keep {lo : Nat} {w w' : World} {e : TypeId} {s : Nat} {en : α → List Value} {v : Value} {xs : List α} (h : Own lo w e s en v xs) (hb : ∀ k, v.ownBlock = some k → w'.heap[k]? = w.heap[k]?) : Own lo w' e s en v xs := ⟨own_keep h.1 hb, h.2⟩
theorem Own.lt {lo : Nat} {w : World} {e : TypeId} {s : Nat} {en : α → List Value} {v : Value} {xs : List α} (h : Own lo w e s en v xs) {k : Nat} (hk : v.ownBlock = some k) : lo ≤ k ∧ k < w.heap.size := h.1.lt k hk
theorem Own.mono {lo lo' : Nat} {w : World} {e : TypeId} {s : Nat} {en : α → List Value} {v : Value} {xs : List α} (h : Own lo w e s en v xs) (hl : lo' ≤ lo) : Own lo' w e s en v xs := ⟨own_mono h.1 hl, h.2⟩
section
variable {lo s : Nat} {w0 w w' : World} {e e' : TypeId} {en : α → List Value} {v v' u : Value} {xs : List α} {cs : List Value} {b : Nat}
/-- Two rows lie apart. -/
def Dj (u v : Value) : Prop := ∀ k, u.ownBlock = some k → v.ownBlock ≠ some k
theorem Dj.symm (h : Dj u v) : Dj v u := fun k hk hu => h k hu hk
theorem Dj.nil (v : Value) : Dj (.slice none 0 0) v := fun k hk => by cases hk
theorem Own.rd {ok : α → Prop} (h : Own lo w e s en v xs) (hok : ∀ x ∈ xs, ok x) (hs0 : 0 < s) : SlR (RE en ok) s (Rg w lo w.heap.size) v xs := by
  rcases h.1.2 with ⟨rfl, h0⟩ | ⟨g, cap, cur, rfl, hlo, hg, hnc, hcm, hcs, ht⟩
  · have : xs = [] := List.eq_nil_of_length_eq_zero h0
    subst this; exact SlR.nil _ _ _
  · refine ⟨_, cap, rfl, ⟨hnc, by unfold maxLen at hcm; omega⟩, nofun, fun _ => ⟨g, 0, xs.flatMap en, rfl, ⟨cur, e, (0, 0), ⟨hlo, (Array.getElem?_eq_some_iff.1 hg).1, hg⟩, fun i x hx => ?_⟩, flat_len h.2 xs, fun i x hx => ⟨flat_part h.2 xs i x hx, hok x (List.mem_of_getElem? hx)⟩⟩⟩
    rw [← ht, List.getElem?_take] at hx
    split at hx
    · rw [Nat.zero_add]; simpa using hx
    · cases hx
/-- The row's block, written out. -/
theorem Own.blk (h : Own lo w e s en v xs) (hne : xs ≠ []) : ∃ g cap cur, v = .slice (some ⟨g, 0, none⟩) xs.length cap ∧ lo ≤ g ∧ Blk w g cur e ∧ cur.take (xs.length * s) = xs.flatMap en ∧ xs.length * s ≤ cur.length ∧ xs.length ≤ cap ∧ cap ≤ 9223372036854775807 ∧ cur.length = cap * s := by
  rcases h.1.2 with ⟨rfl, h0⟩ | ⟨g, cap, cur, rfl, hlo, hg, hnc, hcm, hcs, ht⟩
  · exact absurd (List.eq_nil_of_length_eq_zero h0) hne
  · have hle : xs.length * s ≤ cap * s := Nat.mul_le_mul_right _ hnc
    have hcl : cur.toList.length = cap * s := by simpa using hcs
    exact ⟨g, cap, cur.toList, rfl, hlo, hg, ht, by rw [hcl]; exact hle, hnc, by unfold maxLen at hcm; omega, hcl⟩
theorem Own.of_blk {g cap : Nat} {cur : List Value} (hlo : lo ≤ g) (hb : Blk w g cur e) (ht : cur.take (xs.length * s) = xs.flatMap en) (hn : xs.length ≤ cap) (hc : cap ≤ 9223372036854775807) (hl : cur.length = cap * s) (hs : ∀ x, (en x).length = s) :
    Own lo w e s en (.slice (some ⟨g, 0, none⟩) xs.length cap) xs :=
  ⟨⟨flat_len hs xs, .inr ⟨g, cap, cur.toArray, rfl, hlo, hb, hn, by unfold maxLen; omega, by simpa using hl, by simpa using ht⟩⟩, hs⟩
end
/-! ## Slices of slices -/
section
variable {w : World} {K : Value → World → Prop} {H : Hv} {R : Hv → List Value → α → Prop} {sz : Nat} {t e : TypeId} {v : Value} {xs : List α}
end
/-! ## Readable slices -/
/-- A slice of old memory that reads as xs. -/
abbrev Rd (en : α → List Value) (ok : α → Prop) (s : Nat) (w : World) (v : Value) (xs : List α) : Prop := SlR (RE en ok) s (Rg w 0 w.heap.size) v xs
theorem Rd.next {en : α → List Value} {ok : α → Prop} {s : Nat} {w w' : World} {v : Value} {xs : List α} (h : Rd en ok s w v xs) (b : Below w.heap.size w w') : Rd en ok s w' v xs :=
  h.mono (RE.mono' en ok) (Rg.mono (Nat.le_refl _) b.size fun k _ hk => b.block k hk)
/-- Where x[j] lies, and that it is found in whatever world. -/
theorem SlR.place {en : α → List Value} {ok : α → Prop} {w : World} (s : Nat) {lo hi : Nat} {t e : TypeId} {v : Value} {xs : List α} (h : SlR (RE en ok) s (Rg w lo hi) v xs) (j : Nat) (x : α) (hx : xs[j]? = some x)
    (ht : P.underlying t = some (.slice e)) (hs : (P.info? e).map (fun i => i.size) = some s) :
    ∃ b o, At w b o (en x) ∧ ok x ∧ lo ≤ b ∧ b < hi ∧ ∀ {K : Value → World → Prop} {w' : World} {i : Int} {ki : IntKind}, i = j → K (.pointer (some ⟨b, o, none⟩)) w' → RunP P (Instr.indexAt t v (.int ki i)) w' K := by
  have hl := (List.getElem?_eq_some_iff.1 hx).1
  obtain ⟨a, cap, rfl, h2, h3, h4⟩ := h
  obtain ⟨b, o, news, rfl, k1, k2⟩ := h4 (by intro e; subst e; simp at hl)
  obtain ⟨hR, hok⟩ := k2.2 j x hx
  have hat := (k1.at.sub (j * s) s)
  rw [hR] at hat
  obtain ⟨_, _, _, ⟨hb1, hb2, _⟩, _⟩ := k1
  refine ⟨b, o + j * s, hat, hok, hb1, hb2, fun {K w' i ki} hi k => ?_⟩
  subst hi
  refine ⟨_, w', ?_, k⟩
  cases hi' : P.info? e with
  | none => simp [hi'] at hs
  | some i' =>
    simp only [hi', Option.map_some, Option.some.injEq] at hs
    simp [Instr.indexAt, asIntOf, run_underlying ht, sizeOf, typeInfo, hi', hs, Addr.add_lit, hl]
theorem flat_take {en : α → List Value} {s : Nat} (h : ∀ x, (en x).length = s) (xs : List α) (j : Nat) (hj : j ≤ xs.length) : (xs.flatMap en).take (j * s) = (xs.take j).flatMap en := by
  have e : xs.flatMap en = (xs.take j).flatMap en ++ (xs.drop j).flatMap en := by rw [← List.flatMap_append, List.take_append_drop]
  have hl : ((xs.take j).flatMap en).length = j * s := by rw [flat_len h, List.length_take, Nat.min_eq_left hj]
  rw [e, List.take_append_of_le_length (by omega), List.take_of_length_le (by omega)]
theorem flat_drop {en : α → List Value} {s : Nat} (h : ∀ x, (en x).length = s) (xs : List α) (j : Nat) (hj : j ≤ xs.length) : (xs.flatMap en).drop (j * s) = (xs.drop j).flatMap en := by
  have e : xs.flatMap en = (xs.take j).flatMap en ++ (xs.drop j).flatMap en := by rw [← List.flatMap_append, List.take_append_drop]
  have hl : ((xs.take j).flatMap en).length = j * s := by rw [flat_len h, List.length_take, Nat.min_eq_left hj]
  rw [e, List.drop_append_of_le_length (by omega), List.drop_of_length_le (by omega), List.nil_append]
/-- An element of an own row is written over. -/
theorem Own.store {lo s : Nat} {w : World} {e : TypeId} {en : α → List Value} {v : Value} {xs : List α} (h : Own lo w e s en v xs) (j : Nat) (hj : j < xs.length) :
    ∃ g cap cur, v = .slice (some ⟨g, 0, none⟩) xs.length cap ∧ lo ≤ g ∧ Blk w g cur e ∧ j * s + s ≤ cur.length ∧ ∀ (w' : World) (x : α), Blk w' g (setsL cur (j * s) (en x)) e → Own lo w' e s en v (xs.set j x) := by
  obtain ⟨g, cap, cur, rfl, hlo, hb, ht, hlen, hcap, hcm, hcl⟩ := h.blk (by intro e; subst e; simp at hj)
  have hle : j * s + s ≤ xs.length * s := by rw [← Nat.succ_mul]; exact Nat.mul_le_mul_right _ hj
  refine ⟨g, cap, cur, rfl, hlo, hb, by omega, fun w' x hb' => ?_⟩
  have hxl : (en x).length = s := h.2 x
  have hset : xs.set j x = xs.take j ++ x :: xs.drop (j + 1) := by
    rw [List.set_eq_take_append_cons_drop, if_pos hj]
  have key : (setsL cur (j * s) (en x)).take (xs.length * s) = (xs.set j x).flatMap en := by
    rw [setsL_eq _ _ _ (by omega), hset, List.flatMap_append, List.flatMap_cons, ← flat_take h.2 xs j (Nat.le_of_lt hj), ← flat_drop h.2 xs (j + 1) hj, ← ht, hxl]
    apply List.ext_getElem?
    intro i
    simp only [List.getElem?_take, List.getElem?_append, List.length_append, List.length_take, List.getElem?_drop, List.append_assoc, hxl, Nat.succ_mul]
    rw [show min (j * s) cur.length = j * s by omega, show min (j * s) (min (xs.length * s) cur.length) = j * s by omega]
    by_cases h1 : i < xs.length * s
    · rw [if_pos h1]
      by_cases h2 : i < j * s
      · rw [if_pos h2, if_pos h2, if_pos h2, if_pos h2, if_pos h1]
      · rw [if_neg h2, if_neg h2]
        by_cases h3 : i - j * s < s
        · rw [if_pos h3, if_pos h3]
        · rw [if_neg h3, if_neg h3, if_pos (by omega)]
    · rw [if_neg h1, if_neg (by omega), if_neg (by omega), if_neg (by omega)]
  have := Own.of_blk (lo := lo) (xs := xs.set j x) (s := s) (en := en) (cap := cap) hlo hb' (by rw [List.length_set]; exact key) (by rw [List.length_set]; exact hcap) hcm (by rw [setsL_length]; exact hcl) h.2
  rw [List.length_set] at this
  exact this
theorem rStoreAL {P : PP} {w : World} {t : TypeId} {e : TypeId} {b o : Nat} {cs vs : List Value} {K : World → Prop} (hb : Blk w b cs e) (hs : (P.info? t).map (·.size) = some vs.length) (ho : o + vs.length ≤ cs.length) (hv : vs.all (·.oneCell') = true)
    (k : ∀ w', Upd w w' b → Blk w' b (setsL cs o vs) e → K w') : DoP P (Instr.storeAt t (.pointer (some ⟨b, o, none⟩)) (.agg vs.toArray)) w K :=
  rStoreA hb hs (Nat.ble_eq_true_of_le ho) hv (by rw [setsK_eq]; exact k)
end Go.Proofs.YtbbdfhgcmkljeaaGreatDoor.Eng
/- What has a place in memory, and what leaves it alone. -/
set_option linter.unusedVariables false
set_option linter.unusedSimpArgs false
namespace Go.Proofs.YtbbdfhgcmkljeaaGreatDoor.Eng
open Go Go.RowKit
/-- Of the old blocks those of fp alone may have changed. -/
structure Ev (w w' : World) (fp : Nat → Prop) : Prop where
  os : w'.os = w.os
  tape : w'.tape = w.tape
  output : w'.output = w.output
  size : w.heap.size ≤ w'.heap.size
  block : ∀ k, k < w.heap.size → ¬ fp k → w'.heap[k]? = w.heap[k]?
/-- fp' is fp, but for what is new. -/
def Fr (w : World) (fp fp' : Nat → Prop) : Prop := ∀ k, fp' k → fp k ∨ w.heap.size ≤ k
/-- Two places have nothing in common. -/
def Ap (f g : Nat → Prop) : Prop := ∀ k, f k → ¬ g k
section
variable {w w' w0 w1 : World} {fp fp' f g : Nat → Prop} {b : Nat} {v v' : Value} {cs : List Value} {e : TypeId} {α : Type}
theorem Ev.refl (w : World) (fp : Nat → Prop) : Ev w w fp := ⟨rfl, rfl, rfl, Nat.le_refl _, fun _ _ _ => rfl⟩
theorem Ev.new (n : New w w' cs e) (fp : Nat → Prop) : Ev w w' fp := ⟨n.below.os, n.below.tape, n.below.output, n.below.size, fun k hk _ => n.below.block k hk⟩
theorem Ev.upd (u : Upd w w' b) (h : fp b) : Ev w w' fp := ⟨u.os, u.tape, u.output, by rw [u.size]; exact Nat.le_refl _, fun k _ hk => u.block k (fun e => hk (e ▸ h))⟩
theorem Ev.below (n : Below w.heap.size w w') (fp : Nat → Prop) : Ev w w' fp := ⟨n.os, n.tape, n.output, n.size, fun k hk _ => n.block k hk⟩
theorem Ev.still (s : Still w w') (fp : Nat → Prop) : Ev w w' fp := by obtain ⟨d, rfl⟩ := s; exact ⟨rfl, rfl, rfl, Nat.le_refl _, fun _ _ _ => rfl⟩
theorem Ev.trans (a : Ev w w1 f) (c : Ev w1 w' g) (hf : ∀ k, f k → fp k) (hg : ∀ k, k < w.heap.size → g k → fp k) : Ev w w' fp :=
  ⟨c.os.trans a.os, c.tape.trans a.tape, c.output.trans a.output, Nat.le_trans a.size c.size, fun k hk hn => (c.block k (Nat.lt_of_lt_of_le hk a.size) (fun h => hn (hg k hk h))).trans (a.block k hk (fun h => hn (hf k h)))⟩
theorem Ev.mono (a : Ev w w' f) (hf : ∀ k, f k → fp k) : Ev w w' fp := ⟨a.os, a.tape, a.output, a.size, fun k hk hn => a.block k hk (fun h => hn (hf k h))⟩
theorem Fr.refl (w : World) (fp : Nat → Prop) : Fr w fp fp := fun _ h => .inl h
theorem Fr.trans (a : Fr w f g) (x : w.heap.size ≤ w1.heap.size) (c : Fr w1 g fp) : Fr w f fp := fun k hk => by
  rcases c k hk with h | h
  · exact a k h
  · exact .inr (Nat.le_trans x h)
theorem Fr.low (a : Fr w f g) {lo : Nat} (hf : ∀ k, f k → lo ≤ k) (hw : lo ≤ w.heap.size) : ∀ k, g k → lo ≤ k := fun k hk => by
  rcases a k hk with h | h
  · exact hf k h
  · exact Nat.le_trans hw h
/-- What lies apart from fp lies apart from what fp became. -/
theorem Ap.fr (a : Ap f g) (x : Fr w g fp) (hl : ∀ k, f k → k < w.heap.size) : Ap f fp := fun k hk hp => by
  rcases x k hp with h | h
  · exact a k hk h
  · have := hl k hk; omega
theorem Ap.symm (a : Ap f g) : Ap g f := fun k hk hf => a k hf hk
end
theorem Own.one {α : Type} {lo s : Nat} {w : World} {e : TypeId} {en : α → List Value} {v : Value} {xs : List α} (h : Own lo w e s en v xs) : v.oneCell' = true := by
  rcases h.1.2 with ⟨e, _⟩ | ⟨_, _, _, e, _⟩ <;> rw [e] <;> rfl
theorem Own.form {α : Type} {lo s : Nat} {w : World} {e : TypeId} {en : α → List Value} {v : Value} {xs : List α} (h : Own lo w e s en v xs) : ∃ a c, v = .slice a xs.length c := by
  rcases h.1.2 with ⟨e, h0⟩ | ⟨g, cap, cur, e, _⟩
  · exact ⟨_, _, by rw [h0]; exact e⟩
  · exact ⟨_, _, e⟩
/-! ## nil slices and nil pointers compared -/
section
variable {P : PP} {w : World} {K : Value → World → Prop}
end
end Go.Proofs.YtbbdfhgcmkljeaaGreatDoor.Eng
/- A row's own block: sliced, appended to in place, cleared. -/
set_option linter.unusedVariables false
set_option linter.unusedSimpArgs false
namespace Go.Proofs.YtbbdfhgcmkljeaaGreatDoor.Eng
open Go Go.RowKit
section
variable {P : PP} {w : World} {K : Value → World → Prop}
/-- A slice expression over a slice value, by its bounds. -/
theorem rSlB {t e : TypeId} {a : Option Addr} {n cap l h m sz : Nat} {lo hi mx : Option Value} (ht : P.underlying t = some (.slice e)) (hsz : (P.info? e).map (fun i => i.size) = some sz)
    (hb : (Instr.sliceBounds true n cap lo hi mx).run P w = .ok (l, h, m) w) (k : K (.slice (if m = l then a else a.map (·.add (l * sz))) (h - l) (m - l)) w) : RunP P (Instr.sliceAt t (.slice a n cap) lo hi mx) w K := by
  refine ⟨_, w, ?_, k⟩
  have he : P.elem t = e := by simp [Program.elem, ht]
  rw [run_sliceAt_slice (P := P) w t _ _ _ _ (by rw [he]; exact ht)]
  cases hi' : P.info? e with
  | none => simp [hi'] at hsz
  | some i' =>
    simp only [hi', Option.map_some, Option.some.injEq] at hsz
    unfold Instr.slice
    simp only [Sem.run_bind, run_underlying ht, Result.andThen_ok, hb]
    simp [sizeOf, typeInfo, hi', hsz]
theorem setRow_upd {w : World} {g o : Nat} {cur vs : List Value} {e : TypeId} (hb : Blk w g cur e) (h : o + vs.length ≤ cur.length) :
    Upd w (w.setRow g (cur.take o ++ vs ++ cur.drop (o + vs.length)).toArray) g ∧ Blk (w.setRow g (cur.take o ++ vs ++ cur.drop (o + vs.length)).toArray) g (setsL cur o vs) e := by
  refine ⟨⟨rfl, rfl, rfl, by simp [World.setRow], fun j hj => ?_⟩, ?_⟩
  · unfold World.setRow
    simp only [Array.getElem?_modify]
    rw [if_neg (fun h => hj h.symm)]
  · rw [setsL_eq _ _ _ h]; exact setRow_heap w g _ _ e (0, 0) hb
end
theorem At.none {w : World} {b o : Nat} {cs : List Value} {e : TypeId} (h : Blk w b cs e) : At w b o [] := ⟨_, _, _, h, fun i v hv => by simp at hv⟩
end Go.Proofs.YtbbdfhgcmkljeaaGreatDoor.Eng
/- Rows of the call's own that may begin inside their block: grown, cut at the front, read. -/
set_option linter.unusedVariables false
set_option linter.unusedSimpArgs false
namespace Go.Proofs.YtbbdfhgcmkljeaaGreatDoor.Eng
open Go Go.RowKit
section
variable {P : PP} {α : Type} {lo s : Nat} {w w' w0 : World} {e e' : TypeId} {en : α → List Value} {v v' u : Value} {xs ys : List α} {b : Nat} {cs : List Value} {K : Value → World → Prop}
def Off (lo : Nat) (w : World) (e : TypeId) (s : Nat) (en : α → List Value) (v : Value) (xs : List α) : Prop :=
  ((v = .slice none 0 0 ∧ xs = []) ∨ ∃ g o cap cur, v = .slice (some ⟨g, o, none⟩) xs.length cap ∧ lo ≤ g ∧ Blk w g cur e ∧ o + cap * s ≤ cur.length ∧ xs.length ≤ cap ∧ cap ≤ 9223372036854775807 ∧ (cur.drop o).take (xs.length * s) = xs.flatMap en) ∧ ∀ x, (en x).length = s
theorem Off.nil (lo : Nat) (w : World) (e : TypeId) (h : ∀ x, (en x).length = s) : Off lo w e s en (.slice none 0 0) [] := ⟨.inl ⟨rfl, rfl⟩, h⟩
theorem Off.lt (h : Off lo w e s en v xs) {k : Nat} (hk : v.ownBlock = some k) : lo ≤ k ∧ k < w.heap.size := by
  rcases h.1 with ⟨rfl, _⟩ | ⟨g, o, cap, cur, rfl, hlo, hb, _⟩
  · cases hk
  · obtain rfl := Option.some.inj hk; exact ⟨hlo, hb.lt⟩
theorem Off.keep (h : Off lo w e s en v xs) (hb : ∀ k, v.ownBlock = some k → w'.heap[k]? = w.heap[k]?) : Off lo w' e s en v xs := by
  refine ⟨?_, h.2⟩
  rcases h.1 with h | ⟨g, o, cap, cur, rfl, hlo, hk, r⟩
  · exact .inl h
  · exact .inr ⟨g, o, cap, cur, rfl, hlo, hk.keep (hb g rfl), r⟩
theorem Off.ev {fp : Nat → Prop} (h : Off lo w e s en v xs) (x : Ev w w' fp) (hn : ∀ k, v.ownBlock = some k → ¬ fp k) : Off lo w' e s en v xs := h.keep fun k hk => x.block k (h.lt hk).2 (hn k hk)
theorem Off.one (h : Off lo w e s en v xs) : v.oneCell' = true := by
  rcases h.1 with ⟨rfl, _⟩ | ⟨_, _, _, _, rfl, _⟩ <;> rfl
theorem Off.form (h : Off lo w e s en v xs) : ∃ a c, v = .slice a xs.length c := by
  rcases h.1 with ⟨rfl, rfl⟩ | ⟨_, _, _, _, rfl, _⟩
  · exact ⟨_, _, rfl⟩
  · exact ⟨_, _, rfl⟩
theorem Off.own (h : w.ownsRow lo e s v xs.length (xs.flatMap en)) (hs : ∀ x, (en x).length = s) : Off lo w e s en v xs := by
  refine ⟨?_, hs⟩
  rcases h.2 with ⟨rfl, h0⟩ | ⟨g, cap, cur, rfl, hlo, hg, hnc, hcm, hcs, ht⟩
  · exact .inl ⟨rfl, List.eq_nil_of_length_eq_zero h0⟩
  · exact .inr ⟨g, 0, cap, cur.toList, rfl, hlo, hg, by simp [hcs], hnc, by unfold maxLen at hcm; omega, by simpa using ht⟩
/-- append, wherever the row begins. -/
theorem rAppF {t ty : TypeId} {m c b o : Nat} (z : Value) (by_ : Nat) (hown : Off lo w e s en v xs) (hat : At w b o (ys.flatMap en)) (hm : ys.length = m)
    (h1 : ∀ y ∈ ys, ((en y).all (·.oneCell')) = true) (hu : P.underlying t = some (.slice e)) (hz : (P.info? e).map (fun i => (i.zero, i.size, i.bytes)) = some (some z, s, by_)) (hzs : z.cells.size = s) (hsz : 0 < s)
    (hb : (xs.length + m) * by_ ≤ 140737488355328) (hml : xs.length + m ≤ 140737488355328) (hlo : lo ≤ w.heap.size)
    (k : ∀ v' w', Off lo w' e s en v' (xs ++ ys) → Gr w w' v v' → K v' w') : RunP P (Builtin.append_ #[t, t] ty #[v, .slice (some ⟨b, o, none⟩) m c]) w K := by
  rcases hown.1 with ⟨rfl, rfl⟩ | ⟨g, of, cap, cur, rfl, hlg, hbk, hfit, hnc, hcm, ht⟩
  · refine rAppO z by_ (Own.nil lo w e hown.2) hat hm h1 hu hz hzs hsz hb hml hlo fun v' w' hO hG => k v' w' ?_ hG
    exact Off.own hO.1 hO.2
  · have hol : (xs.flatMap en).length = xs.length * s := flat_len hown.2 xs
    have hnl : (ys.flatMap en).length = m * s := by rw [← hm]; exact flat_len hown.2 ys
    have ho : ∀ u ∈ ys.flatMap en, u.oneCell' = true := fun u hu => by
      obtain ⟨y, hy, hu⟩ := List.mem_flatMap.1 hu
      exact List.all_eq_true.1 (h1 y hy) u hu
    cases hi : P.info? e with
    | none => simp [hi] at hz
    | some i =>
      simp only [hi, Option.map_some, Option.some.injEq, Prod.mk.injEq] at hz
      obtain ⟨h2, h3, h4⟩ := hz
      subst h3
      by_cases hr : xs.length + m ≤ cap
      · have hcap : (xs.length + m) * i.size ≤ cap * i.size := Nat.mul_le_mul_right _ hr
        rw [Nat.add_mul] at hcap
        have hst := run_storeCells_at (P := P) g (of + xs.length * i.size) e (ys.flatMap en) 0 cur.toArray w hbk (by rw [hnl]; simp; omega) ho
        simp only [Nat.add_zero] at hst
        have hfc := run_firstCells_some (P := P) w i.size m ⟨b, o, none⟩ m c (ys.flatMap en) hnl (fun j u hj => by rw [Addr.add_lit]; exact hat.cell hj)
        obtain ⟨hU, hB⟩ := setRow_upd (o := of + xs.length * i.size) (vs := ys.flatMap en) hbk (by rw [hnl]; omega)
        refine ⟨.slice (some ⟨g, of, none⟩) (xs.length + m) cap, _, ?_, k _ _ ⟨.inr ⟨g, of, cap, _, by rw [List.length_append, hm], hlg, hB, by rw [setsL_length]; exact hfit, by rw [List.length_append, hm]; exact hr, hcm, ?_⟩, hown.2⟩ ⟨⟨hU.os, hU.tape, hU.output, by rw [hU.size]; exact Nat.le_refl _, fun k _ hk => hU.block k (fun e => hk (by rw [e]; rfl))⟩, .inl rfl⟩⟩
        · simp [Builtin.append_, run_underlying hu, sizeOf, typeInfo, hi, Builtin.lenOf, hr, hfc, Addr.add_lit, hst]
        · rw [List.length_append, hm, List.flatMap_append, ← ht, setsL_eq _ _ _ (by rw [hnl]; omega), List.append_assoc, List.drop_append_of_le_length (by rw [List.length_take]; omega), ← List.append_assoc, List.drop_take,
            show of + xs.length * i.size - of = xs.length * i.size by omega, List.take_append_of_le_length (by rw [List.length_append, List.length_take, List.length_drop, hnl, Nat.add_mul]; omega), List.take_of_length_le (by rw [List.length_append, List.length_take, List.length_drop, hnl, Nat.add_mul]; omega)]
      · have hat0 : At w g of (xs.flatMap en) := by
          have := hbk.at.sub of (xs.length * i.size); rw [ht, Nat.zero_add] at this; exact this
        obtain ⟨v', w', hrun, r1, r2⟩ := run_append_arg_grows (P := P) w t ty e i z i.size by_ hu hi h2 rfl h4 hzs hsz ⟨g, of, none⟩ xs.length cap (xs.flatMap en) hol (fun j u hj => by rw [Addr.add_lit]; exact hat0.cell hj) ⟨b, o, none⟩ m c (ys.flatMap en) hnl (fun j u hj => by rw [Addr.add_lit]; exact hat.cell hj) (by omega) (by simp [maxLen]; omega) hb
        have hO : Off w.heap.size w' e i.size en v' (xs ++ ys) := Off.own (by rw [List.length_append, hm, List.flatMap_append]; exact r1) hown.2
        refine ⟨v', w', hrun, k v' w' ?_ ⟨⟨r2.os, r2.tape, r2.output, r2.size, fun k hk _ => r2.block k hk (by simp)⟩, ?_⟩⟩
        · refine ⟨?_, hown.2⟩
          rcases hO.1 with h | ⟨g', o', c', cu', a1, a2, a3⟩
          · exact .inl h
          · exact .inr ⟨g', o', c', cu', a1, Nat.le_trans hlo a2, a3⟩
        · rcases hO.1 with ⟨h, _⟩ | ⟨g', o', c', cu', a1, a2, a3⟩
          · exact .inr (.inl (by rw [h]; rfl))
          · exact .inr (.inr ⟨g', by rw [a1]; rfl, a2⟩)
/-- The first element off. -/
theorem Off.tail {x : α} {g o n cap : Nat} (h : Off lo w e s en (.slice (some ⟨g, o, none⟩) n cap) (x :: xs)) : Off lo w e s en (.slice (some ⟨g, if cap = 1 then o else o + 1 * s, none⟩) (n - 1) (cap - 1)) xs := by
  rcases h.1 with ⟨_, h0⟩ | ⟨g', o', cap', cur, he, hlo, hb, hfit, hnc, hcm, hct⟩
  · cases h0
  · injection he with h1 h2 h3
    injection h1 with h1
    injection h1 with h1 h4
    subst h1; subst h2; subst h3; subst h4
    simp only [List.length_cons] at hnc hct ⊢
    refine ⟨.inr ⟨g, if cap = 1 then o else o + 1 * s, cap - 1, cur, by rw [Nat.add_sub_cancel], hlo, hb, ?_, by omega, by omega, ?_⟩, h.2⟩
    · split
      · have : cap - 1 = 0 := by omega
        rw [this]; omega
      · have : (cap - 1) * s + s = cap * s := by rw [← Nat.succ_mul]; congr 1; omega
        omega
    · split
      · have : xs = [] := List.eq_nil_of_length_eq_zero (by omega)
        subst this; simp
      · have e1 := congrArg (List.drop s) hct
        rw [List.drop_take, List.drop_drop, List.flatMap_cons, List.drop_append_of_le_length (by rw [h.2]; exact Nat.le_refl _), List.drop_of_length_le (l := en x) (by rw [h.2]; exact Nat.le_refl _), List.nil_append, Nat.succ_mul, Nat.add_sub_cancel] at e1
        rw [Nat.one_mul]; exact e1
/-- The first element, where it lies. -/
theorem Off.head {x : α} (h : Off lo w e s en v (x :: xs)) : ∃ g o cap, v = .slice (some ⟨g, o, none⟩) (xs.length + 1) cap ∧ lo ≤ g ∧ At w g o (en x) := by
  rcases h.1 with ⟨_, h0⟩ | ⟨g, o, cap, cur, rfl, hlo, hb, hfit, hnc, hcm, hct⟩
  · cases h0
  · refine ⟨g, o, cap, rfl, hlo, ?_⟩
    have := hb.at.sub o s
    rw [Nat.zero_add] at this
    have e1 := congrArg (List.take s) hct
    rw [List.take_take, List.length_cons, Nat.min_eq_left (by rw [Nat.succ_mul]; omega), List.flatMap_cons, List.take_append_of_le_length (by rw [h.2]; exact Nat.le_refl _)] at e1
    rw [e1, List.take_of_length_le (by rw [h.2]; exact Nat.le_refl _)] at this; exact this
end
end Go.Proofs.YtbbdfhgcmkljeaaGreatDoor.Eng
/- A cheap check of a plan: bit masks in the place of arrays. -/
namespace Go.Proofs.YtbbdfhgcmkljeaaGreatDoor.Eng
open Go
set_option linter.unusedVariables false
def smask (l : List Nat) : Nat := l.foldr (fun t m => Nat.lor (Nat.shiftLeft 1 t) m) 0
theorem smask_bit (l : List Nat) (j : Nat) : (smask l).testBit j = true ↔ j ∈ l := by
  induction l with
  | nil => simp [smask]
  | cons t r ih =>
    have e : smask (t :: r) = (1 <<< t) ||| smask r := rfl
    rw [e, Nat.testBit_or, Bool.or_eq_true, ih, Nat.one_shiftLeft, Nat.testBit_two_pow, List.mem_cons]
    simp; constructor
    · rintro (h | h); exact .inl h.symm; exact .inr h
    · rintro (h | h); exact .inl h.symm; exact .inr h
/-- An operation's masks: what it waits for, what it looks at, what it writes. -/
structure Rec where
  i : Nat
  take : Bool
  af : Nat
  lk : Nat
  ds : Nat
def amask (o : Oper) : Nat := smask (o.after.toList.filterMap fun e => if Region.binds .any e then some e.on else none)
def mkRec (ops : Array Oper) (p : Nat × Bool) : Option Rec := (ops[p.1]?).map fun o => ⟨p.1, p.2, amask o, smask (o.looksAt ops), smask o.dst.toList⟩
def zeroB (n : Nat) : Bool := Nat.beq n 0
def recApart (x y : Rec) : Bool := zeroB (Nat.land x.ds (Nat.lor y.lk y.ds)) && zeroB (Nat.land y.ds x.lk)
def inB (m i : Nat) : Bool := Nat.beq (Nat.land (Nat.shiftRight m i) 1) 1
def recsOk : List Rec → Nat → Nat → Bool
  | [], listed, all => Nat.beq listed all
  | r :: rest, listed, all => Nat.beq (Nat.land r.af listed) r.af && !inB listed r.i &&
      (match r.take with
       | true => rest.all fun q => inB q.af r.i || recApart r q
       | false => rest.all fun q => !Nat.beq (Nat.land q.af listed) q.af) && recsOk rest (Nat.lor listed (Nat.shiftLeft 1 r.i)) all
def recsOf (ops : Array Oper) : List (Nat × Bool) → Option (List Rec)
  | [] => some []
  | p :: r => match mkRec ops p with
    | none => none
    | some x => match recsOf ops r with
      | none => none
      | some l => some (x :: l)
def fastOk (ops : Array Oper) (plan : List (Nat × Bool)) : Bool := Region.noSelect ops && Nat.beq plan.length ops.size && match recsOf ops plan with
  | none => false
  | some l => recsOk l 0 (2 ^ ops.size - 1)
theorem inB_eq (m i : Nat) : inB m i = m.testBit i := by
  unfold inB
  rw [show Nat.land (Nat.shiftRight m i) 1 = (m >>> i) &&& 1 from rfl, Nat.and_one_is_mod]
  rw [Nat.testBit, Nat.one_and_eq_mod_two]
  rcases Nat.mod_two_eq_zero_or_one (m >>> i) with h | h <;> rw [h] <;> rfl
theorem land_sub {a b : Nat} (h : Nat.beq (Nat.land a b) a = true) (j : Nat) (hj : a.testBit j = true) : b.testBit j = true := by
  have h := Nat.eq_of_beq_eq_true h
  have h2 : (a &&& b).testBit j = a.testBit j := congrArg (fun n => Nat.testBit n j) h
  rw [Nat.testBit_and, hj] at h2
  simpa using h2
theorem land_not {a b : Nat} (h : (!Nat.beq (Nat.land a b) a) = true) : ∃ j, a.testBit j = true ∧ b.testBit j = false := by
  apply Classical.byContradiction
  intro hn
  have e : a &&& b = a := by
    apply Nat.eq_of_testBit_eq
    intro j
    rw [Nat.testBit_and]
    cases ha : a.testBit j
    · rfl
    · cases hb : b.testBit j
      · exact absurd ⟨j, ha, hb⟩ hn
      · rfl
  rw [show Nat.land a b = a from e] at h
  simp at h
theorem zero_land {a b : Nat} (h : zeroB (Nat.land a b) = true) (j : Nat) (ha : a.testBit j = true) : b.testBit j = false := by
  have h := Nat.eq_of_beq_eq_true h
  have h2 : (a &&& b).testBit j = false := by rw [show a &&& b = 0 from h]; simp
  rw [Nat.testBit_and, ha] at h2
  simpa using h2
theorem amask_bit (o : Oper) (j : Nat) : (amask o).testBit j = true ↔ ∃ e ∈ o.after, Region.binds .any e = true ∧ e.on = j := by
  unfold amask
  rw [smask_bit, List.mem_filterMap]
  constructor
  · rintro ⟨e, he, h⟩
    split at h
    · exact ⟨e, by simpa using he, by assumption, Option.some.inj h⟩
    · cases h
  · rintro ⟨e, he, hb, h⟩
    exact ⟨e, by simpa using he, by rw [if_pos hb, h]⟩
theorem recApart_sound {ops : Array Oper} {x y : Oper} {rx ry : Rec} (hx : rx.lk = smask (x.looksAt ops)) (hx' : rx.ds = smask x.dst.toList) (hy : ry.lk = smask (y.looksAt ops)) (hy' : ry.ds = smask y.dst.toList)
    (h : recApart rx ry = true) : x.apart ops y = true := by
  unfold recApart at h
  rw [Bool.and_eq_true] at h
  obtain ⟨h1, h2⟩ := h
  unfold Oper.apart
  rw [Bool.and_eq_true]
  constructor
  · split
    · rename_i d hd
      have hb : rx.ds.testBit d = true := by rw [hx', smask_bit, hd]; simp
      have h3 := zero_land h1 d hb
      rw [show Nat.lor ry.lk ry.ds = ry.lk ||| ry.ds from rfl, Nat.testBit_or, Bool.or_eq_false_iff] at h3
      obtain ⟨h4, h5⟩ := h3
      rw [Bool.and_eq_true]
      constructor
      · rw [Bool.not_eq_true', ← Bool.not_eq_true, List.contains_iff_mem]
        intro hm
        rw [hy, ← Bool.not_eq_true, smask_bit] at h4
        exact h4 hm
      · rw [bne_iff_ne]
        intro he
        rw [hy', ← Bool.not_eq_true, smask_bit, he] at h5
        exact h5 (by simp)
    · rfl
  · split
    · rename_i d hd
      have hb : ry.ds.testBit d = true := by rw [hy', smask_bit, hd]; simp
      have h3 := zero_land h2 d hb
      rw [Bool.not_eq_true', ← Bool.not_eq_true, List.contains_iff_mem]
      intro hm
      rw [hx, ← Bool.not_eq_true, smask_bit] at h3
      exact h3 hm
    · rfl
theorem recsOf_cons {ops : Array Oper} {p : Nat × Bool} {r : List (Nat × Bool)} {l : List Rec} (h : recsOf ops (p :: r) = some l) :
    ∃ x l' o, l = x :: l' ∧ recsOf ops r = some l' ∧ ops[p.1]? = some o ∧ x = ⟨p.1, p.2, amask o, smask (o.looksAt ops), smask o.dst.toList⟩ := by
  unfold recsOf at h
  split at h
  · cases h
  · rename_i x hx
    split at h
    · cases h
    · rename_i l' hl
      obtain rfl := Option.some.inj h
      unfold mkRec at hx
      cases ho : ops[p.1]? with
      | none => rw [ho] at hx; cases hx
      | some o => rw [ho] at hx; exact ⟨x, l', o, rfl, hl, rfl, (Option.some.inj hx).symm⟩
theorem recsOf_mem {ops : Array Oper} : ∀ {r : List (Nat × Bool)} {l : List Rec}, recsOf ops r = some l → ∀ q ∈ l, ∃ o, ops[q.i]? = some o ∧ q.af = amask o ∧ q.lk = smask (o.looksAt ops) ∧ q.ds = smask o.dst.toList := by
  intro r
  induction r with
  | nil => intro l h q hq; unfold recsOf at h; obtain rfl := Option.some.inj h; cases hq
  | cons p r ih =>
    intro l h q hq
    obtain ⟨x, l', o, rfl, hl, ho, rfl⟩ := recsOf_cons h
    rcases List.mem_cons.1 hq with rfl | hq
    · exact ⟨o, ho, rfl, rfl, rfl⟩
    · exact ih hl q hq
theorem recs_cover : ∀ (l : List Rec) (m all : Nat), recsOk l m all = true → ∀ j, all.testBit j = true → m.testBit j = true ∨ ∃ q ∈ l, q.i = j := by
  intro l
  induction l with
  | nil =>
    intro m all h j hj
    unfold recsOk at h
    have := Nat.eq_of_beq_eq_true h
    subst this
    exact .inl hj
  | cons r l ih =>
    intro m all h j hj
    unfold recsOk at h
    rw [Bool.and_eq_true] at h
    rcases ih _ _ h.2 j hj with h1 | ⟨q, hq, e⟩
    · rw [show Nat.lor m (Nat.shiftLeft 1 r.i) = m ||| (1 <<< r.i) from rfl, Nat.testBit_or, Bool.or_eq_true, Nat.one_shiftLeft, Nat.testBit_two_pow] at h1
      rcases h1 with h1 | h1
      · exact .inl h1
      · exact .inr ⟨r, List.mem_cons_self, by simpa using h1⟩
    · exact .inr ⟨q, List.mem_cons_of_mem _ hq, e⟩
theorem big_bit : ∀ {l : List Rec} {m n j : Nat}, n ≤ j → recsOk l m (2 ^ n - 1) = true → m.testBit j = true → False := by
  intro l
  induction l with
  | nil =>
    intro m n j hj h hb
    unfold recsOk at h
    have := Nat.eq_of_beq_eq_true h
    rw [this, Nat.testBit_two_pow_sub_one] at hb
    simp at hb; omega
  | cons r l ih =>
    intro m n j hj h hb
    unfold recsOk at h
    rw [Bool.and_eq_true] at h
    refine ih hj h.2 ?_
    rw [show Nat.lor m (Nat.shiftLeft 1 r.i) = m ||| (1 <<< r.i) from rfl, Nat.testBit_or, hb, Bool.true_or]
theorem planOk_fast {ops : Array Oper} : ∀ (plan : List (Nat × Bool)) (l : List Rec) (m : Nat) (listed : Array Bool), recsOf ops plan = some l → recsOk l m (2 ^ ops.size - 1) = true → listed.size = ops.size →
    (∀ j, j < ops.size → listed.getD j true = m.testBit j) → planOk ops plan listed = true := by
  intro plan
  induction plan with
  | nil =>
    intro l m listed hl hok hsz hm
    unfold recsOf at hl
    obtain rfl := Option.some.inj hl
    unfold recsOk at hok
    have hok := Nat.eq_of_beq_eq_true hok
    show (Region.ready .any ops listed).isEmpty = true
    rw [List.isEmpty_iff, List.eq_nil_iff_forall_not_mem]
    intro j hj
    obtain ⟨h0, o, ho, _⟩ := mem_ready.1 hj
    have hlt : j < ops.size := (Array.getElem?_eq_some_iff.1 ho).1
    rw [hm j hlt, hok, Nat.testBit_two_pow_sub_one] at h0
    simp [hlt] at h0
  | cons p plan ih =>
    intro l m listed hl hok hsz hm
    obtain ⟨x, l', o, rfl, hl', ho, rfl⟩ := recsOf_cons hl
    have hcov := recs_cover _ _ _ hok
    unfold recsOk at hok
    simp only [Bool.and_eq_true] at hok
    obtain ⟨⟨⟨hr, hun⟩, hk⟩, hrest⟩ := hok
    have hlt : p.1 < ops.size := (Array.getElem?_eq_some_iff.1 ho).1
    have hunl : listed.getD p.1 true = false := by rw [hm _ hlt, ← inB_eq]; simpa using hun
    have hafter : ∀ e ∈ o.after, Region.binds .any e = true → listed.getD e.on false = true := fun e he hb => by
      have h1 := land_sub hr e.on ((amask_bit o e.on).2 ⟨e, he, hb, rfl⟩)
      have h3 : e.on < ops.size := by
        rcases Nat.lt_or_ge e.on ops.size with h | h
        · exact h
        · exact (big_bit h hrest (by rw [show Nat.lor m (Nat.shiftLeft 1 p.1) = m ||| (1 <<< p.1) from rfl, Nat.testBit_or, h1, Bool.true_or])).elim
      have h2 := hm e.on h3
      rw [h1] at h2
      simp only [Array.getD_eq_getD_getElem?] at h2 ⊢
      rw [Array.getElem?_eq_getElem (by omega)] at h2 ⊢
      simpa using h2
    have hready : p.1 ∈ Region.ready .any ops listed := mem_ready.2 ⟨hunl, o, ho, hafter⟩
    have hothers : ∀ j oj, ops[j]? = some oj → j ≠ p.1 → listed.getD j true = false → ∃ q ∈ l', q.i = j ∧ q.af = amask oj ∧ q.lk = smask (oj.looksAt ops) ∧ q.ds = smask oj.dst.toList := fun j oj hj hne hu => by
      have hjl : j < ops.size := (Array.getElem?_eq_some_iff.1 hj).1
      rcases hcov j (by rw [Nat.testBit_two_pow_sub_one]; simpa using hjl) with h1 | ⟨q, hq, e⟩
      · rw [hm j hjl, h1] at hu; cases hu
      · rcases List.mem_cons.1 hq with rfl | hq
        · exact absurd e.symm hne
        · obtain ⟨o', ho', h1, h2, h3⟩ := recsOf_mem hl' q hq
          rw [e, hj] at ho'
          obtain rfl := Option.some.inj ho'
          exact ⟨q, hq, e, h1, h2, h3⟩
    rw [planOk_cons, ho]
    simp only [Bool.and_eq_true]
    refine ⟨?_, ih l' _ _ hl' hrest (by simpa using hsz) fun j hj => ?_⟩
    · obtain ⟨i, take⟩ := p
      dsimp only at *
      cases take with
      | true =>
        dsimp only at hk ⊢
        rw [Bool.and_eq_true]
        refine ⟨?_, by simpa using hready⟩
        unfold Region.free
        rw [ho]
        simp only [List.all_eq_true, List.mem_range]
        intro j hj
        cases hji : (j == i)
        · cases hlj : listed.getD j true
          · rw [Array.getElem?_eq_getElem hj]
            simp only [Bool.false_or]
            obtain ⟨q, hq, e, h1, h2, h3⟩ := hothers j ops[j] (Array.getElem?_eq_getElem hj) (by simpa using hji) hlj
            have h4 := List.all_eq_true.1 hk q hq
            rw [Bool.or_eq_true] at h4 ⊢
            rcases h4 with h4 | h4
            · left
              rw [inB_eq, h1, amask_bit] at h4
              obtain ⟨ed, he, hb, hon⟩ := h4
              rw [Array.any_eq_true']
              exact ⟨ed, he, by rw [hb, hon]; simp⟩
            · right
              exact recApart_sound rfl rfl h2 h3 h4
          · simp
        · simp
      | false =>
        dsimp only at hk ⊢
        rw [beq_iff_eq]
        have huniq : ∀ j ∈ Region.ready .any ops listed, j = i := fun j hj => by
          apply Classical.byContradiction
          intro hne
          obtain ⟨h0, oj, hoj, hall⟩ := mem_ready.1 hj
          obtain ⟨q, hq, e, h1, h2, h3⟩ := hothers j oj hoj hne h0
          have h4 := List.all_eq_true.1 hk q hq
          obtain ⟨b, hb1, hb2⟩ := land_not h4
          rw [h1, amask_bit] at hb1
          obtain ⟨ed, he, hb, hon⟩ := hb1
          have h5 := hall ed he hb
          rw [hon] at h5
          have hbl : b < ops.size := by
            rcases Nat.lt_or_ge b listed.size with h | h
            · omega
            · simp [Array.getD_eq_getD_getElem?, Array.getElem?_eq_none h] at h5
          have h6 := hm b hbl
          rw [hb2] at h6
          simp only [Array.getD_eq_getD_getElem?] at h5 h6
          rw [Array.getElem?_eq_getElem (by omega)] at h5 h6
          simp at h5 h6
          rw [h5] at h6; cases h6
        have hnd : (Region.ready .any ops listed).Nodup := by
          unfold Region.ready; exact List.Pairwise.filter _ List.nodup_range
        generalize Region.ready .any ops listed = R at *
        match R, hnd, huniq, hready with
        | [], _, _, h => cases h
        | [a], _, hu, _ => rw [hu a List.mem_cons_self]
        | a :: b :: r, hnd, hu, _ =>
          have h1 := hu a List.mem_cons_self
          have h2 := hu b (by simp)
          rw [List.nodup_cons] at hnd
          exact absurd (by rw [h1, h2]; simp) hnd.1
    · show (listed.setIfInBounds p.1 true).getD j true = (m ||| (1 <<< p.1)).testBit j
      rw [Nat.testBit_or, Nat.one_shiftLeft, Nat.testBit_two_pow, ← hm j hj]
      by_cases h : p.1 = j
      · subst h; simp [hsz, hj]
      · simp [Array.getElem?_setIfInBounds_ne h, h]
theorem regionOk_fast {ops : Array Oper} {plan : List (Nat × Bool)} (h : fastOk ops plan = true) : regionOk ops plan = true := by
  unfold fastOk at h
  simp only [Bool.and_eq_true] at h
  obtain ⟨⟨h1, h2⟩, h3⟩ := h
  split at h3
  · cases h3
  · rename_i l hl
    unfold regionOk
    rw [h1, planOk_fast plan l 0 _ hl h3 (by simp) (fun j hj => by simp [hj])]
    simp [Nat.eq_of_beq_eq_true h2]
/-- A region that draws, walked along a plan (the cheap check). -/
theorem draws {P : PP} {ops : Array Oper} {K : List Value → World → Prop} {ρ0 : List Value} {id : Nat} {w : World} (S : World → Prop) (plan : List (Nat × Bool)) (hm : P.follows .mixedOrders = true) (hc : fastOk ops plan = true)
    (h : ∀ w1, w1 = w.drew → S w1 ∧ planK P ops.toList S K plan ρ0 w1) : DrawP P id ops K ρ0 w := draw S plan hm (regionOk_fast hc) h
end Go.Proofs.YtbbdfhgcmkljeaaGreatDoor.Eng
