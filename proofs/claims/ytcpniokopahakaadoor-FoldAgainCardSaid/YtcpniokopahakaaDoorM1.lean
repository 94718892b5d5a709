/- Texts of this claim, one behind the other. -/
import Derived.Tactics
import Derived.Below
import Derived.ScopeJumps
import Derived.Laws.Slices
import Derived.Laws.Small
import Derived.Laws.StructEq
import Derived.Laws.Pointers
import Derived.Laws.Cover3
import Derived.Laws.Strings
import Derived.Laws.BytesString
import Derived.Laws.Build
import Derived.Laws.OwnMore
import Derived.Laws.MakeOwn
import Derived.Laws.CopyOwn
import Derived.Laws.BytesArg
import Derived.KernelRfl
namespace Go.Proofs.YtcpniokopahakaaDoor.Eng
open Go

/-! ## Frames as lists; every value is brought to its form before it is stored. -/
def gt : List Value → Nat → Value
  | [], _ => undef
  | v :: _, 0 => v
  | _ :: r, n + 1 => gt r n
/- The recursions are written out by their recursors, so that the kernel and the elaborator come to the same forms. -/
def gtK (l : List Value) : Nat → (Value → Prop) → Prop :=
  List.rec (motive := fun _ => Nat → (Value → Prop) → Prop) (fun _ k => k undef) (fun v _ ih n k => Nat.rec (motive := fun _ => Prop) (k v) (fun m _ => ih m k) n) l
theorem gtK_nil (n : Nat) (k : Value → Prop) : gtK [] n k = k undef := rfl
theorem gtK_zero (v : Value) (r : List Value) (k : Value → Prop) : gtK (v :: r) 0 k = k v := rfl
theorem gtK_succ (v : Value) (r : List Value) (n : Nat) (k : Value → Prop) : gtK (v :: r) (n + 1) k = gtK r n k := rfl
def stK (l : List Value) : Nat → Value → (List Value → Prop) → Prop :=
  List.rec (motive := fun _ => Nat → Value → (List Value → Prop) → Prop) (fun _ _ k => k []) (fun x r ih n v k => Nat.rec (motive := fun _ => Prop) (k (v :: r)) (fun m _ => ih m v (fun r' => k (x :: r'))) n) l
theorem stK_nil (n : Nat) (v : Value) (k : List Value → Prop) : stK [] n v k = k [] := rfl
theorem stK_zero (x : Value) (r : List Value) (v : Value) (k : List Value → Prop) : stK (x :: r) 0 v k = k (v :: r) := rfl
theorem stK_succ (x : Value) (r : List Value) (n : Nat) (v : Value) (k : List Value → Prop) : stK (x :: r) (n + 1) v k = stK r n v (fun r' => k (x :: r')) := rfl
def ev (ρ : List Value) : Operand → Value
  | .tmp t => gt ρ t
  | .const v => v
  | .global g => .pointer (some ⟨g, 0, none⟩)
  | .func f => .func (.func f) #[] #[]
def evK (ρ : List Value) : Operand → (Value → Prop) → Prop
  | .tmp t, k => gtK ρ t k
  | .const v, k => k v
  | .global g, k => k (.pointer (some ⟨g, 0, none⟩))
  | .func f, k => k (.func (.func f) #[] #[])
def evsK (ρ : List Value) (l : List Operand) : (List Value → Prop) → Prop :=
  List.rec (motive := fun _ => (List Value → Prop) → Prop) (fun k => k []) (fun x _ ih k => evK ρ x fun v => ih fun vs => k (v :: vs)) l
theorem evsK_cons (ρ : List Value) (x : Operand) (r : List Operand) (k : List Value → Prop) : evsK ρ (x :: r) k = evK ρ x fun v => evsK ρ r fun vs => k (v :: vs) := rfl
def putK (ρ : List Value) (d : Option Nat) (v : Value) (k : List Value → Prop) : Prop :=
  match d with
  | none => k ρ
  | some d => stK ρ d v k

theorem gtK_eq (ρ : List Value) (n : Nat) (k : Value → Prop) : gtK ρ n k = k (gt ρ n) := by
  induction ρ generalizing n with
  | nil => rfl
  | cons v r ih => cases n with
    | zero => rfl
    | succ n => exact ih n
theorem stK_eq (ρ : List Value) (n : Nat) (v : Value) (k : List Value → Prop) : stK ρ n v k = k (ρ.set n v) := by
  induction ρ generalizing n k with
  | nil => simp [stK_nil]
  | cons x r ih => cases n with
    | zero => rfl
    | succ n => simp [stK_succ, ih]
theorem evK_eq (ρ : List Value) (x : Operand) (k : Value → Prop) : evK ρ x k = k (ev ρ x) := by
  cases x <;> simp [evK, ev, gtK_eq]
theorem evsK_eq (ρ : List Value) (xs : List Operand) (k : List Value → Prop) : evsK ρ xs k = k (xs.map (ev ρ)) := by
  induction xs generalizing k with
  | nil => rfl
  | cons x r ih => simp [evsK_cons, evK_eq, ih]
def put (ρ : List Value) (d : Option Nat) (v : Value) : List Value :=
  match d with
  | none => ρ
  | some d => ρ.set d v
theorem putK_eq (ρ : List Value) (d : Option Nat) (v : Value) (k : List Value → Prop) : putK ρ d v k = k (put ρ d v) := by
  cases d <;> simp [putK, put, stK_eq]
theorem gt_eq (ρ : List Value) (n : Nat) : gt ρ n = ρ.toArray.getD n undef := by
  induction ρ generalizing n with
  | nil => simp [gt]
  | cons v r ih => cases n with
    | zero => simp [gt]
    | succ n => simp [gt, ih]
theorem ev_eq (ρ : List Value) : (⟨ρ.toArray, []⟩ : Act).eval = ev ρ := by
  funext x; cases x <;> simp [Act.eval, ev, gt_eq]
theorem put_eq (ρ : List Value) (d : Option Nat) (v : Value) : (⟨ρ.toArray, []⟩ : Act).put d v = ⟨(put ρ d v).toArray, []⟩ := by
  cases d <;> simp [Act.put, put]

/-! ## Bits -/
def vAnd (k : IntKind) (x y : Int) : Int := k.wrap (BitVec.ofInt k.bits x &&& BitVec.ofInt k.bits y).toNat
def vOr (k : IntKind) (x y : Int) : Int := k.wrap (BitVec.ofInt k.bits x ||| BitVec.ofInt k.bits y).toNat
def vXor (k : IntKind) (x y : Int) : Int := k.wrap (BitVec.ofInt k.bits x ^^^ BitVec.ofInt k.bits y).toNat
def vAndNot (k : IntKind) (x y : Int) : Int := k.wrap (BitVec.ofInt k.bits x &&& ~~~(BitVec.ofInt k.bits y)).toNat
def vShl (k : IntKind) (x y : Int) : Int := k.wrap (x * 2 ^ min y.toNat k.bits)
def vShr (k : IntKind) (x y : Int) : Int := x.fdiv (2 ^ min y.toNat k.bits)
def vWrap (k : IntKind) (x : Int) : Int := k.wrap x
def vQuo (k : IntKind) (x y : Int) : Int := k.wrap (x.tdiv y)
def vRem (x y : Int) : Int := x.tmod y
/- The tests are chosen, so that nobody, the kernel neither, looks into them. -/
theorem vLt_ex : ∃ f : Int → Int → Bool, ∀ x y, f x y = decide (x < y) := ⟨_, fun _ _ => rfl⟩
theorem vLe_ex : ∃ f : Int → Int → Bool, ∀ x y, f x y = decide (x ≤ y) := ⟨_, fun _ _ => rfl⟩
theorem vEq_ex : ∃ f : Int → Int → Bool, ∀ x y, f x y = (x == y) := ⟨_, fun _ _ => rfl⟩
theorem vNe_ex : ∃ f : Int → Int → Bool, ∀ x y, f x y = (x != y) := ⟨_, fun _ _ => rfl⟩
noncomputable def vLt : Int → Int → Bool := Classical.choose vLt_ex
noncomputable def vLe : Int → Int → Bool := Classical.choose vLe_ex
noncomputable def vEq : Int → Int → Bool := Classical.choose vEq_ex
noncomputable def vNe : Int → Int → Bool := Classical.choose vNe_ex
theorem vLt_def (x y : Int) : vLt x y = decide (x < y) := Classical.choose_spec vLt_ex x y
theorem vLe_def (x y : Int) : vLe x y = decide (x ≤ y) := Classical.choose_spec vLe_ex x y
theorem vEq_def (x y : Int) : vEq x y = (x == y) := Classical.choose_spec vEq_ex x y
theorem vNe_def (x y : Int) : vNe x y = (x != y) := Classical.choose_spec vNe_ex x y
attribute [irreducible] vAnd vOr vXor vAndNot vShl vShr vWrap vQuo vRem vLt vLe vEq vNe
def kEq : IntKind → IntKind → Bool
  | .i8, .i8 | .i16, .i16 | .i32, .i32 | .i64, .i64 | .u8, .u8 | .u16, .u16 | .u32, .u32 | .u64, .u64 => true
  | _, _ => false
theorem kEq_eq {k k' : IntKind} (h : kEq k k' = true) : k = k' := by cases k <;> cases k' <;> first | rfl | cases h

/-! ## What is asked at an operation that simp could not run -/
/-- An operation that the plain rules do not run: it yields v and leaves w'. -/
inductive RunP (P : Program) (m : Sem Value) (w : World) (K : Value → World → Prop) : Prop
  | mk (v : Value) (w' : World) (h : m.run P w = .ok v w') (k : K v w')
inductive DoP (P : Program) (m : Sem Unit) (w : World) (K : World → Prop) : Prop
  | mk (w' : World) (h : m.run P w = .ok () w') (k : K w')
/-- A call of function f is entered, and hands back a value. -/
structure Fc (P : Program) (f : FuncId) (args : Array Value) (w : World) (R : Value → World → Prop) : Prop where
  entered : (callFunc f args).run P w = .ok (.enter f args) w
  calls : Calls P f args w fun e w' => ∃ v, e = .returned v ∧ R v w'
inductive CallP (P : Program) (f : FuncId) (args : Array Value) (w : World) (K : Value → World → Prop) : Prop
  | mk (h : Fc P f args w K)
inductive MethP (P : Program) (recv : Value) (name : String) (args : Array Value) (w : World) (K : Value → World → Prop) : Prop
  | mk (f : FuncId) (r : Value) (w1 : World) (t : TypeId) (v : Value) (hr : recv = .iface t v)
      (hm : (method (P.types.size + Made.depth) t v name).run P w = .ok (f, r) w1) (h : Fc P f (#[r] ++ args) w1 K)
def boolK (b : Bool) (k : Bool → Prop) : Prop := match b with
  | true => k true
  | false => k false
theorem boolK_eq (b : Bool) (k : Bool → Prop) : boolK b k = k b := by cases b <;> rfl
theorem br {b : Bool} {X Y : Prop} (t : b = true → X) (f : b = false → Y) : boolK.match_1 (fun _ => Prop) b (fun _ => X) (fun _ => Y) := by
  cases b
  · exact f rfl
  · exact t rfl
theorem br_t {b : Bool} {X Y : Prop} (h : b = true) (t : X) : boolK.match_1 (fun _ => Prop) b (fun _ => X) (fun _ => Y) := by subst h; exact t
theorem br_f {b : Bool} {X Y : Prop} (h : b = false) (f : Y) : boolK.match_1 (fun _ => Prop) b (fun _ => X) (fun _ => Y) := by subst h; exact f
inductive DivP (b : Int) (K : Prop) : Prop
  | mk (h : b ≠ 0) (k : K)
inductive ShiftP (b : Int) (K : Prop) : Prop
  | mk (h : 0 ≤ b) (k : K)

/-- A number that may be brought to another form before it is stored. -/
inductive EqP (e : Int) (K : Int → Prop) : Prop
  | mk (m : Int) (h : e = m) (k : K m)
theorem EqP.keep {e : Int} {K : Int → Prop} (k : K e) : EqP e K := ⟨e, rfl, k⟩
theorem EqP.imp {e : Int} {K K' : Int → Prop} (h : EqP e K) (hk : ∀ m, K m → K' m) : EqP e K' := by obtain ⟨m, e, k⟩ := h; exact ⟨m, e, hk _ k⟩

def intBin (op : BinOp) (k : IntKind) (a b : Int) (K : Value → Prop) : Prop :=
  match op with
  | .add => EqP (vWrap k (a + b)) fun n => K (.int k n)
  | .sub => EqP (vWrap k (a - b)) fun n => K (.int k n)
  | .mul => EqP (vWrap k (a * b)) fun n => K (.int k n)
  | .quo => DivP b (EqP (vQuo k a b) fun n => K (.int k n))
  | .rem => DivP b (EqP (vRem a b) fun n => K (.int k n))
  | .and => EqP (vAnd k a b) fun n => K (.int k n)
  | .or => EqP (vOr k a b) fun n => K (.int k n)
  | .xor => EqP (vXor k a b) fun n => K (.int k n)
  | .andNot => EqP (vAndNot k a b) fun n => K (.int k n)
  | .eql => K (.bool (vEq a b))
  | .neq => K (.bool (vNe a b))
  | .lss => K (.bool (vLt a b))
  | .leq => K (.bool (vLe a b))
  | .gtr => K (.bool (vLt b a))
  | .geq => K (.bool (vLe b a))
  | _ => False

def binK (P : Program) (op : BinOp) (t : TypeId) (x y : Operand) (a b : Value) (w : World) (K : Value → World → Prop) : Prop :=
  match a with
  | .int k a => match b with
    | .int k' b => match op with
      | .shl => ShiftP b (EqP (vShl k a b) fun n => K (.int k n) w)
      | .shr => ShiftP b (EqP (vShr k a b) fun n => K (.int k n) w)
      | op => match kEq k k' with
        | true => intBin op k a b fun v => K v w
        | false => False
    | b => RunP P (do eqGuard op t x y (.int k a) b; binOp op t (.int k a) b) w K
  | a => RunP P (do eqGuard op t x y a b; binOp op t a b) w K

def appK (l : List Value) : List Value → (List Value → Prop) → Prop :=
  List.rec (motive := fun _ => List Value → (List Value → Prop) → Prop) (fun ys k => k ys) (fun x _ ih ys k => ih ys fun zs => k (x :: zs)) l
theorem appK_cons (x : Value) (xs ys : List Value) (k : List Value → Prop) : appK (x :: xs) ys k = appK xs ys fun zs => k (x :: zs) := rfl
theorem appK_eq (xs ys : List Value) (k : List Value → Prop) : appK xs ys k = k (xs ++ ys) := by
  induction xs generalizing k with
  | nil => rfl
  | cons x xs ih => simp [appK_cons, ih]
def calleeK (P : Program) (f : Value) (args : List Value) (w : World) (K : Value → World → Prop) : Prop :=
  match f with
  | .func fn first captured => match fn with
    | .func id => appK args captured.toList fun a => appK first.toList a fun a => CallP P id a.toArray w K
    | _ => False
  | _ => False
def nthK (l : List Value) : Nat → (Value → Prop) → Prop :=
  List.rec (motive := fun _ => Nat → (Value → Prop) → Prop) (fun _ _ => False) (fun v _ ih n k => Nat.rec (motive := fun _ => Prop) (k v) (fun m _ => ih m k) n) l
theorem nthK_eq {l : List Value} {n : Nat} {k : Value → Prop} (h : nthK l n k) : ∃ v, l[n]? = some v ∧ k v := by
  induction l generalizing n with
  | nil => exact h.elim
  | cons x r ih => cases n with
    | zero => exact ⟨x, rfl, h⟩
    | succ n => simpa using ih (n := n) h
theorem nthK_imp {l : List Value} {n : Nat} {k k' : Value → Prop} (h : nthK l n k) (hk : ∀ v, k v → k' v) : nthK l n k' := by
  induction l generalizing n with
  | nil => exact h.elim
  | cons x r ih => cases n with
    | zero => exact hk _ h
    | succ n => exact ih (n := n) h

def unK (P : Program) (op : UnOp) (a : Value) (w : World) (K : Value → World → Prop) : Prop :=
  match op with
  | .not => match a with
    | .bool b => K (.bool (!b)) w
    | _ => False
  | .neg => match a with
    | .int k n => EqP (vWrap k (0 - n)) fun m => K (.int k m) w
    | _ => False
  | op => RunP P (Op.unary op a) w K

def convK (P : Program) (src dst : TypeId) (a : Value) (w : World) (K : Value → World → Prop) : Prop :=
  RunP P (convert src dst a) w K

def nilK (v : Value) (w : World) (K : Value → World → Prop) : Prop :=
  match v with
  | .pointer p => match p with
    | some a => K (.pointer (some a)) w
    | none => False
  | .func fn a b => match fn with
    | .func f => K (.func (.func f) a b) w
    | _ => False
  | .iface t x => K (.iface t x) w
  | _ => False

def pairsK (ρ : List Value) (l : List (Nat × Operand)) : (List (Nat × Value) → Prop) → Prop :=
  List.rec (motive := fun _ => (List (Nat × Value) → Prop) → Prop) (fun k => k []) (fun p _ ih k => match p with
    | (i, x) => evK ρ x fun v => ih fun vs => k ((i, v) :: vs)) l
theorem pairsK_cons (ρ : List Value) (i : Nat) (x : Operand) (r : List (Nat × Operand)) (k : List (Nat × Value) → Prop) : pairsK ρ ((i, x) :: r) k = evK ρ x fun v => pairsK ρ r fun vs => k ((i, v) :: vs) := rfl
theorem pairsK_eq (ρ : List Value) (xs : List (Nat × Operand)) (k : List (Nat × Value) → Prop) :
    pairsK ρ xs k = k (xs.map fun (i, x) => (i, ev ρ x)) := by
  induction xs generalizing k with
  | nil => rfl
  | cons x r ih => obtain ⟨i, x⟩ := x; simp [pairsK_cons, evK_eq, ih]
def optK (ρ : List Value) : Option Operand → (Option Value → Prop) → Prop
  | none, k => k none
  | some x, k => evK ρ x fun v => k (some v)
theorem optK_eq (ρ : List Value) (x : Option Operand) (k : Option Value → Prop) : optK ρ x k = k (x.map (ev ρ)) := by
  cases x <;> simp [optK, evK_eq]

def tupK (v : Value) (i : Nat) (w : World) (K : Value → World → Prop) : Prop :=
  match v with
  | .tuple vs => nthK vs.toList i fun v => K v w
  | _ => False

def opK (P : Program) (o : Oper) (ρ : List Value) (w : World) (K : Value → World → Prop) : Prop :=
  match o.op with
  | .move x => evK ρ x fun v => K v w
  | .assign x => evK ρ x fun v => K v w
  | .pick c a b => evK ρ c fun c => match c with
    | .bool c => boolK c fun c => match c with
      | true => evK ρ a fun v => K v w
      | false => evK ρ b fun v => K v w
    | _ => False
  | .alloc t => RunP P (Instr.alloc t true (.tuple #[])) w K
  | .box t x => evK ρ x fun v => RunP P (Instr.box t v) w K
  | .build t parts => pairsK ρ parts.toList fun vs => RunP P (Instr.build t vs.toArray) w K
  | .buildSlice t n parts => pairsK ρ parts.toList fun vs => RunP P (Instr.buildSlice t n vs.toArray) w K
  | .load t x => evK ρ x fun a => RunP P (Instr.loadAt t a) w K
  | .store t x y => evK ρ x fun a => evK ρ y fun v => DoP P (Instr.storeAt t a v) w (K undef)
  | .nilCheck x => evK ρ x fun v => nilK v w K
  | .binOp op t x y _ => evK ρ x fun a => evK ρ y fun b => binK P op t x y a b w K
  | .unOp op _ x => evK ρ x fun a => unK P op a w K
  | .convert s d x => evK ρ x fun a => convK P s d a w K
  | .makeInterface t x => evK ρ x fun a => RunP P (Instr.makeInterface t a) w K
  | .makeFunc fn first captured => evsK ρ first.toList fun fs => evsK ρ captured.toList fun cs => K (.func fn fs.toArray cs.toArray) w
  | .makeSlice t l c => evK ρ l fun l => evK ρ c fun c => RunP P (Instr.makeSlice t l c) w K
  | .slice t x lo hi mx => evK ρ x fun a => optK ρ lo fun lo => optK ρ hi fun hi => optK ρ mx fun mx => RunP P (Instr.sliceAt t a lo hi mx) w K
  | .fieldAddr t x f => evK ρ x fun a => RunP P (Instr.fieldAt t a f) w K
  | .field t x f => evK ρ x fun a => RunP P (Instr.field t a f) w K
  | .indexAddr t x i => evK ρ x fun a => evK ρ i fun i => RunP P (Instr.indexAt t a i) w K
  | .index t x i => evK ρ x fun a => evK ρ i fun i => RunP P (Instr.index t a i) w K
  | .extract x i => evK ρ x fun v => tupK v i w K
  | .typeAssert x t u ok => evK ρ x fun a => RunP P (Instr.typeAssert a t u ok) w K
  | .call c => match c.callee with
    | .value f => evK ρ f fun f => evsK ρ c.args.toList fun vs => calleeK P f vs w K
    | .builtin .append => evsK ρ c.args.toList fun vs => RunP P (Builtin.append_ c.argTypes o.type vs.toArray) w K
    | .builtin .len => evsK ρ c.args.toList fun vs => RunP P (Builtin.len_ c.argTypes o.type vs.toArray) w K
    | .builtin .copy => evsK ρ c.args.toList fun vs => RunP P (Builtin.copy_ c.argTypes o.type vs.toArray) w K
    | .builtin .max => evsK ρ c.args.toList fun vs => RunP P (Builtin.max_ c.argTypes o.type vs.toArray) w K
    | .builtin .min => evsK ρ c.args.toList fun vs => RunP P (Builtin.min_ c.argTypes o.type vs.toArray) w K
    | .builtin .cap => evsK ρ c.args.toList fun vs => RunP P (Builtin.cap_ c.argTypes o.type vs.toArray) w K
    | .builtin .clear => evsK ρ c.args.toList fun vs => RunP P (Builtin.clear_ c.argTypes o.type vs.toArray) w K
    | .builtin .delete => evsK ρ c.args.toList fun vs => RunP P (Builtin.delete_ c.argTypes o.type vs.toArray) w K
    | .invoke r name => evK ρ r fun r => evsK ρ c.args.toList fun vs => MethP P r name vs.toArray w K
    | _ => False
  | .makeMap t r => optK ρ r fun r => RunP P (Instr.makeMap t r) w K
  | .lookup t x i ok => evK ρ x fun a => evK ρ i fun i => RunP P (Instr.lookup t a i ok) w K
  | .mapUpdate t m k x => evK ρ m fun m => evK ρ k fun k => evK ρ x fun x => DoP P (Instr.mapUpdate t m k x) w (K undef)
  | .range t x => evK ρ x fun a => RunP P (Instr.range t a) w K
  | .next it st => evK ρ it fun a => RunP P (Instr.next a st o.type) w K
  | .entry it => evK ρ it fun a => RunP P (Instr.entry a) w K
  | _ => False

/-! ## Soundness of one operation -/
theorem RunP.imp {P : Program} {m : Sem Value} {w : World} {K K' : Value → World → Prop} (h : RunP P m w K) (hk : ∀ v w', K v w' → K' v w') : RunP P m w K' := by
  obtain ⟨v, w', h, k⟩ := h; exact ⟨v, w', h, hk _ _ k⟩
theorem DoP.imp {P : Program} {m : Sem Unit} {w : World} {K K' : World → Prop} (h : DoP P m w K) (hk : ∀ w', K w' → K' w') : DoP P m w K' := by
  obtain ⟨w', h, k⟩ := h; exact ⟨w', h, hk _ k⟩
theorem Fc.imp {P : Program} {f : FuncId} {args : Array Value} {w : World} {R R' : Value → World → Prop} (h : Fc P f args w R) (hk : ∀ v w', R v w' → R' v w') : Fc P f args w R' :=
  ⟨h.entered, h.calls.mono fun _ _ ⟨v, he, hr⟩ => ⟨v, he, hk _ _ hr⟩⟩
theorem CallP.imp {P : Program} {f : FuncId} {args : Array Value} {w : World} {R R' : Value → World → Prop} (h : CallP P f args w R) (hk : ∀ v w', R v w' → R' v w') : CallP P f args w R' := by
  obtain ⟨h⟩ := h; exact ⟨h.imp hk⟩
theorem MethP.imp {P : Program} {r : Value} {n : String} {args : Array Value} {w : World} {R R' : Value → World → Prop} (h : MethP P r n args w R) (hk : ∀ v w', R v w' → R' v w') : MethP P r n args w R' := by
  obtain ⟨f, r, w1, t, v, hr, hm, h⟩ := h; exact ⟨f, r, w1, t, v, hr, hm, h.imp hk⟩
theorem intBin_imp {op : BinOp} {k : IntKind} {a b : Int} {K K' : Value → Prop} (h : intBin op k a b K) (hk : ∀ v, K v → K' v) : intBin op k a b K' := by
  cases op <;> simp only [intBin] at h ⊢ <;> first | exact hk _ h | exact h.imp fun m => hk _ | (obtain ⟨h, k⟩ := h; exact ⟨h, k.imp fun m => hk _⟩) | exact h
theorem binK_imp {P : Program} {op : BinOp} {t : TypeId} {x y : Operand} {a b : Value} {w : World} {K K' : Value → World → Prop}
    (h : binK P op t x y a b w K) (hk : ∀ v w', K v w' → K' v w') : binK P op t x y a b w K' := by
  unfold binK at h ⊢
  split at h
  · split at h
    · split at h
      · obtain ⟨h, k⟩ := h; exact ⟨h, k.imp fun m => hk _ _⟩
      · obtain ⟨h, k⟩ := h; exact ⟨h, k.imp fun m => hk _ _⟩
      · split at h
        · exact intBin_imp h fun v => hk v w
        · exact h
    · exact h.imp hk
  · exact h.imp hk
theorem unK_imp {P : Program} {op : UnOp} {a : Value} {w : World} {K K' : Value → World → Prop}
    (h : unK P op a w K) (hk : ∀ v w', K v w' → K' v w') : unK P op a w K' := by
  unfold unK at h ⊢
  split at h
  · split at h
    · exact hk _ _ h
    · exact h
  · split at h
    · exact h.imp fun m => hk _ _
    · exact h
  · exact h.imp hk
theorem nilK_imp {a : Value} {w : World} {K K' : Value → World → Prop}
    (h : nilK a w K) (hk : ∀ v w', K v w' → K' v w') : nilK a w K' := by
  unfold nilK at h ⊢
  split at h
  · split at h
    · exact hk _ _ h
    · exact h
  · split at h
    · exact hk _ _ h
    · exact h
  · exact hk _ _ h
  · exact h
theorem tupK_imp {a : Value} {i : Nat} {w : World} {K K' : Value → World → Prop}
    (h : tupK a i w K) (hk : ∀ v w', K v w' → K' v w') : tupK a i w K' := by
  unfold tupK at h ⊢
  split at h
  · exact nthK_imp h fun v => hk v w
  · exact h
theorem calleeK_imp {P : Program} {f : Value} {vs : List Value} {w : World} {K K' : Value → World → Prop}
    (h : calleeK P f vs w K) (hk : ∀ v w', K v w' → K' v w') : calleeK P f vs w K' := by
  unfold calleeK at h ⊢
  simp only [appK_eq] at h ⊢
  split at h
  · split at h
    · exact h.imp hk
    · exact h
  · exact h
theorem opK_imp {P : Program} {o : Oper} {ρ : List Value} {w : World} {K K' : Value → World → Prop}
    (h : opK P o ρ w K) (hk : ∀ v w', K v w' → K' v w') : opK P o ρ w K' := by
  unfold opK at h ⊢
  simp only [evK_eq, evsK_eq, pairsK_eq, optK_eq, boolK_eq] at h ⊢
  split at h <;> first
    | exact h.imp hk
    | exact hk _ _ h
    | exact binK_imp h hk
    | exact unK_imp h hk
    | exact RunP.imp h hk
    | exact nilK_imp h hk
    | exact tupK_imp h hk
    | exact h.imp fun w' => hk _ w'
    | exact h
    | (split at h <;> first | exact calleeK_imp h hk | exact RunP.imp h hk | exact MethP.imp h hk | exact h | (split at h <;> exact hk _ _ h))

theorem upon_run {P : Program} {o : Oper} {a : Act} {m : Sem Value} {w : World} {next : Act → World → Prop} {Q : Exit → Act → World → Prop}
    (he : execOp a.eval o = (do pure (.value (← m)))) (h : RunP P m w fun v w' => next (a.put o.dst v) w') : o.wp P a w next Q := by
  obtain ⟨v, w', hm, k⟩ := h
  simp only [Oper.wp, he, Sem.run_bind, hm, Result.andThen_ok, Sem.run_pure, Oper.upon]
  exact k
theorem upon_val {P : Program} {o : Oper} {a : Act} {v : Value} {w w' : World} {next : Act → World → Prop} {Q : Exit → Act → World → Prop}
    (he : (execOp a.eval o).run P w = .ok (.value v) w') (h : next (a.put o.dst v) w') : o.wp P a w next Q := by
  simp only [Oper.wp, he, Oper.upon]
  exact h
theorem upon_call {P : Program} {o : Oper} {a : Act} {f : FuncId} {args : Array Value} {w : World} {next : Act → World → Prop} {Q : Exit → Act → World → Prop}
    (he : (execOp a.eval o).run P w = (callFunc f args).run P w) (h : Fc P f args w fun v w' => next (a.put o.dst v) w') : o.wp P a w next Q := by
  obtain ⟨h1, h2⟩ := h
  simp only [Oper.wp, he, h1, Oper.upon]
  refine h2.mono ?_
  rintro e w' ⟨v, rfl, hr⟩
  exact hr
theorem intBin_sound {P : Program} {op : BinOp} {k : IntKind} {t : TypeId} {x y : Operand} {a b : Int} {w : World} {K : Value → Prop} (hop1 : op ≠ .shl) (hop2 : op ≠ .shr)
    (h : intBin op k a b K) : RunP P (do eqGuard op t x y (.int k a) (.int k b); binOp op t (.int k a) (.int k b)) w fun v w' => w' = w ∧ K v := by
  have hg : (eqGuard op t x y (.int k a) (.int k b)).run P w = .ok () w := by
    unfold eqGuard; split <;> rfl
  cases op <;> simp only [intBin] at h <;> first
    | (obtain ⟨hb, _, rfl, h⟩ := h; refine ⟨_, w, ?_, rfl, h⟩; simp only [Sem.run_bind, hg, Result.andThen_ok]; simp [binOp, Op.intDiv, hb, vQuo, vRem])
    | (obtain ⟨_, rfl, h⟩ := h; refine ⟨_, w, ?_, rfl, h⟩; simp only [Sem.run_bind, hg, Result.andThen_ok]; simp [binOp, Op.intArith, Op.intBits, Op.intCmp, vWrap, vAnd, vOr, vXor, vAndNot, vEq_def, vNe_def, vLt_def, vLe_def])
    | (refine ⟨_, w, ?_, rfl, h⟩; simp only [Sem.run_bind, hg, Result.andThen_ok]; simp [binOp, Op.intArith, Op.intBits, Op.intCmp, vWrap, vAnd, vOr, vXor, vAndNot, vEq_def, vNe_def, vLt_def, vLe_def])
    | contradiction
    | exact h.elim
theorem binK_sound {P : Program} {op : BinOp} {t : TypeId} {x y : Operand} {a b : Value} {w : World} {K : Value → World → Prop}
    (h : binK P op t x y a b w K) : RunP P (do eqGuard op t x y a b; binOp op t a b) w K := by
  unfold binK at h
  split at h
  · split at h
    · split at h
      · obtain ⟨hb, _, rfl, h⟩ := h
        refine ⟨_, w, ?_, h⟩
        simp only [eqGuard, Sem.run_bind]; simp [binOp, Op.shift, vShl, Int.not_lt.2 hb]
      · obtain ⟨hb, _, rfl, h⟩ := h
        refine ⟨_, w, ?_, h⟩
        simp only [eqGuard, Sem.run_bind]; simp [binOp, Op.shift, vShr, Int.not_lt.2 hb]
      · rename_i hk1 hk2
        split at h
        · rename_i hk
          obtain rfl := kEq_eq hk
          exact (intBin_sound (fun e => hk1 e) (fun e => hk2 e) h).imp fun v w' ⟨e, k⟩ => e ▸ k
        · exact h.elim
    · exact h
  · exact h
theorem opK_sound {P : Program} {o : Oper} {ρ : List Value} {w : World} {K : Value → World → Prop} {next : Act → World → Prop} {Q : Exit → Act → World → Prop}
    (h : opK P o ρ w K) (hn : ∀ v w', K v w' → next ((⟨ρ.toArray, []⟩ : Act).put o.dst v) w') : o.wp P ⟨ρ.toArray, []⟩ w next Q := by
  have h := opK_imp h hn
  clear hn
  unfold opK at h
  simp only [evK_eq, evsK_eq, pairsK_eq, optK_eq, boolK_eq] at h
  split at h
  case h_1 x ho => exact upon_val (v := ev ρ x) (w' := w) (by rw [ev_eq]; unfold execOp; rw [ho]; rfl) h
  case h_2 x ho => exact upon_val (v := ev ρ x) (w' := w) (by rw [ev_eq]; unfold execOp; rw [ho]; rfl) h
  case h_3 c a b ho =>
    split at h
    · rename_i cb hc
      split at h
      · exact upon_val (v := ev ρ a) (w' := w) (by rw [ev_eq]; unfold execOp; rw [ho]; simp [hc, asBool]) h
      · exact upon_val (v := ev ρ b) (w' := w) (by rw [ev_eq]; unfold execOp; rw [ho]; simp [hc, asBool]) h
    · exact h.elim
  case h_4 t ho => exact upon_run (by unfold execOp; rw [ho]) h
  case h_5 t x ho => exact upon_run (by rw [ev_eq]; unfold execOp; rw [ho]) h
  case h_6 t ps ho =>
    refine upon_run (m := Instr.build t ((ps.toList.map fun (i, x) => (i, ev ρ x)).toArray)) (by rw [ev_eq]; unfold execOp; rw [ho]; simp [← Array.toList_map]) h
  case h_7 t n ps ho =>
    refine upon_run (m := Instr.buildSlice t n ((ps.toList.map fun (i, x) => (i, ev ρ x)).toArray)) (by rw [ev_eq]; unfold execOp; rw [ho]; simp [← Array.toList_map]) h
  case h_8 t x ho => exact upon_run (by rw [ev_eq]; unfold execOp; rw [ho]) h
  case h_9 t x y ho =>
    obtain ⟨w', hm, k⟩ := h
    have he : (execOp (⟨ρ.toArray, []⟩ : Act).eval o).run P w = .ok .skip w' := by
      rw [ev_eq]; unfold execOp; rw [ho]; simp only [Sem.run_bind, hm, Result.andThen_ok, Sem.run_pure]
    simp only [Oper.wp, he, Oper.upon]
    exact k
  case h_10 x ho =>
    have he : ∀ u, nilK (ev ρ x) w u → ∃ v, (execOp (ev ρ) o).run P w = .ok (.value v) w ∧ u v w := by
      intro u hu
      unfold nilK at hu
      unfold execOp
      rw [ho]
      simp only
      split at hu
      · rename_i p hp
        split at hu
        · exact ⟨_, by rw [hp]; rfl, hu⟩
        · exact hu.elim
      · rename_i fn a b hp
        split at hu
        · exact ⟨_, by rw [hp]; rfl, hu⟩
        · exact hu.elim
      · rename_i t v hp
        exact ⟨_, by rw [hp]; rfl, hu⟩
      · exact hu.elim
    obtain ⟨v, h1, h2⟩ := he _ h
    exact upon_val (by rw [ev_eq]; exact h1) h2
  case h_11 op t x y yt ho => exact upon_run (by rw [ev_eq]; unfold execOp; rw [ho]) (binK_sound h)
  case h_12 op t x ho =>
    unfold unK at h
    split at h
    · split at h
      · rename_i b hb
        refine upon_val (v := .bool (!b)) (w' := w) ?_ h
        rw [ev_eq]; unfold execOp; rw [ho]; simp [hb, Op.unary]
      · exact h.elim
    · split at h
      · rename_i k n hb
        obtain ⟨_, rfl, h⟩ := h
        refine upon_val (v := .int k (vWrap k (0 - n))) (w' := w) ?_ h
        rw [ev_eq]; unfold execOp; rw [ho]; simp [hb, Op.unary, Op.intArith, vWrap]
      · exact h.elim
    · exact upon_run (by rw [ev_eq]; unfold execOp; rw [ho]) h
  case h_13 s d x ho => exact upon_run (by rw [ev_eq]; unfold execOp; rw [ho]) h
  case h_14 t x ho => exact upon_run (by rw [ev_eq]; unfold execOp; rw [ho]) h
  case h_15 fn fs cs ho =>
    refine upon_val (w' := w) ?_ h
    rw [ev_eq]; unfold execOp; rw [ho]; simp [Instr.makeFunc, ← Array.toList_map]
  case h_16 t l c ho => exact upon_run (by rw [ev_eq]; unfold execOp; rw [ho]) h
  case h_17 t x lo hi mx ho => exact upon_run (by rw [ev_eq]; unfold execOp; rw [ho]) h
  case h_18 t x f ho => exact upon_run (by rw [ev_eq]; unfold execOp; rw [ho]) h
  case h_19 t x f ho => exact upon_run (by rw [ev_eq]; unfold execOp; rw [ho]) h
  case h_20 t x i ho => exact upon_run (by rw [ev_eq]; unfold execOp; rw [ho]) h
  case h_21 t x i ho => exact upon_run (by rw [ev_eq]; unfold execOp; rw [ho]) h
  case h_22 x i ho =>
    unfold tupK at h
    split at h
    · rename_i vs hv
      obtain ⟨u, hu, h⟩ := nthK_eq h
      refine upon_val (v := u) (w' := w) ?_ h
      rw [ev_eq]; unfold execOp; rw [ho]
      simp only [Array.getElem?_toList] at hu
      simp [hv, Instr.extract, hu]
    · exact h.elim
  case h_23 x t u ok ho => exact upon_run (by rw [ev_eq]; unfold execOp; rw [ho]) h
  case h_24 c ho =>
    have hargs : ∀ (xs : Array Operand), (xs.toList.map (ev ρ)).toArray = xs.map (ev ρ) := fun xs => by simp [← Array.toList_map]
    split at h
    · rename_i f hf
      unfold calleeK at h
      simp only [appK_eq] at h
      split at h
      · rename_i fn fst cap hv
        split at h
        · rename_i id
          obtain ⟨h⟩ := h
          refine upon_call (f := id) ?_ h
          have he : (fst.toList ++ (List.map (ev ρ) c.args.toList ++ cap.toList)).toArray = fst ++ Array.map (ev ρ) c.args ++ cap := by
            apply Array.ext'; simp
          rw [ev_eq]; unfold execOp; rw [ho]
          simp only [resolve, hf, hv, Deferred.ofValue, Sem.run_bind, Sem.run_pure, Result.andThen_ok, invoke, he]
        · exact h.elim
      · exact h.elim
    · rename_i hc
      refine upon_run (m := Builtin.append_ c.argTypes o.type (c.args.map (ev ρ))) ?_ (by rw [← hargs]; exact h)
      rw [ev_eq]; unfold execOp; rw [ho]; simp only [resolve, hc, pure_bind, invoke, builtin]
    · rename_i hc
      refine upon_run (m := Builtin.len_ c.argTypes o.type (c.args.map (ev ρ))) ?_ (by rw [← hargs]; exact h)
      rw [ev_eq]; unfold execOp; rw [ho]; simp only [resolve, hc, pure_bind, invoke, builtin]
    · rename_i hc
      refine upon_run (m := Builtin.copy_ c.argTypes o.type (c.args.map (ev ρ))) ?_ (by rw [← hargs]; exact h)
      rw [ev_eq]; unfold execOp; rw [ho]; simp only [resolve, hc, pure_bind, invoke, builtin]
    · rename_i hc
      refine upon_run (m := Builtin.max_ c.argTypes o.type (c.args.map (ev ρ))) ?_ (by rw [← hargs]; exact h)
      rw [ev_eq]; unfold execOp; rw [ho]; simp only [resolve, hc, pure_bind, invoke, builtin]
    · rename_i hc
      refine upon_run (m := Builtin.min_ c.argTypes o.type (c.args.map (ev ρ))) ?_ (by rw [← hargs]; exact h)
      rw [ev_eq]; unfold execOp; rw [ho]; simp only [resolve, hc, pure_bind, invoke, builtin]
    · rename_i hc
      refine upon_run (m := Builtin.cap_ c.argTypes o.type (c.args.map (ev ρ))) ?_ (by rw [← hargs]; exact h)
      rw [ev_eq]; unfold execOp; rw [ho]; simp only [resolve, hc, pure_bind, invoke, builtin]
    · rename_i hc
      refine upon_run (m := Builtin.clear_ c.argTypes o.type (c.args.map (ev ρ))) ?_ (by rw [← hargs]; exact h)
      rw [ev_eq]; unfold execOp; rw [ho]; simp only [resolve, hc, pure_bind, invoke, builtin]
    · rename_i hc
      refine upon_run (m := Builtin.delete_ c.argTypes o.type (c.args.map (ev ρ))) ?_ (by rw [← hargs]; exact h)
      rw [ev_eq]; unfold execOp; rw [ho]; simp only [resolve, hc, pure_bind, invoke, builtin]
    · rename_i r name hc
      obtain ⟨f, rv, w1, t, v, hr, hm, h⟩ := h
      obtain ⟨h1, h2⟩ := h
      have he : (execOp (⟨ρ.toArray, []⟩ : Act).eval o).run P w = .ok (.enter f (#[rv] ++ (c.args.toList.map (ev ρ)).toArray)) w1 := by
        rw [ev_eq]; unfold execOp; rw [ho]
        simp only [resolve, hc, pure_bind, invoke, hr]
        have e1 : (#[Value.iface t v] ++ Array.map (ev ρ) c.args)[0]? = some (.iface t v) := by
          rw [Array.getElem?_append_left (Nat.zero_lt_one)]; rfl
        have e2 : (#[Value.iface t v] ++ Array.map (ev ρ) c.args).extract 1 (#[Value.iface t v] ++ Array.map (ev ρ) c.args).size = Array.map (ev ρ) c.args := by
          apply Array.ext'; simp [List.take_of_length_le]
        simp only [e1, e2, callMethod]
        have e3 : ∀ (k : FuncId × Value → Sem Next), (do let __do_lift ← program; let x ← method (__do_lift.types.size + Made.depth) t v name; k x : Sem Next).run P w = (k (f, rv)).run P w1 := by
          intro k
          show (method (P.types.size + Made.depth) t v name >>= fun x => k x).run P w = _
          rw [Sem.run_bind, hm]; rfl
        rw [hargs] at h1 ⊢
        exact (e3 _).trans h1
      simp only [Oper.wp, he, Oper.upon]
      refine h2.mono ?_
      rintro e w' ⟨v, rfl, hr⟩
      exact hr
    · exact h.elim
  case h_25 t r ho => exact upon_run (by rw [ev_eq]; unfold execOp; rw [ho]) h
  case h_26 t x i ok ho => exact upon_run (by rw [ev_eq]; unfold execOp; rw [ho]) h
  case h_27 t m k x ho =>
    obtain ⟨w', hm, k⟩ := h
    have he : (execOp (⟨ρ.toArray, []⟩ : Act).eval o).run P w = .ok .skip w' := by
      rw [ev_eq]; unfold execOp; rw [ho]; simp only [Sem.run_bind, hm, Result.andThen_ok, Sem.run_pure]
    simp only [Oper.wp, he, Oper.upon]
    exact k
  case h_28 t x ho => exact upon_run (by rw [ev_eq]; unfold execOp; rw [ho]) h
  case h_29 it st ho => exact upon_run (by rw [ev_eq]; unfold execOp; rw [ho]) h
  case h_30 it ho => exact upon_run (by rw [ev_eq]; unfold execOp; rw [ho]) h
  case h_31 => exact h.elim
/-! ## Code -/
/-- The value of a guard: 'none' where the operation has none. -/
def guardK (ops : List Oper) (g : Option (Nat × Bool)) (ρ : List Value) (k : Bool → List Value → Prop) : Prop :=
  match g with
  | none => k true ρ
  | some (j, want) => match ops[j]? with
    | none => False
    | some oj => match oj.dst with
      | none => False
      | some d => gtK ρ d fun v => match v with
        | .bool b => boolK b fun b => stK ρ d (.bool b) fun ρ => match b with
          | true => match want with
            | true => k true ρ
            | false => k false ρ
          | false => match want with
            | true => k false ρ
            | false => k true ρ
        | .tuple _ => k false ρ
        | _ => False
def opsK (P : Program) (ops : List Oper) (K : List Value → World → Prop) (l : List Oper) : List Value → World → Prop :=
  List.rec (motive := fun _ => List Value → World → Prop) K (fun o _ ih ρ w => guardK ops o.guard ρ fun b ρ => match b with
    | true => opK P o ρ w fun v w => putK ρ o.dst v fun ρ => ih ρ w
    | false => putK ρ o.dst undef fun ρ => ih ρ w) l
theorem opsK_nil (P : Program) (ops : List Oper) (K : List Value → World → Prop) (ρ : List Value) (w : World) : opsK P ops K [] ρ w = K ρ w := rfl
theorem opsK_cons (P : Program) (ops : List Oper) (K : List Value → World → Prop) (o : Oper) (r : List Oper) (ρ : List Value) (w : World) : opsK P ops K (o :: r) ρ w = guardK ops o.guard ρ fun b ρ => match b with
    | true => opK P o ρ w fun v w => putK ρ o.dst v fun ρ => opsK P ops K r ρ w
    | false => putK ρ o.dst undef fun ρ => opsK P ops K r ρ w := rfl
def thenK (next : List Value → World → Prop) (Q : Exit → List Value → World → Prop) (e : Exit) (ρ : List Value) (w : World) : Prop :=
  match e with
  | .normal => next ρ w
  | e => Q e ρ w
def blockK (id : Nat) (Q : Exit → List Value → World → Prop) (e : Exit) (ρ : List Value) (w : World) : Prop :=
  match e with
  | .exit id' => match id' == id with
    | true => Q .normal ρ w
    | false => Q (.exit id') ρ w
  | e => Q e ρ w
def noGotoK (Q : Exit → List Value → World → Prop) (e : Exit) (ρ : List Value) (w : World) : Prop :=
  match e with
  | .goto _ => False
  | e => Q e ρ w
/-- As Q; by a goto to label l: J. -/
def jumpK (l : Nat) (J : List Value → World → Prop) (Q : Exit → List Value → World → Prop) (e : Exit) (ρ : List Value) (w : World) : Prop :=
  match e with
  | .goto l' => l' = l ∧ J ρ w
  | e => Q e ρ w
/-- The meaning of a piece of code: what it must come to, from a frame and a world. -/
abbrev Mng := (Exit → List Value → World → Prop) → List Value → World → Prop
/-- A loop: a word that holds at each round's head, and a measure. -/
inductive LoopP (P : Program) (c : Code) (B : Mng) (Q : Exit → List Value → World → Prop) (ρ : List Value) (w : World) : Prop
  | mk (I : List Value → World → Prop) (μ : List Value → World → Nat) (h0 : I ρ w)
      (round : ∀ ρ w, I ρ w → B (thenK (fun ρ' w' => I ρ' w' ∧ μ ρ' w' < μ ρ w) Q) ρ w)
/-- A test of the text's own. -/
inductive CondP (P : Program) (x y : Code) (B C : Mng) (b : Bool) (Q : Exit → List Value → World → Prop) (ρ : List Value) (w : World) : Prop
  | mk (t : b = true → B Q ρ w) (f : b = false → C Q ρ w)
/-- A block that is left by its number. -/
inductive BlkP (P : Program) (c : Code) (B : Mng) (id : Nat) (Q : Exit → List Value → World → Prop) (ρ : List Value) (w : World) : Prop
  | mk (h : B (blockK id Q) ρ w)
theorem cT {P : Program} {x y : Code} {B C : Mng} {b : Bool} {Q : Exit → List Value → World → Prop} {ρ : List Value} {w : World} (h : b = true) (k : B Q ρ w) : CondP P x y B C b Q ρ w :=
  ⟨fun _ => k, fun e => (by rw [h] at e; cases e)⟩
theorem cF {P : Program} {x y : Code} {B C : Mng} {b : Bool} {Q : Exit → List Value → World → Prop} {ρ : List Value} {w : World} (h : b = false) (k : C Q ρ w) : CondP P x y B C b Q ρ w :=
  ⟨fun e => (by rw [h] at e; cases e), fun _ => k⟩
theorem cI {P : Program} {x y : Code} {B C : Mng} {b : Bool} {Q : Exit → List Value → World → Prop} {ρ : List Value} {w : World} (t : b = true → B Q ρ w) (f : b = false → C Q ρ w) : CondP P x y B C b Q ρ w := ⟨t, f⟩
theorem bk {P : Program} {c : Code} {B : Mng} {id : Nat} {Q : Exit → List Value → World → Prop} {ρ : List Value} {w : World} (h : B (blockK id Q) ρ w) : BlkP P c B id Q ρ w := ⟨h⟩
def opsDsts (ops : List Oper) : List Nat := ops.filterMap fun o => o.dst
def gDsts (ops : List Oper) : List Nat := ops.filterMap fun o => match o.guard with
  | some (j, _) => (ops[j]?).bind fun o => o.dst
  | none => none
def agree (ds : List Nat) (ρ ρ' : List Value) : Prop := ρ'.length = ρ.length ∧ ∀ i, i ∉ ds → ρ'[i]? = ρ[i]?
def dstsC : Code → List Nat
  | .seq x y => dstsC x ++ dstsC y
  | .cond _ x y => dstsC x ++ dstsC y
  | .block _ c => dstsC c
  | .loop c => dstsC c
  | .scope c => dstsC c
  | .region _ ops _ => opsDsts ops.toList
  | _ => []
theorem dstsC_label {l : Nat} : ∀ {c rest : Code}, findLabel c l = some rest → ∀ i, i ∈ dstsC rest → i ∈ dstsC c := by
  intro c
  induction c with
  | seq x y ihx ihy =>
    intro rest h i hi
    unfold findLabel at h
    cases hx : findLabel x l with
    | some r =>
      rw [hx] at h
      obtain rfl := Option.some.inj h
      rcases List.mem_append.1 hi with hi | hi
      · exact List.mem_append_left _ (ihx hx i hi)
      · exact List.mem_append_right _ hi
    | none => rw [hx] at h; exact List.mem_append_right _ (ihy h i hi)
  | label l' =>
    intro rest h i hi
    unfold findLabel at h
    split at h
    · obtain rfl := Option.some.inj h; cases hi
    · cases h
  | _ => intro rest h; simp [findLabel] at h
def lift (Q : Exit → List Value → World → Prop) (e : Exit) (a : Act) (w : World) : Prop := a.defers = [] ∧ Q e a.tmps.toList w
/-- A meaning that may be trusted of a piece of code. -/
structure Fine (P : Program) (c : Code) (M : Mng) : Prop where
  sound : ∀ {Q : Exit → List Value → World → Prop} {ρ : List Value} {w : World}, M Q ρ w → c.wp P (lift Q) ⟨ρ.toArray, []⟩ w
  imp : ∀ {Q Q' : Exit → List Value → World → Prop} {ρ : List Value} {w : World}, M Q ρ w → (∀ e ρ w, Q e ρ w → Q' e ρ w) → M Q' ρ w
  frame : ∀ {Q : Exit → List Value → World → Prop} {ρ : List Value} {w : World}, M Q ρ w → M (fun e ρ' w' => Q e ρ' w' ∧ agree (dstsC c) ρ ρ') ρ w
/-- A scope: no jump, or jumps to one label. -/
inductive ScopeP (P : Program) (c : Code) (B : Mng) (Q : Exit → List Value → World → Prop) (ρ : List Value) (w : World) : Prop
  | straight (h : B (noGotoK Q) ρ w)
  | jumps (l : Nat) (rest : Code) (M : Mng) (hM : Fine P rest M) (J : List Value → World → Prop) (μ : List Value → World → Nat) (hf : findLabel c l = some rest) (first : B (jumpK l J Q) ρ w)
      (pass : ∀ ρ w, J ρ w → M (jumpK l (fun ρ' w' => J ρ' w' ∧ μ ρ' w' < μ ρ w) Q) ρ w)
/-- A region that draws its order. -/
inductive DrawP (P : Program) (id : Nat) (ops : Array Oper) (K : List Value → World → Prop) (ρ : List Value) (w : World) : Prop
  | mk (h : (Code.region id ops true).wp P (fun e a w' => e = .normal ∧ a.defers = [] ∧ agree (opsDsts ops.toList) ρ a.tmps.toList ∧ K a.tmps.toList w') ⟨ρ.toArray, []⟩ w)
def wpR (P : Program) (c : Code) : Mng :=
  Code.rec (motive := fun _ => Mng)
    (fun Q ρ w => Q .normal ρ w)
    (fun id ops draw Q ρ w => match draw with
      | false => opsK P ops.toList (Q .normal) ops.toList ρ w
      | true => DrawP P id ops (Q .normal) ρ w)
    (fun _ _ ihx ihy Q ρ w => ihx (thenK (ihy Q) Q) ρ w)
    (fun c x y ihx ihy Q ρ w => evK ρ c fun v => match v with
      | .bool b => CondP P x y ihx ihy b Q ρ w
      | _ => False)
    (fun id c ih Q ρ w => match c with
      | .loop _ => ih (blockK id Q) ρ w
      | c => BlkP P c ih id Q ρ w)
    (fun c ih Q ρ w => LoopP P c ih Q ρ w)
    (fun _ _ _ _ _ _ _ _ _ => False)
    (fun id Q ρ w => Q (.exit id) ρ w)
    (fun c ih Q ρ w => ScopeP P c ih Q ρ w)
    (fun _ Q ρ w => Q .normal ρ w)
    (fun l Q ρ w => Q (.goto l) ρ w)
    (fun Q ρ w => Q .ret ρ w)
    (fun _ _ _ _ => False) c
section
variable (P : Program) (Q : Exit → List Value → World → Prop) (ρ : List Value) (w : World)
theorem wpR_seq (x y : Code) : wpR P (.seq x y) Q ρ w = wpR P x (thenK (wpR P y Q) Q) ρ w := rfl
theorem wpR_cond (c : Operand) (x y : Code) : wpR P (.cond c x y) Q ρ w = evK ρ c fun v => match v with
      | .bool b => CondP P x y (wpR P x) (wpR P y) b Q ρ w
      | _ => False := rfl
theorem wpR_block (id : Nat) (c : Code) : wpR P (.block id c) Q ρ w ↔ wpR P c (blockK id Q) ρ w := by
  have h : BlkP P c (wpR P c) id Q ρ w ↔ wpR P c (blockK id Q) ρ w := ⟨fun ⟨h⟩ => h, fun h => ⟨h⟩⟩
  cases c <;> first | exact h | exact Iff.rfl
theorem wpR_loop (c : Code) : wpR P (.loop c) Q ρ w = LoopP P c (wpR P c) Q ρ w := rfl
end
theorem wpR_scope {P : Program} {Q : Exit → List Value → World → Prop} {ρ : List Value} {w : World} (c : Code) : wpR P (.scope c) Q ρ w = ScopeP P c (wpR P c) Q ρ w := rfl
theorem noGotoK_imp {Q Q' : Exit → List Value → World → Prop} (hq : ∀ e ρ w, Q e ρ w → Q' e ρ w) : ∀ e ρ w, noGotoK Q e ρ w → noGotoK Q' e ρ w := fun e ρ w h => by
  cases e <;> simp only [noGotoK] at h ⊢ <;> exact hq _ _ _ h
theorem jumpK_imp {l : Nat} {J J' : List Value → World → Prop} {Q Q' : Exit → List Value → World → Prop} (hj : ∀ ρ w, J ρ w → J' ρ w) (hq : ∀ e ρ w, Q e ρ w → Q' e ρ w) : ∀ e ρ w, jumpK l J Q e ρ w → jumpK l J' Q' e ρ w := fun e ρ w h => by
  cases e <;> simp only [jumpK] at h ⊢ <;> first | exact ⟨h.1, hj _ _ h.2⟩ | exact hq _ _ _ h
theorem CondP_iff {P : Program} {x y : Code} {B C : Mng} {b : Bool} {Q : Exit → List Value → World → Prop} {ρ : List Value} {w : World} : CondP P x y B C b Q ρ w ↔ if b then B Q ρ w else C Q ρ w := by
  constructor
  · rintro ⟨t, f⟩; cases b
    · exact f rfl
    · exact t rfl
  · intro h; cases b
    · exact cF rfl h
    · exact cT rfl h

theorem guardK_imp {ops : List Oper} {g : Option (Nat × Bool)} {ρ : List Value} {k k' : Bool → List Value → Prop} (h : guardK ops g ρ k) (hk : ∀ b ρ, k b ρ → k' b ρ) : guardK ops g ρ k' := by
  unfold guardK at h ⊢
  split at h
  · exact hk _ _ h
  · simp only [gtK_eq, stK_eq, boolK_eq] at h ⊢
    split at h
    · exact h.elim
    · split at h
      · exact h.elim
      · split at h
        · split at h <;> (split at h <;> exact hk _ _ h)
        · exact hk _ _ h
        · exact h.elim
theorem opsK_imp {P : Program} {ops : List Oper} {K K' : List Value → World → Prop} (hk : ∀ ρ w, K ρ w → K' ρ w) (l : List Oper) :
    ∀ {ρ : List Value} {w : World}, opsK P ops K l ρ w → opsK P ops K' l ρ w := by
  induction l with
  | nil => exact fun h => hk _ _ h
  | cons o r ih =>
    intro ρ w h
    simp only [opsK_cons] at h ⊢
    refine guardK_imp h fun b ρ h => ?_
    cases b
    · simp only [putK_eq] at h ⊢; exact ih h
    · simp only [putK_eq] at h ⊢; exact opK_imp h fun v w h => ih h
theorem wpR_imp {P : Program} (c : Code) : ∀ {Q Q' : Exit → List Value → World → Prop} {ρ : List Value} {w : World}, wpR P c Q ρ w → (∀ e ρ w, Q e ρ w → Q' e ρ w) → wpR P c Q' ρ w := by
  induction c with
  | skip => exact fun h hq => hq _ _ _ h
  | label l => exact fun h hq => hq _ _ _ h
  | exit i => exact fun h hq => hq _ _ _ h
  | ret => exact fun h hq => hq _ _ _ h
  | seq x y ihx ihy =>
    intro Q Q' ρ w h hq
    simp only [wpR_seq] at h ⊢
    refine ihx h fun e ρ w he => ?_
    cases e <;> simp only [thenK] at he ⊢ <;> first | exact ihy he hq | exact hq _ _ _ he
  | cond c x y ihx ihy =>
    intro Q Q' ρ w h hq
    simp only [wpR_cond, evK_eq, CondP_iff] at h ⊢
    split at h
    · split at h
      · rw [if_pos (by assumption)]; exact ihx h hq
      · rw [if_neg (by assumption)]; exact ihy h hq
    · exact h.elim
  | block id c ih =>
    intro Q Q' ρ w h hq
    rw [wpR_block] at h ⊢
    refine ih h fun e ρ w he => ?_
    cases e <;> simp only [blockK] at he ⊢ <;> first | exact hq _ _ _ he | (split at he <;> exact hq _ _ _ he)
  | region id ops draw =>
    intro Q Q' ρ w h hq
    cases draw
    · exact opsK_imp (fun ρ w => hq .normal ρ w) _ h
    · obtain ⟨h⟩ := h
      exact ⟨Code.wp_mono (fun e a w ⟨h1, h2, h3, h4⟩ => ⟨h1, h2, h3, hq _ _ _ h4⟩) h⟩
  | loop c ih =>
    intro Q Q' ρ w h hq
    obtain ⟨I, μ, h0, hr⟩ := h
    refine ⟨I, μ, h0, fun ρ w hI => ih (hr ρ w hI) fun e ρ w he => ?_⟩
    cases e <;> simp only [thenK] at he ⊢ <;> first | exact hq _ _ _ he | exact he
  | rangeFunc => exact fun h => h.elim
  | scope c ih =>
    intro Q Q' ρ w h hq
    rw [wpR_scope] at h ⊢
    cases h with
    | straight h => exact .straight (ih h (noGotoK_imp hq))
    | jumps l rest M hM J μ hf first pass => exact .jumps l rest M hM J μ hf (ih first (jumpK_imp (fun _ _ h => h) hq)) fun ρ w hJ => hM.imp (pass ρ w hJ) (jumpK_imp (fun _ _ h => h) hq)
  | goto => exact fun h hq => hq _ _ _ h
  | refuse => exact fun h => h.elim

/-! ## Soundness -/
theorem act_eta {a : Act} (h : a.defers = []) : a = ⟨a.tmps.toList.toArray, []⟩ := by
  cases a; simp only at h; subst h; simp
theorem guardK_sound {ops : Array Oper} {o : Oper} {ρ : List Value} {k : Bool → List Value → Prop} (h : guardK ops.toList o.guard ρ k) :
    ∃ b, Region.wanted o (yielded ops ρ.toArray) = b ∧ k b ρ := by
  unfold guardK at h
  split at h
  · rename_i hg; exact ⟨true, by simp [Region.wanted, hg], h⟩
  · rename_i j want hg
    simp only [gtK_eq, stK_eq, boolK_eq] at h
    split at h
    · exact h.elim
    · rename_i oj hj
      split at h
      · exact h.elim
      · rename_i d hd
        split at h
        · rename_i b hb
          have hset : ρ.set d (.bool b) = ρ := by
            apply List.ext_getElem?
            intro i
            rw [List.getElem?_set]
            split
            · rename_i e; subst e
              by_cases hl : d < ρ.length
              · rw [if_pos hl]
                rw [gt_eq] at hb
                simp only [Array.getD_eq_getD_getElem?, List.getElem?_toArray] at hb
                rw [List.getElem?_eq_getElem hl] at hb ⊢
                simp only [Option.getD_some] at hb
                rw [hb]
              · rw [if_neg hl]
                rw [List.getElem?_eq_none (Nat.le_of_not_lt hl)]
            · rfl
          have hy : yielded ops ρ.toArray j = some b := by
            have hl : d < ρ.length := by
              rcases Nat.lt_or_ge d ρ.length with hl | hl
              · exact hl
              · rw [gt_eq] at hb
                simp [Array.getD_eq_getD_getElem?, List.getElem?_eq_none hl, undef] at hb
            rw [gt_eq] at hb
            simp only [Array.getD_eq_getD_getElem?, List.getElem?_toArray, List.getElem?_eq_getElem hl, Option.getD_some] at hb
            simp only [Array.getElem?_toList] at hj
            simp [yielded, hj, hd, List.getElem?_eq_getElem hl, hb]
          rw [hset] at h
          cases b <;> cases want <;> simp only at h <;> exact ⟨_, by simp [Region.wanted, hg, hy], h⟩
        · rename_i vs hb
          refine ⟨false, ?_, h⟩
          have hy : yielded ops ρ.toArray j = none := by
            simp only [Array.getElem?_toList] at hj
            rw [gt_eq] at hb
            simp only [yielded, hj, Option.bind_some, hd]
            cases hl : ρ[d]? with
            | none => simp [hl]
            | some v =>
              simp [Array.getD_eq_getD_getElem?, hl] at hb
              simp [hl, hb]
          simp [Region.wanted, hg, hy]
        · exact h.elim
theorem opsK_sound {P : Program} {ops : Array Oper} {Q : Exit → List Value → World → Prop} (l : List Oper) :
    ∀ {ρ : List Value} {w : World}, opsK P ops.toList (Q .normal) l ρ w → wpList P ops (lift Q) l ⟨ρ.toArray, []⟩ w := by
  induction l with
  | nil => exact fun h => ⟨rfl, by simpa [opsK_nil] using h⟩
  | cons o r ih =>
    intro ρ w h
    simp only [opsK_cons, putK_eq] at h
    obtain ⟨b, hb, h⟩ := guardK_sound h
    unfold wpList
    cases b
    · rw [if_neg (by simp [hb]), put_eq]
      exact ih h
    · rw [if_pos hb]
      exact .inl (opK_sound h fun v w' h => by rw [put_eq]; exact ih h)
theorem wpR_sound {P : Program} (c : Code) : ∀ {Q : Exit → List Value → World → Prop} {ρ : List Value} {w : World}, wpR P c Q ρ w → c.wp P (lift Q) ⟨ρ.toArray, []⟩ w := by
  induction c with
  | skip => exact fun h => wp_skip ⟨rfl, h⟩
  | label l => exact fun h => wp_label ⟨rfl, h⟩
  | exit i => exact fun h => wp_exit ⟨rfl, h⟩
  | ret => exact fun h => wp_ret ⟨rfl, h⟩
  | seq x y ihx ihy =>
    intro Q ρ w h
    simp only [wpR_seq] at h
    refine wp_seq (wp_mono (ihx h) ?_)
    rintro e a w ⟨hd, he⟩
    cases e <;> simp only [thenK] at he <;> simp only [Exit.then]
    · rw [act_eta hd]; exact ihy he
    all_goals exact ⟨hd, he⟩
  | cond c x y ihx ihy =>
    intro Q ρ w h
    simp only [wpR_cond, evK_eq, CondP_iff] at h
    split at h
    · rename_i b hb
      refine wp_cond (t := b) (by rw [ev_eq]; exact hb) ?_
      split at h
      · rw [if_pos (by assumption)]; exact ihx h
      · rw [if_neg (by assumption)]; exact ihy h
    · exact h.elim
  | block id c ih =>
    intro Q ρ w h
    rw [wpR_block] at h
    refine wp_block (wp_mono (ih h) ?_)
    rintro e a w ⟨hd, he⟩
    cases e <;> simp only [blockK] at he <;> simp only [Exit.inBlock]
    case exit id' =>
      by_cases hi : id' = id
      · subst hi; simp only [beq_self_eq_true] at he; rw [if_pos rfl]; exact ⟨hd, he⟩
      · have : (id' == id) = false := by simpa using hi
        simp only [this] at he; rw [if_neg hi]; exact ⟨hd, he⟩
    all_goals exact ⟨hd, he⟩
  | region id ops draw =>
    intro Q ρ w h
    cases draw
    · exact wp_region_list (opsK_sound _ h)
    · obtain ⟨h⟩ := h
      exact wp_mono h fun e a w ⟨h1, h2, _, h4⟩ => by subst h1; exact ⟨h2, h4⟩
  | loop c ih =>
    intro Q ρ w h
    obtain ⟨I, μ, h0, hr⟩ := h
    refine wp_loop (fun a w => a.defers = [] ∧ I a.tmps.toList w) (fun a w => μ a.tmps.toList w) ⟨rfl, h0⟩ ?_
    rintro a w ⟨hd, hI⟩
    rw [act_eta hd]
    refine wp_mono (ih (hr _ _ hI)) ?_
    rintro e a' w' ⟨hd', he⟩
    cases e <;> simp only [thenK] at he <;> simp only [Exit.then]
    · exact ⟨⟨hd', he.1⟩, he.2⟩
    all_goals exact ⟨hd', he⟩
  | rangeFunc => exact fun h => h.elim
  | scope c ih =>
    intro Q ρ w h
    rw [wpR_scope] at h
    cases h with
    | straight h =>
      refine wp_scope_straight (wp_mono (ih h) ?_)
      rintro e a w ⟨hd, he⟩
      cases e <;> simp only [noGotoK] at he <;> exact ⟨hd, he⟩
    | jumps l rest M hM J μ hf first pass =>
      refine wp_scope_jumps l (fun a w => a.defers = [] ∧ J a.tmps.toList w) (fun a w => μ a.tmps.toList w) hf (wp_mono (ih first) ?_) ?_
      · rintro e a w ⟨hd, he⟩
        cases e <;> simp only [jumpK] at he <;> first | exact ⟨he.1, hd, he.2⟩ | exact ⟨hd, he⟩
      · rintro a w ⟨hd, hJ⟩
        rw [act_eta hd]
        refine wp_mono (hM.sound (pass _ _ hJ)) ?_
        rintro e a' w' ⟨hd', he⟩
        cases e <;> simp only [jumpK] at he <;> first | exact ⟨he.1, ⟨hd', he.2.1⟩, he.2.2⟩ | exact ⟨hd', he⟩
  | goto => exact fun h => wp_goto ⟨rfl, h⟩
  | refuse => exact fun h => h.elim
/-! ## What code leaves alone -/
theorem agree.refl (ds : List Nat) (ρ : List Value) : agree ds ρ ρ := ⟨rfl, fun _ _ => rfl⟩
theorem agree.trans {ds : List Nat} {a b c : List Value} (h : agree ds a b) (k : agree ds b c) : agree ds a c :=
  ⟨k.1.trans h.1, fun i hi => (k.2 i hi).trans (h.2 i hi)⟩
theorem agree.mono {ds ds' : List Nat} {a b : List Value} (h : agree ds a b) (hs : ∀ i, i ∈ ds → i ∈ ds') : agree ds' a b :=
  ⟨h.1, fun i hi => h.2 i fun hh => hi (hs i hh)⟩
theorem agree.put {ds : List Nat} {a b : List Value} (h : agree ds a b) (d : Option Nat) (hd : ∀ i, d = some i → i ∈ ds) (v : Value) : agree ds a (put b d v) := by
  cases d with
  | none => exact h
  | some d =>
    refine ⟨by simp [Eng.put, h.1], fun i hi => ?_⟩
    have : d ≠ i := fun e => hi (e ▸ hd d rfl)
    simp only [Eng.put, List.getElem?_set, if_neg this]
    exact h.2 i hi
theorem guardK_frame {ops : List Oper} {g : Option (Nat × Bool)} {ρ : List Value} {k : Bool → List Value → Prop} (h : guardK ops g ρ k) :
    guardK ops g ρ fun b ρ' => k b ρ' ∧ agree (opsDsts ops) ρ ρ' := by
  unfold guardK at h ⊢
  split at h
  · exact ⟨h, agree.refl _ _⟩
  · simp only [gtK_eq, stK_eq, boolK_eq] at h ⊢
    split at h
    · exact h.elim
    · rename_i oj hj
      split at h
      · exact h.elim
      · rename_i d hd
        have hmem : d ∈ opsDsts ops := by
          unfold opsDsts
          exact List.mem_filterMap.2 ⟨oj, List.mem_of_getElem? hj, hd⟩
        split at h
        · rename_i b hb
          split at h <;> (split at h <;> exact ⟨h, (agree.refl _ _).put (some d) (fun i e => by cases e; exact hmem) _⟩)
        · exact ⟨h, agree.refl _ _⟩
        · exact h.elim
theorem opsK_frame {P : Program} {ops : List Oper} {K : List Value → World → Prop} (l : List Oper) (hl : ∀ o, o ∈ l → o ∈ ops) :
    ∀ {ρ0 ρ : List Value} {w : World}, agree (opsDsts ops) ρ0 ρ → opsK P ops K l ρ w → opsK P ops (fun ρ' w' => K ρ' w' ∧ agree (opsDsts ops) ρ0 ρ') l ρ w := by
  induction l with
  | nil => exact fun ha h => ⟨h, ha⟩
  | cons o r ih =>
    intro ρ0 ρ w ha h
    simp only [opsK_cons] at h ⊢
    refine guardK_imp (guardK_frame h) fun b ρ1 ⟨h, ha1⟩ => ?_
    have hmem : ∀ i, o.dst = some i → i ∈ opsDsts ops := fun i e => by
      unfold opsDsts
      exact List.mem_filterMap.2 ⟨o, hl o (List.mem_cons_self ..), e⟩
    have ih' := fun {ρ : List Value} {w : World} => @ih (fun o ho => hl o (List.mem_cons_of_mem _ ho)) ρ0 ρ w
    cases b
    · simp only [putK_eq] at h ⊢
      exact ih' ((ha.trans ha1).put _ hmem _) h
    · simp only [putK_eq] at h ⊢
      exact opK_imp h fun v w h => ih' ((ha.trans ha1).put _ hmem _) h
theorem wpR_frame {P : Program} (c : Code) : ∀ {Q : Exit → List Value → World → Prop} {ρ : List Value} {w : World}, wpR P c Q ρ w →
    wpR P c (fun e ρ' w' => Q e ρ' w' ∧ agree (dstsC c) ρ ρ') ρ w := by
  induction c with
  | skip => exact fun h => ⟨h, agree.refl _ _⟩
  | label l => exact fun h => ⟨h, agree.refl _ _⟩
  | exit i => exact fun h => ⟨h, agree.refl _ _⟩
  | ret => exact fun h => ⟨h, agree.refl _ _⟩
  | seq x y ihx ihy =>
    intro Q ρ w h
    simp only [wpR_seq] at h ⊢
    refine wpR_imp x (ihx h) fun e ρ1 w1 ⟨he, ha⟩ => ?_
    have ha' : agree (dstsC (.seq x y)) ρ ρ1 := ha.mono fun i hi => List.mem_append_left _ hi
    cases e <;> simp only [thenK] at he ⊢
    · exact wpR_imp y (ihy he) fun e ρ2 w2 ⟨h2, h3⟩ => ⟨h2, ha'.trans (h3.mono fun i hi => List.mem_append_right _ hi)⟩
    all_goals exact ⟨he, ha'⟩
  | cond c x y ihx ihy =>
    intro Q ρ w h
    simp only [wpR_cond, evK_eq, CondP_iff] at h ⊢
    split at h
    · split at h
      · rw [if_pos (by assumption)]
        exact wpR_imp x (ihx h) fun e ρ2 w2 ⟨h2, h3⟩ => ⟨h2, h3.mono fun i hi => List.mem_append_left _ hi⟩
      · rw [if_neg (by assumption)]
        exact wpR_imp y (ihy h) fun e ρ2 w2 ⟨h2, h3⟩ => ⟨h2, h3.mono fun i hi => List.mem_append_right _ hi⟩
    · exact h.elim
  | block id c ih =>
    intro Q ρ w h
    rw [wpR_block] at h ⊢
    refine wpR_imp c (ih h) fun e ρ1 w1 ⟨he, ha⟩ => ?_
    cases e <;> simp only [blockK] at he ⊢
    case exit i => split at he <;> exact ⟨he, ha⟩
    all_goals exact ⟨he, ha⟩
  | region id ops draw =>
    intro Q ρ w h
    cases draw
    · exact opsK_frame _ (fun _ h => h) (agree.refl _ _) h
    · obtain ⟨h⟩ := h
      exact ⟨Code.wp_mono (fun e a w ⟨h1, h2, h3, h4⟩ => ⟨h1, h2, h3, h4, h3⟩) h⟩
  | loop c ih =>
    intro Q ρ w h
    obtain ⟨I, μ, h0, hr⟩ := h
    refine ⟨fun ρ' w' => I ρ' w' ∧ agree (dstsC c) ρ ρ', μ, ⟨h0, agree.refl _ _⟩, fun ρ1 w1 ⟨hI, ha⟩ => wpR_imp c (ih (hr ρ1 w1 hI)) fun e ρ2 w2 ⟨he, ha2⟩ => ?_⟩
    cases e <;> simp only [thenK] at he ⊢
    · exact ⟨⟨he.1, ha.trans ha2⟩, he.2⟩
    all_goals exact ⟨he, ha.trans ha2⟩
  | rangeFunc => exact fun h => h.elim
  | scope c ih =>
    intro Q ρ w h
    rw [wpR_scope] at h ⊢
    cases h with
    | straight h => exact .straight (wpR_imp c (ih h) fun e ρ1 w1 ⟨he, ha⟩ => by cases e <;> simp only [noGotoK] at he ⊢ <;> exact ⟨he, ha⟩)
    | jumps l rest M hM J μ hf first pass =>
      refine .jumps l rest M hM (fun ρ' w' => J ρ' w' ∧ agree (dstsC c) ρ ρ') μ hf (wpR_imp c (ih first) fun e ρ1 w1 ⟨he, ha⟩ => ?_) fun ρ1 w1 ⟨hJ, ha⟩ => hM.imp (hM.frame (pass ρ1 w1 hJ)) fun e ρ2 w2 ⟨he, ha2⟩ => ?_
      · cases e <;> simp only [jumpK] at he ⊢ <;> first | exact ⟨he.1, he.2, ha⟩ | exact ⟨he, ha⟩
      · have ha3 : agree (dstsC c) ρ ρ2 := ha.trans (ha2.mono fun i hi => dstsC_label hf i hi)
        cases e <;> simp only [jumpK] at he ⊢ <;> first | exact ⟨he.1, ⟨he.2.1, ha3⟩, he.2.2⟩ | exact ⟨he, ha3⟩
  | goto => exact fun h => ⟨h, agree.refl _ _⟩
  | refuse => exact fun h => h.elim

/-! ## Loops and joins -/
def hvK (l : List Nat) (f : Nat → Value) : List Value → (List Value → Prop) → Prop :=
  List.rec (motive := fun _ => List Value → (List Value → Prop) → Prop) (fun ρ k => k ρ) (fun d _ ih ρ k => stK ρ d (f d) fun ρ => ih ρ k) l
theorem hvK_cons (d : Nat) (ds : List Nat) (f : Nat → Value) (ρ : List Value) (k : List Value → Prop) : hvK (d :: ds) f ρ k = stK ρ d (f d) fun ρ => hvK ds f ρ k := rfl
def slK (l : List (Nat × Value)) : List Value → (List Value → Prop) → Prop :=
  List.rec (motive := fun _ => List Value → (List Value → Prop) → Prop) (fun ρ k => k ρ) (fun p _ ih ρ k => match p with
    | (i, v) => stK ρ i v fun ρ => ih ρ k) l
theorem slK_cons (i : Nat) (v : Value) (r : List (Nat × Value)) (ρ : List Value) (k : List Value → Prop) : slK ((i, v) :: r) ρ k = stK ρ i v fun ρ => slK r ρ k := rfl
/-- The slots hold these values. -/
def mt : List (Nat × Value) → List Value → Prop
  | [], _ => True
  | (i, v) :: r, ρ => gt ρ i = v ∧ mt r ρ
theorem mt_nil {ρ : List Value} : mt [] ρ := trivial
theorem mt_cons {i : Nat} {v : Value} {r : List (Nat × Value)} {ρ : List Value} (h : gt ρ i = v) (k : mt r ρ) : mt ((i, v) :: r) ρ := ⟨h, k⟩
theorem mt_i {i : Nat} {k : IntKind} {a b : Int} {r : List (Nat × Value)} {ρ : List Value} (hg : gt ρ i = .int k a) (h : a = b) (t : mt r ρ) : mt ((i, .int k b) :: r) ρ := ⟨by rw [hg, h], t⟩
theorem int_eq {k : IntKind} {a b : Int} (h : a = b) : Value.int k a = .int k b := by rw [h]
theorem hvK_agree {ρ' : List Value} (ds : List Nat) {k : List Value → Prop} : ∀ {ρ1 : List Value}, agree ds ρ1 ρ' → hvK ds (gt ρ') ρ1 k → k ρ' := by
  induction ds with
  | nil =>
    intro ρ1 ha h
    have : ρ' = ρ1 := List.ext_getElem? fun i => ha.2 i (by simp)
    rw [this]; exact h
  | cons d ds ih =>
    intro ρ1 ha h
    simp only [hvK_cons, stK_eq] at h
    refine ih ?_ h
    refine ⟨by simpa using ha.1, fun i hi => ?_⟩
    rw [List.getElem?_set]
    split
    · rename_i e; subst e
      split
      · rename_i hl
        have hl' : d < ρ'.length := by rw [ha.1]; exact hl
        rw [gt_eq]
        simp [Array.getD_eq_getD_getElem?, List.getElem?_eq_getElem hl']
      · rename_i hl
        rw [List.getElem?_eq_none (by rw [ha.1]; exact Nat.le_of_not_lt hl)]
    · rename_i hne
      exact ha.2 i fun hm => by cases hm <;> contradiction
theorem slK_mt {ρ : List Value} (sl : List (Nat × Value)) {k : List Value → Prop} (hm : mt sl ρ) (h : slK sl ρ k) : k ρ := by
  induction sl with
  | nil => exact h
  | cons p r ih =>
    obtain ⟨i, v⟩ := p
    obtain ⟨hv, hm⟩ := hm
    simp only [slK_cons, stK_eq] at h
    have : ρ.set i v = ρ := by
      apply List.ext_getElem?
      intro j
      rw [List.getElem?_set]
      split
      · rename_i e; subst e
        split
        · rename_i hl
          rw [gt_eq] at hv
          simp only [Array.getD_eq_getD_getElem?, List.getElem?_toArray, List.getElem?_eq_getElem hl, Option.getD_some] at hv
          rw [List.getElem?_eq_getElem hl, hv]
        · rename_i hl
          rw [List.getElem?_eq_none (Nat.le_of_not_lt hl)]
      · rfl
    rw [this] at h
    exact ih hm h
/-- What is owed at a round's end, and where ways meet. -/
inductive Nxt {α : Type} (sl : α → List (Nat × Value)) (inv : α → World → Prop) (p : α → Prop) (ρ : List Value) (w : World) : Prop
  | mk (y : α) (hm : mt (sl y) ρ) (hi : inv y w) (hp : p y)
inductive Jn {α : Type} (sl : α → List (Nat × Value)) (inv : α → World → Prop) (ρ : List Value) (w : World) : Prop
  | mk (y : α) (hm : mt (sl y) ρ) (hi : inv y w)
theorem LoopP.rule {P : Program} {c : Code} {B : Mng} {Q : Exit → List Value → World → Prop} {ρ : List Value} {w : World} {α : Type} (x0 : α) (sl : α → List (Nat × Value)) (inv : α → World → Prop) (μ : α → Nat)
    (hm : mt (sl x0) ρ) (h0 : inv x0 w)
    (round : ∀ x (f : Nat → Value) w', inv x w' → hvK (dstsC c) f ρ fun ρ => slK (sl x) ρ fun ρ =>
      B (thenK (fun ρ' w'' => Nxt sl inv (fun y => μ y < μ x) ρ' w'') Q) ρ w') (hB : B = wpR P c := by rfl) : LoopP P c B Q ρ w := by
  subst hB
  classical
  have hex : ∀ (p : Nat → Prop), (∃ n, p n) → ∃ n, p n ∧ ∀ m, p m → n ≤ m := fun p ⟨n, hn⟩ => by
    induction n using Nat.strongRecOn with
    | _ n ih =>
      by_cases h : ∃ m, m < n ∧ p m
      · obtain ⟨m, hm, hp⟩ := h; exact ih m hm hp
      · exact ⟨n, hn, fun m hp => Nat.le_of_not_lt fun hl => h ⟨m, hl, hp⟩⟩
  let p : List Value → World → Nat → Prop := fun ρ' w' n => ∃ x, μ x = n ∧ mt (sl x) ρ' ∧ inv x w'
  let M : List Value → World → Nat := fun ρ' w' => if h : ∃ n, p ρ' w' n then Classical.choose (hex _ h) else 0
  have hM : ∀ ρ' w', (∃ n, p ρ' w' n) → p ρ' w' (M ρ' w') ∧ ∀ m, p ρ' w' m → M ρ' w' ≤ m := fun ρ' w' h => by
    simp only [M, dif_pos h]
    exact Classical.choose_spec (hex _ h)
  refine ⟨fun ρ' w' => (∃ n, p ρ' w' n) ∧ agree (dstsC c) ρ ρ', M, ⟨⟨_, x0, rfl, hm, h0⟩, agree.refl _ _⟩, ?_⟩
  rintro ρ1 w1 ⟨hp, ha⟩
  obtain ⟨⟨x, hx, hmx, hix⟩, -⟩ := hM ρ1 w1 hp
  have hb := round x (gt ρ1) w1 hix
  have hb := slK_mt _ hmx (hvK_agree _ ha hb)
  refine wpR_imp c (wpR_frame c hb) ?_
  rintro e ρ2 w2 ⟨he, ha2⟩
  cases e <;> simp only [thenK] at he ⊢
  · obtain ⟨y, hmy, hiy, hlt⟩ := he
    refine ⟨⟨⟨_, y, rfl, hmy, hiy⟩, ha.trans ha2⟩, ?_⟩
    have := (hM ρ2 w2 ⟨_, y, rfl, hmy, hiy⟩).2 _ ⟨y, rfl, hmy, hiy⟩
    omega
  all_goals exact he
/-- The ways of a test meet behind it. -/
theorem cond_join {P : Program} {x y : Code} {B C : Mng} {K : List Value → World → Prop} {Q : Exit → List Value → World → Prop} {ρ : List Value} {w : World} {b : Bool} {α : Type} (sl : α → List (Nat × Value)) (inv : α → World → Prop)
    (hx : b = true → B (thenK (fun ρ' w' => Jn sl inv ρ' w') Q) ρ w)
    (hy : b = false → C (thenK (fun ρ' w' => Jn sl inv ρ' w') Q) ρ w)
    (hk : ∀ a (f : Nat → Value) w', inv a w' → hvK (dstsC x ++ dstsC y) f ρ fun ρ => slK (sl a) ρ fun ρ => K ρ w') (hB : B = wpR P x := by rfl) (hC : C = wpR P y := by rfl) :
    CondP P x y B C b (thenK K Q) ρ w := by
  subst hB
  subst hC
  refine ⟨fun hb => ?_, fun hb => ?_⟩
  · refine wpR_imp x (wpR_frame x (hx hb)) ?_
    rintro e ρ2 w2 ⟨he, ha⟩
    cases e <;> simp only [thenK] at he ⊢
    · obtain ⟨a, hm, hi⟩ := he
      exact slK_mt _ hm (hvK_agree _ (ha.mono fun i hi => List.mem_append_left _ hi) (hk a (gt ρ2) w2 hi))
    all_goals exact he
  · refine wpR_imp y (wpR_frame y (hy hb)) ?_
    rintro e ρ2 w2 ⟨he, ha⟩
    cases e <;> simp only [thenK] at he ⊢
    · obtain ⟨a, hm, hi⟩ := he
      exact slK_mt _ hm (hvK_agree _ (ha.mono fun i hi => List.mem_append_right _ hi) (hk a (gt ρ2) w2 hi))
    all_goals exact he
/-- The ways out of a block meet behind it. -/
theorem block_join {P : Program} {c : Code} {B : Mng} {id : Nat} {K : List Value → World → Prop} {Q : Exit → List Value → World → Prop} {ρ : List Value} {w : World} {α : Type} (sl : α → List (Nat × Value)) (inv : α → World → Prop)
    (hx : B (blockK id (thenK (fun ρ' w' => Jn sl inv ρ' w') Q)) ρ w)
    (hk : ∀ a (f : Nat → Value) w', inv a w' → hvK (dstsC c) f ρ fun ρ => slK (sl a) ρ fun ρ => K ρ w') (hB : B = wpR P c := by rfl) :
    BlkP P c B id (thenK K Q) ρ w := by
  subst hB
  refine ⟨wpR_imp c (wpR_frame c hx) ?_⟩
  have key : ∀ ρ2 w2, Jn sl inv ρ2 w2 → agree (dstsC c) ρ ρ2 → K ρ2 w2 := fun ρ2 w2 ⟨a, hm, hi⟩ ha =>
    slK_mt _ hm (hvK_agree _ ha (hk a (gt ρ2) w2 hi))
  rintro e ρ2 w2 ⟨he, ha⟩
  cases e <;> simp only [blockK, thenK] at he ⊢
  · exact key _ _ he ha
  · split at he
    · exact key _ _ he ha
    · exact he
  all_goals exact he

theorem wpR_fine (P : Program) (c : Code) : Fine P c (wpR P c) := ⟨wpR_sound c, wpR_imp c, wpR_frame c⟩
/-- A scope with jumps forward to one label: the ways meet behind it. -/
theorem scope_join {P : Program} {c : Code} {B : Mng} {Q : Exit → List Value → World → Prop} {ρ : List Value} {w : World} {α : Type} (l : Nat) (rest : Code) (hf : findLabel c l = some rest) (sl : α → List (Nat × Value)) (inv : α → World → Prop)
    (hx : B (jumpK l (fun ρ' w' => Jn sl inv ρ' w') Q) ρ w)
    (hk : ∀ a (f : Nat → Value) w', inv a w' → hvK (dstsC c) f ρ fun ρ => slK (sl a) ρ fun ρ => wpR P rest (noGotoK Q) ρ w') (hB : B = wpR P c := by rfl) :
    ScopeP P c B Q ρ w := by
  subst hB
  refine .jumps l rest (wpR P rest) (wpR_fine P rest) (fun ρ' w' => Jn sl inv ρ' w' ∧ agree (dstsC c) ρ ρ') (fun _ _ => 0) hf (wpR_imp c (wpR_frame c hx) fun e ρ1 w1 ⟨he, ha⟩ => ?_) fun ρ1 w1 ⟨⟨a, hm, hi⟩, ha⟩ => wpR_imp rest (slK_mt _ hm (hvK_agree _ ha (hk a (gt ρ1) w1 hi))) fun e ρ2 w2 he => ?_
  · cases e <;> simp only [jumpK] at he ⊢ <;> first | exact ⟨he.1, he.2, ha⟩ | exact he
  · cases e <;> simp only [noGotoK, jumpK] at he ⊢ <;> exact he

/-! ## A function -/
inductive Done (R : Value → World → Prop) (v : Value) (w : World) : Prop
  | mk (h : R v w)
inductive ReadP (P : Program) (m : Sem Value) (w : World) (K : Value → Prop) : Prop
  | mk (v : Value) (h : m.run P w = .ok v w) (k : K v)
def repK (n : Nat) : List Value → (List Value → Prop) → Prop :=
  Nat.rec (motive := fun _ => List Value → (List Value → Prop) → Prop) (fun acc k => k acc) (fun _ ih acc k => ih (undef :: acc) k) n
theorem repK_succ (n : Nat) (acc : List Value) (k : List Value → Prop) : repK (n + 1) acc k = repK n (undef :: acc) k := rfl
def resK (P : Program) (ρ : List Value) (w : World) (l : List ResultVar) : (List Value → Prop) → Prop :=
  List.rec (motive := fun _ => (List Value → Prop) → Prop) (fun k => k []) (fun x _ ih k => match x with
    | .tmp t => gtK ρ t fun v => ih fun vs => k (v :: vs)
    | .cell a t => gtK ρ a fun v => match v with
      | .pointer p => match p with
        | some a => ReadP P (loadVar t a) w fun v => ih fun vs => k (v :: vs)
        | none => False
      | _ => False) l
theorem resK_tmp (P : Program) (ρ : List Value) (w : World) (t : Nat) (r : List ResultVar) (k : List Value → Prop) : resK P ρ w (.tmp t :: r) k = gtK ρ t fun v => resK P ρ w r fun vs => k (v :: vs) := rfl
theorem resK_cell (P : Program) (ρ : List Value) (w : World) (a : Nat) (t : TypeId) (r : List ResultVar) (k : List Value → Prop) : resK P ρ w (.cell a t :: r) k = gtK ρ a fun v => match v with
      | .pointer p => match p with
        | some a => ReadP P (loadVar t a) w fun v => resK P ρ w r fun vs => k (v :: vs)
        | none => False
      | _ => False := rfl
def oneK (R : Value → World → Prop) (w : World) (vs : List Value) : Prop :=
  match vs with
  | [v] => Done R v w
  | [] => Done R (.tuple #[]) w
  | u :: v :: r => Done R (.tuple (u :: v :: r).toArray) w
def bodyK (P : Program) (rs : List ResultVar) (R : Value → World → Prop) (e : Exit) (ρ : List Value) (w : World) : Prop :=
  match e with
  | .normal => resK P ρ w rs fun vs => oneK R w vs
  | .ret => resK P ρ w rs fun vs => oneK R w vs
  | _ => False
def entK (P : Program) (fn : Func) (c : Code) (args : List Value) (w : World) (R : Value → World → Prop) : Prop :=
  repK (fn.ntmps - args.length) [] fun us => appK args us fun ρ => wpR P c (bodyK P fn.results.toList R) ρ w
theorem repK_eq (n : Nat) (acc : List Value) (k : List Value → Prop) : repK n acc k = k (List.replicate n undef ++ acc) := by
  induction n generalizing acc with
  | zero => rfl
  | succ n ih => simp only [repK_succ, ih]; congr 1; rw [List.replicate_succ', List.append_assoc]; rfl
def resF (tmps : Array Value) : ResultVar → Sem Value
  | .tmp t => pure (tmps.getD t undef)
  | .cell a t => do loadVar t (← asAddr (tmps.getD a undef))
theorem results_eq (fn : Func) (tmps : Array Value) : results fn tmps = (do let vs ← fn.results.mapM (resF tmps); pure (if h : vs.size = 1 then vs[0] else .tuple vs)) := by
  have : (fun (x : ResultVar) => (match x with
    | .tmp t => pure (tmps.getD t undef)
    | .cell a t => do loadVar t (← asAddr (tmps.getD a undef)) : Sem Value)) = resF tmps := by
    funext x; cases x <;> rfl
  unfold results
  rw [← this]
  rfl
theorem resK_sound {P : Program} {ρ : List Value} {w : World} : ∀ (rs : List ResultVar) {k : List Value → Prop}, resK P ρ w rs k →
    ∃ vs, (rs.mapM (resF ρ.toArray)).run P w = .ok vs w ∧ k vs := by
  intro rs
  induction rs with
  | nil => exact fun h => ⟨[], by simp, h⟩
  | cons x r ih =>
    intro k h
    cases x with
    | tmp t =>
      simp only [resK_tmp, gtK_eq] at h
      obtain ⟨vs, h1, h2⟩ := ih h
      exact ⟨gt ρ t :: vs, by rw [List.mapM_cons]; simp only [resF, Sem.run_bind, Sem.run_pure, Result.andThen_ok, h1, gt_eq], h2⟩
    | cell a t =>
      simp only [resK_cell, gtK_eq] at h
      split at h
      · rename_i p hp
        split at h
        · rename_i ad
          obtain ⟨v, hv, h⟩ := h
          obtain ⟨vs, h1, h2⟩ := ih h
          refine ⟨_, ?_, h2⟩
          rw [List.mapM_cons]
          rw [gt_eq] at hp
          simp only [resF, hp, asAddr, pure_bind, Sem.run_bind, Sem.run_pure, Result.andThen_ok, hv, h1]
        · exact h.elim
      · exact h.elim
theorem bodyK_sound {P : Program} {fn : Func} {R : Value → World → Prop} {e : Exit} {a : Act} {w : World} (h : lift (bodyK P fn.results.toList R) e a w) :
    bodyPost P fn (fun e w' => ∃ v, e = .returned v ∧ R v w') e a w := by
  obtain ⟨hd, h⟩ := h
  rw [act_eta hd]
  have key : (resK P a.tmps.toList w fn.results.toList fun vs => oneK R w vs) →
      ∃ v, (results fn a.tmps.toList.toArray).run P w = .ok v w ∧ ∃ v', Ending.returned v = .returned v' ∧ R v' w := by
    intro h
    obtain ⟨vs, h1, h2⟩ := resK_sound _ h
    have hm : (fn.results.mapM (resF a.tmps.toList.toArray)).run P w = .ok vs.toArray w := by
      rw [Array.mapM_eq_mapM_toList]
      simp only [Sem.run_map, h1, Result.andThen_ok]
    unfold oneK at h2
    split at h2
    · rename_i v
      obtain ⟨h2⟩ := h2
      exact ⟨v, by rw [results_eq]; simp only [Sem.run_bind, hm, Result.andThen_ok]; rfl, v, rfl, h2⟩
    · obtain ⟨h2⟩ := h2
      exact ⟨_, by rw [results_eq]; simp only [Sem.run_bind, hm, Result.andThen_ok]; rfl, _, rfl, h2⟩
    · rename_i u v r
      obtain ⟨h2⟩ := h2
      refine ⟨.tuple (u :: v :: r).toArray, ?_, _, rfl, h2⟩
      rw [results_eq]; simp only [Sem.run_bind, hm, Result.andThen_ok, Sem.run_pure]
      rw [dif_neg (by simp)]
  cases e
  case normal => obtain ⟨v, h1, h2⟩ := key h; exact ⟨rfl, v, h1, h2⟩
  case ret => obtain ⟨v, h1, h2⟩ := key h; exact ⟨rfl, v, h1, h2⟩
  all_goals exact False.elim h
theorem Fc.of {P : Program} {f : FuncId} {fn : Func} {c : Code} {args : Array Value} {w : World} {R : Value → World → Prop}
    (hf : P.funcs[f]? = some fn) (hb : fn.body = some c) (hn : (fn.name == "runtime.NumGoroutine") = false) (h : entK P fn c args.toList w R) : Fc P f args w R := by
  refine ⟨?_, ?_⟩
  · simp only [callFunc, Sem.run_bind, program, Sem.run, Result.andThen_ok, hf]
    rw [if_neg (by rw [hn]; decide), if_neg (by rw [hb]; simp)]
    rfl
  · refine calls_of_wp hf hb ?_
    unfold entK at h
    rw [repK_eq, appK_eq, List.append_nil] at h
    have := wpR_sound c h
    have e : (args.toList ++ List.replicate (fn.ntmps - args.toList.length) undef).toArray = args ++ Array.replicate (fn.ntmps - args.size) undef := by
      apply Array.ext'; simp
    rw [e] at this
    exact wp_mono this fun e a w h => bodyK_sound h
end Go.Proofs.YtcpniokopahakaaDoor.Eng
namespace Go.Proofs.YtcpniokopahakaaDoor.Eng
open Go Go.RowKit
set_option linter.unusedVariables false
variable {P : Program} {w : World} {K : Value → World → Prop}

theorem Fc.arg {f : FuncId} {args args' : Array Value} {R : Value → World → Prop} (h : Fc P f args w R) (e : args = args') : Fc P f args' w R := e ▸ h
/-! ## Numbers -/
theorem vWrap_id {k : IntKind} {n : Int} (h0 : k.min ≤ n) (h1 : n ≤ k.max) : vWrap k n = n := by
  unfold vWrap
  cases k <;> simp [IntKind.wrap, IntKind.min, IntKind.max, IntKind.bits, IntKind.signed] at * <;> omega
theorem wi64 {n : Int} (h : -9223372036854775808 ≤ n ∧ n ≤ 9223372036854775807) : vWrap .i64 n = n := vWrap_id (by simpa [IntKind.min, IntKind.signed, IntKind.bits] using h.1) (by simpa [IntKind.max, IntKind.signed, IntKind.bits] using h.2)
theorem wi32 {n : Int} (h : -2147483648 ≤ n ∧ n ≤ 2147483647) : vWrap .i32 n = n := vWrap_id (by simpa [IntKind.min, IntKind.signed, IntKind.bits] using h.1) (by simpa [IntKind.max, IntKind.signed, IntKind.bits] using h.2)
theorem wu64 {n : Int} (h : 0 ≤ n ∧ n ≤ 18446744073709551615) : vWrap .u64 n = n := vWrap_id (by simpa [IntKind.min, IntKind.signed, IntKind.bits] using h.1) (by simpa [IntKind.max, IntKind.signed, IntKind.bits] using h.2)
theorem wu32 {n : Int} (h : 0 ≤ n ∧ n ≤ 4294967295) : vWrap .u32 n = n := vWrap_id (by simpa [IntKind.min, IntKind.signed, IntKind.bits] using h.1) (by simpa [IntKind.max, IntKind.signed, IntKind.bits] using h.2)
theorem wu8 {n : Int} (h : 0 ≤ n ∧ n ≤ 255) : vWrap .u8 n = n := vWrap_id (by simpa [IntKind.min, IntKind.signed, IntKind.bits] using h.1) (by simpa [IntKind.max, IntKind.signed, IntKind.bits] using h.2)
theorem vLt_t {a b : Int} (h : vLt a b = true) : a < b := by rw [vLt_def] at h; simpa using h
theorem vLt_f {a b : Int} (h : vLt a b = false) : b ≤ a := by rw [vLt_def] at h; simpa using h
theorem vLe_t {a b : Int} (h : vLe a b = true) : a ≤ b := by rw [vLe_def] at h; simpa using h
theorem vLe_f {a b : Int} (h : vLe a b = false) : b < a := by rw [vLe_def] at h; simpa using h
theorem vEq_t {a b : Int} (h : vEq a b = true) : a = b := by rw [vEq_def] at h; simpa using h
theorem vEq_f {a b : Int} (h : vEq a b = false) : a ≠ b := by rw [vEq_def] at h; simpa using h
theorem vNe_t {a b : Int} (h : vNe a b = true) : a ≠ b := by rw [vNe_def] at h; simpa using h
theorem vNe_f {a b : Int} (h : vNe a b = false) : a = b := by rw [vNe_def] at h; simpa using h
theorem vLt_iff {a b : Int} : vLt a b = decide (a < b) := vLt_def _ _
theorem vLe_iff {a b : Int} : vLe a b = decide (a ≤ b) := vLe_def _ _
theorem vEq_iff {a b : Int} : vEq a b = decide (a = b) := by rw [vEq_def]; rw [Bool.eq_iff_iff]; simp
theorem vNe_iff {a b : Int} : vNe a b = !decide (a = b) := by rw [vNe_def]; rw [Bool.eq_iff_iff]; simp

theorem rConvInt {s d : TypeId} {k0 k : IntKind} {n : Int} (hs : (P.underlying s).isSome = true) (hd : P.underlying d = some (.int k)) (h : K (.int k (vWrap k n)) w) :
    RunP P (convert s d (.int k0 n)) w K := by
  obtain ⟨ds, hds⟩ := Option.isSome_iff_exists.1 hs
  refine ⟨_, w, ?_, h⟩
  unfold convert
  simp only [Sem.run_bind, run_underlying hds, run_underlying hd, Result.andThen_ok, Conv.intToInt]
  unfold vWrap; rfl
theorem rConvIntE {s d : TypeId} {k0 k : IntKind} {n : Int} (m : Int) (e : vWrap k n = m) (hs : (P.underlying s).isSome = true) (hd : P.underlying d = some (.int k)) (h : K (.int k m) w) :
    RunP P (convert s d (.int k0 n)) w K := rConvInt hs hd (e ▸ h)
theorem rCompl {k : IntKind} {n : Int} (m : Int) (e : vXor k (if k.signed then -1 else k.max) n = m) (h : K (.int k m) w) : RunP P (Op.unary .xor (.int k n)) w K := by
  refine ⟨_, w, ?_, h⟩
  rw [← e]
  simp [Op.unary, Op.intBits, vXor]
theorem rMax {t : Array TypeId} {ty : TypeId} {k k' : IntKind} {a b : Int} (h : K (.int k (max a b)) w) : RunP P (Builtin.max_ t ty #[.int k a, .int k' b]) w K := by
  refine ⟨_, w, ?_, h⟩
  have : (if b > a then b else a) = max a b := by omega
  simp [Builtin.max_, Builtin.max2, this]
theorem rMin {t : Array TypeId} {ty : TypeId} {k k' : IntKind} {a b : Int} (h : K (.int k (min a b)) w) : RunP P (Builtin.min_ t ty #[.int k a, .int k' b]) w K := by
  refine ⟨_, w, ?_, h⟩
  have : (if b < a then b else a) = min a b := by omega
  simp [Builtin.min_, Builtin.min2, this]

/-! ## Strings -/
def bs (l : List UInt8) : ByteArray := ⟨l.toArray⟩
theorem bs_data (l : List UInt8) : (bs l).data.toList = l := rfl
theorem bs_size (l : List UInt8) : (bs l).size = l.length := by simp [bs, ByteArray.size]
theorem bs_of (s : ByteArray) : s = bs s.data.toList := by cases s; simp [bs]
theorem bs_toList (l : List UInt8) : (bs l).toList = l := by simp [bs]
theorem bs_extract (l : List UInt8) (i j : Nat) : (bs l).extract i j = bs ((l.take j).drop i) := by
  apply ByteArray.ext
  simp only [bs, ByteArray.data_extract]
  apply Array.ext'
  simp [List.drop_take]
theorem bs_append (a b : List UInt8) : bs a ++ bs b = bs (a ++ b) := by
  apply ByteArray.ext
  simp [bs]
theorem bs_inj {a b : List UInt8} (h : bs a = bs b) : a = b := by
  have := congrArg (fun s => s.data.toList) h; simpa [bs] using this
theorem rLenStr {t ty : TypeId} {s : List UInt8} (ht : P.underlying t = some .string) (h : K (.int .i64 s.length) w) : RunP P (Builtin.len_ #[t] ty #[.string (bs s)]) w K :=
  ⟨_, w, run_len_string (P := P) w t ty (bs s) ht, by rw [bs_size]; exact h⟩
theorem rLenSl {t ty e : TypeId} {a : Option Addr} {n c : Nat} (ht : P.underlying t = some (.slice e)) (h : K (.int .i64 n) w) : RunP P (Builtin.len_ #[t] ty #[.slice a n c]) w K :=
  ⟨_, w, by simp [Builtin.len_, run_underlying ht, goInt], h⟩
theorem rIdxStr {t : TypeId} {s : List UInt8} {k : IntKind} {i : Int} (ht : P.underlying t = some .string) (j : Nat) (hj : i = j) (hl : j < s.length) (h : K (.int .u8 (s[j].toNat : Int)) w) :
    RunP P (Instr.index t (.string (bs s)) (.int k i)) w K := by
  subst hj
  refine ⟨_, w, ?_, h⟩
  rw [run_index_string (P := P) w t (bs s) k j ht, dif_pos ⟨by omega, by rw [bs_size]; omega⟩]
  rfl
theorem rSub {t : TypeId} {s : List UInt8} {kl kh : IntKind} {l h : Int} (ht : P.underlying t = some .string) (i j : Nat) (hi : l = i) (hj : h = j) (hij : i ≤ j) (hl : j ≤ s.length)
    (k : K (.string (bs ((s.take j).drop i))) w) : RunP P (Instr.sliceAt t (.string (bs s)) (some (.int kl l)) (some (.int kh h)) none) w K := by
  subst hi; subst hj
  refine ⟨_, w, ?_, k⟩
  have hb : (bs s).size = s.length := bs_size s
  rw [run_sliceAt_string (P := P) w t _ _ _ _ ht]
  simp [Instr.slice, run_underlying ht, Instr.sliceBounds, run_sliceBound, hb, bs_extract, hij, hl]
theorem rSubL {t : TypeId} {s : List UInt8} {kl : IntKind} {l : Int} (ht : P.underlying t = some .string) (i : Nat) (hi : l = i) (hl : i ≤ s.length)
    (k : K (.string (bs (s.drop i))) w) : RunP P (Instr.sliceAt t (.string (bs s)) (some (.int kl l)) none none) w K := by
  subst hi
  refine ⟨_, w, ?_, k⟩
  have hb : (bs s).size = s.length := bs_size s
  rw [run_sliceAt_string (P := P) w t _ _ _ _ ht, run_slice_string_l (P := P) w t _ ht kl i (by omega) (by omega)]
  simp [hb, bs_extract]
theorem rSubH {t : TypeId} {s : List UInt8} {kh : IntKind} {h : Int} (ht : P.underlying t = some .string) (j : Nat) (hj : h = j) (hl : j ≤ s.length)
    (k : K (.string (bs (s.take j))) w) : RunP P (Instr.sliceAt t (.string (bs s)) none (some (.int kh h)) none) w K := by
  subst hj
  refine ⟨_, w, ?_, k⟩
  have hb : (bs s).size = s.length := bs_size s
  rw [run_sliceAt_string (P := P) w t _ _ _ _ ht, run_slice_string_h (P := P) w t _ ht kh j (by omega) (by omega)]
  simp [bs_extract]
theorem rCat {t : TypeId} {x y : Operand} {a b : List UInt8} (hl : a.length + b.length ≤ 9223372036854775807) (k : K (.string (bs (a ++ b))) w) :
    RunP P (do eqGuard .add t x y (.string (bs a)) (.string (bs b)); binOp .add t (.string (bs a)) (.string (bs b))) w K := by
  refine ⟨_, w, ?_, k⟩
  simp only [eqGuard_add, pure_bind, binOp_string_add, Op.stringOp]
  rw [if_neg (by simp [bs_size]; omega)]
  simp [bs_append]
theorem rStrEq {t : TypeId} {x y : Operand} {a b : List UInt8} (k : K (.bool (decide (a = b))) w) :
    RunP P (do eqGuard .eql t x y (.string (bs a)) (.string (bs b)); binOp .eql t (.string (bs a)) (.string (bs b))) w K := by
  refine ⟨_, w, ?_, k⟩
  simp only [eqGuard_at_string, pure_bind, binOp_string_eql, bs_toList, Sem.run_pure]
  congr 2
  rw [Bool.eq_iff_iff]; simp
theorem rStrNe {t : TypeId} {x y : Operand} {a b : List UInt8} (k : K (.bool (!decide (a = b))) w) :
    RunP P (do eqGuard .neq t x y (.string (bs a)) (.string (bs b)); binOp .neq t (.string (bs a)) (.string (bs b))) w K := by
  refine ⟨_, w, ?_, k⟩
  simp only [eqGuard_at_string, pure_bind, binOp_string_neq, bs_toList, Sem.run_pure]
  congr 3
  rw [Bool.eq_iff_iff]; simp
theorem rBoolEq {t : TypeId} {x y : Operand} {a b : Bool} (hu : P.underlying t = some .bool) (k : K (.bool (a == b)) w) :
    RunP P (do eqGuard .eql t x y (.bool a) (.bool b); binOp .eql t (.bool a) (.bool b)) w K := by
  refine ⟨_, w, ?_, k⟩
  simp only [eqGuard_at_bool, pure_bind, run_eql_bool (P := P) w t a b hu]
theorem rBoolNe {t : TypeId} {x y : Operand} {a b : Bool} (hu : P.underlying t = some .bool) (k : K (.bool (!(a == b))) w) :
    RunP P (do eqGuard .neq t x y (.bool a) (.bool b); binOp .neq t (.bool a) (.bool b)) w K := by
  refine ⟨_, w, ?_, k⟩
  simp only [eqGuard_at_bool, pure_bind]
  simp only [binOp, Sem.run_bind, run_equal_bool (P := P) w t a b hu, Result.andThen_ok, Sem.run_pure]

/-! ## New blocks -/
def cellsK (v : Value) (k : List Value → Prop) : Prop :=
  match v with
  | .agg cs => k cs.toList
  | v => k [v]
theorem cellsK_eq (v : Value) (k : List Value → Prop) : cellsK v k = k v.cells.toList := by
  cases v <;> rfl
theorem rBox0 {t : TypeId} {v : Value} (h : cellsK v fun cs => K (.pointer (some ⟨w.heap.size, 0, none⟩)) (w.alloc (.cells cs.toArray t))) : RunP P (Instr.box t v) w K := by
  rw [cellsK_eq] at h
  exact ⟨_, _, rfl, by simpa using h⟩
theorem rAlloc0 {t : TypeId} {z : Value} (hz : (P.info? t).bind (fun i => i.zero) = some z) (h : cellsK z fun cs => K (.pointer (some ⟨w.heap.size, 0, none⟩)) (w.alloc (.cells cs.toArray t))) :
    RunP P (Instr.alloc t true (.tuple #[])) w K := by
  rw [cellsK_eq] at h
  cases hi : P.info? t with
  | none => simp [hi] at hz
  | some i =>
    simp only [hi, Option.bind_some] at hz
    refine ⟨_, _, ?_, h⟩
    simp [Instr.alloc, zeroValue, typeInfo, hi, hz, newVar, newRow]
def setsK (cs : List Value) (o : Nat) (l : List Value) (k : List Value → Prop) : Prop :=
  List.rec (motive := fun _ => List Value → Nat → Prop) (fun cs _ => k cs) (fun v _ ih cs o => stK cs o v fun cs => ih cs (o + 1)) l cs o
theorem setsK_cons (cs : List Value) (o : Nat) (v : Value) (vs : List Value) (k : List Value → Prop) : setsK cs o (v :: vs) k = stK cs o v fun cs => setsK cs (o + 1) vs k := rfl
def setsL : List Value → Nat → List Value → List Value
  | cs, _, [] => cs
  | cs, o, v :: vs => setsL (cs.set o v) (o + 1) vs
theorem setsK_eq (vs : List Value) : ∀ (cs : List Value) (o : Nat) (k : List Value → Prop), setsK cs o vs k = k (setsL cs o vs) := by
  induction vs with
  | nil => intros; rfl
  | cons v vs ih => intro cs o k; simp only [setsK_cons, setsL, stK_eq, ih]
theorem setsL_length (vs : List Value) : ∀ (cs : List Value) (o : Nat), (setsL cs o vs).length = cs.length := by
  induction vs with
  | nil => intros; rfl
  | cons v vs ih => intro cs o; simp [setsL, ih]
def trueK (b : Bool) (k : Prop) : Prop := match b with
  | true => k
  | false => False
theorem trueK_eq {b : Bool} {k : Prop} (h : trueK b k) : b = true ∧ k := by cases b; exact h.elim; exact ⟨rfl, h⟩
def fillK (place : Nat → Option (Nat × Nat)) (l : List (Nat × Value)) (cs : List Value) (k : List Value → Prop) : Prop :=
  List.rec (motive := fun _ => List Value → Prop) k (fun p _ ih cs => match p with
    | (i, v) => match place i with
      | none => False
      | some p => match p with
        | (o, n) => cellsK v fun vs => trueK (Nat.beq vs.length n && Nat.ble (o + n) cs.length) (setsK cs o vs fun cs => ih cs)) l cs
theorem fillK_cons (place : Nat → Option (Nat × Nat)) (i : Nat) (v : Value) (r : List (Nat × Value)) (cs : List Value) (k : List Value → Prop) : fillK place ((i, v) :: r) cs k = match place i with
      | none => False
      | some p => match p with
        | (o, n) => cellsK v fun vs => trueK (Nat.beq vs.length n && Nat.ble (o + n) cs.length) (setsK cs o vs fun cs => fillK place r cs k) := rfl
theorem foldl_sets (vs : List Value) (o : Nat) : ∀ (j : Nat) (cs : Array Value), (vs.zipIdx j).foldl (fun cs (c, i) => cs.setIfInBounds (o + i) c) cs = (setsL cs.toList (o + j) vs).toArray := by
  induction vs with
  | nil => intro j cs; simp [setsL]
  | cons v vs ih => intro j cs; simp only [List.zipIdx_cons, List.foldl_cons, ih, setsL]; simp [Nat.add_assoc]
theorem fillK_sound {place : Nat → Option (Nat × Nat)} (ps : List (Nat × Value)) : ∀ {cs : List Value} {k : List Value → Prop}, fillK place ps cs k →
    ∃ cs', Instr.fill place cs.toArray ps = some cs' ∧ k cs'.toList := by
  induction ps with
  | nil => exact fun h => ⟨_, rfl, h⟩
  | cons p r ih =>
    obtain ⟨i, v⟩ := p
    intro cs k h
    simp only [fillK_cons, cellsK_eq, setsK_eq] at h
    split at h
    · exact h.elim
    · rename_i pr hp
      obtain ⟨o, n⟩ := pr
      dsimp only at h
      obtain ⟨hb, h⟩ := trueK_eq h
      simp only [Bool.and_eq_true, Nat.beq_eq, Nat.ble_eq] at hb
      obtain ⟨cs', h1, h2⟩ := ih h
      refine ⟨cs', ?_, h2⟩
      have hs : v.cells.size = n := by simpa using hb.1
      simp only [Instr.fill, hp]
      rw [if_neg (by simp [hs]; omega)]
      rw [← h1]
      congr 1
      have := foldl_sets v.cells.toList o 0 cs.toArray
      simp only [Nat.add_zero] at this
      rw [← this, ← Array.foldl_toList, Array.toList_zipIdx]
def zerosK (n : Nat) (z : List Value) : (List Value → Prop) → Prop :=
  Nat.rec (motive := fun _ => (List Value → Prop) → Prop) (fun k => k []) (fun _ ih k => ih fun cs => appK z cs k) n
theorem zerosK_succ (n : Nat) (z : List Value) (k : List Value → Prop) : zerosK (n + 1) z k = zerosK n z fun cs => appK z cs k := rfl
theorem zerosK_eq (n : Nat) (z : List Value) (k : List Value → Prop) : zerosK n z k = k (List.replicate n z).flatten := by
  induction n generalizing k with
  | zero => rfl
  | succ n ih => simp only [zerosK_succ, ih, appK_eq, List.replicate_succ, List.flatten_cons]
theorem zeros_eq (n : Nat) (z : Array Value) : ((Array.range (n * z.size)).map fun i => z[i % z.size]!) = (List.replicate n z.toList).flatten.toArray := by
  apply Array.ext'
  simp only [Array.toList_map, Array.toList_range]
  induction n with
  | zero => simp
  | succ n ih =>
    rw [Nat.succ_mul, List.range_add, List.map_append, ih, List.replicate_succ', List.flatten_append]
    congr 1
    simp only [List.flatten_cons, List.flatten_nil, List.append_nil, List.map_map]
    apply List.ext_getElem
    · simp
    · intro i h1 h2
      simp only [List.length_map, List.length_range] at h1
      simp only [List.getElem_map, List.getElem_range, Function.comp]
      rw [Nat.mul_comm, Nat.mul_add_mod, Nat.mod_eq_of_lt h1]
      simp [h1]
theorem rBuildSlice0 {t e : TypeId} {n sz : Nat} {z : Value} {ps : Array (Nat × Value)} (hu : P.underlying t = some (.slice e)) (hz : (P.info? e).map (fun i => (i.size, i.zero)) = some (sz, some z))
    (hsz : z.cells.size = sz) (hn : n * sz ≤ 16777216)
    (h : zerosK n z.cells.toList fun zs => fillK (fun i => some (i * sz, sz)) ps.toList zs fun cs => K (.slice (some ⟨w.heap.size, 0, none⟩) n n) (w.alloc (.cells cs.toArray e))) :
    RunP P (Instr.buildSlice t n ps) w K := by
  rw [zerosK_eq] at h
  cases hi : P.info? e with
  | none => simp [hi] at hz
  | some i =>
    simp only [hi, Option.map_some, Option.some.injEq, Prod.mk.injEq] at hz
    obtain ⟨h1, h2⟩ := hz
    obtain ⟨cs, hf, k⟩ := fillK_sound _ h
    refine ⟨_, _, ?_, k⟩
    have hb : ¬ (16777216 < n * sz) := by omega
    by_cases h0 : n * sz = 0
    · have : (List.replicate n z.cells.toList).flatten = [] := by
        apply List.eq_nil_of_length_eq_zero
        simp [hsz, h0]
      rw [this] at hf
      have hr : Array.range 0 = #[] := rfl
      simp [Instr.buildSlice, hr, run_underlying hu, sizeOf, typeInfo, hi, h1, h0, hf, newRow]
    · have hzz := zeros_eq n z.cells
      rw [hsz] at hzz
      simp [Instr.buildSlice, run_underlying hu, sizeOf, typeInfo, zeroValue, hi, h1, h0, h2, hb, hsz, hzz, hf, newRow]

/-! ## Blocks -/
/-- Block b is a row of these cells, whole. -/
def Blk (w : World) (b : Nat) (cs : List Value) (e : TypeId) : Prop := w.heap[b]? = some (.cells cs.toArray e (0, 0))
/-- At block b, from offset o on, lie these cells. -/
def At (w : World) (b o : Nat) (vs : List Value) : Prop := ∃ cs e fz, w.heap[b]? = some (.cells cs e fz) ∧ ∀ i v, vs[i]? = some v → cs[o + i]? = some v
/-- A new block. -/
structure New (w w' : World) (cs : List Value) (e : TypeId) : Prop where
  blk : Blk w' w.heap.size cs e
  below : Below w.heap.size w w'
  size : w'.heap.size = w.heap.size + 1
/-- Block b alone may have changed. -/
structure Upd (w w' : World) (b : Nat) : Prop where
  os : w'.os = w.os
  tape : w'.tape = w.tape
  output : w'.output = w.output
  size : w'.heap.size = w.heap.size
  block : ∀ k, k ≠ b → w'.heap[k]? = w.heap[k]?
theorem New.mk' (w : World) (cs : List Value) (e : TypeId) : New w (w.alloc (.cells cs.toArray e)) cs e :=
  ⟨heap_alloc_new w _, (Below.refl _ _).alloc (Nat.le_refl _) _, by simp⟩
theorem Upd.below {B : Nat} {w0 w w' : World} {b : Nat} (h : Upd w w' b) (hb : Below B w0 w) (hB : B ≤ b) : Below B w0 w' :=
  ⟨h.os.trans hb.os, h.tape.trans hb.tape, h.output.trans hb.output, by rw [h.size]; exact hb.size, fun k hk => (h.block k (by omega)).trans (hb.block k hk)⟩
theorem Blk.at {w : World} {b : Nat} {cs : List Value} {e : TypeId} (h : Blk w b cs e) : At w b 0 cs :=
  ⟨_, _, _, h, fun i v hi => by simpa using hi⟩
theorem Blk.lt {w : World} {b : Nat} {cs : List Value} {e : TypeId} (h : Blk w b cs e) : b < w.heap.size := (Array.getElem?_eq_some_iff.1 h).1
theorem At.lt {w : World} {b o : Nat} {vs : List Value} (h : At w b o vs) : b < w.heap.size := by
  obtain ⟨_, _, _, h, _⟩ := h; exact (Array.getElem?_eq_some_iff.1 h).1
theorem Blk.keep {w w' : World} {b : Nat} {cs : List Value} {e : TypeId} (h : Blk w b cs e) (hk : w'.heap[b]? = w.heap[b]?) : Blk w' b cs e := hk.trans h
theorem Blk.below {B : Nat} {w w' : World} {b : Nat} {cs : List Value} {e : TypeId} (h : Blk w b cs e) (hb : Below B w w') (hB : b < B) : Blk w' b cs e := h.keep (hb.block b hB)
theorem At.keep {w w' : World} {b o : Nat} {vs : List Value} (h : At w b o vs) (hk : w'.heap[b]? = w.heap[b]?) : At w' b o vs := by
  obtain ⟨cs, e, fz, h1, h2⟩ := h; exact ⟨cs, e, fz, hk.trans h1, h2⟩
theorem At.below {B : Nat} {w w' : World} {b o : Nat} {vs : List Value} (h : At w b o vs) (hb : Below B w w') (hB : b < B) : At w' b o vs := h.keep (hb.block b hB)
theorem At.sub {w : World} {b o : Nat} {vs : List Value} (h : At w b o vs) (i n : Nat) : At w b (o + i) ((vs.drop i).take n) := by
  obtain ⟨cs, e, fz, h1, h2⟩ := h
  refine ⟨cs, e, fz, h1, fun j v hj => ?_⟩
  rw [List.getElem?_take] at hj
  split at hj
  · rw [List.getElem?_drop] at hj; rw [Nat.add_assoc]; exact h2 _ _ hj
  · cases hj
theorem rBox {t : TypeId} {v : Value} (h : cellsK v fun cs => ∀ w', New w w' cs t → K (.pointer (some ⟨w.heap.size, 0, none⟩)) w') : RunP P (Instr.box t v) w K :=
  rBox0 (by rw [cellsK_eq] at h ⊢; exact h _ (New.mk' _ _ _))
theorem rAlloc {t : TypeId} {z : Value} (hz : (P.info? t).bind (fun i => i.zero) = some z) (h : cellsK z fun cs => ∀ w', New w w' cs t → K (.pointer (some ⟨w.heap.size, 0, none⟩)) w') :
    RunP P (Instr.alloc t true (.tuple #[])) w K :=
  rAlloc0 hz (by rw [cellsK_eq] at h ⊢; exact h _ (New.mk' _ _ _))
theorem fillK_imp {place : Nat → Option (Nat × Nat)} (ps : List (Nat × Value)) : ∀ {cs : List Value} {k k' : List Value → Prop}, fillK place ps cs k → (∀ cs, k cs → k' cs) → fillK place ps cs k' := by
  induction ps with
  | nil => exact fun h hk => hk _ h
  | cons p r ih =>
    obtain ⟨i, v⟩ := p
    intro cs k k' h hk
    simp only [fillK_cons, cellsK_eq, setsK_eq] at h ⊢
    split at h
    · exact h.elim
    · rename_i pr hp
      obtain ⟨o, n⟩ := pr
      dsimp only at h ⊢
      obtain ⟨hb, h⟩ := trueK_eq h
      rw [hb]; exact ih h hk
theorem rBuildSlice {t e : TypeId} {n sz : Nat} {z : Value} {ps : Array (Nat × Value)} (hu : P.underlying t = some (.slice e)) (hz : (P.info? e).map (fun i => (i.size, i.zero)) = some (sz, some z))
    (hsz : z.cells.size = sz) (hn : n * sz ≤ 16777216)
    (h : zerosK n z.cells.toList fun zs => fillK (fun i => some (i * sz, sz)) ps.toList zs fun cs => ∀ w', New w w' cs e → K (.slice (some ⟨w.heap.size, 0, none⟩) n n) w') :
    RunP P (Instr.buildSlice t n ps) w K :=
  rBuildSlice0 hu hz hsz hn (by rw [zerosK_eq] at h ⊢; exact fillK_imp _ h fun cs h => h _ (New.mk' _ _ _))

/-! ## Loads, stores, places -/
def aggB : TypeDesc → Bool
  | .struct _ | .array _ _ => true
  | _ => false
theorem isAgg_run {t : TypeId} {d : TypeDesc} (hu : P.underlying t = some d) : (isAgg t).run P w = .ok (aggB d) w := by
  unfold isAgg
  rw [Sem.run_bind, run_underlying hu w]
  cases d <;> rfl
theorem At.cell {w : World} {b o : Nat} {vs : List Value} (h : At w b o vs) {i : Nat} {v : Value} (hi : vs[i]? = some v) : w.cell? ⟨b, o + i, none⟩ = some v := by
  obtain ⟨cs, e, fz, h1, h2⟩ := h
  rw [cell_of_row w b (o + i) cs e fz h1]; exact h2 i v hi
theorem rLoadC {t : TypeId} {d : TypeDesc} {b o : Nat} {v : Value} (hc : w.cell? ⟨b, o, none⟩ = some v) (hu : P.underlying t = some d) (hd : aggB d = false) (k : K v w) :
    RunP P (Instr.loadAt t (.pointer (some ⟨b, o, none⟩))) w K := by
  refine ⟨v, w, ?_, k⟩
  simp [Instr.loadAt, Instr.sureAddr, loadVar, isAgg_run hu, hd, hc]
theorem rLoad {t : TypeId} {d : TypeDesc} {b o : Nat} {vs : List Value} (h : At w b o vs) (i : Nat) (hu : P.underlying t = some d) (hd : aggB d = false) (k : nthK vs i fun v => K v w) :
    RunP P (Instr.loadAt t (.pointer (some ⟨b, o + i, none⟩))) w K := by
  obtain ⟨v, hv, k⟩ := nthK_eq k
  exact rLoadC (h.cell hv) hu hd k
theorem rLoad0 {t : TypeId} {d : TypeDesc} {b o : Nat} {vs : List Value} (h : At w b o vs) (hu : P.underlying t = some d) (hd : aggB d = false) (k : nthK vs 0 fun v => K v w) :
    RunP P (Instr.loadAt t (.pointer (some ⟨b, o, none⟩))) w K := rLoad h 0 hu hd k
theorem rLoadA0 {t : TypeId} {d : TypeDesc} {b o : Nat} {vs : List Value} (h : At w b o vs) (hu : P.underlying t = some d) (hd : aggB d = true) (hs : (P.info? t).map (·.size) = some vs.length) (k : K (.agg vs.toArray) w) :
    RunP P (Instr.loadAt t (.pointer (some ⟨b, o, none⟩))) w K := by
  refine ⟨_, w, ?_, k⟩
  cases hi : P.info? t with
  | none => simp [hi] at hs
  | some i =>
    have hl : i.size = vs.length := by simpa [hi] using hs
    have := run_loadCells_list (P := P) w ⟨b, o, none⟩ vs (fun j v hv => by rw [Addr.add_lit]; exact h.cell hv)
    simp [Instr.loadAt, Instr.sureAddr, loadVar, isAgg_run hu, hd, sizeOf, typeInfo, hi, hl, this]
def dropK (l : List Value) : Nat → (List Value → Prop) → Prop :=
  List.rec (motive := fun _ => Nat → (List Value → Prop) → Prop) (fun _ k => k []) (fun x r ih n k => Nat.rec (motive := fun _ => Prop) (k (x :: r)) (fun m _ => ih m k) n) l
theorem dropK_succ (x : Value) (r : List Value) (n : Nat) (k : List Value → Prop) : dropK (x :: r) (n + 1) k = dropK r n k := rfl
def takeK (l : List Value) : Nat → (List Value → Prop) → Prop :=
  List.rec (motive := fun _ => Nat → (List Value → Prop) → Prop) (fun n k => Nat.rec (motive := fun _ => Prop) (k []) (fun _ _ => False) n) (fun x _ ih n k => Nat.rec (motive := fun _ => Prop) (k []) (fun m _ => ih m fun l => k (x :: l)) n) l
theorem dropK_eq (l : List Value) (n : Nat) (k : List Value → Prop) : dropK l n k = k (l.drop n) := by
  induction l generalizing n with
  | nil => cases n <;> rfl
  | cons x r ih => cases n with
    | zero => rfl
    | succ n => simp [dropK_succ, ih]
theorem takeK_eq {l : List Value} {n : Nat} {k : List Value → Prop} (h : takeK l n k) : n ≤ l.length ∧ k (l.take n) := by
  induction l generalizing n k with
  | nil => cases n with
    | zero => exact ⟨Nat.le_refl _, h⟩
    | succ n => exact h.elim
  | cons x r ih => cases n with
    | zero => exact ⟨Nat.zero_le _, h⟩
    | succ n => obtain ⟨h1, h2⟩ := ih (n := n) h; exact ⟨by simp; omega, by simpa using h2⟩
/-- A struct or array out of the middle of known cells. -/
theorem rLoadA {t : TypeId} {d : TypeDesc} {b o : Nat} {vs : List Value} (h : At w b o vs) (i : Nat) (hu : P.underlying t = some d) (hd : aggB d = true)
    (k : dropK vs i fun r => takeK r (P.cellsOf t) fun us => K (.agg us.toArray) w) :
    RunP P (Instr.loadAt t (.pointer (some ⟨b, o + i, none⟩))) w K := by
  rw [dropK_eq] at k
  obtain ⟨h1, h2⟩ := takeK_eq k
  refine rLoadA0 (h.sub i (P.cellsOf t)) hu hd ?_ h2
  cases hi : P.info? t with
  | none => simp [Program.underlying, hi] at hu
  | some j => simp [Program.cellsOf, hi] at h1 ⊢; omega
theorem rStoreC {t : TypeId} {e : TypeId} {b o : Nat} {cs : List Value} {v : Value} {K : World → Prop} (hb : Blk w b cs e) (ho : o < cs.length) (hs : (P.info? t).map (·.size) = some 1) (hv : v.oneCell' = true)
    (k : stK cs o v fun cs' => ∀ w', Upd w w' b → Blk w' b cs' e → K w') : DoP P (Instr.storeAt t (.pointer (some ⟨b, o, none⟩)) v) w K := by
  rw [stK_eq] at k
  cases hi : P.info? t with
  | none => simp [hi] at hs
  | some i =>
    have hl : i.size = 1 := by simpa [hi] using hs
    have hvc : v.cells = #[v] := by cases v <;> first | rfl | (simp [Value.oneCell'] at hv)
    have hc : w.cell? ⟨b, o, none⟩ = some cs[o] := by
      rw [cell_of_row w b o _ e (0, 0) hb]; simp [ho]
    have hf : w.frozen? ⟨b, o, none⟩ = false := frozen_of_row w b o _ e hb
    have hw : Upd w (w.setCell ⟨b, o, none⟩ v) b := ⟨rfl, rfl, rfl, by simp, fun k hk => heap_setCell_other w _ k v hk⟩
    have hw2 : Blk (w.setCell ⟨b, o, none⟩ v) b (cs.set o v) e := by
      unfold Blk
      rw [heap_setCell_same w b o _ e v hb]; simp
    refine ⟨_, ?_, k _ hw hw2⟩
    have hst : (store ⟨b, o, none⟩ v).run P w = .ok () (w.setCell ⟨b, o, none⟩ v) := by
      cases v <;> first | (simp [Value.oneCell'] at hv; done) | simp [store, Sem.run, hc, hf]
    simp [Instr.storeAt, Instr.sureAddr, storeVar, sizeOf, typeInfo, hi, hl, hvc, storeCells, Addr.add_zero', hst]
theorem rStoreL {t : TypeId} {e : TypeId} {b o : Nat} {cs : List Value} {v : Value} {K : World → Prop} (hb : Blk w b cs e) (ho : o < cs.length) (hs : (P.info? t).map (·.size) = some 1) (hv : v.oneCell' = true)
    (k : ∀ w', Upd w w' b → Blk w' b (cs.set o v) e → K w') : DoP P (Instr.storeAt t (.pointer (some ⟨b, o, none⟩)) v) w K :=
  rStoreC hb ho hs hv (by rw [stK_eq]; exact k)
theorem rIdx {t e : TypeId} {b o len cap : Nat} {ki : IntKind} {i : Int} (sz j p : Nat) (hj : i = j) (hl : j < len) (hp : o + j * sz = p) (ht : P.underlying t = some (.slice e)) (hs : (P.info? e).map (fun i => i.size) = some sz)
    (k : K (.pointer (some ⟨b, p, none⟩)) w) : RunP P (Instr.indexAt t (.slice (some ⟨b, o, none⟩) len cap) (.int ki i)) w K := by
  subst hj; subst hp
  refine ⟨_, w, ?_, k⟩
  cases hi' : P.info? e with
  | none => simp [hi'] at hs
  | some i' =>
    simp only [hi', Option.map_some, Option.some.injEq] at hs
    simp [Instr.indexAt, asIntOf, run_underlying ht, sizeOf, typeInfo, hi', hs, Addr.add_lit, hl]
theorem Upd.trans {w w' w'' : World} {b : Nat} (h : Upd w w' b) (k : Upd w' w'' b) : Upd w w'' b :=
  ⟨k.os.trans h.os, k.tape.trans h.tape, k.output.trans h.output, k.size.trans h.size, fun i hi => (k.block i hi).trans (h.block i hi)⟩
theorem Upd.refl (w : World) (b : Nat) : Upd w w b := ⟨rfl, rfl, rfl, rfl, fun _ _ => rfl⟩
def fldK (l : List Field) : Nat → (TypeId → Nat → Prop) → Prop :=
  List.rec (motive := fun _ => Nat → (TypeId → Nat → Prop) → Prop) (fun _ _ => False) (fun f _ ih n k => Nat.rec (motive := fun _ => Prop) (match f with
    | ⟨_, ty, off, _, _, _, _⟩ => k ty off) (fun m _ => ih m k) n) l
theorem fldK_eq {l : List Field} {i : Nat} {k : TypeId → Nat → Prop} (h : fldK l i k) : ∃ f, l[i]? = some f ∧ k f.type f.offset := by
  induction l generalizing i with
  | nil => exact h.elim
  | cons f r ih => cases i with
    | zero => exact ⟨f, rfl, h⟩
    | succ i => simpa using ih (i := i) h
theorem rFieldAt {s : TypeId} {fs : Array Field} {i b o : Nat} (hu : P.underlying s = some (.struct fs)) (h : fldK fs.toList i fun ty off => trueK (Nat.ble 1 (P.cellsOf ty)) (K (.pointer (some ⟨b, o + off, none⟩)) w)) :
    RunP P (Instr.fieldAt s (.pointer (some ⟨b, o, none⟩)) i) w K := by
  obtain ⟨f, hf, h⟩ := fldK_eq h
  obtain ⟨h1, h2⟩ := trueK_eq h
  refine ⟨_, w, ?_, h2⟩
  simp only [Array.getElem?_toList] at hf
  have h1 : 1 ≤ P.cellsOf f.type := by simpa using h1
  cases hi : P.info? f.type with
  | none => simp [Program.cellsOf, hi] at h1
  | some j =>
    have : j.size ≠ 0 := by simp [Program.cellsOf, hi] at h1; omega
    simp [Instr.fieldAt, run_underlying hu, hf, Instr.sureAddr, fieldPlace, sizeOf, typeInfo, hi, this, Addr.add_lit]
def partK (P : Program) (ty : TypeId) (cs : List Value) (off : Nat) (k : Value → Prop) : Prop :=
  match P.underlying ty with
  | some d => match aggB d with
    | true => dropK cs off fun r => takeK r (P.cellsOf ty) fun vs => k (.agg vs.toArray)
    | false => nthK cs off k
  | none => False
theorem partK_sound {ty : TypeId} {cs : List Value} {off : Nat} {k : Value → Prop} (h : partK P ty cs off k) : ∃ v, (part ty cs.toArray off).run P w = .ok v w ∧ k v := by
  unfold partK at h
  split at h
  · rename_i d hu
    split at h
    · rename_i hd
      rw [dropK_eq] at h
      obtain ⟨h1, h2⟩ := takeK_eq h
      refine ⟨_, ?_, h2⟩
      cases hi : P.info? ty with
      | none => simp [Program.underlying, hi] at hu
      | some i =>
        simp [part, isAgg_run hu, hd, sizeOf, typeInfo, hi, Program.cellsOf]
    · rename_i hd
      obtain ⟨v, hv, h⟩ := nthK_eq h
      exact ⟨v, by simp [part, isAgg_run hu, hd, hv], h⟩
  · exact h.elim
theorem rField {s : TypeId} {fs : Array Field} {i : Nat} {cs : Array Value} (hu : P.underlying s = some (.struct fs)) (h : fldK fs.toList i fun ty off => partK P ty cs.toList off fun v => K v w) :
    RunP P (Instr.field s (.agg cs) i) w K := by
  obtain ⟨f, hf, h⟩ := fldK_eq h
  obtain ⟨v, hv, h⟩ := partK_sound (w := w) h
  refine ⟨v, w, ?_, h⟩
  simp only [Array.getElem?_toList] at hf
  simp only [Array.toArray_toList] at hv
  simp [Instr.field, run_underlying hu, hf, asAgg, hv]
def placesK (P : Program) (l : List Field) : (List (Nat × Nat) → Prop) → Prop :=
  List.rec (motive := fun _ => (List (Nat × Nat) → Prop) → Prop) (fun k => k []) (fun f _ ih k => match f with
    | ⟨_, ty, off, _, _, _, _⟩ => ih fun l => k ((off, P.cellsOf ty) :: l)) l
theorem placesK_cons (f : Field) (r : List Field) (k : List (Nat × Nat) → Prop) : placesK P (f :: r) k = placesK P r fun l => k ((f.offset, P.cellsOf f.type) :: l) := by cases f; rfl
theorem placesK_eq (l : List Field) (k : List (Nat × Nat) → Prop) : placesK P l k = k (l.map fun f => (f.offset, P.cellsOf f.type)) := by
  induction l generalizing k with
  | nil => rfl
  | cons f r ih => simp [placesK_cons, ih]
theorem mapM_run {α β : Type} {g : α → Sem β} {h : α → β} : ∀ (l : List α), (∀ a, a ∈ l → (g a).run P w = .ok (h a) w) → (l.mapM g).run P w = .ok (l.map h) w
  | [], _ => by simp
  | a :: r, hl => by
    rw [List.mapM_cons]
    simp only [Sem.run_bind, hl a (List.mem_cons_self ..), Result.andThen_ok, mapM_run r fun b hb => hl b (List.mem_cons_of_mem _ hb), Sem.run_pure, List.map_cons]
theorem sizeOf_run {t : TypeId} (h : (P.info? t).isSome = true) : (sizeOf t).run P w = .ok (P.cellsOf t) w := by
  obtain ⟨j, hj⟩ := Option.isSome_iff_exists.1 h
  simp [sizeOf, typeInfo, hj, Program.cellsOf]
theorem rBuild {t : TypeId} {fs : Array Field} {z : Value} {ps : Array (Nat × Value)} (hu : P.underlying t = some (.struct fs)) (hz : (P.info? t).bind (fun i => i.zero) = some z)
    (hf : fs.toList.all (fun f => (P.info? f.type).isSome) = true)
    (h : placesK P fs.toList fun pl => cellsK z fun zs => fillK (fun i => pl[i]?) ps.toList zs fun cs => K (.agg cs.toArray) w) : RunP P (Instr.build t ps) w K := by
  rw [placesK_eq, cellsK_eq] at h
  obtain ⟨cs, h1, h2⟩ := fillK_sound _ h
  refine ⟨_, w, ?_, h2⟩
  cases hi : P.info? t with
  | none => simp [hi] at hz
  | some i =>
    simp only [hi, Option.bind_some] at hz
    have hm : (fs.mapM (m := Sem) fun f => do pure (f.offset, ← sizeOf f.type)).run P w = .ok (fs.toList.map fun f => (f.offset, P.cellsOf f.type)).toArray w := by
      rw [Array.mapM_eq_mapM_toList]
      rw [Sem.run_map, mapM_run (h := fun f => (f.offset, P.cellsOf f.type)) _ (fun f hm => ?_)]
      · rfl
      · have := List.all_eq_true.1 hf f hm
        simp only [Sem.run_bind, sizeOf_run this, Result.andThen_ok, Sem.run_pure]
    have hzv : (zeroValue t).run P w = .ok z w := by simp [zeroValue, typeInfo, hi, hz]
    simp only [Array.toArray_toList] at h1
    unfold Instr.build
    simp only [Sem.run_bind, hzv, Result.andThen_ok, run_underlying hu, hm, List.getElem?_toArray, h1, Sem.run_pure, Array.toArray_toList]
end Go.Proofs.YtcpniokopahakaaDoor.Eng
namespace Go.Proofs.YtcpniokopahakaaDoor.Eng
open Go Go.RowKit
set_option linter.unusedVariables false
variable {P : Program} {w : World} {K : Value → World → Prop}

/-! ## Own rows: grown by append -/
theorem below_grown {lo B : Nat} {w0 w w' : World} {e : TypeId} {sz : Nat} {v : Value} {n : Nat} {xs : List Value} (hb : Below B w0 w) (hown : w.ownsRow lo e sz v n xs) (hg : w.grownBy w' v.ownBlock) (hB : B ≤ lo) (hlo : B ≤ w.heap.size) : Below B w0 w' :=
  hb.grown hg hlo fun k hk => Nat.le_trans hB (hown.lt k hk).1
theorem own_keep {lo : Nat} {w w' : World} {e : TypeId} {sz : Nat} {v : Value} {n : Nat} {xs : List Value} (h : w.ownsRow lo e sz v n xs) (hb : ∀ k, v.ownBlock = some k → w'.heap[k]? = w.heap[k]?) : w'.ownsRow lo e sz v n xs := by
  refine ⟨h.1, ?_⟩
  rcases h.2 with hn | ⟨g, cap, cur, rfl, hbg, hgg, rest⟩
  · exact .inl hn
  · refine .inr ⟨g, cap, cur, rfl, hbg, ?_, rest⟩
    rw [hb g rfl]; exact hgg
theorem own_below {lo B : Nat} {w w' : World} {e : TypeId} {sz : Nat} {v : Value} {n : Nat} {xs : List Value} (h : w.ownsRow lo e sz v n xs) (hb : Below B w w') (hB : w.heap.size ≤ B) : w'.ownsRow lo e sz v n xs :=
  own_keep h fun k hk => hb.block k (Nat.lt_of_lt_of_le (h.lt k hk).2 hB)
theorem own_mono {lo lo' : Nat} {w : World} {e : TypeId} {sz : Nat} {v : Value} {n : Nat} {xs : List Value} (h : w.ownsRow lo e sz v n xs) (hl : lo' ≤ lo) : w.ownsRow lo' e sz v n xs := by
  refine ⟨h.1, ?_⟩
  rcases h.2 with hn | ⟨g, cap, cur, rfl, hbg, rest⟩
  · exact .inl hn
  · exact .inr ⟨g, cap, cur, rfl, Nat.le_trans hl hbg, rest⟩
theorem New.own {w w' : World} {cs : List Value} {e : TypeId} (h : New w w' cs e) (n sz : Nat) (hn : cs.length = n * sz) (hm : n ≤ 140737488355328) : w'.ownsRow w.heap.size e sz (.slice (some ⟨w.heap.size, 0, none⟩) n n) n cs :=
  ⟨hn, .inr ⟨w.heap.size, n, cs.toArray, rfl, Nat.le_refl _, h.blk, Nat.le_refl _, by simp [maxLen]; omega, by simpa using hn, List.take_of_length_le (by simp [hn])⟩⟩
/-- append of cells that lie somewhere, to a row of the call's own -/
theorem rApp (lo : Nat) {t ty e : TypeId} (z : Value) (sz by_ : Nat) {v : Value} {n : Nat} {xs : List Value} {m c b o : Nat} {news : List Value} (hown : w.ownsRow lo e sz v n xs) (hat : At w b o news)
    (hl : news.length = m * sz) (h1 : ∀ u ∈ news, u.oneCell' = true) (hu : P.underlying t = some (.slice e)) (hz : (P.info? e).map (fun i => (i.zero, i.size, i.bytes)) = some (some z, sz, by_))
    (hzs : z.cells.size = sz) (hsz : 0 < sz) (hb : (n + m) * by_ ≤ 140737488355328) (hm : n + m ≤ 140737488355328) (hlo : lo ≤ w.heap.size)
    (k : ∀ v' w', w'.ownsRow lo e sz v' (n + m) (xs ++ news) → w.grownBy w' v.ownBlock → (v' = .slice none 0 0 ↔ v = .slice none 0 0 ∧ m = 0) → K v' w') :
    RunP P (Builtin.append_ #[t, t] ty #[v, .slice (some ⟨b, o, none⟩) m c]) w K := by
  cases hi : P.info? e with
  | none => simp [hi] at hz
  | some i =>
    simp only [hi, Option.map_some, Option.some.injEq, Prod.mk.injEq] at hz
    obtain ⟨h2, h3, h4⟩ := hz
    obtain ⟨v', w', hr, a1, a2, a3⟩ := run_append_own (P := P) w lo t ty e i z sz by_ hu hi h2 h3 h4 hzs hsz v n xs hown ⟨b, o, none⟩ m c news hl
      (fun j u hj => by rw [Addr.add_lit]; exact hat.cell hj) h1 (by simp [maxLen]; omega) hb hlo
    exact ⟨v', w', hr, k v' w' a1 a2 a3⟩
theorem rAppNil {lo : Nat} {t ty e : TypeId} {sz : Nat} {v : Value} {n : Nat} {xs : List Value} (hown : w.ownsRow lo e sz v n xs) (hu : P.underlying t = some (.slice e)) (hi : (P.info? e).map (fun i => i.size) = some sz)
    (k : K v w) : RunP P (Builtin.append_ #[t, t] ty #[v, .slice none 0 0]) w K := by
  cases hi' : P.info? e with
  | none => simp [hi'] at hi
  | some i => exact ⟨_, _, run_append_owned_none (P := P) w lo t ty e i sz hu hi' v n xs hown, k⟩
/-- append of one value that was laid into a new block just ahead -/
theorem rApp1 (lo : Nat) {t ty e : TypeId} (z : Value) (by_ : Nat) {w0 : World} {v u : Value} {n : Nat} {xs : List Value} (hown : w0.ownsRow lo e 1 v n xs) (hnew : New w0 w [u] e) (h1 : u.oneCell' = true)
    (hu : P.underlying t = some (.slice e)) (hz : (P.info? e).map (fun i => (i.zero, i.size, i.bytes)) = some (some z, 1, by_)) (hzs : z.cells.size = 1)
    (hb : (n + 1) * by_ ≤ 140737488355328) (hm : n + 1 ≤ 140737488355328) (hlo : lo ≤ w0.heap.size)
    (k : ∀ v' w', w'.ownsRow lo e 1 v' (n + 1) (xs ++ [u]) → w0.grownBy w' v.ownBlock → v' ≠ .slice none 0 0 → K v' w') :
    RunP P (Builtin.append_ #[t, t] ty #[v, .slice (some ⟨w0.heap.size, 0, none⟩) 1 1]) w K := by
  refine rApp lo z 1 by_ (own_below hown hnew.below (Nat.le_refl _)) hnew.blk.at rfl (by simpa using h1) hu hz hzs Nat.one_pos hb hm (by rw [hnew.size]; omega) ?_
  intro v' w' a1 a2 a3
  refine k v' w' a1 ⟨a2.os.trans hnew.below.os, a2.tape.trans hnew.below.tape, a2.output.trans hnew.below.output, Nat.le_trans hnew.below.size a2.size, fun j hj hne => (a2.block j (by rw [hnew.size]; omega) hne).trans (hnew.below.block j hj)⟩ ?_
  intro h
  exact absurd (a3.1 h).2 (by decide)

/-! ## Bytes to strings -/
def byteV (c : UInt8) : Value := .int .u8 (c.toNat : Int)
theorem rBytesStr {lo : Nat} {s d e : TypeId} {v : Value} {n : Nat} {l : List UInt8} (hown : w.ownsRow lo e 1 v n (l.map byteV)) (hs : P.underlying s = some (.slice e)) (he : P.underlying e = some (.int .u8)) (hd : P.underlying d = some .string)
    (k : K (.string (bs l)) w) : RunP P (convert s d v) w K := by
  refine ⟨_, w, ?_, k⟩
  have hn : n = l.length := by have := hown.1; simp at this; omega
  rcases hown.2 with ⟨rfl, h0⟩ | ⟨g, cap, cur, rfl, _, hg, _, _, _, htake⟩
  · have : l = [] := List.eq_nil_of_length_eq_zero (by omega)
    subst this
    rw [run_convert_bytes_string (P := P) w s d e none 0 0 hs he hd]
    rfl
  · rw [run_convert_bytes_string (P := P) w s d e _ _ _ hs he hd]
    have hl : (loadCells ⟨g, 0, none⟩ n).run P w = .ok ((l.map fun c => (c.toNat : Int)).map (Value.int .u8)).toArray w := by
      have := run_loadCells_list (P := P) w ⟨g, 0, none⟩ (l.map byteV) (fun j u hj => by
        rw [Addr.add_lit, Nat.zero_add, cell_of_row w g j cur e (0, 0) hg]
        rw [← htake, List.getElem?_take] at hj
        split at hj
        · simpa using hj
        · cases hj)
      simp only [List.length_map] at this
      rw [hn, this]
      simp [byteV, Function.comp_def]
    rw [run_bytesToString (P := P) w _ n cap _ hl, foldl_push_bytes]
    simp only [List.map_map]
    congr 2
    apply ByteArray.ext
    simp [bs, Function.comp_def]

/-! ## Slices that read as lists -/
abbrev Hv := Nat → Obj → Prop
/-- The blocks from lo to hi of a world. -/
def Rg (w : World) (lo hi : Nat) : Hv := fun b o => lo ≤ b ∧ b < hi ∧ w.heap[b]? = some o
def Hle (H H' : Hv) : Prop := ∀ b o, H b o → H' b o
theorem Hle.refl (H : Hv) : Hle H H := fun _ _ h => h
theorem Rg.mono {w w' : World} {lo hi lo' hi' : Nat} (hlo : lo' ≤ lo) (hhi : hi ≤ hi') (hs : ∀ b, lo ≤ b → b < hi → w'.heap[b]? = w.heap[b]?) : Hle (Rg w lo hi) (Rg w' lo' hi') :=
  fun b o ⟨h1, h2, h3⟩ => ⟨Nat.le_trans hlo h1, Nat.lt_of_lt_of_le h2 hhi, (hs b h1 h2).trans h3⟩
theorem Rg.below {w w' : World} {lo hi B : Nat} (hb : Below B w w') (h : hi ≤ B) : Hle (Rg w lo hi) (Rg w' lo hi) := Rg.mono (Nat.le_refl _) (Nat.le_refl _) fun b _ h2 => hb.block b (Nat.lt_of_lt_of_le h2 h)
def AtH (H : Hv) (b o : Nat) (vs : List Value) : Prop := ∃ cs e fz, H b (.cells cs e fz) ∧ ∀ i v, vs[i]? = some v → cs[o + i]? = some v
theorem AtH.at {w : World} {lo hi b o : Nat} {vs : List Value} (h : AtH (Rg w lo hi) b o vs) : At w b o vs := by
  obtain ⟨cs, e, fz, ⟨_, _, h1⟩, h2⟩ := h; exact ⟨cs, e, fz, h1, h2⟩
theorem AtH.mono {H H' : Hv} {b o : Nat} {vs : List Value} (h : AtH H b o vs) (hh : Hle H H') : AtH H' b o vs := by
  obtain ⟨cs, e, fz, h1, h2⟩ := h; exact ⟨cs, e, fz, hh _ _ h1, h2⟩
section
variable {α : Type}
/-- Cells that read as a list, sz cells an element. -/
def RowR (R : Hv → List Value → α → Prop) (sz : Nat) (H : Hv) (cells : List Value) (xs : List α) : Prop :=
  cells.length = xs.length * sz ∧ ∀ i x, xs[i]? = some x → R H ((cells.drop (i * sz)).take sz) x
/-- A slice that reads as a list. -/
def SlR (R : Hv → List Value → α → Prop) (sz : Nat) (H : Hv) (v : Value) (xs : List α) : Prop :=
  ∃ a cap, v = .slice a xs.length cap ∧ (xs.length ≤ cap ∧ cap ≤ 9223372036854775807) ∧ (a = none → xs = [] ∧ cap = 0) ∧
    (xs ≠ [] → ∃ b o news, a = some ⟨b, o, none⟩ ∧ AtH H b o news ∧ RowR R sz H news xs)
def Mono (R : Hv → List Value → α → Prop) : Prop := ∀ H H' vs x, Hle H H' → R H vs x → R H' vs x
theorem RowR.mono {R : Hv → List Value → α → Prop} {sz : Nat} {H H' : Hv} {cells : List Value} {xs : List α} (hR : Mono R) (h : RowR R sz H cells xs) (hh : Hle H H') : RowR R sz H' cells xs :=
  ⟨h.1, fun i x hx => hR _ _ _ _ hh (h.2 i x hx)⟩
theorem SlR.mono {R : Hv → List Value → α → Prop} {sz : Nat} {H H' : Hv} {v : Value} {xs : List α} (hR : Mono R) (h : SlR R sz H v xs) (hh : Hle H H') : SlR R sz H' v xs := by
  obtain ⟨a, cap, h1, h2, h3, h4⟩ := h
  exact ⟨a, cap, h1, h2, h3, fun hx => let ⟨b, o, news, e, k1, k2⟩ := h4 hx; ⟨b, o, news, e, k1.mono hh, k2.mono hR hh⟩⟩
theorem SlR.len {R : Hv → List Value → α → Prop} {sz : Nat} {H : Hv} {v : Value} {xs : List α} (h : SlR R sz H v xs) : xs.length ≤ 9223372036854775807 := by
  obtain ⟨a, cap, h1, h2, h3, h4⟩ := h; omega
theorem SlR.nil (R : Hv → List Value → α → Prop) (sz : Nat) (H : Hv) : SlR R sz H (.slice none 0 0) [] :=
  ⟨none, 0, rfl, by simp, fun _ => ⟨rfl, rfl⟩, fun h => absurd rfl h⟩
theorem rLenR {R : Hv → List Value → α → Prop} {sz : Nat} {H : Hv} {t ty e : TypeId} {v : Value} {xs : List α} (h : SlR R sz H v xs) (ht : P.underlying t = some (.slice e)) (k : K (.int .i64 xs.length) w) :
    RunP P (Builtin.len_ #[t] ty #[v]) w K := by
  obtain ⟨a, cap, rfl, h2, h3, h4⟩ := h
  exact rLenSl ht k
/-- x[i] of a slice that reads as a list: the place, and what lies there. -/
theorem rIdxR {R : Hv → List Value → α → Prop} (sz : Nat) {lo hi : Nat} {t e : TypeId} {v : Value} {xs : List α} {ki : IntKind} {i : Int} (h : SlR R sz (Rg w lo hi) v xs) (j : Nat) (hj : i = j) (hl : j < xs.length)
    (ht : P.underlying t = some (.slice e)) (hs : (P.info? e).map (fun i => i.size) = some sz)
    (k : ∀ b o vs, vs.length = sz → At w b o vs → R (Rg w lo hi) vs xs[j] → K (.pointer (some ⟨b, o, none⟩)) w) : RunP P (Instr.indexAt t v (.int ki i)) w K := by
  obtain ⟨a, cap, rfl, h2, h3, h4⟩ := h
  subst hj
  obtain ⟨b, o, news, rfl, k1, k2⟩ := h4 (by intro e; subst e; simp at hl)
  have hr := k2.2 j xs[j] (List.getElem?_eq_getElem hl)
  have hle : j * sz + sz ≤ news.length := by rw [k2.1, ← Nat.succ_mul]; exact Nat.mul_le_mul_right _ hl
  refine ⟨_, w, ?_, k b (o + j * sz) _ (by simp; omega) (k1.at.sub (j * sz) sz) hr⟩
  cases hi' : P.info? e with
  | none => simp [hi'] at hs
  | some i' =>
    simp only [hi', Option.map_some, Option.some.injEq] at hs
    simp [Instr.indexAt, asIntOf, run_underlying ht, sizeOf, typeInfo, hi', hs, Addr.add_lit, hl]
end
end Go.Proofs.YtcpniokopahakaaDoor.Eng
namespace Go.Proofs.YtcpniokopahakaaDoor.Eng
open Go
theorem vShr_eq (k : IntKind) (x : Int) (n : Nat) (hn : n ≤ k.bits) : vShr k x n = x / 2 ^ n := by
  unfold vShr
  rw [Int.toNat_natCast, Nat.min_eq_left hn]
  rw [Int.fdiv_eq_ediv_of_nonneg _ (by exact_mod_cast Nat.zero_le (2 ^ n))]
theorem ofInt_toNat (n : Nat) (x : Int) : ((BitVec.ofInt n x).toNat : Int) = x % 2 ^ n := by
  rw [BitVec.toNat_ofInt]
  have h : 0 ≤ x % ((2 ^ n : Nat) : Int) := Int.emod_nonneg _ (by exact_mod_cast Nat.ne_of_gt (Nat.two_pow_pos n))
  rw [Int.toNat_of_nonneg h]
  norm_cast
theorem vAnd_mask (k : IntKind) (x : Int) (n : Nat) (hn : n < k.bits) : vAnd k x (2 ^ n - 1) = x % 2 ^ n := by
  unfold vAnd
  have h1 : (BitVec.ofInt k.bits (2 ^ n - 1)).toNat = 2 ^ n - 1 := by
    have h2 := ofInt_toNat k.bits (2 ^ n - 1)
    have h3 : ((2 : Int) ^ n - 1) % 2 ^ k.bits = 2 ^ n - 1 := by
      have a : (0 : Int) < 2 ^ n := by exact_mod_cast Nat.two_pow_pos n
      have b : (2 : Int) ^ n ≤ 2 ^ k.bits := by exact_mod_cast Nat.pow_le_pow_right (by decide) (Nat.le_of_lt hn)
      exact Int.emod_eq_of_lt (by omega) (by omega)
    rw [h3] at h2
    have h4 : ((2 ^ n - 1 : Nat) : Int) = 2 ^ n - 1 := by
      rw [Int.ofNat_sub (Nat.one_le_two_pow)]; norm_cast
    omega
  rw [BitVec.toNat_and, h1, Nat.and_two_pow_sub_one_eq_mod]
  have h5 : (((BitVec.ofInt k.bits x).toNat % 2 ^ n : Nat) : Int) = x % 2 ^ n := by
    rw [Int.natCast_emod, ofInt_toNat]
    have : ((2 ^ n : Nat) : Int) = 2 ^ n := by norm_cast
    rw [this]
    exact Int.emod_emod_of_dvd x (by exact_mod_cast Nat.pow_dvd_pow 2 (Nat.le_of_lt hn))
  rw [h5]
  have a : (0 : Int) < 2 ^ n := by exact_mod_cast Nat.two_pow_pos n
  have h6 := Int.emod_nonneg x (Int.ne_of_gt a)
  have h7 := Int.emod_lt_of_pos x a
  have h8 : (2 : Int) ^ n ≤ 2 ^ (k.bits - 1) := by exact_mod_cast Nat.pow_le_pow_right (by decide) (by omega)
  have h9 := vWrap_id (k := k) (n := x % 2 ^ n) (by
      unfold IntKind.min; split
      · have : (0 : Int) < 2 ^ (k.bits - 1) := by exact_mod_cast Nat.two_pow_pos _
        omega
      · exact h6) (by
      unfold IntKind.max
      have : (2 : Int) ^ (k.bits - 1) ≤ 2 ^ k.bits := by exact_mod_cast Nat.pow_le_pow_right (by decide) (by omega)
      split <;> omega)
  unfold vWrap at h9
  exact h9
theorem vOr_add (k : IntKind) (a b : Nat) (n : Nat) (ha : a < 2 ^ n) (hb : 2 ^ n ∣ b) (hk : (a : Int) + b ≤ k.max) : vOr k a b = a + b := by
  unfold vOr
  have hmax : k.max < 2 ^ k.bits := by cases k <;> decide
  have ea : (BitVec.ofInt k.bits (a : Int)).toNat = a := by
    have := ofInt_toNat k.bits a
    rw [Int.emod_eq_of_lt (by omega) (by omega)] at this
    omega
  have eb : (BitVec.ofInt k.bits (b : Int)).toNat = b := by
    have := ofInt_toNat k.bits b
    rw [Int.emod_eq_of_lt (by omega) (by omega)] at this
    omega
  obtain ⟨c, rfl⟩ := hb
  rw [BitVec.toNat_or, ea, eb, Nat.or_comm, ← Nat.two_pow_add_eq_or_of_lt ha]
  have := vWrap_id (k := k) (n := ((2 ^ n * c + a : Nat) : Int)) (by
    have : k.min ≤ 0 := by cases k <;> decide
    omega) (by omega)
  unfold vWrap at this
  rw [this]
  omega
theorem vShl_eq (k : IntKind) (x : Int) (n : Nat) (hn : n ≤ k.bits) : vShl k x n = vWrap k (x * 2 ^ n) := by
  unfold vShl vWrap
  rw [Int.toNat_natCast, Nat.min_eq_left hn]
theorem vAnd127 (k : IntKind) (x : Int) : vAnd k x 127 = x % 128 := vAnd_mask k x 7 (by cases k <;> decide)
theorem vWrap_range (k : IntKind) (n : Int) : k.min ≤ vWrap k n ∧ vWrap k n ≤ k.max := by
  unfold vWrap
  cases k <;> simp [IntKind.wrap, IntKind.min, IntKind.max, IntKind.bits, IntKind.signed] <;> omega
end Go.Proofs.YtcpniokopahakaaDoor.Eng
/- Plain facts on numbers written in bytes of seven bits: no program in sight. -/
namespace Go.Proofs.YtcpniokopahakaaDoor.Leb
open Go Go.Proofs.YtcpniokopahakaaDoor.Eng

/-- A number that is at least 0, written. -/
def uleb (n : Nat) : List UInt8 := if h : n < 128 then [UInt8.ofNat n] else UInt8.ofNat (n % 128 + 128) :: uleb (n / 128)
termination_by n
decreasing_by omega
/-- A number with a sign, written. -/
def sleb (n : Int) : List UInt8 := if h : -64 ≤ n ∧ n < 64 then [UInt8.ofNat (n % 128).toNat] else UInt8.ofNat ((n % 128).toNat + 128) :: sleb (n / 128)
termination_by n.natAbs
decreasing_by omega
theorem uleb_lt {n : Nat} (h : n < 128) : uleb n = [UInt8.ofNat n] := by rw [uleb, dif_pos h]
theorem uleb_ge {n : Nat} (h : 128 ≤ n) : uleb n = UInt8.ofNat (n % 128 + 128) :: uleb (n / 128) := by rw [uleb, dif_neg (by omega)]
theorem sleb_in {n : Int} (h : -64 ≤ n ∧ n < 64) : sleb n = [UInt8.ofNat (n % 128).toNat] := by rw [sleb, dif_pos h]
theorem sleb_out {n : Int} (h : ¬ (-64 ≤ n ∧ n < 64)) : sleb n = UInt8.ofNat ((n % 128).toNat + 128) :: sleb (n / 128) := by rw [sleb, dif_neg h]
theorem uleb_pos (n : Nat) : 0 < (uleb n).length := by
  by_cases h : n < 128
  · rw [uleb_lt h]; simp
  · rw [uleb_ge (by omega)]; simp
theorem sleb_pos (n : Int) : 0 < (sleb n).length := by
  by_cases h : -64 ≤ n ∧ n < 64
  · rw [sleb_in h]; simp
  · rw [sleb_out h]; simp
theorem uleb_len (k : Nat) : ∀ n, n < 128 ^ (k + 1) → (uleb n).length ≤ k + 1 := by
  induction k with
  | zero => intro n h; rw [uleb_lt (by omega)]; simp
  | succ k ih =>
    intro n h
    by_cases h1 : n < 128
    · rw [uleb_lt h1]; simp
    · rw [uleb_ge (by omega), List.length_cons]
      have := ih (n / 128) (by rw [Nat.pow_succ] at h; omega)
      omega
theorem sleb_len (k : Nat) : ∀ n : Int, -(64 * 128 ^ k : Nat) ≤ n → n < (64 * 128 ^ k : Nat) → (sleb n).length ≤ k + 1 := by
  induction k with
  | zero => intro n h h'; rw [sleb_in (by omega)]; simp
  | succ k ih =>
    intro n h h'
    by_cases h1 : -64 ≤ n ∧ n < 64
    · rw [sleb_in h1]; simp
    · rw [sleb_out h1, List.length_cons]
      have e : 64 * 128 ^ (k + 1) = 128 * (64 * 128 ^ k) := by rw [Nat.pow_succ]; omega
      rw [e] at h h'
      have := ih (n / 128) (by omega) (by omega)
      omega
theorem byte_toNat {n : Nat} (h : n < 256) : (UInt8.ofNat n).toNat = n := by simp [UInt8.toNat_ofNat']; omega

/-! ## Reading -/
def rdU (bits : Nat) : List UInt8 → Nat → Nat → Nat × Nat × Nat
  | [], _, _ => (0, 0, 3)
  | c :: r, i, acc =>
    if bits < 7 * i + 7 ∧ c.toNat / 2 ^ (bits - 7 * i) ≠ 0 then (0, 0, 4)
    else if c.toNat < 128 then (acc + c.toNat % 128 * 2 ^ (7 * i), i + 1, 0)
    else rdU bits r (i + 1) (acc + c.toNat % 128 * 2 ^ (7 * i))
/-- The seven bits of a byte, with their sign. -/
def sev (c : Nat) : Int := if c % 128 < 64 then (c % 128 : Nat) else (c % 128 : Nat) - 128
def badS (bits i c : Nat) : Prop := bits < 7 * i + 7 ∧ (128 ≤ c ∨ sev c < -((2 ^ (bits - 7 * i - 1) : Nat) : Int) ∨ ((2 ^ (bits - 7 * i - 1) : Nat) : Int) ≤ sev c)
instance (bits i c : Nat) : Decidable (badS bits i c) := by unfold badS; exact inferInstance
def rdS (bits : Nat) : List UInt8 → Nat → Nat → Int × Nat × Nat
  | [], _, _ => (0, 0, 3)
  | c :: r, i, acc =>
    if badS bits i c.toNat then (0, 0, 4)
    else if c.toNat < 128 then (acc + sev c.toNat * (2 ^ (7 * i) : Nat), i + 1, 0)
    else rdS bits r (i + 1) (acc + c.toNat % 128 * 2 ^ (7 * i))
theorem pow_succ7 (i : Nat) : 2 ^ (7 * (i + 1)) = 128 * 2 ^ (7 * i) := by rw [Nat.mul_succ, Nat.pow_add]; omega
/-- What is written is read, whatever stands behind. -/
theorem rdU_uleb (bits : Nat) (more : List UInt8) : ∀ (m i acc : Nat), 7 * i < bits → m < 2 ^ (bits - 7 * i) →
    rdU bits (uleb m ++ more) i acc = (acc + m * 2 ^ (7 * i), i + (uleb m).length, 0) := by
  intro m
  induction m using Nat.strongRecOn with
  | _ m ih =>
    intro i acc hi hm
    by_cases h : m < 128
    · rw [uleb_lt h, List.singleton_append, rdU, byte_toNat (by omega), if_neg, if_pos h, Nat.mod_eq_of_lt h]
      · rfl
      · rintro ⟨_, h2⟩; exact h2 (Nat.div_eq_of_lt hm)
    · have h8 : 7 * i + 8 ≤ bits := by
        rcases Nat.lt_or_ge bits (7 * i + 8) with hl | hl
        · have : (2 : Nat) ^ (bits - 7 * i) ≤ 2 ^ 7 := Nat.pow_le_pow_right (by decide) (by omega)
          omega
        · exact hl
      rw [uleb_ge (by omega), List.cons_append, rdU, byte_toNat (by omega), if_neg (by omega), if_neg (by omega)]
      have e1 : (m % 128 + 128) % 128 = m % 128 := by omega
      rw [e1, ih (m / 128) (by omega) (i + 1) _ (by omega)]
      · rw [pow_succ7, List.length_cons]
        have e2 : m % 128 * 2 ^ (7 * i) + m / 128 * (128 * 2 ^ (7 * i)) = m * 2 ^ (7 * i) := by
          rw [← Nat.mul_assoc, ← Nat.add_mul]; congr 1; omega
        refine Prod.ext ?_ (Prod.ext ?_ rfl)
        · show acc + m % 128 * 2 ^ (7 * i) + m / 128 * (128 * 2 ^ (7 * i)) = acc + m * 2 ^ (7 * i)
          omega
        · show i + 1 + (uleb (m / 128)).length = i + ((uleb (m / 128)).length + 1)
          omega
      · have e3 : 2 ^ (bits - 7 * i) = 128 * 2 ^ (bits - 7 * (i + 1)) := by
          have : bits - 7 * i = 7 + (bits - 7 * (i + 1)) := by omega
          rw [this, Nat.pow_add]
        rw [e3] at hm
        omega
theorem rdU_cut (bits : Nat) : ∀ (m i acc j : Nat), 7 * i < bits → m < 2 ^ (bits - 7 * i) → j < (uleb m).length → rdU bits ((uleb m).take j) i acc = (0, 0, 3) := by
  intro m
  induction m using Nat.strongRecOn with
  | _ m ih =>
    intro i acc j hi hm hj
    by_cases h : m < 128
    · rw [uleb_lt h] at hj ⊢
      have : j = 0 := by simpa using hj
      subst this; rfl
    · have h8 : 7 * i + 8 ≤ bits := by
        rcases Nat.lt_or_ge bits (7 * i + 8) with hl | hl
        · have : (2 : Nat) ^ (bits - 7 * i) ≤ 2 ^ 7 := Nat.pow_le_pow_right (by decide) (by omega)
          omega
        · exact hl
      rw [uleb_ge (by omega)] at hj ⊢
      cases j with
      | zero => rfl
      | succ j =>
        rw [List.take_succ_cons, rdU, byte_toNat (by omega), if_neg (by omega), if_neg (by omega)]
        have e3 : 2 ^ (bits - 7 * i) = 128 * 2 ^ (bits - 7 * (i + 1)) := by
          have : bits - 7 * i = 7 + (bits - 7 * (i + 1)) := by omega
          rw [this, Nat.pow_add]
        exact ih (m / 128) (by omega) (i + 1) _ j (by omega) (by rw [e3] at hm; omega) (by simpa using hj)
/-- What is read as n in k bytes is written in k bytes at the most. -/
theorem rdU_short (bits : Nat) : ∀ (s : List UInt8) (i acc n k : Nat), acc < 2 ^ (7 * i) → rdU bits s i acc = (n, k, 0) → n < 2 ^ (7 * k) ∧ i < k ∧ k ≤ i + s.length := by
  intro s
  induction s with
  | nil => intro i acc n k _ h; simp [rdU] at h
  | cons c r ih =>
    intro i acc n k ha h
    have hb : acc + c.toNat % 128 * 2 ^ (7 * i) < 2 ^ (7 * (i + 1)) := by
      rw [pow_succ7]
      have h2 : (c.toNat % 128 + 1) * 2 ^ (7 * i) ≤ 128 * 2 ^ (7 * i) := Nat.mul_le_mul_right _ (by omega)
      rw [Nat.add_mul] at h2
      omega
    rw [rdU] at h
    split at h
    · simp at h
    · split at h
      · simp only [Prod.mk.injEq] at h
        obtain ⟨rfl, rfl, _⟩ := h
        exact ⟨hb, by omega, by simp⟩
      · obtain ⟨h1, h2, h3⟩ := ih (i + 1) _ n k hb h
        exact ⟨h1, by omega, by simp; omega⟩
theorem uleb_short {n k : Nat} (h : n < 2 ^ (7 * k)) (hk : 0 < k) : (uleb n).length ≤ k := by
  obtain ⟨j, rfl⟩ : ∃ j, k = j + 1 := ⟨k - 1, by omega⟩
  exact uleb_len j n (by rw [Nat.pow_mul] at h; exact h)
theorem uleb_prefix {a b : Nat} (ha : a < 2 ^ 64) (hb : b < 2 ^ 64) : uleb b <+: uleb a ↔ a = b := by
  constructor
  · rintro ⟨t, ht⟩
    have h1 := rdU_uleb 64 [] a 0 0 (by decide) (by simpa using ha)
    have h2 := rdU_uleb 64 t b 0 0 (by decide) (by simpa using hb)
    rw [List.append_nil, ← ht, h2] at h1
    simp only [Prod.mk.injEq] at h1
    omega
  · rintro rfl; exact List.prefix_refl _
/-! ## With signs -/
theorem sev_eq (m : Int) (h : -64 ≤ m ∧ m < 64) : sev (m % 128).toNat = m := by
  unfold sev; split <;> omega
theorem pow_half {bits i : Nat} (h : 7 * i < bits) : 2 ^ (bits - 7 * i) = 2 * 2 ^ (bits - 7 * i - 1) := by
  obtain ⟨d, hd⟩ : ∃ d, bits - 7 * i = d + 1 := ⟨bits - 7 * i - 1, by omega⟩
  rw [hd, Nat.pow_succ]; simp; omega
theorem rdS_sleb (bits : Nat) (more : List UInt8) : ∀ (k : Nat) (m : Int) (i acc : Nat), m.natAbs ≤ k → 7 * i < bits → -((2 ^ (bits - 7 * i - 1) : Nat) : Int) ≤ m → m < ((2 ^ (bits - 7 * i - 1) : Nat) : Int) →
    rdS bits (sleb m ++ more) i acc = (acc + m * (2 ^ (7 * i) : Nat), i + (sleb m).length, 0) := by
  intro k
  induction k with
  | zero =>
    intro m i acc hk hi h1 h2
    have : m = 0 := by omega
    subst this
    rw [sleb_in (by omega), List.singleton_append, rdS]
    have e : (UInt8.ofNat ((0 : Int) % 128).toNat).toNat = 0 := rfl
    have hp := Nat.two_pow_pos (bits - 7 * i - 1)
    rw [e, if_neg (by unfold badS; rw [show sev 0 = 0 from rfl]; omega), if_pos (by omega)]
    simp [sev]
  | succ k ih =>
    intro m i acc hk hi h1 h2
    by_cases h : -64 ≤ m ∧ m < 64
    · rw [sleb_in h, List.singleton_append, rdS, byte_toNat (by omega), sev_eq m h, if_neg, if_pos (by omega)]
      · rfl
      · rintro ⟨_, h' | h'⟩
        · omega
        · rw [sev_eq m h] at h'; omega
    · have h8 : 7 * i + 7 < bits := by
        rcases Nat.lt_or_ge (7 * i + 7) bits with hl | hl
        · exact hl
        · have : (2 : Nat) ^ (bits - 7 * i - 1) ≤ 2 ^ 6 := Nat.pow_le_pow_right (by decide) (by omega)
          omega
      rw [sleb_out h, List.cons_append, rdS, byte_toNat (by omega), if_neg (by rintro ⟨h, _⟩; omega), if_neg (by omega)]
      have e3 : 2 ^ (bits - 7 * i - 1) = 128 * 2 ^ (bits - 7 * (i + 1) - 1) := by
        have : bits - 7 * i - 1 = 7 + (bits - 7 * (i + 1) - 1) := by omega
        rw [this, Nat.pow_add]
      rw [e3] at h1 h2
      rw [ih (m / 128) (i + 1) _ (by omega) (by omega) (by omega) (by omega)]
      have e1 : ((m % 128).toNat + 128) % 128 = (m % 128).toNat := by omega
      rw [e1, pow_succ7, List.length_cons]
      refine Prod.ext ?_ (Prod.ext ?_ rfl)
      · show ((acc + (m % 128).toNat * 2 ^ (7 * i) : Nat) : Int) + m / 128 * ((128 * 2 ^ (7 * i) : Nat) : Int) = acc + m * ((2 ^ (7 * i) : Nat) : Int)
        generalize 2 ^ (7 * i) = p
        have e4 : (((m % 128).toNat * p : Nat) : Int) = m % 128 * p := by
          rw [Int.natCast_mul, Int.toNat_of_nonneg (by omega)]
        have e5 : m = m % 128 + 128 * (m / 128) := by omega
        have e6 : m * (p : Int) = m % 128 * p + 128 * (m / 128) * p := by
          rw [← Int.add_mul, ← e5]
        rw [Int.natCast_add, e4, e6, Int.natCast_mul, Int.add_assoc]
        congr 2
        rw [← Int.mul_assoc, Int.mul_comm (m / 128)]
        rfl
      · show i + 1 + (sleb (m / 128)).length = i + ((sleb (m / 128)).length + 1)
        omega
theorem rdS_cut (bits : Nat) : ∀ (k : Nat) (m : Int) (i acc j : Nat), m.natAbs ≤ k → 7 * i < bits → -((2 ^ (bits - 7 * i - 1) : Nat) : Int) ≤ m → m < ((2 ^ (bits - 7 * i - 1) : Nat) : Int) → j < (sleb m).length →
    rdS bits ((sleb m).take j) i acc = (0, 0, 3) := by
  intro k
  induction k with
  | zero =>
    intro m i acc j hk hi h1 h2 hj
    have : m = 0 := by omega
    subst this
    rw [sleb_in (by omega)] at hj ⊢
    have : j = 0 := by simpa using hj
    subst this; rfl
  | succ k ih =>
    intro m i acc j hk hi h1 h2 hj
    by_cases h : -64 ≤ m ∧ m < 64
    · rw [sleb_in h] at hj ⊢
      have : j = 0 := by simpa using hj
      subst this; rfl
    · have h8 : 7 * i + 7 < bits := by
        rcases Nat.lt_or_ge (7 * i + 7) bits with hl | hl
        · exact hl
        · have : (2 : Nat) ^ (bits - 7 * i - 1) ≤ 2 ^ 6 := Nat.pow_le_pow_right (by decide) (by omega)
          omega
      rw [sleb_out h] at hj ⊢
      cases j with
      | zero => rfl
      | succ j =>
        have e3 : 2 ^ (bits - 7 * i - 1) = 128 * 2 ^ (bits - 7 * (i + 1) - 1) := by
          have : bits - 7 * i - 1 = 7 + (bits - 7 * (i + 1) - 1) := by omega
          rw [this, Nat.pow_add]
        rw [e3] at h1 h2
        rw [List.take_succ_cons, rdS, byte_toNat (by omega), if_neg (by rintro ⟨h, _⟩; omega), if_neg (by omega)]
        exact ih (m / 128) (i + 1) _ j (by omega) (by omega) (by omega) (by omega) (by simpa using hj)
theorem rdS_short (bits : Nat) : ∀ (s : List UInt8) (i acc : Nat) (n : Int) (k : Nat), acc < 2 ^ (7 * i) → rdS bits s i acc = (n, k, 0) →
    -((64 * 2 ^ (7 * (k - 1)) : Nat) : Int) ≤ n ∧ n < ((64 * 2 ^ (7 * (k - 1)) : Nat) : Int) ∧ i < k ∧ k ≤ i + s.length := by
  intro s
  induction s with
  | nil => intro i acc n k _ h; simp [rdS] at h
  | cons c r ih =>
    intro i acc n k ha h
    rw [rdS] at h
    split at h
    · simp at h
    · split at h
      · simp only [Prod.mk.injEq] at h
        obtain ⟨rfl, rfl, _⟩ := h
        have hs : -64 ≤ sev c.toNat ∧ sev c.toNat ≤ 63 := by unfold sev; split <;> omega
        rw [Nat.add_sub_cancel]
        generalize 2 ^ (7 * i) = p at *
        have a1 : -64 * (p : Int) ≤ sev c.toNat * p := Int.mul_le_mul_of_nonneg_right hs.1 (by omega)
        have a2 : sev c.toNat * (p : Int) ≤ 63 * p := Int.mul_le_mul_of_nonneg_right hs.2 (by omega)
        refine ⟨?_, ?_, by omega, by simp⟩ <;> push_cast <;> omega
      · have hb : acc + c.toNat % 128 * 2 ^ (7 * i) < 2 ^ (7 * (i + 1)) := by
          rw [pow_succ7]
          have h2 : (c.toNat % 128 + 1) * 2 ^ (7 * i) ≤ 128 * 2 ^ (7 * i) := Nat.mul_le_mul_right _ (by omega)
          rw [Nat.add_mul] at h2
          omega
        obtain ⟨h1, h2, h3, h4⟩ := ih (i + 1) _ n k hb h
        exact ⟨h1, h2, by omega, by simp; omega⟩
theorem rdU_bd (bits : Nat) : ∀ (s : List UInt8) (i acc : Nat), 7 * i < bits → bits = 32 ∨ bits = 64 → acc < 2 ^ (7 * i) → (rdU bits s i acc).1 < 2 ^ bits := by
  intro s
  induction s with
  | nil => intro i acc _ _ _; exact Nat.two_pow_pos _
  | cons c r ih =>
    intro i acc hi hb ha
    rw [rdU]
    split
    · exact Nat.two_pow_pos _
    · rename_i hno
      have e : (2 : Nat) ^ bits = 2 ^ (bits - 7 * i) * 2 ^ (7 * i) := by rw [← Nat.pow_add]; congr 1; omega
      have h1 : c.toNat % 128 < 2 ^ (bits - 7 * i) := by
        by_cases h : bits < 7 * i + 7
        · have h2 : c.toNat / 2 ^ (bits - 7 * i) = 0 := Decidable.byContradiction fun h2 => hno ⟨h, h2⟩
          have := (Nat.div_eq_zero_iff.1 h2).resolve_left (Nat.ne_of_gt (Nat.two_pow_pos _))
          exact Nat.lt_of_le_of_lt (Nat.mod_le _ _) this
        · have : (2 : Nat) ^ 7 ≤ 2 ^ (bits - 7 * i) := Nat.pow_le_pow_right (by decide) (by omega)
          omega
      have h2 : (c.toNat % 128 + 1) * 2 ^ (7 * i) ≤ 2 ^ (bits - 7 * i) * 2 ^ (7 * i) := Nat.mul_le_mul_right _ h1
      split
      · rw [Nat.add_mul] at h2
        show acc + _ < _
        omega
      · rename_i hc
        have h7 : 7 * (i + 1) < bits := by
          by_cases h : bits < 7 * i + 7
          · exfalso
            apply hno
            refine ⟨h, fun h2 => ?_⟩
            have h3 := (Nat.div_eq_zero_iff.1 h2).resolve_left (Nat.ne_of_gt (Nat.two_pow_pos _))
            have : (2 : Nat) ^ (bits - 7 * i) ≤ 2 ^ 7 := Nat.pow_le_pow_right (by decide) (by omega)
            omega
          · omega
        refine ih (i + 1) _ h7 hb ?_
        rw [pow_succ7]
        have h2 : (c.toNat % 128 + 1) * 2 ^ (7 * i) ≤ 128 * 2 ^ (7 * i) := Nat.mul_le_mul_right _ (by omega)
        rw [Nat.add_mul] at h2
        omega
theorem rdS_bd (bits : Nat) : ∀ (s : List UInt8) (i acc : Nat), 7 * i < bits → bits = 32 ∨ bits = 64 → acc < 2 ^ (7 * i) →
    -((2 ^ (bits - 1) : Nat) : Int) ≤ (rdS bits s i acc).1 ∧ (rdS bits s i acc).1 < ((2 ^ (bits - 1) : Nat) : Int) := by
  intro s
  have hz := Nat.two_pow_pos (bits - 1)
  induction s with
  | nil => intro i acc _ _ _; exact ⟨by show _ ≤ (0 : Int); omega, by show (0 : Int) < _; omega⟩
  | cons c r ih =>
    intro i acc hi hb ha
    rw [rdS]
    split
    · exact ⟨by show _ ≤ (0 : Int); omega, by show (0 : Int) < _; omega⟩
    · rename_i hno
      have e : (2 : Nat) ^ (bits - 1) = 2 ^ (bits - 7 * i - 1) * 2 ^ (7 * i) := by rw [← Nat.pow_add]; congr 1; omega
      have hs : -64 ≤ sev c.toNat ∧ sev c.toNat ≤ 63 := by unfold sev; split <;> omega
      split
      · have h1 : -((2 ^ (bits - 7 * i - 1) : Nat) : Int) ≤ sev c.toNat ∧ sev c.toNat + 1 ≤ ((2 ^ (bits - 7 * i - 1) : Nat) : Int) := by
          by_cases h : bits < 7 * i + 7
          · constructor
            · apply Decidable.byContradiction; intro hh; exact hno ⟨h, .inr (.inl (by omega))⟩
            · apply Decidable.byContradiction; intro hh; exact hno ⟨h, .inr (.inr (by omega))⟩
          · have : (2 : Nat) ^ 6 ≤ 2 ^ (bits - 7 * i - 1) := Nat.pow_le_pow_right (by decide) (by omega)
            omega
        rw [e]
        generalize 2 ^ (bits - 7 * i - 1) = M at *
        generalize 2 ^ (7 * i) = p at *
        have a1 : -(M : Int) * p ≤ sev c.toNat * p := Int.mul_le_mul_of_nonneg_right h1.1 (by omega)
        have a2 : (sev c.toNat + 1) * p ≤ (M : Int) * p := Int.mul_le_mul_of_nonneg_right h1.2 (by omega)
        rw [Int.neg_mul] at a1
        rw [Int.add_mul, Int.one_mul] at a2
        rw [Int.natCast_mul]
        show _ ≤ (acc : Int) + sev c.toNat * p ∧ (acc : Int) + sev c.toNat * p < _
        omega
      · rename_i hc
        have h7 : 7 * (i + 1) < bits := by
          by_cases h : bits < 7 * i + 7
          · exact absurd ⟨h, .inl (by omega)⟩ hno
          · omega
        refine ih (i + 1) _ h7 hb ?_
        rw [pow_succ7]
        have h2 : (c.toNat % 128 + 1) * 2 ^ (7 * i) ≤ 128 * 2 ^ (7 * i) := Nat.mul_le_mul_right _ (by omega)
        rw [Nat.add_mul] at h2
        omega
theorem sleb_short {n : Int} {k : Nat} (h1 : -((64 * 2 ^ (7 * (k - 1)) : Nat) : Int) ≤ n) (h2 : n < ((64 * 2 ^ (7 * (k - 1)) : Nat) : Int)) (hk : 0 < k) : (sleb n).length ≤ k := by
  obtain ⟨j, rfl⟩ : ∃ j, k = j + 1 := ⟨k - 1, by omega⟩
  rw [Nat.add_sub_cancel, Nat.pow_mul] at h1 h2
  exact sleb_len j n h1 h2
theorem rdS64 (m : Int) (more : List UInt8) (h : -9223372036854775808 ≤ m ∧ m ≤ 9223372036854775807) : rdS 64 (sleb m ++ more) 0 0 = (m, (sleb m).length, 0) := by
  have h1 := rdS_sleb 64 more m.natAbs m 0 0 (Nat.le_refl _) (by decide) (by simpa using h.1) (by have := h.2; simp; omega)
  rw [h1]; simp
theorem rdU64 (m : Nat) (more : List UInt8) (h : m < 2 ^ 64) : rdU 64 (uleb m ++ more) 0 0 = (m, (uleb m).length, 0) := by
  have h1 := rdU_uleb 64 more m 0 0 (by decide) (by simpa using h)
  rw [h1]; simp
theorem rdS32 (m : Int) (more : List UInt8) (h : -2147483648 ≤ m ∧ m ≤ 2147483647) : rdS 32 (sleb m ++ more) 0 0 = (m, (sleb m).length, 0) := by
  have h1 := rdS_sleb 32 more m.natAbs m 0 0 (Nat.le_refl _) (by decide) (by simpa using h.1) (by have := h.2; simp; omega)
  rw [h1]; simp
theorem rdU32 (m : Nat) (more : List UInt8) (h : m < 2 ^ 32) : rdU 32 (uleb m ++ more) 0 0 = (m, (uleb m).length, 0) := by
  have h1 := rdU_uleb 32 more m 0 0 (by decide) (by simpa using h)
  rw [h1]; simp
theorem sleb_prefix {a b : Int} (ha : -9223372036854775808 ≤ a ∧ a ≤ 9223372036854775807) (hb : -9223372036854775808 ≤ b ∧ b ≤ 9223372036854775807) : sleb b <+: sleb a ↔ a = b := by
  constructor
  · rintro ⟨t, ht⟩
    have h1 := rdS64 a [] ha
    have h2 := rdS64 b t hb
    rw [List.append_nil, ← ht, h2] at h1
    simp only [Prod.mk.injEq] at h1
    omega
  · rintro rfl; exact List.prefix_refl _
end Go.Proofs.YtcpniokopahakaaDoor.Leb
/- Readers of bytes that stop at the first thing that is wrong; texts that they read; what a reading took. -/
set_option maxRecDepth 100000
set_option linter.unusedVariables false
set_option linter.unusedSimpArgs false
namespace Go.Proofs.YtcpniokopahakaaDoor.Txt
open Go.Proofs.YtcpniokopahakaaDoor.Leb
structure RS where
  at_ : Nat
  bad : Int
abbrev Rdr (α : Type) := List UInt8 → RS → α × RS
def failR (e : Int) (r : RS) : RS := if r.bad = 0 then ⟨r.at_, e⟩ else r
def octetR : Rdr Int := fun s r => if r.bad ≠ 0 then (0, r) else match s[r.at_]? with
  | none => (0, ⟨r.at_, 3⟩)
  | some c => (c.toNat, ⟨r.at_ + 1, 0⟩)
def plainR : Rdr Int := fun s r => if r.bad ≠ 0 then (0, r) else ((rdU 32 (s.drop r.at_) 0 0).1, ⟨r.at_ + (rdU 32 (s.drop r.at_) 0 0).2.1, (rdU 32 (s.drop r.at_) 0 0).2.2⟩)
def signedR (bits : Nat) : Rdr Int := fun s r => if r.bad ≠ 0 then (0, r) else ((rdS bits (s.drop r.at_) 0 0).1, ⟨r.at_ + (rdS bits (s.drop r.at_) 0 0).2.1, (rdS bits (s.drop r.at_) 0 0).2.2⟩)
def retR {α : Type} (v : α) : Rdr α := fun _ r => (v, r)
def bindR {α β : Type} (p : Rdr α) (q : α → Rdr β) : Rdr β := fun s r => q (p s r).1 s (p s r).2
def failRd (e : Int) : Rdr Unit := fun _ r => ((), failR e r)
/-- Nothing goes on behind a fault. -/
def Strict {α : Type} (p : Rdr α) : Prop := ∀ s r, r.bad ≠ 0 → (p s r).2 = r
/-- A text that is read as v; a beginning of it is too short. -/
structure Tx {α : Type} (A : List UInt8) (p : Rdr α) (v : α) : Prop where
  whole : ∀ s k rest, s.drop k = A ++ rest → p s ⟨k, 0⟩ = (v, ⟨k + A.length, 0⟩)
  cut : ∀ s k j, s.drop k = A.take j → j < A.length → (p s ⟨k, 0⟩).2.bad = 3
theorem Strict.ret {α : Type} (v : α) : Strict (retR v) := fun _ _ _ => rfl
theorem Strict.octet : Strict octetR := fun s r h => by unfold octetR; rw [if_pos h]
theorem Strict.plain : Strict plainR := fun s r h => by unfold plainR; rw [if_pos h]
theorem Strict.signed (b : Nat) : Strict (signedR b) := fun s r h => by unfold signedR; rw [if_pos h]
theorem Strict.fail (e : Int) : Strict (failRd e) := fun s r h => by unfold failRd failR; rw [if_neg h]
theorem Strict.bind {α β : Type} {p : Rdr α} {q : α → Rdr β} (hp : Strict p) (hq : ∀ v, Strict (q v)) : Strict (bindR p q) := fun s r h => by
  unfold bindR
  rw [hp s r h]; exact hq _ s r h
theorem Tx.ret {α : Type} (v : α) : Tx [] (retR v) v := ⟨fun s k rest _ => rfl, fun s k j _ h => absurd h (Nat.not_lt_zero j)⟩
theorem Tx.bind {α β : Type} {A B : List UInt8} {p : Rdr α} {q : α → Rdr β} {v : α} {u : β} (hp : Tx A p v) (hq : Tx B (q v) u) (hs : ∀ v, Strict (q v)) : Tx (A ++ B) (bindR p q) u := by
  refine ⟨fun s k rest h => ?_, fun s k j h hj => ?_⟩
  · have h1 := hp.whole s k (B ++ rest) (by rw [h, List.append_assoc])
    unfold bindR
    rw [h1]
    have h2 : s.drop (k + A.length) = B ++ rest := by rw [← List.drop_drop, h, List.append_assoc, List.drop_left]
    rw [hq.whole s _ rest h2, List.length_append, Nat.add_assoc]
  · unfold bindR
    by_cases hja : j < A.length
    · rw [List.take_append_of_le_length (Nat.le_of_lt hja)] at h
      have h1 := hp.cut s k j h hja
      rw [hs _ s _ (by rw [h1]; decide), h1]
    · have hj2 : j = A.length + (j - A.length) := by omega
      rw [hj2, List.take_append, List.take_of_length_le (by omega), Nat.add_sub_cancel_left] at h
      have h1 := hp.whole s k _ h
      rw [h1]
      refine hq.cut s _ (j - A.length) ?_ (by rw [List.length_append] at hj; omega)
      rw [← List.drop_drop, h, List.drop_left]
theorem Tx.octet (c : UInt8) : Tx [c] octetR (c.toNat : Int) := by
  refine ⟨fun s k rest h => ?_, fun s k j h hj => ?_⟩
  · have hc : s[k]? = some c := by
      have := congrArg (·[0]?) h
      simpa [List.getElem?_drop] using this
    unfold octetR
    rw [if_neg (by simp)]
    simp only [hc]; rfl
  · obtain rfl : j = 0 := by simp at hj; exact hj
    have hc : s[k]? = none := by
      rw [List.take_zero] at h
      exact List.getElem?_eq_none (List.drop_eq_nil_iff.1 h)
    unfold octetR
    rw [if_neg (by simp)]
    simp only [hc]
theorem Tx.octetN (n : Int) (h : 0 ≤ n ∧ n ≤ 255) : Tx [UInt8.ofNat n.toNat] octetR n := by
  have := Tx.octet (UInt8.ofNat n.toNat)
  rw [byte_toNat (by omega)] at this
  rw [show ((n.toNat : Nat) : Int) = n by omega] at this
  exact this
theorem Tx.plain (n : Nat) (h : n < 2 ^ 32) : Tx (uleb n) plainR (n : Int) := by
  refine ⟨fun s k rest hd => ?_, fun s k j hd hj => ?_⟩
  · unfold plainR
    rw [if_neg (by simp)]
    simp only [hd, rdU32 n rest h]; rfl
  · unfold plainR
    rw [if_neg (by simp)]
    simp only [hd]
    rw [rdU_cut 32 n 0 0 j (by decide) (by simpa using h) hj]; rfl
theorem Tx.signed32 (n : Int) (h : -2147483648 ≤ n ∧ n ≤ 2147483647) : Tx (sleb n) (signedR 32) n := by
  refine ⟨fun s k rest hd => ?_, fun s k j hd hj => ?_⟩
  · unfold signedR
    rw [if_neg (by simp)]
    simp only [hd, rdS32 n rest h]; rfl
  · unfold signedR
    rw [if_neg (by simp)]
    simp only [hd]
    rw [rdS_cut 32 _ n 0 0 j (Nat.le_refl _) (by decide) (by simp; omega) (by simp; omega) hj]; rfl
theorem Tx.signed64 (n : Int) (h : -9223372036854775808 ≤ n ∧ n ≤ 9223372036854775807) : Tx (sleb n) (signedR 64) n := by
  refine ⟨fun s k rest hd => ?_, fun s k j hd hj => ?_⟩
  · unfold signedR
    rw [if_neg (by simp)]
    simp only [hd, rdS64 n rest h]; rfl
  · unfold signedR
    rw [if_neg (by simp)]
    simp only [hd]
    rw [rdS_cut 64 _ n 0 0 j (Nat.le_refl _) (by decide) (by simp; omega) (by simp; omega) hj]; rfl
/-- What a reading that went well gave, and how many bytes it took. -/
def Gt {α : Type} (p : Rdr α) (Q : α → Nat → Prop) : Prop := ∀ s k, k ≤ s.length → (p s ⟨k, 0⟩).2.bad = 0 → (p s ⟨k, 0⟩).2.at_ ≤ s.length ∧ ∃ n, (p s ⟨k, 0⟩).2.at_ = k + n ∧ Q (p s ⟨k, 0⟩).1 n
theorem Gt.imp {α : Type} {p : Rdr α} {Q Q' : α → Nat → Prop} (h : Gt p Q) (hq : ∀ v n, Q v n → Q' v n) : Gt p Q' := fun s k hk h0 => by
  obtain ⟨h1, n, h2, h3⟩ := h s k hk h0
  exact ⟨h1, n, h2, hq _ _ h3⟩
theorem Gt.ret {α : Type} (v : α) : Gt (retR v) (fun u n => u = v ∧ n = 0) := fun s k hk _ => ⟨hk, 0, rfl, rfl, rfl⟩
theorem Gt.bind {α β : Type} {p : Rdr α} {q : α → Rdr β} {Q : α → Nat → Prop} {Q' : α → β → Nat → Prop} (hp : Gt p Q) (hq : ∀ v n, Q v n → Gt (q v) (Q' v)) (hs : ∀ v, Strict (q v)) :
    Gt (bindR p q) (fun u n => ∃ v m m', Q v m ∧ Q' v u m' ∧ n = m + m') := fun s k hk h0 => by
  have h0' : (q (p s ⟨k, 0⟩).1 s (p s ⟨k, 0⟩).2).2.bad = 0 := h0
  show (q (p s ⟨k, 0⟩).1 s (p s ⟨k, 0⟩).2).2.at_ ≤ _ ∧ ∃ n, (q (p s ⟨k, 0⟩).1 s (p s ⟨k, 0⟩).2).2.at_ = _ ∧ ∃ v m m', _ ∧ Q' v (q (p s ⟨k, 0⟩).1 s (p s ⟨k, 0⟩).2).1 m' ∧ _
  have hp0 := hp s k hk
  generalize p s ⟨k, 0⟩ = pr at *
  obtain ⟨v, ⟨k1, b1⟩⟩ := pr
  have hb : b1 = 0 := by
    apply Decidable.byContradiction
    intro hb
    rw [hs v s _ hb] at h0'
    exact hb h0'
  subst hb
  obtain ⟨h1, m, h2, h3⟩ := hp0 rfl
  obtain ⟨h4, m', h5, h6⟩ := hq v m h3 s k1 h1 h0'
  simp only at h1 h2 h4 h5
  exact ⟨h4, m + m', by rw [h5, h2, Nat.add_assoc], v, m, m', h3, h6, rfl⟩
theorem Gt.octet : Gt octetR (fun v n => 0 ≤ v ∧ v ≤ 255 ∧ n = 1) := fun s k hk h0 => by
  unfold octetR at *
  rw [if_neg (by simp)] at *
  cases hc : s[k]? with
  | none => simp [hc] at h0
  | some c =>
    have hl := (List.getElem?_eq_some_iff.1 hc).1
    have := c.toNat_lt
    simp only [hc]
    exact ⟨hl, 1, rfl, by omega, by omega, rfl⟩
theorem Gt.plain : Gt plainR (fun v n => ∃ m : Nat, v = m ∧ m < 2 ^ 32 ∧ (uleb m).length ≤ n) := fun s k hk h0 => by
  unfold plainR at *
  rw [if_neg (by simp)] at *
  simp only at h0 ⊢
  have hb := rdU_bd 32 (s.drop k) 0 0 (by decide) (.inl rfl) (by decide)
  rcases hr : rdU 32 (s.drop k) 0 0 with ⟨n, m, e⟩
  rw [hr] at h0 hb
  simp only at h0 hb ⊢
  obtain rfl : e = 0 := by omega
  obtain ⟨h1, h2, h3⟩ := rdU_short 32 (s.drop k) 0 0 n m (by decide) hr
  rw [List.length_drop] at h3
  exact ⟨by omega, m, rfl, n, rfl, hb, uleb_short h1 h2⟩
theorem Gt.signed (b : Nat) (hb : b = 32 ∨ b = 64) : Gt (signedR b) (fun v n => -((2 ^ (b - 1) : Nat) : Int) ≤ v ∧ v < ((2 ^ (b - 1) : Nat) : Int) ∧ (sleb v).length ≤ n) := fun s k hk h0 => by
  unfold signedR at *
  rw [if_neg (by simp)] at *
  simp only at h0 ⊢
  have hbd := rdS_bd b (s.drop k) 0 0 (by omega) hb (by decide)
  rcases hr : rdS b (s.drop k) 0 0 with ⟨n, m, e⟩
  rw [hr] at h0 hbd
  simp only at h0 hbd ⊢
  obtain rfl : e = 0 := by omega
  obtain ⟨h1, h2, h3, h4⟩ := rdS_short b (s.drop k) 0 0 n m (by decide) hr
  rw [List.length_drop] at h4
  exact ⟨by omega, m, rfl, hbd.1, hbd.2, sleb_short h1 h2 (by omega)⟩
end Go.Proofs.YtcpniokopahakaaDoor.Txt
/- Instructions: what they are, how they are written and read; what is written is read, and what is read can be written. -/
set_option maxRecDepth 100000
set_option linter.unusedVariables false
set_option linter.unusedSimpArgs false
namespace Go.Proofs.YtcpniokopahakaaDoor.Ins
open Go.Proofs.YtcpniokopahakaaDoor.Leb Go.Proofs.YtcpniokopahakaaDoor.Txt
structure InsD where
  op : Int
  a : Int
  b : Int
  to : List Int
/-- How many bytes a load or store moves. -/
def wid (o : Int) : Int :=
  if o = 44 ∨ o = 45 ∨ o = 48 ∨ o = 49 ∨ o = 58 ∨ o = 60 then 1
  else if o = 46 ∨ o = 47 ∨ o = 50 ∨ o = 51 ∨ o = 59 ∨ o = 61 then 2
  else if o = 40 ∨ o = 52 ∨ o = 53 ∨ o = 54 ∨ o = 62 then 4
  else if o = 41 ∨ o = 55 then 8 else 0
def kd (o b : Int) : Int := if o < b then 127 else 126
/-- Instructions of numbers: what they take and give. -/
def numS (o : Int) : List Int × Int × Bool :=
  if o = 69 ∨ o = 80 then ([kd o 80], 127, true)
  else if 69 < o ∧ o ≤ 90 then ([kd o 80, kd o 80], 127, true)
  else if (103 ≤ o ∧ o ≤ 105) ∨ (121 ≤ o ∧ o ≤ 123) then ([kd o 121], kd o 121, true)
  else if 106 ≤ o ∧ o ≤ 138 then ([kd o 121, kd o 121], kd o 121, true)
  else if o = 167 then ([126], 127, true)
  else if o = 172 ∨ o = 173 then ([127], 126, true)
  else if 192 ≤ o ∧ o ≤ 196 then ([kd o 194], kd o 194, true)
  else ([], 0, false)
/-- What stands beside: 0 unknown, 1 nothing, 2 block, 3 index, 4 ways, 5 indirect, 6 place, 7 zero, 8 const32, 9 const64. -/
def bsd (o : Int) : Int :=
  if o = 2 ∨ o = 3 ∨ o = 4 then 2
  else if o = 12 ∨ o = 13 ∨ o = 16 ∨ (32 ≤ o ∧ o ≤ 36) then 3
  else if o = 14 then 4
  else if o = 17 then 5
  else if 0 < wid o then 6
  else if o = 63 ∨ o = 64 then 7
  else if o = 65 then 8
  else if o = 66 then 9
  else if o ≤ 1 ∨ o = 5 ∨ o = 11 ∨ o = 15 ∨ o = 26 ∨ o = 27 then 1
  else if (numS o).2.2 = true then 1 else 0
def isIdx (n : Int) : Prop := 0 ≤ n ∧ n ≤ 4294967295
instance (n : Int) : Decidable (isIdx n) := by unfold isIdx; infer_instance
def goodK (k a b : Int) : Prop :=
  if k = 1 ∨ k = 7 then a = 0
  else if k = 2 then a = 64 ∨ a = 127 ∨ a = 126
  else if k = 8 then -2147483648 ≤ a ∧ a ≤ 2147483647
  else if k = 6 then isIdx a ∧ isIdx b
  else if k = 3 ∨ k = 4 ∨ k = 5 then isIdx a else True
instance (k a b : Int) : Decidable (goodK k a b) := by unfold goodK; infer_instance
def chk (x : InsD) : Int :=
  if bsd x.op = 0 then 6
  else if 16 < x.to.length then 2
  else if (bsd x.op ≠ 4 ∧ 0 < x.to.length) ∨ (bsd x.op ≠ 6 ∧ x.b ≠ 0) then 1
  else if goodK (bsd x.op) x.a x.b ∧ ∀ n ∈ x.to, isIdx n then 0 else 1
def byt (n : Int) : UInt8 := UInt8.ofNat (n % 256).toNat
def txtB (k : Int) (x : InsD) : List UInt8 :=
  if k = 2 then [byt x.a]
  else if k = 3 then uleb x.a.toNat
  else if k = 4 then uleb x.to.length ++ (x.to.flatMap (fun n => uleb n.toNat) ++ uleb x.a.toNat)
  else if k = 5 then uleb x.a.toNat ++ [0]
  else if k = 6 then uleb x.a.toNat ++ uleb x.b.toNat
  else if k = 7 then [0]
  else if k = 8 ∨ k = 9 then sleb x.a
  else []
def txt (x : InsD) : List UInt8 := byt x.op :: txtB (bsd x.op) x
/-! ## Reading -/
def manyR : Nat → Rdr (List Int)
  | 0 => retR []
  | n + 1 => bindR plainR fun v => bindR (manyR n) fun l => retR (v :: l)
def noughtR : Rdr Unit := bindR octetR fun v => if v ≠ 0 then failRd 4 else retR ()
def blockR (o : Int) : Rdr InsD := bindR octetR fun k => bindR (if k ≠ 64 ∧ k ≠ 127 ∧ k ≠ 126 then failRd 6 else retR ()) fun _ => retR ⟨o, k, 0, []⟩
def waysR (o : Int) : Rdr InsD := bindR plainR fun n => bindR (if 16 < n then failRd 2 else retR ()) fun _ => bindR (manyR (if 16 < n then 0 else n.toNat)) fun l => bindR plainR fun a => retR ⟨o, a, 0, l⟩
def bsdR (o k : Int) : Rdr InsD :=
  if k = 2 then blockR o
  else if k = 3 then bindR plainR fun a => retR ⟨o, a, 0, []⟩
  else if k = 4 then waysR o
  else if k = 5 then bindR plainR fun a => bindR noughtR fun _ => retR ⟨o, a, 0, []⟩
  else if k = 6 then bindR plainR fun a => bindR plainR fun b => retR ⟨o, a, b, []⟩
  else if k = 7 then bindR noughtR fun _ => retR ⟨o, 0, 0, []⟩
  else if k = 8 then bindR (signedR 32) fun a => retR ⟨o, a, 0, []⟩
  else if k = 9 then bindR (signedR 64) fun a => retR ⟨o, a, 0, []⟩
  else retR ⟨o, 0, 0, []⟩
def insR : Rdr InsD := bindR octetR fun o => bindR (if bsd o = 0 then failRd 6 else retR ()) fun _ => bsdR o (bsd o)
def zeroI : InsD := ⟨0, 0, 0, []⟩
/-- What ins.Read answers. -/
def rdI (s : List UInt8) : InsD × Nat × Int :=
  if (insR s ⟨0, 0⟩).2.bad = 0 then ((insR s ⟨0, 0⟩).1, (insR s ⟨0, 0⟩).2.at_, 0) else (zeroI, 0, (insR s ⟨0, 0⟩).2.bad)
theorem Strict.many : ∀ n, Strict (manyR n)
  | 0 => Strict.ret _
  | n + 1 => Strict.plain.bind fun _ => (Strict.many n).bind fun _ => Strict.ret _
theorem Strict.nought : Strict noughtR := Strict.octet.bind fun v => by
  split
  · exact Strict.fail _
  · exact Strict.ret _
theorem Strict.ite {α : Type} {c : Prop} [Decidable c] {p q : Rdr α} (hp : Strict p) (hq : Strict q) : Strict (if c then p else q) := by split <;> assumption
theorem Strict.block (o : Int) : Strict (blockR o) := Strict.octet.bind fun v => (Strict.ite (Strict.fail _) (Strict.ret _)).bind fun _ => Strict.ret _
theorem Strict.ways (o : Int) : Strict (waysR o) := Strict.plain.bind fun n => (Strict.ite (Strict.fail _) (Strict.ret _)).bind fun _ => (Strict.many _).bind fun _ => Strict.plain.bind fun _ => Strict.ret _
theorem Strict.bsd (o k : Int) : Strict (bsdR o k) := by
  unfold bsdR
  refine Strict.ite (Strict.block o) (Strict.ite (Strict.plain.bind fun _ => Strict.ret _) (Strict.ite (Strict.ways o) (Strict.ite (Strict.plain.bind fun _ => Strict.nought.bind fun _ => Strict.ret _) (Strict.ite (Strict.plain.bind fun _ => Strict.plain.bind fun _ => Strict.ret _) (Strict.ite (Strict.nought.bind fun _ => Strict.ret _) (Strict.ite ((Strict.signed _).bind fun _ => Strict.ret _) (Strict.ite ((Strict.signed _).bind fun _ => Strict.ret _) (Strict.ret _))))))))
theorem Strict.ins : Strict insR := Strict.octet.bind fun _ => (Strict.ite (Strict.fail _) (Strict.ret _)).bind fun _ => Strict.bsd _ _
theorem Tx.cg {α : Type} {A A' : List UInt8} {p : Rdr α} {v : α} (h : Tx A p v) (e : A = A') : Tx A' p v := e ▸ h
theorem Tx.many : ∀ (l : List Int), (∀ n ∈ l, isIdx n) → Tx (l.flatMap fun n => uleb n.toNat) (manyR l.length) l
  | [], _ => Tx.ret _
  | n :: l, h => by
    obtain ⟨h1, h2⟩ := h n (List.mem_cons_self ..)
    have h3 := Tx.plain n.toNat (by omega)
    rw [show ((n.toNat : Nat) : Int) = n by omega] at h3
    have := h3.bind (q := fun v => bindR (manyR l.length) fun l' => retR (v :: l')) ((Tx.many l fun m hm => h m (List.mem_cons_of_mem _ hm)).bind (q := fun l' => retR (n :: l')) (Tx.ret _) fun _ => Strict.ret _) fun _ => (Strict.many _).bind fun _ => Strict.ret _
    rw [List.append_nil] at this
    exact this
theorem Tx.nought : Tx [0] noughtR () := by
  have := (Tx.octet 0).bind (q := fun v => if v ≠ 0 then failRd 4 else retR ()) (B := []) (u := ()) (by
    rw [if_neg (by decide)]; exact Tx.ret _) fun v => Strict.ite (Strict.fail _) (Strict.ret _)
  rw [List.append_nil] at this; exact this
theorem Tx.idx {n : Int} (h : isIdx n) : Tx (uleb n.toNat) plainR n := by
  obtain ⟨h1, h2⟩ := h
  have h3 := Tx.plain n.toNat (by omega)
  rw [show ((n.toNat : Nat) : Int) = n by omega] at h3
  exact h3
theorem bsd_cases (o : Int) : bsd o = 0 ∨ bsd o = 1 ∨ bsd o = 2 ∨ bsd o = 3 ∨ bsd o = 4 ∨ bsd o = 5 ∨ bsd o = 6 ∨ bsd o = 7 ∨ bsd o = 8 ∨ bsd o = 9 := by
  unfold bsd
  repeat' split
  all_goals simp
theorem byt_of {n : Int} (h : 0 ≤ n ∧ n ≤ 255) : byt n = UInt8.ofNat n.toNat := by unfold byt; rw [Int.emod_eq_of_lt (by omega) (by omega)]
/-- What stands beside a good instruction is read. -/
theorem Tx.beside {x : InsD} (h0 : bsd x.op ≠ 0) (hto : x.to.length ≤ 16) (h1 : bsd x.op ≠ 4 → x.to = []) (h2 : bsd x.op ≠ 6 → x.b = 0) (hg : goodK (bsd x.op) x.a x.b) (ht : ∀ n ∈ x.to, isIdx n) (ha : -9223372036854775808 ≤ x.a ∧ x.a ≤ 9223372036854775807) : Tx (txtB (bsd x.op) x) (bsdR x.op (bsd x.op)) x := by
  obtain ⟨o, a, b, to⟩ := x
  simp only at h0 hto h1 h2 hg ht ha ⊢
  generalize hk : Ins.bsd o = k at *
  have hkc := bsd_cases o
  rw [hk] at hkc
  unfold goodK at hg
  unfold txtB bsdR
  rcases hkc with rfl | rfl | rfl | rfl | rfl | rfl | rfl | rfl | rfl | rfl
  · exact absurd rfl h0
  · simp at hg h1 h2
    simp only [h1, h2, hg]
    exact Tx.ret _
  · simp at hg h1 h2
    simp only [h1, h2]
    have hb : 0 ≤ a ∧ a ≤ 255 := by omega
    have := (Tx.octetN a hb).bind (q := fun k => bindR (if k ≠ 64 ∧ k ≠ 127 ∧ k ≠ 126 then failRd 6 else retR ()) fun _ => retR (⟨o, k, 0, []⟩ : InsD)) (B := [] ++ []) (u := ⟨o, a, 0, []⟩) ((show Tx [] _ () by rw [if_neg (by omega)]; exact Tx.ret _).bind (Tx.ret _) fun _ => Strict.ret _) fun v => (Strict.ite (Strict.fail _) (Strict.ret _)).bind fun _ => Strict.ret _
    rw [List.append_nil, List.append_nil, ← byt_of hb] at this
    exact this
  · simp at hg h1 h2
    simp only [h1, h2]
    have := (Tx.idx hg).bind (q := fun a => retR (⟨o, a, 0, []⟩ : InsD)) (Tx.ret _) fun _ => Strict.ret _
    rw [List.append_nil] at this
    exact this
  · simp at hg h2
    simp only [h2]
    have hidx : isIdx ((to.length : Nat) : Int) := ⟨by omega, by omega⟩
    have hn : Tx (uleb to.length) plainR ((to.length : Nat) : Int) := by have := Tx.idx hidx; rwa [Int.toNat_natCast] at this
    have := hn.bind (q := fun n => bindR (if 16 < n then failRd 2 else retR ()) fun _ => bindR (manyR (if 16 < n then 0 else n.toNat)) fun l => bindR plainR fun a => retR (⟨o, a, 0, l⟩ : InsD)) (B := [] ++ (to.flatMap (fun n => uleb n.toNat) ++ (uleb a.toNat ++ []))) (u := ⟨o, a, 0, to⟩) ((show Tx [] _ () by rw [if_neg (by omega)]; exact Tx.ret _).bind (by
      rw [if_neg (by omega), Int.toNat_natCast]
      exact (Tx.many to ht).bind ((Tx.idx hg).bind (Tx.ret _) fun _ => Strict.ret _) fun _ => Strict.plain.bind fun _ => Strict.ret _) fun _ => (Strict.many _).bind fun _ => Strict.plain.bind fun _ => Strict.ret _) fun n => (Strict.ite (Strict.fail _) (Strict.ret _)).bind fun _ => (Strict.many _).bind fun _ => Strict.plain.bind fun _ => Strict.ret _
    rw [List.nil_append, List.append_nil] at this
    exact this
  · simp at hg h1 h2
    simp only [h1, h2]
    have := (Tx.idx hg).bind (q := fun a => bindR noughtR fun _ => retR (⟨o, a, 0, []⟩ : InsD)) (Tx.nought.bind (Tx.ret _) fun _ => Strict.ret _) fun _ => Strict.nought.bind fun _ => Strict.ret _
    rw [List.append_nil] at this
    exact this
  · simp at hg h1
    simp only [h1]
    have := (Tx.idx hg.1).bind (q := fun a => bindR plainR fun b => retR (⟨o, a, b, []⟩ : InsD)) ((Tx.idx hg.2).bind (Tx.ret _) fun _ => Strict.ret _) fun _ => Strict.plain.bind fun _ => Strict.ret _
    rw [List.append_nil] at this
    exact this
  · simp at hg h1 h2
    simp only [h1, h2, hg]
    have := Tx.nought.bind (q := fun _ => retR (⟨o, 0, 0, []⟩ : InsD)) (Tx.ret _) fun _ => Strict.ret _
    rw [List.append_nil] at this
    exact this
  · simp at hg h1 h2
    simp only [h1, h2]
    have := (Tx.signed32 a hg).bind (q := fun a => retR (⟨o, a, 0, []⟩ : InsD)) (Tx.ret _) fun _ => Strict.ret _
    rw [List.append_nil] at this
    exact this
  · simp at h1 h2
    simp only [h1, h2]
    have := (Tx.signed64 a ha).bind (q := fun a => retR (⟨o, a, 0, []⟩ : InsD)) (Tx.ret _) fun _ => Strict.ret _
    rw [List.append_nil] at this
    exact this
theorem chk_ok {x : InsD} (h : chk x = 0) : bsd x.op ≠ 0 ∧ x.to.length ≤ 16 ∧ (bsd x.op ≠ 4 → x.to = []) ∧ (bsd x.op ≠ 6 → x.b = 0) ∧ goodK (bsd x.op) x.a x.b ∧ ∀ n ∈ x.to, isIdx n := by
  unfold chk at h
  split at h
  · cases h
  split at h
  · cases h
  split at h
  · cases h
  split at h
  · rename_i h1 h2 h3 h4
    refine ⟨h1, by omega, fun h5 => ?_, fun h5 => ?_, h4.1, h4.2⟩
    · exact List.eq_nil_of_length_eq_zero (by
        apply Decidable.byContradiction
        intro h6; exact h3 (.inl ⟨h5, by omega⟩))
    · apply Decidable.byContradiction
      intro h6; exact h3 (.inr ⟨h5, h6⟩)
  · cases h
theorem ok_chk {x : InsD} (h0 : bsd x.op ≠ 0) (h1 : x.to.length ≤ 16) (h2 : bsd x.op ≠ 4 → x.to = []) (h3 : bsd x.op ≠ 6 → x.b = 0) (h4 : goodK (bsd x.op) x.a x.b) (h5 : ∀ n ∈ x.to, isIdx n) : chk x = 0 := by
  unfold chk
  rw [if_neg h0, if_neg (by omega), if_neg, if_pos ⟨h4, h5⟩]
  rintro (⟨h, h6⟩ | ⟨h, h6⟩)
  · rw [h2 h] at h6; simp at h6
  · exact h6 (h3 h)
theorem Tx.insr {x : InsD} (h : chk x = 0) (hop : 0 ≤ x.op ∧ x.op ≤ 255) (ha : -9223372036854775808 ≤ x.a ∧ x.a ≤ 9223372036854775807) : Tx (txt x) insR x := by
  obtain ⟨h0, h1, h2, h3, h4, h5⟩ := chk_ok h
  have := (Tx.octetN x.op hop).bind (q := fun o => bindR (if Ins.bsd o = 0 then failRd 6 else retR ()) fun _ => bsdR o (Ins.bsd o)) (B := [] ++ txtB (Ins.bsd x.op) x) (u := x) ((show Tx [] _ () by rw [if_neg h0]; exact Tx.ret _).bind (Tx.beside h0 h1 h2 h3 h4 h5 ha) fun _ => Strict.bsd _ _) fun _ => (Strict.ite (Strict.fail _) (Strict.ret _)).bind fun _ => Strict.bsd _ _
  rw [List.nil_append, ← byt_of hop] at this
  exact this
/-- What is written is read as it was, whatever follows. -/
theorem rdI_txt {x : InsD} (h : chk x = 0) (hop : 0 ≤ x.op ∧ x.op ≤ 255) (ha : -9223372036854775808 ≤ x.a ∧ x.a ≤ 9223372036854775807) (more : List UInt8) : rdI (txt x ++ more) = (x, (txt x).length, 0) := by
  have := (Tx.insr h hop ha).whole (txt x ++ more) 0 more rfl
  unfold rdI
  rw [this, if_pos rfl, Nat.zero_add]
theorem rdI_cut {x : InsD} (h : chk x = 0) (hop : 0 ≤ x.op ∧ x.op ≤ 255) (ha : -9223372036854775808 ≤ x.a ∧ x.a ≤ 9223372036854775807) {j : Nat} (hj : j < (txt x).length) : (rdI ((txt x).take j)).2.2 = 3 := by
  have := (Tx.insr h hop ha).cut ((txt x).take j) 0 j rfl hj
  unfold rdI
  rw [if_neg (by rw [this]; decide)]
  exact this
/-! ## What was read -/
theorem Gt.fail {e : Int} (he : e ≠ 0) (Q : Unit → Nat → Prop) : Gt (failRd e) Q := fun s k _ h0 => absurd h0 (by unfold failRd failR; simpa using he)
theorem Gt.many : ∀ n, Gt (manyR n) (fun l m => l.length = n ∧ (∀ x ∈ l, isIdx x) ∧ (l.flatMap fun n => uleb n.toNat).length ≤ m)
  | 0 => (Gt.ret _).imp fun v n ⟨h1, h2⟩ => by subst h1; exact ⟨rfl, nofun, Nat.zero_le _⟩
  | n + 1 => by
    refine (Gt.plain.bind (fun v m hv => (Gt.many n).bind (fun l m hl => Gt.ret (v :: l)) fun _ => Strict.ret _) fun _ => (Strict.many _).bind fun _ => Strict.ret _).imp ?_
    rintro u k ⟨v, m, m', ⟨q, rfl, hq, hl⟩, ⟨l, m1, m2, ⟨g1, g2, g3⟩, ⟨rfl, rfl⟩, rfl⟩, rfl⟩
    refine ⟨by simp [g1], fun x hx => ?_, ?_⟩
    · rcases List.mem_cons.1 hx with rfl | hx
      · exact ⟨by omega, by omega⟩
      · exact g2 x hx
    · rw [List.flatMap_cons, List.length_append, Int.toNat_natCast]; omega
theorem Gt.nought : Gt noughtR (fun _ n => n = 1) := by
  refine (Gt.octet.bind (Q' := fun _ _ n => n = 0) (fun v n hv => ?_) fun v => Strict.ite (Strict.fail _) (Strict.ret _)).imp ?_
  · split
    · exact Gt.fail (by decide) _
    · exact (Gt.ret _).imp fun _ _ h => h.2
  · rintro u n ⟨v, m, m', ⟨_, _, rfl⟩, rfl, rfl⟩; rfl
/-- What was read can be written, with no more bytes. -/
def Told (o : Int) (x : InsD) (n : Nat) : Prop := x.op = o ∧ chk x = 0 ∧ (txtB (bsd o) x).length ≤ n ∧ -9223372036854775808 ≤ x.a ∧ x.a ≤ 9223372036854775807 ∧ I64a x.b
where I64a (b : Int) : Prop := -9223372036854775808 ≤ b ∧ b ≤ 9223372036854775807
theorem Gt.beside (o : Int) (h0 : bsd o ≠ 0) : Gt (bsdR o (bsd o)) (Told o) := by
  have hkc := bsd_cases o
  have mk : ∀ {k : Int} {a b : Int} {to : List Int} {n : Nat}, bsd o = k → to.length ≤ 16 → (k ≠ 4 → to = []) → (k ≠ 6 → b = 0) → goodK k a b → (∀ n ∈ to, isIdx n) → (txtB k ⟨o, a, b, to⟩).length ≤ n → -9223372036854775808 ≤ a ∧ a ≤ 9223372036854775807 → -9223372036854775808 ≤ b ∧ b ≤ 9223372036854775807 → Told o ⟨o, a, b, to⟩ n := by
    intro k a b to n hk h1 h2 h3 h4 h5 h6 h7 h8
    subst hk
    exact ⟨rfl, ok_chk h0 h1 h2 h3 h4 h5, h6, h7.1, h7.2, h8⟩
  unfold bsdR
  rcases hkc with hk | hk | hk | hk | hk | hk | hk | hk | hk | hk <;> rw [hk] at h0 ⊢
  · exact absurd rfl h0
  · refine (Gt.ret _).imp ?_
    rintro v n ⟨rfl, rfl⟩
    exact mk hk (Nat.zero_le _) (fun _ => rfl) (fun _ => rfl) (by simp [goodK]) nofun (by simp [txtB]) (by omega) (by omega)
  · refine (Gt.octet.bind (Q' := fun (k : Int) (x : InsD) (n : Nat) => n = 0 ∧ (k = 64 ∨ k = 127 ∨ k = 126) ∧ x = ⟨o, k, 0, []⟩) (fun v n hv => ?_) fun v => (Strict.ite (Strict.fail _) (Strict.ret _)).bind fun _ => Strict.ret _).imp ?_
    · refine (Gt.bind (Q := fun _ n => n = 0 ∧ (v = 64 ∨ v = 127 ∨ v = 126)) ?_ (fun _ n _ => Gt.ret _) fun _ => Strict.ret _).imp ?_
      · split
        · exact Gt.fail (by decide) _
        · rename_i hv2
          exact (Gt.ret _).imp fun _ _ h => ⟨h.2, by omega⟩
      · rintro u n ⟨_, m, m', ⟨rfl, h1⟩, ⟨rfl, rfl⟩, rfl⟩; exact ⟨rfl, h1, rfl⟩
    · rintro u n ⟨v, m, m', ⟨_, _, rfl⟩, ⟨rfl, h1, rfl⟩, rfl⟩
      exact mk hk (Nat.zero_le _) (fun _ => rfl) (fun _ => rfl) (by simpa [goodK] using h1) nofun (by simp [txtB]) (by omega) (by omega)
  · refine (Gt.plain.bind (fun v n hv => Gt.ret _) fun _ => Strict.ret _).imp ?_
    rintro u n ⟨v, m, m', ⟨q, rfl, hq, hl⟩, ⟨rfl, rfl⟩, rfl⟩
    exact mk hk (Nat.zero_le _) (fun _ => rfl) (fun _ => rfl) (by simp [goodK, isIdx]; omega) nofun (by simpa [txtB] using hl) (by omega) (by omega)
  · refine (Gt.plain.bind (Q' := fun (v : Int) (x : InsD) (n : Nat) => ∃ l : List Int, ∃ q : Nat, l.length = v ∧ v ≤ 16 ∧ (∀ x ∈ l, isIdx x) ∧ q < 2 ^ 32 ∧ (l.flatMap fun n => uleb n.toNat).length + (uleb q).length ≤ n ∧ x = ⟨o, q, 0, l⟩) (fun v n hv => ?_) fun v => (Strict.ite (Strict.fail _) (Strict.ret _)).bind fun _ => (Strict.many _).bind fun _ => Strict.plain.bind fun _ => Strict.ret _).imp ?_
    · refine (Gt.bind (Q := fun _ n => n = 0 ∧ v ≤ 16) ?_ (Q' := fun _ (x : InsD) (n : Nat) => ∃ l : List Int, ∃ q : Nat, l.length = v ∧ v ≤ 16 ∧ (∀ x ∈ l, isIdx x) ∧ q < 2 ^ 32 ∧ (l.flatMap fun n => uleb n.toNat).length + (uleb q).length ≤ n ∧ x = ⟨o, q, 0, l⟩) (fun _ n hn => ?_) fun _ => (Strict.many _).bind fun _ => Strict.plain.bind fun _ => Strict.ret _).imp ?_
      · split
        · exact Gt.fail (by decide) _
        · exact (Gt.ret _).imp fun _ _ h => ⟨h.2, by omega⟩
      · rw [if_neg (by omega)]
        refine ((Gt.many v.toNat).bind (fun l n hl => Gt.plain.bind (fun a n ha => Gt.ret _) fun _ => Strict.ret _) fun _ => Strict.plain.bind fun _ => Strict.ret _).imp ?_
        rintro u k ⟨l, m1, m2, ⟨g1, g2, g3⟩, ⟨a, m3, m4, ⟨q, rfl, hq, hl⟩, ⟨rfl, rfl⟩, rfl⟩, rfl⟩
        obtain ⟨p, rfl, _⟩ := hv
        exact ⟨l, q, by rw [g1]; simp, by omega, g2, hq, by omega, rfl⟩
      · rintro u n ⟨_, m, m', ⟨rfl, _⟩, h, rfl⟩
        rw [Nat.zero_add]; exact h
    · rintro u n ⟨v, m, m', ⟨p, rfl, hp, hl⟩, ⟨l, q, h1, h2, h3, h4, h5, rfl⟩, rfl⟩
      have hlp : l.length = p := by omega
      refine mk hk (by omega) (fun h => absurd rfl h) (fun _ => rfl) (by simp [goodK, isIdx]; omega) h3 ?_ (by omega) (by omega)
      unfold txtB
      rw [if_neg (by decide), if_neg (by decide), if_pos rfl, hlp]
      simp only [List.length_append, Int.toNat_natCast]
      omega
  · refine (Gt.plain.bind (fun v n hv => Gt.nought.bind (fun _ n hn => Gt.ret _) fun _ => Strict.ret _) fun _ => Strict.nought.bind fun _ => Strict.ret _).imp ?_
    rintro u n ⟨v, m, m', ⟨q, rfl, hq, hl⟩, ⟨_, m1, m2, rfl, ⟨rfl, rfl⟩, rfl⟩, rfl⟩
    exact mk hk (Nat.zero_le _) (fun _ => rfl) (fun _ => rfl) (by simp [goodK, isIdx]; omega) nofun (by simp [txtB]; omega) (by omega) (by omega)
  · refine (Gt.plain.bind (fun v n hv => Gt.plain.bind (fun b n hn => Gt.ret _) fun _ => Strict.ret _) fun _ => Strict.plain.bind fun _ => Strict.ret _).imp ?_
    rintro u n ⟨v, m, m', ⟨q, rfl, hq, hl⟩, ⟨_, m1, m2, ⟨q2, rfl, hq2, hl2⟩, ⟨rfl, rfl⟩, rfl⟩, rfl⟩
    exact mk hk (Nat.zero_le _) (fun _ => rfl) (fun h => absurd rfl h) (by simp [goodK, isIdx]; omega) nofun (by simp [txtB]; omega) (by omega) (by omega)
  · refine (Gt.nought.bind (fun _ n hn => Gt.ret _) fun _ => Strict.ret _).imp ?_
    rintro u n ⟨_, m1, m2, rfl, ⟨rfl, rfl⟩, rfl⟩
    exact mk hk (Nat.zero_le _) (fun _ => rfl) (fun _ => rfl) (by simp [goodK]) nofun (by simp [txtB]) (by omega) (by omega)
  · refine ((Gt.signed 32 (.inl rfl)).bind (fun v n hv => Gt.ret _) fun _ => Strict.ret _).imp ?_
    rintro u n ⟨v, m, m', ⟨h1, h2, h3⟩, ⟨rfl, rfl⟩, rfl⟩
    simp at h1 h2
    exact mk hk (Nat.zero_le _) (fun _ => rfl) (fun _ => rfl) (by simp [goodK]; omega) nofun (by simpa [txtB] using h3) (by omega) (by omega)
  · refine ((Gt.signed 64 (.inr rfl)).bind (fun v n hv => Gt.ret _) fun _ => Strict.ret _).imp ?_
    rintro u n ⟨v, m, m', ⟨h1, h2, h3⟩, ⟨rfl, rfl⟩, rfl⟩
    simp at h1 h2
    exact mk hk (Nat.zero_le _) (fun _ => rfl) (fun _ => rfl) (by simp [goodK]) nofun (by simpa [txtB] using h3) (by omega) (by omega)
theorem Gt.insr : Gt insR (fun x n => 0 ≤ x.op ∧ x.op ≤ 255 ∧ chk x = 0 ∧ (txt x).length ≤ n ∧ (-9223372036854775808 ≤ x.a ∧ x.a ≤ 9223372036854775807) ∧ -9223372036854775808 ≤ x.b ∧ x.b ≤ 9223372036854775807) := by
  refine (Gt.octet.bind (Q' := fun o x n => Told o x n) (fun o n ho => ?_) fun _ => (Strict.ite (Strict.fail _) (Strict.ret _)).bind fun _ => Strict.bsd _ _).imp ?_
  · refine (Gt.bind (Q := fun _ n => n = 0 ∧ bsd o ≠ 0) (Q' := fun _ => Told o) ?_ (fun _ n hn => Gt.beside o hn.2) fun _ => Strict.bsd _ _).imp ?_
    · split
      · exact Gt.fail (by decide) _
      · rename_i h; exact (Gt.ret _).imp fun _ _ h' => ⟨h'.2, h⟩
    · rintro u n ⟨_, m, m', ⟨rfl, _⟩, h, rfl⟩
      rw [Nat.zero_add]; exact h
  · rintro x n ⟨o, m, m', ⟨h1, h2, rfl⟩, ⟨rfl, h3, h4, h5, h6, h7⟩, rfl⟩
    exact ⟨h1, h2, h3, by unfold txt; simp only [List.length_cons]; omega, ⟨h5, h6⟩, h7⟩
theorem rdI_told {s : List UInt8} {x : InsD} {n : Nat} (h : rdI s = (x, n, 0)) : n ≤ s.length ∧ 0 ≤ x.op ∧ x.op ≤ 255 ∧ chk x = 0 ∧ (txt x).length ≤ n ∧ (-9223372036854775808 ≤ x.a ∧ x.a ≤ 9223372036854775807) ∧ -9223372036854775808 ≤ x.b ∧ x.b ≤ 9223372036854775807 := by
  unfold rdI at h
  split at h
  · rename_i h0
    obtain ⟨h1, m, h2, h3⟩ := Gt.insr s 0 (Nat.zero_le _) h0
    simp only [Prod.mk.injEq] at h
    obtain ⟨rfl, rfl, _⟩ := h
    rw [Nat.zero_add] at h2
    rw [← h2] at h3
    exact ⟨h1, h3⟩
  · rename_i h0
    simp only [Prod.mk.injEq] at h
    exact absurd h.2.2 h0
end Go.Proofs.YtcpniokopahakaaDoor.Ins
/- Bodies: which blocks are open; what is checked; how a body is written and read. -/
set_option maxRecDepth 100000
set_option linter.unusedVariables false
set_option linter.unusedSimpArgs false
namespace Go.Proofs.YtcpniokopahakaaDoor.Nest
open Go.Proofs.YtcpniokopahakaaDoor.Leb Go.Proofs.YtcpniokopahakaaDoor.Txt Go.Proofs.YtcpniokopahakaaDoor.Ins
structure NS where
  op : List Int
  last : List Int
  over : Bool
def ns0 : NS := ⟨[-1], [2], false⟩
/-- The walker takes an instruction: its state, what is closed, what is wrong. -/
def nextS (st : NS) (o k : Int) : NS × Int × Int :=
  if st.over = true then (st, -2, 4)
  else if o = 2 ∨ o = 3 ∨ o = 4 then if 12 ≤ st.op.length - 1 then (st, -2, 7) else (⟨st.op ++ [k], st.last ++ [o], st.over⟩, -2, 0)
  else if o = 5 then if st.last.getD (st.op.length - 1) 0 ≠ 4 then (st, -2, 4) else (⟨st.op, st.last.set (st.op.length - 1) 5, st.over⟩, st.op.getD (st.op.length - 1) 0, 0)
  else if o = 11 then (⟨st.op.take (st.op.length - 1), st.last.take (st.op.length - 1), decide (st.op.length - 1 = 0)⟩, st.op.getD (st.op.length - 1) 0, 0)
  else (st, -2, 0)
structure NOk (st : NS) : Prop where
  len : st.last.length = st.op.length
  pos : st.over = false → 0 < st.op.length
  le : st.op.length ≤ 13
theorem ns0_ok : NOk ns0 := ⟨rfl, fun _ => by decide, by decide⟩
theorem nextS_ok {st : NS} (h : NOk st) (o k : Int) : NOk (nextS st o k).1 := by
  obtain ⟨h1, h2, h3⟩ := h
  unfold nextS
  split
  · exact ⟨h1, h2, h3⟩
  rename_i ho
  have h2 := h2 (by simpa using ho)
  split
  · split
    · exact ⟨h1, fun _ => h2, h3⟩
    · exact ⟨by simp [h1], fun _ => by simp, by simp; omega⟩
  split
  · split
    · exact ⟨h1, fun _ => h2, h3⟩
    · exact ⟨by simp [h1], fun _ => h2, h3⟩
  split
  · refine ⟨by simp [h1], fun hd => ?_, by simp; omega⟩
    have : ¬ (st.op.length - 1 = 0) := by simpa using hd
    simp; omega
  · exact ⟨h1, fun _ => h2, h3⟩
/-- The rest of a body, from place k on. -/
def goB : List InsD → Nat → NS → Int
  | [], _, st => if st.over = true then 0 else 3
  | x :: r, k, st => if chk x ≠ 0 then chk x else if (nextS st x.op k).2.2 ≠ 0 then (nextS st x.op k).2.2 else goB r (k + 1) (nextS st x.op k).1
def chkB (l : List InsD) : Int := if 200 < l.length then 2 else goB l 0 ns0
/-- The state ahead of place k. -/
def stB (l : List InsD) : Nat → NS
  | 0 => ns0
  | k + 1 => match l[k]? with
    | none => stB l k
    | some x => (nextS (stB l k) x.op k).1
theorem stB_succ {l : List InsD} {k : Nat} {x : InsD} (h : l[k]? = some x) : stB l (k + 1) = (nextS (stB l k) x.op k).1 := by
  show (match l[k]? with | none => stB l k | some x => (nextS (stB l k) x.op k).1) = _
  rw [h]
theorem stB_ok (l : List InsD) : ∀ k, NOk (stB l k)
  | 0 => ns0_ok
  | k + 1 => by
    show NOk (match l[k]? with | none => stB l k | some x => (nextS (stB l k) x.op k).1)
    split
    · exact stB_ok l k
    · exact nextS_ok (stB_ok l k) _ _
/-- What is so far as it should be. -/
def SoFar (l : List InsD) (k : Nat) : Prop := ∀ i x, i < k → l[i]? = some x → chk x = 0 ∧ (nextS (stB l i) x.op i).2.2 = 0
theorem SoFar.zero (l : List InsD) : SoFar l 0 := fun i x h => absurd h (Nat.not_lt_zero i)
theorem SoFar.succ {l : List InsD} {k : Nat} {x : InsD} (h : SoFar l k) (hx : l[k]? = some x) (h1 : chk x = 0) (h2 : (nextS (stB l k) x.op k).2.2 = 0) : SoFar l (k + 1) := fun i y hi hy => by
  by_cases e : i = k
  · subst e; rw [hx] at hy; obtain rfl := Option.some.inj hy; exact ⟨h1, h2⟩
  · exact h i y (by omega) hy
theorem goB_from {l : List InsD} {k : Nat} (hk : k ≤ l.length) (h : SoFar l k) : goB l 0 ns0 = goB (l.drop k) k (stB l k) := by
  induction k with
  | zero => rfl
  | succ k ih =>
    have hlt : k < l.length := hk
    have hx : l[k]? = some l[k] := List.getElem?_eq_getElem hlt
    obtain ⟨h1, h2⟩ := h k _ (Nat.lt_succ_self k) hx
    rw [ih (by omega) (fun i x hi => h i x (by omega)), List.drop_eq_getElem_cons hlt, goB, if_neg (by rw [h1]; simp), if_neg (by rw [h2]; simp), stB_succ hx]
theorem chkB_large {l : List InsD} (h : 200 < l.length) : chkB l = 2 := if_pos h
theorem chkB_chk {l : List InsD} {k : Nat} {x : InsD} (hl : l.length ≤ 200) (h : SoFar l k) (hx : l[k]? = some x) (hc : chk x ≠ 0) : chkB l = chk x := by
  have hlt := (List.getElem?_eq_some_iff.1 hx).1
  unfold chkB
  rw [if_neg (by omega), goB_from (Nat.le_of_lt hlt) h, List.drop_eq_getElem_cons hlt]
  obtain rfl : l[k] = x := by rw [List.getElem?_eq_getElem hlt] at hx; exact Option.some.inj hx
  rw [goB, if_pos hc]
theorem chkB_next {l : List InsD} {k : Nat} {x : InsD} (hl : l.length ≤ 200) (h : SoFar l k) (hx : l[k]? = some x) (hc : chk x = 0) (hn : (nextS (stB l k) x.op k).2.2 ≠ 0) : chkB l = (nextS (stB l k) x.op k).2.2 := by
  have hlt := (List.getElem?_eq_some_iff.1 hx).1
  unfold chkB
  rw [if_neg (by omega), goB_from (Nat.le_of_lt hlt) h, List.drop_eq_getElem_cons hlt]
  obtain rfl : l[k] = x := by rw [List.getElem?_eq_getElem hlt] at hx; exact Option.some.inj hx
  rw [goB, if_neg (by rw [hc]; simp), if_pos hn]
theorem chkB_end {l : List InsD} {k : Nat} (hl : l.length ≤ 200) (h : SoFar l k) (hk : k = l.length) : chkB l = if (stB l k).over = true then 0 else 3 := by
  unfold chkB
  rw [if_neg (by omega), goB_from (by omega) h, List.drop_of_length_le (by omega), goB]
theorem chkB_ok {l : List InsD} (h : chkB l = 0) : l.length ≤ 200 ∧ SoFar l l.length ∧ (stB l l.length).over = true := by
  unfold chkB at h
  split at h
  · cases h
  rename_i hl
  have key : ∀ n k, k + n = l.length → SoFar l k → goB (l.drop k) k (stB l k) = 0 → SoFar l l.length ∧ (stB l l.length).over = true := by
    intro n
    induction n with
    | zero =>
      intro k hk hs hg
      rw [List.drop_of_length_le (by omega), goB] at hg
      obtain rfl : k = l.length := by omega
      refine ⟨hs, ?_⟩
      split at hg
      · assumption
      · cases hg
    | succ n ih =>
      intro k hk hs hg
      have hlt : k < l.length := by omega
      have hx : l[k]? = some l[k] := List.getElem?_eq_getElem hlt
      rw [List.drop_eq_getElem_cons hlt, goB] at hg
      split at hg
      · rename_i hc; exact absurd hg hc
      rename_i hc
      split at hg
      · rename_i hn; exact absurd hg hn
      rename_i hn
      exact ih (k + 1) (by omega) (hs.succ hx (Decidable.not_not.1 hc) (Decidable.not_not.1 hn)) (by rw [stB_succ hx]; exact hg)
  have := key l.length 0 (by omega) (SoFar.zero l) h
  exact ⟨by omega, this⟩
end Go.Proofs.YtcpniokopahakaaDoor.Nest
/- Bodies that are written and read. -/
set_option maxRecDepth 100000
set_option linter.unusedVariables false
set_option linter.unusedSimpArgs false
namespace Go.Proofs.YtcpniokopahakaaDoor.Nest
open Go.Proofs.YtcpniokopahakaaDoor.Leb Go.Proofs.YtcpniokopahakaaDoor.Txt Go.Proofs.YtcpniokopahakaaDoor.Ins
def txtL (l : List InsD) : List UInt8 := l.flatMap txt
/-- What is read of a body, from byte k on, with what was read before. -/
def rdG : Nat → List UInt8 → Nat → List InsD → NS → List InsD × Nat × Int
  | 0, _, _, _, _ => ([], 0, 2)
  | f + 1, s, k, acc, st =>
    if st.over = true then (acc, k, 0)
    else if (rdI (s.drop k)).2.2 ≠ 0 then ([], 0, (rdI (s.drop k)).2.2)
    else if acc.length = 200 then ([], 0, 2)
    else if (nextS st (rdI (s.drop k)).1.op acc.length).2.2 ≠ 0 then ([], 0, (nextS st (rdI (s.drop k)).1.op acc.length).2.2)
    else rdG f s (k + (rdI (s.drop k)).2.1) (acc ++ [(rdI (s.drop k)).1]) (nextS st (rdI (s.drop k)).1.op acc.length).1
def rdB (s : List UInt8) : List InsD × Nat × Int := rdG 201 s 0 [] ns0
/-- What is so far read of s. -/
structure RdI (s : List UInt8) (acc : List InsD) (k : Nat) (st : NS) : Prop where
  eq : rdB s = rdG (201 - acc.length) s k acc st
  le : acc.length ≤ 200
  ks : k ≤ s.length
  st : st = stB acc acc.length
  far : SoFar acc acc.length
  tx : (txtL acc).length ≤ k
  ops : ∀ x ∈ acc, (0 ≤ x.op ∧ x.op ≤ 255) ∧ (-9223372036854775808 ≤ x.a ∧ x.a ≤ 9223372036854775807) ∧ -9223372036854775808 ≤ x.b ∧ x.b ≤ 9223372036854775807
theorem RdI.zero (s : List UInt8) : RdI s [] 0 ns0 := ⟨rfl, Nat.zero_le _, Nat.zero_le _, rfl, SoFar.zero _, Nat.zero_le _, nofun⟩
theorem stB_app (l r : List InsD) : ∀ k, k ≤ l.length → stB (l ++ r) k = stB l k
  | 0, _ => rfl
  | k + 1, h => by
    have hx : l[k]? = some l[k] := List.getElem?_eq_getElem h
    rw [stB_succ hx, stB_succ (by rw [List.getElem?_append_left h]; exact hx), stB_app l r k (by omega)]
theorem SoFar.app {l : List InsD} {k : Nat} (h : SoFar l k) (hk : k ≤ l.length) (r : List InsD) : SoFar (l ++ r) k := fun i x hi hx => by
  rw [List.getElem?_append_left (by omega)] at hx
  rw [stB_app _ _ _ (by omega)]
  exact h i x hi hx
theorem RdI.step {s : List UInt8} {acc : List InsD} {k n : Nat} {st st' : NS} {x : InsD} {is : Int} (h : RdI s acc k st) (ho : st.over = false) (hr : rdI (s.drop k) = (x, n, 0)) (hl : acc.length ≠ 200) (hn : nextS st x.op acc.length = (st', is, 0)) : RdI s (acc ++ [x]) (k + n) st' := by
  obtain ⟨h1, h2, h3, h4, h5, h6, h7⟩ := h
  obtain ⟨t1, t2, t3, t4, t5, t6, t7⟩ := rdI_told hr
  rw [List.length_drop] at t1
  have hlen : (acc ++ [x]).length = acc.length + 1 := by simp
  have hst : nextS (stB (acc ++ [x]) acc.length) x.op acc.length = (st', is, 0) := by rw [stB_app _ _ _ (Nat.le_refl _), ← h4]; exact hn
  have hx : (acc ++ [x])[acc.length]? = some x := by rw [List.getElem?_append_right (Nat.le_refl _)]; simp
  refine ⟨?_, by omega, by omega, ?_, ?_, ?_, fun y hy => ?_⟩
  · rw [h1, show 201 - acc.length = (201 - (acc ++ [x]).length) + 1 by omega, rdG, if_neg (by rw [ho]; simp), hr]
    simp only [hn]
    rw [if_neg (by simp), if_neg hl, if_neg (by simp)]
  · rw [hlen, stB_succ hx, hst]
  · rw [hlen]
    exact (h5.app (Nat.le_refl _) [x]).succ hx t4 (by rw [hst])
  · unfold txtL at *
    rw [List.flatMap_append, List.length_append, List.flatMap_cons, List.flatMap_nil, List.append_nil]; omega
  · rcases List.mem_append.1 hy with hy | hy
    · exact h7 y hy
    · rw [List.mem_singleton.1 hy]; exact ⟨⟨t2, t3⟩, t6, t7⟩
theorem RdI.bad {s : List UInt8} {acc : List InsD} {k n : Nat} {st : NS} {x : InsD} {e : Int} (h : RdI s acc k st) (ho : st.over = false) (hr : rdI (s.drop k) = (x, n, e)) (he : e ≠ 0) : rdB s = ([], 0, e) := by
  rw [h.eq, show 201 - acc.length = (200 - acc.length) + 1 by have := h.le; omega, rdG, if_neg (by rw [ho]; simp), hr]
  simp only
  rw [if_pos he]
theorem RdI.full {s : List UInt8} {acc : List InsD} {k n : Nat} {st : NS} {x : InsD} (h : RdI s acc k st) (ho : st.over = false) (hr : rdI (s.drop k) = (x, n, 0)) (hl : acc.length = 200) : rdB s = ([], 0, 2) := by
  rw [h.eq, show 201 - acc.length = (200 - acc.length) + 1 by have := h.le; omega, rdG, if_neg (by rw [ho]; simp), hr]
  simp only
  rw [if_neg (by simp), if_pos hl]
theorem RdI.no {s : List UInt8} {acc : List InsD} {k n : Nat} {st st' : NS} {x : InsD} {is e : Int} (h : RdI s acc k st) (ho : st.over = false) (hr : rdI (s.drop k) = (x, n, 0)) (hl : acc.length ≠ 200) (hn : nextS st x.op acc.length = (st', is, e)) (he : e ≠ 0) : rdB s = ([], 0, e) := by
  rw [h.eq, show 201 - acc.length = (200 - acc.length) + 1 by have := h.le; omega, rdG, if_neg (by rw [ho]; simp), hr]
  simp only [hn]
  rw [if_neg (by simp), if_neg hl, if_pos he]
theorem RdI.over {s : List UInt8} {acc : List InsD} {k : Nat} {st : NS} (h : RdI s acc k st) (ho : st.over = true) : rdB s = (acc, k, 0) := by
  rw [h.eq, show 201 - acc.length = (200 - acc.length) + 1 by have := h.le; omega, rdG, if_pos ho]
/-- What was read is a body, and can be written with no more bytes. -/
theorem RdI.told {s : List UInt8} {acc : List InsD} {k : Nat} {st : NS} (h : RdI s acc k st) (ho : st.over = true) : chkB acc = 0 ∧ (txtL acc).length ≤ k ∧ k ≤ s.length := by
  refine ⟨?_, h.tx, h.ks⟩
  rw [chkB_end h.le h.far rfl, ← h.st, if_pos ho]
theorem over_no {st : NS} (h : st.over = true) (o k : Int) : (nextS st o k).2.2 = 4 := by unfold nextS; rw [if_pos h]
theorem txtL_take {l : List InsD} {k : Nat} {x : InsD} (h : l[k]? = some x) : txtL (l.take (k + 1)) = txtL (l.take k) ++ txt x := by
  unfold txtL
  rw [List.take_add_one, h, List.flatMap_append]; simp
theorem txtL_split {l : List InsD} {k : Nat} {x : InsD} (h : l[k]? = some x) : txtL l = txtL (l.take k) ++ (txt x ++ txtL (l.drop (k + 1))) := by
  have hlt := (List.getElem?_eq_some_iff.1 h).1
  conv => lhs; rw [← List.take_append_drop k l]
  unfold txtL
  obtain rfl : l[k] = x := by rw [List.getElem?_eq_getElem hlt] at h; exact Option.some.inj h
  rw [List.flatMap_append, List.drop_eq_getElem_cons hlt, List.flatMap_cons]
theorem stB_take (l : List InsD) (m : Nat) : ∀ k, k ≤ m → stB (l.take m) k = stB l k
  | 0, _ => rfl
  | k + 1, h => by
    cases hx : l[k]? with
    | none =>
      have h2 : (l.take m)[k]? = none := by rw [List.getElem?_take, if_pos (by omega)]; exact hx
      show (match (l.take m)[k]? with | none => stB (l.take m) k | some x => (nextS (stB (l.take m) k) x.op k).1) = (match l[k]? with | none => stB l k | some x => (nextS (stB l k) x.op k).1)
      rw [h2, hx]
      exact stB_take l m k (by omega)
    | some x => rw [stB_succ hx, stB_succ (by rw [List.getElem?_take, if_pos (by omega)]; exact hx), stB_take l m k (by omega)]
def opsOk (l : List InsD) : Prop := ∀ x ∈ l, (0 ≤ x.op ∧ x.op ≤ 255) ∧ (-9223372036854775808 ≤ x.a ∧ x.a ≤ 9223372036854775807)
/-- The first k instructions of a body are read from any text that begins with theirs. -/
theorem rd_first {l : List InsD} (h : chkB l = 0) (ho : opsOk l) {s rest : List UInt8} : ∀ k, k ≤ l.length → s = txtL (l.take k) ++ rest → RdI s (l.take k) (txtL (l.take k)).length (stB l k) := by
  obtain ⟨h1, h2, h3⟩ := chkB_ok h
  intro k
  induction k generalizing rest with
  | zero => intro _ _; exact RdI.zero s
  | succ k ih =>
    intro hk hs
    have hx : l[k]? = some l[k] := List.getElem?_eq_getElem hk
    obtain ⟨c1, c2⟩ := h2 k _ hk hx
    rw [txtL_take hx, List.append_assoc] at hs
    have hI := ih (by omega) hs
    have hlen : (l.take k).length = k := by rw [List.length_take]; omega
    have hmem := ho _ (List.mem_of_getElem? hx)
    have hr : rdI (s.drop (txtL (l.take k)).length) = (l[k], (txt l[k]).length, 0) := by
      rw [hs, List.drop_left]; exact rdI_txt c1 hmem.1 hmem.2 rest
    have hov : (stB l k).over = false := by
      cases hov : (stB l k).over with
      | false => rfl
      | true => rw [over_no hov] at c2; cases c2
    have hn : nextS (stB l k) l[k].op (l.take k).length = ((nextS (stB l k) l[k].op k).1, (nextS (stB l k) l[k].op k).2.1, 0) := by rw [hlen, ← c2]
    have := hI.step hov hr (by omega) hn
    rw [show l.take k ++ [l[k]] = l.take (k + 1) by rw [List.take_add_one, hx]; rfl, ← List.length_append, ← txtL_take hx, ← stB_succ hx] at this
    exact this
theorem rdB_txt {l : List InsD} (h : chkB l = 0) (ho : opsOk l) (more : List UInt8) : rdB (txtL l ++ more) = (l, (txtL l).length, 0) := by
  obtain ⟨h1, h2, h3⟩ := chkB_ok h
  have := rd_first h ho (s := txtL l ++ more) (rest := more) l.length (Nat.le_refl _) (by rw [List.take_length])
  rw [List.take_length] at this
  exact this.over h3
theorem rdB_cut {l : List InsD} (h : chkB l = 0) (ho : opsOk l) {j : Nat} (hj : j < (txtL l).length) : (rdB ((txtL l).take j)).2.2 = 3 := by
  obtain ⟨h1, h2, h3⟩ := chkB_ok h
  -- the instruction that is cut
  have key : ∀ n k, k + n = l.length → (txtL (l.take k)).length ≤ j → ∃ m x, m < l.length ∧ l[m]? = some x ∧ (txtL (l.take m)).length ≤ j ∧ j < (txtL (l.take m)).length + (txt x).length := by
    intro n
    induction n with
    | zero =>
      intro k hk hle
      obtain rfl : k = l.length := by omega
      rw [List.take_length] at hle; omega
    | succ n ih =>
      intro k hk hle
      have hlt : k < l.length := by omega
      have hx : l[k]? = some l[k] := List.getElem?_eq_getElem hlt
      by_cases hc : j < (txtL (l.take k)).length + (txt l[k]).length
      · exact ⟨k, _, hlt, hx, hle, hc⟩
      · exact ih (k + 1) (by omega) (by rw [txtL_take hx, List.length_append]; omega)
  obtain ⟨m, x, hm, hx, hle, hlt⟩ := key l.length 0 (by omega) (Nat.zero_le _)
  have hsp := txtL_split hx
  have hs : (txtL l).take j = txtL (l.take m) ++ (txt x).take (j - (txtL (l.take m)).length) := by
    rw [hsp, List.take_append, List.take_of_length_le hle, List.take_append_of_le_length (by omega)]
  have hI := rd_first h ho m (Nat.le_of_lt hm) hs
  obtain ⟨c1, c2⟩ := h2 m _ hm hx
  have hov : (stB l m).over = false := by
    cases hov : (stB l m).over with
    | false => rfl
    | true => rw [over_no hov] at c2; cases c2
  have hmem := ho _ (List.mem_of_getElem? hx)
  have hc := rdI_cut c1 hmem.1 hmem.2 (j := j - (txtL (l.take m)).length) (by omega)
  rcases hr : rdI ((txt x).take (j - (txtL (l.take m)).length)) with ⟨y, n, e⟩
  rw [hr] at hc
  have hc : e = 3 := hc
  subst hc
  rw [hI.bad (x := y) (n := n) (e := 3) hov (by rw [hs, List.drop_left]; exact hr) (by decide)]
theorem txtL_pos {l : List InsD} (h : l ≠ []) : 0 < (txtL l).length := by
  cases l with
  | nil => exact absurd rfl h
  | cons x r => unfold txtL; rw [List.flatMap_cons, List.length_append]; unfold txt; simp; omega
theorem chkB_ne {l : List InsD} (h : chkB l = 0) : l ≠ [] := by
  rintro rfl
  exact absurd h (by decide)
end Go.Proofs.YtcpniokopahakaaDoor.Nest
/- Bodies as words: what is well nested, blocks as pieces, how deep and how many. -/
set_option maxRecDepth 100000
set_option maxHeartbeats 4000000
set_option linter.unusedVariables false
set_option linter.unusedSimpArgs false
namespace Go.Proofs.YtcpniokopahakaaDoor.Fold
open Go.Proofs.YtcpniokopahakaaDoor.Leb Go.Proofs.YtcpniokopahakaaDoor.Txt Go.Proofs.YtcpniokopahakaaDoor.Ins Go.Proofs.YtcpniokopahakaaDoor.Nest
def Opn (x : InsD) : Prop := x.op = 2 ∨ x.op = 3 ∨ x.op = 4
instance (x : InsD) : Decidable (Opn x) := by unfold Opn; infer_instance
/-- One instruction on the stack of what is open (innermost first). -/
def stp (x : InsD) : List Int → Option (List Int)
  | [] => none
  | z :: r => if chk x ≠ 0 then none else if Opn x then (if 12 ≤ r.length then none else some (x.op :: z :: r)) else if x.op = 5 then (if z = 4 then some (5 :: r) else none) else if x.op = 11 then some r else some (z :: r)
theorem stp_cons (x : InsD) (z : Int) (r : List Int) : stp x (z :: r) = if chk x ≠ 0 then none else if Opn x then (if 12 ≤ r.length then none else some (x.op :: z :: r)) else if x.op = 5 then (if z = 4 then some (5 :: r) else none) else if x.op = 11 then some r else some (z :: r) := rfl
def run : List InsD → List Int → Option (List Int)
  | [], s => some s
  | x :: l, s => (stp x s).bind (run l)
theorem run_app : ∀ (a b : List InsD) (s : List Int), run (a ++ b) s = (run a s).bind (run b)
  | [], _, _ => rfl
  | x :: a, b, s => by
    rw [List.cons_append, run, run]
    cases stp x s with
    | none => rfl
    | some t => exact run_app a b t
theorem goB_run : ∀ (l : List InsD) (k : Nat) (st : NS), NOk st → (st.over = true ↔ st.op.length = 0) → (goB l k st = 0 ↔ run l st.last.reverse = some [])
  | [], k, st, hN, ho => by
    rw [goB, run]
    have hl := hN.len
    by_cases h : st.over = true
    · rw [if_pos h]
      have : st.last = [] := List.eq_nil_of_length_eq_zero (by rw [hl]; exact ho.1 h)
      rw [this]; simp
    · rw [if_neg h]
      refine ⟨fun h2 => (by cases h2), fun h2 => absurd (ho.2 ?_) h⟩
      have h2 : st.last.reverse = [] := Option.some.inj h2
      have := congrArg List.length h2
      simp at this
      rw [← hl, this]; rfl
  | x :: l, k, st, hN, ho => by
    have hl := hN.len
    rw [goB, run]
    by_cases hov : st.over = true
    · have hla : st.last = [] := List.eq_nil_of_length_eq_zero (by rw [hl]; exact ho.1 hov)
      rw [hla]
      show _ ↔ (none : Option (List Int)) = some []
      refine ⟨fun h => ?_, fun h => by cases h⟩
      exfalso
      by_cases hc : chk x ≠ 0
      · rw [if_pos hc] at h; exact hc h
      · rw [if_neg hc, over_no hov, if_pos (by decide)] at h; cases h
    · have hof : st.over = false := by simpa using hov
      have hp := hN.pos hof
      have hN2 := nextS_ok hN x.op k
      obtain ⟨op, last, over⟩ := st
      simp only at hl hp hof ho hN hN2
      subst hof
      rcases List.eq_nil_or_concat last with rfl | ⟨p, z, rfl⟩
      · simp at hl; omega
      rw [List.concat_eq_append] at *
      have hpl : op.length - 1 = p.length := by simp at hl; omega
      have hgz : (p ++ [z]).getD (op.length - 1) 0 = z := by rw [hpl, List.getD_eq_getElem?_getD]; simp
      simp only [List.reverse_append, List.reverse_cons, List.reverse_nil, List.nil_append, List.cons_append]
      rw [stp_cons]
      by_cases hc : chk x ≠ 0
      · rw [if_pos hc, if_pos hc]
        exact ⟨fun h => absurd h hc, fun h => by cases h⟩
      · rw [if_neg hc, if_neg hc]
        have e : nextS ⟨op, p ++ [z], false⟩ x.op k = if x.op = 2 ∨ x.op = 3 ∨ x.op = 4 then if 12 ≤ op.length - 1 then (⟨op, p ++ [z], false⟩, -2, 7) else (⟨op ++ [(k : Int)], p ++ [z] ++ [x.op], false⟩, -2, 0)
            else if x.op = 5 then if (p ++ [z]).getD (op.length - 1) 0 ≠ 4 then (⟨op, p ++ [z], false⟩, -2, 4) else (⟨op, (p ++ [z]).set (op.length - 1) 5, false⟩, op.getD (op.length - 1) 0, 0)
            else if x.op = 11 then (⟨op.take (op.length - 1), (p ++ [z]).take (op.length - 1), decide (op.length - 1 = 0)⟩, op.getD (op.length - 1) 0, 0) else (⟨op, p ++ [z], false⟩, -2, 0) := rfl
        rw [e] at hN2 ⊢
        clear e
        by_cases h2 : x.op = 2 ∨ x.op = 3 ∨ x.op = 4
        · rw [if_pos h2] at hN2 ⊢
          rw [if_pos (show Opn x from h2), List.length_reverse, ← hpl]
          by_cases h12 : 12 ≤ op.length - 1
          · rw [if_pos h12, if_pos h12, if_pos (show (7 : Int) ≠ 0 by decide)]
            exact ⟨fun h => (by cases h), fun h => by cases h⟩
          · rw [if_neg h12] at hN2 ⊢
            rw [if_neg h12, if_neg (show ¬ (0 : Int) ≠ 0 by decide)]
            have := goB_run l (k + 1) _ hN2 ⟨fun h => (by cases h), fun h => by simp at h⟩
            simp only [List.reverse_append, List.reverse_cons, List.reverse_nil, List.nil_append, List.cons_append] at this
            exact this
        · rw [if_neg h2] at hN2 ⊢
          rw [if_neg (show ¬ Opn x from h2)]
          by_cases h5 : x.op = 5
          · rw [if_pos h5] at hN2 ⊢
            rw [if_pos h5]
            rw [hgz] at hN2 ⊢
            by_cases h4 : z = 4
            · rw [if_neg (show ¬ z ≠ 4 by simpa using h4)] at hN2 ⊢
              rw [if_pos h4, if_neg (show ¬ (0 : Int) ≠ 0 by decide)]
              have := goB_run l (k + 1) _ hN2 ⟨fun h => (by cases h), fun h => by simp only at h; omega⟩
              have e : (p ++ [z]).set (op.length - 1) 5 = p ++ [5] := by rw [hpl]; simp
              simp only [e, List.reverse_append, List.reverse_cons, List.reverse_nil, List.nil_append, List.cons_append] at this
              simp only [e]
              exact this
            · rw [if_pos (show z ≠ 4 from h4), if_neg h4, if_pos (show (4 : Int) ≠ 0 by decide)]
              exact ⟨fun h => (by cases h), fun h => by cases h⟩
          · rw [if_neg h5] at hN2 ⊢
            rw [if_neg h5]
            by_cases h11 : x.op = 11
            · rw [if_pos h11] at hN2 ⊢
              rw [if_pos h11, if_neg (show ¬ (0 : Int) ≠ 0 by decide)]
              have e : (p ++ [z]).take (op.length - 1) = p := by rw [hpl]; simp
              have := goB_run l (k + 1) _ hN2 ⟨fun h => by simp at h ⊢; omega, fun h => by simp at h ⊢; omega⟩
              simp only [e] at this ⊢
              exact this
            · rw [if_neg h11] at hN2 ⊢
              rw [if_neg h11, if_neg (show ¬ (0 : Int) ≠ 0 by decide)]
              have := goB_run l (k + 1) _ hN2 ⟨fun h => (by cases h), fun h => by simp only at h; omega⟩
              simp only [List.reverse_append, List.reverse_cons, List.reverse_nil, List.nil_append, List.cons_append] at this
              exact this
theorem chk_iff {l : List InsD} : chkB l = 0 ↔ l.length ≤ 200 ∧ run l [2] = some [] := by
  unfold chkB
  by_cases h : 200 < l.length
  · rw [if_pos h]; exact ⟨fun h2 => (by cases h2), fun h2 => by omega⟩
  · rw [if_neg h, goB_run l 0 ns0 ns0_ok ⟨fun h => (by cases h), fun h => by cases h⟩]
    exact ⟨fun h2 => ⟨by omega, h2⟩, fun h2 => h2.2⟩
/-- Nothing is opened or shut. -/
structure FlatI (x : InsD) : Prop where
  chk : chk x = 0
  no : ¬ Opn x ∧ x.op ≠ 5 ∧ x.op ≠ 11
theorem stp_flat {x : InsD} (h : FlatI x) {s : List Int} (hs : s ≠ []) : stp x s = some s := by
  cases s with
  | nil => exact absurd rfl hs
  | cons z r => rw [stp_cons, if_neg (by rw [h.chk]; decide), if_neg h.no.1, if_neg h.no.2.1, if_neg h.no.2.2]
theorem run_flat {x : InsD} (h : FlatI x) {l : List InsD} {s : List Int} (hs : s ≠ []) : run (x :: l) s = run l s := by
  rw [run, stp_flat h hs]; rfl
theorem stp_some {x : InsD} {s t : List Int} (h : stp x s = some t) : chk x = 0 ∧ ∃ z r, s = z :: r ∧ ((Opn x ∧ r.length < 12 ∧ t = x.op :: z :: r) ∨ (x.op = 5 ∧ z = 4 ∧ t = 5 :: r) ∨ (x.op = 11 ∧ t = r) ∨ (FlatI x ∧ t = z :: r)) := by
  cases s with
  | nil => cases h
  | cons z r =>
    rw [stp_cons] at h
    by_cases hc : chk x ≠ 0
    · rw [if_pos hc] at h; cases h
    · rw [if_neg hc] at h
      have hc := Decidable.of_not_not hc
      refine ⟨hc, z, r, rfl, ?_⟩
      by_cases ho : Opn x
      · rw [if_pos ho] at h
        by_cases h12 : 12 ≤ r.length
        · rw [if_pos h12] at h; cases h
        · rw [if_neg h12] at h; exact .inl ⟨ho, by omega, (Option.some.inj h).symm⟩
      · rw [if_neg ho] at h
        by_cases h5 : x.op = 5
        · rw [if_pos h5] at h
          by_cases h4 : z = 4
          · rw [if_pos h4] at h; exact .inr (.inl ⟨h5, h4, (Option.some.inj h).symm⟩)
          · rw [if_neg h4] at h; cases h
        · rw [if_neg h5] at h
          by_cases h11 : x.op = 11
          · rw [if_pos h11] at h; exact .inr (.inr (.inl ⟨h11, (Option.some.inj h).symm⟩))
          · rw [if_neg h11] at h; exact .inr (.inr (.inr ⟨⟨hc, ho, h5, h11⟩, (Option.some.inj h).symm⟩))
theorem run_cons {x : InsD} {l : List InsD} {s w : List Int} (h : run (x :: l) s = some w) : ∃ t, stp x s = some t ∧ run l t = some w := by
  rw [run] at h; exact Option.bind_eq_some_iff.1 h
/-! ### pieces within one block -/
/-- The same, above a floor. -/
def lst (x : InsD) (u : List Int) : Option (List Int) :=
  if Opn x then some (x.op :: u) else if x.op = 5 then (match u with | [] => none | q :: r => if q = 4 then some (5 :: r) else none) else if x.op = 11 then (match u with | [] => none | _ :: r => some r) else some u
def lrun : List InsD → List Int → Option (List Int)
  | [], u => some u
  | x :: l, u => (lst x u).bind (lrun l)
def dd (x : InsD) : Int := if Opn x then 1 else if x.op = 11 then -1 else 0
def net : List InsD → Int
  | [] => 0
  | x :: l => dd x + net l
theorem lst_dd {x : InsD} {u v : List Int} (h : lst x u = some v) : (v.length : Int) = u.length + dd x := by
  unfold lst at h
  unfold dd
  by_cases ho : Opn x
  · rw [if_pos ho] at h ⊢; rw [← Option.some.inj h]; simp
  · rw [if_neg ho] at h ⊢
    by_cases h5 : x.op = 5
    · rw [if_pos h5] at h
      rw [if_neg (by omega)]
      cases u with
      | nil => cases h
      | cons q r =>
        simp only at h
        split at h
        · rw [← Option.some.inj h]; simp
        · cases h
    · rw [if_neg h5] at h
      by_cases h11 : x.op = 11
      · rw [if_pos h11] at h ⊢
        cases u with
        | nil => cases h
        | cons q r =>
          have h : some r = some v := h
          rw [← Option.some.inj h]; simp
          omega
      · rw [if_neg h11] at h ⊢; rw [← Option.some.inj h]; simp
theorem lrun_cons {x : InsD} {l : List InsD} {s w : List Int} (h : lrun (x :: l) s = some w) : ∃ t, lst x s = some t ∧ lrun l t = some w := by
  rw [lrun] at h; exact Option.bind_eq_some_iff.1 h
theorem lrun_net : ∀ (l : List InsD) (u v : List Int), lrun l u = some v → (v.length : Int) = u.length + net l
  | [], u, v, h => by rw [← Option.some.inj h]; simp [net]
  | x :: l, u, v, h => by
    obtain ⟨t, h1, h2⟩ := lrun_cons h
    have := lrun_net l t v h2
    have := lst_dd h1
    rw [net]; omega
/-- What a piece does above one floor it does above another. -/
theorem lst_run {x : InsD} {u v : List Int} {a : Int} {t st : List Int} (h : lst x u = some v) (hr : stp x (u ++ a :: t) = some st) (b : Int) : st = v ++ a :: t ∧ stp x (u ++ b :: t) = some (v ++ b :: t) := by
  obtain ⟨hc, z, r, e, hw⟩ := stp_some hr
  unfold lst at h
  have hne : ∀ b : Int, u ++ b :: t ≠ [] := fun b => by simp
  rcases hw with ⟨ho, h12, rfl⟩ | ⟨h5, h4, rfl⟩ | ⟨h11, rfl⟩ | ⟨hf, rfl⟩
  · rw [if_pos ho] at h
    obtain rfl := Option.some.inj h
    refine ⟨by rw [← e]; rfl, ?_⟩
    have hl : (u ++ b :: t).length = r.length + 1 := by
      have := congrArg List.length e
      simp at this ⊢; omega
    cases hu : u ++ b :: t with
    | nil => exact absurd hu (hne b)
    | cons z' r' =>
      rw [hu] at hl
      rw [stp_cons, if_neg (by rw [hc]; decide), if_pos ho, if_neg (by simp at hl; omega), List.cons_append, hu]
  · rw [if_neg (by unfold Opn; omega), if_pos h5] at h
    cases u with
    | nil => cases h
    | cons q u' =>
      simp only at h
      rw [List.cons_append] at e
      injection e with e1 e2
      subst e1
      rw [if_pos h4] at h
      obtain rfl := Option.some.inj h
      refine ⟨by rw [← e2]; rfl, ?_⟩
      rw [List.cons_append]
      rw [stp_cons, if_neg (by rw [hc]; decide), if_neg (by unfold Opn; omega), if_pos h5, if_pos h4]; rfl
  · rw [if_neg (by unfold Opn; omega), if_neg (by omega), if_pos h11] at h
    cases u with
    | nil => cases h
    | cons q u' =>
      obtain rfl := Option.some.inj h
      rw [List.cons_append] at e
      injection e with e1 e2
      refine ⟨e2.symm, ?_⟩
      rw [List.cons_append]
      rw [stp_cons, if_neg (by rw [hc]; decide), if_neg (by unfold Opn; omega), if_neg (by omega), if_pos h11]
  · rw [if_neg hf.no.1, if_neg hf.no.2.1, if_neg hf.no.2.2] at h
    obtain rfl := Option.some.inj h
    exact ⟨e.symm, stp_flat hf (hne b)⟩
theorem lrun_run : ∀ (A : List InsD) (u v : List Int) (a : Int) (t st : List Int), lrun A u = some v → run A (u ++ a :: t) = some st → ∀ b : Int, st = v ++ a :: t ∧ run A (u ++ b :: t) = some (v ++ b :: t)
  | [], u, v, a, t, st, h, hr, b => by
    obtain rfl := Option.some.inj h
    exact ⟨(Option.some.inj hr).symm, rfl⟩
  | x :: A, u, v, a, t, st, h, hr, b => by
    obtain ⟨u1, h1, h2⟩ := lrun_cons h
    obtain ⟨t1, r1, r2⟩ := run_cons hr
    obtain ⟨e1, e2⟩ := lst_run h1 r1 b
    subst e1
    obtain ⟨f1, f2⟩ := lrun_run A u1 v a t st h2 r2 b
    exact ⟨f1, by rw [run, e2]; exact f2⟩
/-- The first instruction that ends, or halves, the block. -/
theorem piece : ∀ (l : List InsD) (u : List Int) (q : Int) (t : List Int), run l (u ++ q :: t) = some [] → ∃ A y R, l = A ++ y :: R ∧ lrun A u = some [] ∧ (y.op = 11 ∨ (y.op = 5 ∧ q = 4)) ∧ chk y = 0
  | [], u, q, t, h => by
    have := Option.some.inj h
    simp at this
  | x :: l, u, q, t, h => by
    obtain ⟨t1, r1, r2⟩ := run_cons h
    obtain ⟨hc, z, r, e, hw⟩ := stp_some r1
    cases u with
    | nil =>
      injection e with e1 e2
      subst e1; subst e2
      rcases hw with ⟨ho, h12, rfl⟩ | ⟨h5, h4, rfl⟩ | ⟨h11, rfl⟩ | ⟨hf, rfl⟩
      · obtain ⟨A, y, R, e1, e2, e3⟩ := piece l [x.op] q t r2
        exact ⟨x :: A, y, R, by rw [e1]; rfl, by rw [lrun, lst, if_pos ho]; exact e2, e3⟩
      · exact ⟨[], x, l, rfl, rfl, .inr ⟨h5, h4⟩, hc⟩
      · exact ⟨[], x, l, rfl, rfl, .inl h11, hc⟩
      · obtain ⟨A, y, R, e1, e2, e3⟩ := piece l [] q t r2
        exact ⟨x :: A, y, R, by rw [e1]; rfl, by rw [lrun, lst, if_neg hf.no.1, if_neg hf.no.2.1, if_neg hf.no.2.2]; exact e2, e3⟩
    | cons a u' =>
      rw [List.cons_append] at e
      injection e with e1 e2
      subst e1; subst e2
      rcases hw with ⟨ho, h12, rfl⟩ | ⟨h5, h4, rfl⟩ | ⟨h11, rfl⟩ | ⟨hf, rfl⟩
      · obtain ⟨A, y, R, e1, e2, e3⟩ := piece l (x.op :: a :: u') q t r2
        exact ⟨x :: A, y, R, by rw [e1]; rfl, by rw [lrun, lst, if_pos ho]; exact e2, e3⟩
      · obtain ⟨A, y, R, e1, e2, e3⟩ := piece l (5 :: u') q t r2
        refine ⟨x :: A, y, R, by rw [e1]; rfl, ?_, e3⟩
        rw [lrun, lst, if_neg (by unfold Opn; omega), if_pos h5]
        show ((if a = 4 then some (5 :: u') else none).bind (lrun A)) = _
        rw [if_pos h4]; exact e2
      · obtain ⟨A, y, R, e1, e2, e3⟩ := piece l u' q t r2
        refine ⟨x :: A, y, R, by rw [e1]; rfl, ?_, e3⟩
        rw [lrun, lst, if_neg (by unfold Opn; omega), if_neg (by omega), if_pos h11]; exact e2
      · obtain ⟨A, y, R, e1, e2, e3⟩ := piece l (a :: u') q t r2
        exact ⟨x :: A, y, R, by rw [e1]; rfl, by rw [lrun, lst, if_neg hf.no.1, if_neg hf.no.2.1, if_neg hf.no.2.2]; exact e2, e3⟩
/-! ### span and other -/
/-- How many instructions belong to the first one. -/
def spn : Int → List InsD → Nat
  | _, [] => 0
  | d, x :: r => if d + dd x = 0 then 1 else 1 + spn (d + dd x) r
/-- Where the else stands, or the end. -/
def oth : Int → List InsD → Nat
  | _, [] => 0
  | d, x :: r => if (x.op = 5 ∧ d = 1) ∨ (x.op = 11 ∧ d = 1) then 0 else 1 + oth (d + dd x) r
theorem spn_piece : ∀ (A : List InsD) (u v : List Int) (R : List InsD), lrun A u = some v → spn (u.length + 1) (A ++ R) = A.length + spn (v.length + 1) R
  | [], u, v, R, h => by obtain rfl := Option.some.inj h; simp
  | x :: A, u, v, R, h => by
    obtain ⟨t, h1, h2⟩ := lrun_cons h
    have e := lst_dd h1
    rw [List.cons_append, spn, if_neg (by omega), show (u.length : Int) + 1 + dd x = t.length + 1 by omega, spn_piece A t v R h2, List.length_cons]
    omega
theorem oth_piece : ∀ (A : List InsD) (u v : List Int) (R : List InsD), lrun A u = some v → oth (u.length + 1) (A ++ R) = A.length + oth (v.length + 1) R
  | [], u, v, R, h => by obtain rfl := Option.some.inj h; simp
  | x :: A, u, v, R, h => by
    obtain ⟨t, h1, h2⟩ := lrun_cons h
    have e := lst_dd h1
    have hn : ¬ ((x.op = 5 ∧ (u.length : Int) + 1 = 1) ∨ (x.op = 11 ∧ (u.length : Int) + 1 = 1)) := by
      intro hh
      have hu : u = [] := by
        rcases hh with hh | hh
        · exact List.eq_nil_of_length_eq_zero (by omega)
        · exact List.eq_nil_of_length_eq_zero (by omega)
      subst hu
      unfold lst at h1
      rcases hh with hh | hh
      · rw [if_neg (by unfold Opn; omega), if_pos hh.1] at h1; cases h1
      · rw [if_neg (by unfold Opn; omega), if_neg (by omega), if_pos hh.1] at h1; cases h1
    rw [List.cons_append, oth, if_neg hn, show (u.length : Int) + 1 + dd x = t.length + 1 by omega, oth_piece A t v R h2, List.length_cons]
    omega
/-- A whole block: its opening, its body (or two), its end. -/
inductive Blk : List InsD → Prop
  | one {y e : InsD} {A : List InsD} : Opn y → lrun A [] = some [] → e.op = 11 → Blk (y :: (A ++ [e]))
  | two {y x e : InsD} {A B : List InsD} : y.op = 4 → lrun A [] = some [] → x.op = 5 → lrun B [] = some [] → e.op = 11 → Blk (y :: (A ++ x :: (B ++ [e])))
theorem net_app : ∀ a b : List InsD, net (a ++ b) = net a + net b
  | [], b => by simp [net]
  | x :: a, b => by rw [List.cons_append, net, net, net_app a b]; omega
theorem net_bal {A : List InsD} (h : lrun A [] = some []) : net A = 0 := by
  have := lrun_net A [] [] h
  simp at this; omega
/-- How a block that begins here goes on, and that span and other find it. -/
theorem block_at {y : InsD} {r : List InsD} {z : Int} {s : List Int} (ho : Opn y) (h : run (y :: r) (z :: s) = some []) :
    (∃ A e R, r = A ++ e :: R ∧ lrun A [] = some [] ∧ e.op = 11 ∧ chk e = 0 ∧ run A (y.op :: z :: s) = some (y.op :: z :: s) ∧ run R (z :: s) = some [] ∧ spn 1 r = A.length + 1 ∧ oth 1 r = A.length) ∨
    (∃ A x B e R, y.op = 4 ∧ r = A ++ x :: (B ++ e :: R) ∧ lrun A [] = some [] ∧ x.op = 5 ∧ lrun B [] = some [] ∧ e.op = 11 ∧ chk e = 0 ∧ run A (4 :: z :: s) = some (4 :: z :: s) ∧ run B (5 :: z :: s) = some (5 :: z :: s) ∧ run R (z :: s) = some [] ∧ spn 1 r = A.length + 1 + B.length + 1 ∧ oth 1 r = A.length) := by
  obtain ⟨t1, r1, r2⟩ := run_cons h
  obtain ⟨hc, z', r', e, hw⟩ := stp_some r1
  injection e with e1 e2
  subst e1; subst e2
  have ht : t1 = y.op :: z :: s := by
    rcases hw with ⟨_, _, rfl⟩ | ⟨h5, _⟩ | ⟨h11, _⟩ | ⟨hf, _⟩
    · rfl
    · unfold Opn at ho; omega
    · unfold Opn at ho; omega
    · exact absurd ho hf.no.1
  subst ht
  obtain ⟨A, x, R, e1, e2, e3, e4⟩ := piece r [] y.op (z :: s) r2
  subst e1
  have hA := r2
  rw [run_app] at hA
  obtain ⟨st, hA1, hA2⟩ := Option.bind_eq_some_iff.1 hA
  have hA3 := (lrun_run A [] [] y.op (z :: s) st e2 hA1 0).1
  simp only [List.nil_append] at hA3
  subst hA3
  have s1 := spn_piece A [] [] (x :: R) e2
  have o1 := oth_piece A [] [] (x :: R) e2
  simp only [List.length_nil, Int.natCast_zero, Int.zero_add] at s1 o1
  have hx : ¬ Opn x := by unfold Opn; omega
  rcases e3 with h11 | ⟨h5, h4⟩
  · left
    obtain ⟨t2, q1, q2⟩ := run_cons hA2
    obtain ⟨_, z2, r2', f1, f2⟩ := stp_some q1
    injection f1 with f3 f4
    subst f3; subst f4
    have ht2 : t2 = z :: s := by
      rcases f2 with ⟨h, _⟩ | ⟨h, _⟩ | ⟨_, h⟩ | ⟨h, _⟩
      · exact absurd h hx
      · omega
      · exact h
      · exact absurd h11 h.no.2.2
    subst ht2
    refine ⟨A, x, R, rfl, e2, h11, e4, hA1, q2, ?_, ?_⟩
    · rw [s1, spn, dd, if_neg hx, if_pos h11, if_pos (by decide)]
    · rw [o1, oth, if_pos (.inr ⟨h11, rfl⟩)]; rfl
  · right
    rw [h4] at hA1 hA2
    obtain ⟨t2, q1, q2⟩ := run_cons hA2
    obtain ⟨_, z2, r2', f1, f2⟩ := stp_some q1
    injection f1 with f3 f4
    subst f3; subst f4
    have ht2 : t2 = 5 :: z :: s := by
      rcases f2 with ⟨h, _⟩ | ⟨_, _, h⟩ | ⟨h, _⟩ | ⟨h, _⟩
      · exact absurd h hx
      · exact h
      · omega
      · exact absurd h5 h.no.2.1
    subst ht2
    obtain ⟨B, e, R2, g1, g2, g3, g4⟩ := piece R [] 5 (z :: s) q2
    have g3 : e.op = 11 := by
      rcases g3 with h | ⟨_, h⟩
      · exact h
      · cases h
    subst g1
    have hB := q2
    rw [run_app] at hB
    obtain ⟨st2, hB1, hB2⟩ := Option.bind_eq_some_iff.1 hB
    have hB3 := (lrun_run B [] [] 5 (z :: s) st2 g2 hB1 0).1
    simp only [List.nil_append] at hB3
    subst hB3
    have s2 := spn_piece B [] [] (e :: R2) g2
    simp only [List.length_nil, Int.natCast_zero, Int.zero_add] at s2
    have he : ¬ Opn e := by unfold Opn; omega
    obtain ⟨t3, k1, k2⟩ := run_cons hB2
    obtain ⟨_, z3, r3', f5, f6⟩ := stp_some k1
    injection f5 with f7 f8
    subst f7; subst f8
    have ht3 : t3 = z :: s := by
      rcases f6 with ⟨h, _⟩ | ⟨h, _⟩ | ⟨_, h⟩ | ⟨h, _⟩
      · exact absurd h he
      · omega
      · exact h
      · exact absurd g3 h.no.2.2
    subst ht3
    refine ⟨A, x, B, e, R2, h4, rfl, e2, h5, g2, g3, g4, hA1, hB1, k2, ?_, ?_⟩
    · rw [s1, spn, dd, if_neg hx, if_neg (show ¬ x.op = 11 by omega), if_neg (by decide), show (1 : Int) + 0 = 1 from rfl, s2, spn, dd, if_neg he, if_pos g3, if_pos (by decide)]
      omega
    · rw [o1, oth, if_pos (.inl ⟨h5, rfl⟩)]; rfl
end Go.Proofs.YtcpniokopahakaaDoor.Fold
