import Derived.Tactics
import Derived.Below
import Derived.ScopeJumps
namespace Go.Proofs.YtcpniokopahakaaDoor.Eng
open Go

/-! ## Frames as lists; every value is brought to its form before it is stored. -/
def gt : List Value → Nat → Value
  | [], _ => undef
  | v :: _, 0 => v
  | _ :: r, n + 1 => gt r n
/- The recursions are written out by their recursors, so that the kernel and the elaborator come to the same forms. -/
def gtK (l : List Value) : Nat → (Value → Prop) → Prop :=
  List.rec (motive := fun _ => Nat → (Value → Prop) → Prop) (fun _ k => k undef) (fun v _ ih n k => Nat.rec (motive := fun _ => Prop) (k v) (fun m _ => ih m k) n) l
theorem gtK_nil (n : Nat) (k : Value → Prop) : gtK [] n k = k undef := rfl
theorem gtK_zero (v : Value) (r : List Value) (k : Value → Prop) : gtK (v :: r) 0 k = k v := rfl
theorem gtK_succ (v : Value) (r : List Value) (n : Nat) (k : Value → Prop) : gtK (v :: r) (n + 1) k = gtK r n k := rfl
def stK (l : List Value) : Nat → Value → (List Value → Prop) → Prop :=
  List.rec (motive := fun _ => Nat → Value → (List Value → Prop) → Prop) (fun _ _ k => k []) (fun x r ih n v k => Nat.rec (motive := fun _ => Prop) (k (v :: r)) (fun m _ => ih m v (fun r' => k (x :: r'))) n) l
theorem stK_nil (n : Nat) (v : Value) (k : List Value → Prop) : stK [] n v k = k [] := rfl
theorem stK_zero (x : Value) (r : List Value) (v : Value) (k : List Value → Prop) : stK (x :: r) 0 v k = k (v :: r) := rfl
theorem stK_succ (x : Value) (r : List Value) (n : Nat) (v : Value) (k : List Value → Prop) : stK (x :: r) (n + 1) v k = stK r n v (fun r' => k (x :: r')) := rfl
def ev (ρ : List Value) : Operand → Value
  | .tmp t => gt ρ t
  | .const v => v
  | .global g => .pointer (some ⟨g, 0, none⟩)
  | .func f => .func (.func f) #[] #[]
def evK (ρ : List Value) : Operand → (Value → Prop) → Prop
  | .tmp t, k => gtK ρ t k
  | .const v, k => k v
  | .global g, k => k (.pointer (some ⟨g, 0, none⟩))
  | .func f, k => k (.func (.func f) #[] #[])
def evsK (ρ : List Value) (l : List Operand) : (List Value → Prop) → Prop :=
  List.rec (motive := fun _ => (List Value → Prop) → Prop) (fun k => k []) (fun x _ ih k => evK ρ x fun v => ih fun vs => k (v :: vs)) l
theorem evsK_cons (ρ : List Value) (x : Operand) (r : List Operand) (k : List Value → Prop) : evsK ρ (x :: r) k = evK ρ x fun v => evsK ρ r fun vs => k (v :: vs) := rfl
def putK (ρ : List Value) (d : Option Nat) (v : Value) (k : List Value → Prop) : Prop :=
  match d with
  | none => k ρ
  | some d => stK ρ d v k

theorem gtK_eq (ρ : List Value) (n : Nat) (k : Value → Prop) : gtK ρ n k = k (gt ρ n) := by
  induction ρ generalizing n with
  | nil => rfl
  | cons v r ih => cases n with
    | zero => rfl
    | succ n => exact ih n
theorem stK_eq (ρ : List Value) (n : Nat) (v : Value) (k : List Value → Prop) : stK ρ n v k = k (ρ.set n v) := by
  induction ρ generalizing n k with
  | nil => simp [stK_nil]
  | cons x r ih => cases n with
    | zero => rfl
    | succ n => simp [stK_succ, ih]
theorem evK_eq (ρ : List Value) (x : Operand) (k : Value → Prop) : evK ρ x k = k (ev ρ x) := by
  cases x <;> simp [evK, ev, gtK_eq]
theorem evsK_eq (ρ : List Value) (xs : List Operand) (k : List Value → Prop) : evsK ρ xs k = k (xs.map (ev ρ)) := by
  induction xs generalizing k with
  | nil => rfl
  | cons x r ih => simp [evsK_cons, evK_eq, ih]
def put (ρ : List Value) (d : Option Nat) (v : Value) : List Value :=
  match d with
  | none => ρ
  | some d => ρ.set d v
theorem putK_eq (ρ : List Value) (d : Option Nat) (v : Value) (k : List Value → Prop) : putK ρ d v k = k (put ρ d v) := by
  cases d <;> simp [putK, put, stK_eq]
theorem gt_eq (ρ : List Value) (n : Nat) : gt ρ n = ρ.toArray.getD n undef := by
  induction ρ generalizing n with
  | nil => simp [gt]
  | cons v r ih => cases n with
    | zero => simp [gt]
    | succ n => simp [gt, ih]
theorem ev_eq (ρ : List Value) : (⟨ρ.toArray, []⟩ : Act).eval = ev ρ := by
  funext x; cases x <;> simp [Act.eval, ev, gt_eq]
theorem put_eq (ρ : List Value) (d : Option Nat) (v : Value) : (⟨ρ.toArray, []⟩ : Act).put d v = ⟨(put ρ d v).toArray, []⟩ := by
  cases d <;> simp [Act.put, put]

/-! ## Bits -/
def vAnd (k : IntKind) (x y : Int) : Int := k.wrap (BitVec.ofInt k.bits x &&& BitVec.ofInt k.bits y).toNat
def vOr (k : IntKind) (x y : Int) : Int := k.wrap (BitVec.ofInt k.bits x ||| BitVec.ofInt k.bits y).toNat
def vXor (k : IntKind) (x y : Int) : Int := k.wrap (BitVec.ofInt k.bits x ^^^ BitVec.ofInt k.bits y).toNat
def vAndNot (k : IntKind) (x y : Int) : Int := k.wrap (BitVec.ofInt k.bits x &&& ~~~(BitVec.ofInt k.bits y)).toNat
def vShl (k : IntKind) (x y : Int) : Int := k.wrap (x * 2 ^ min y.toNat k.bits)
def vShr (k : IntKind) (x y : Int) : Int := x.fdiv (2 ^ min y.toNat k.bits)
def vWrap (k : IntKind) (x : Int) : Int := k.wrap x
def vQuo (k : IntKind) (x y : Int) : Int := k.wrap (x.tdiv y)
def vRem (x y : Int) : Int := x.tmod y
/- The tests are chosen, so that nobody, the kernel neither, looks into them. -/
theorem vLt_ex : ∃ f : Int → Int → Bool, ∀ x y, f x y = decide (x < y) := ⟨_, fun _ _ => rfl⟩
theorem vLe_ex : ∃ f : Int → Int → Bool, ∀ x y, f x y = decide (x ≤ y) := ⟨_, fun _ _ => rfl⟩
theorem vEq_ex : ∃ f : Int → Int → Bool, ∀ x y, f x y = (x == y) := ⟨_, fun _ _ => rfl⟩
theorem vNe_ex : ∃ f : Int → Int → Bool, ∀ x y, f x y = (x != y) := ⟨_, fun _ _ => rfl⟩
noncomputable def vLt : Int → Int → Bool := Classical.choose vLt_ex
noncomputable def vLe : Int → Int → Bool := Classical.choose vLe_ex
noncomputable def vEq : Int → Int → Bool := Classical.choose vEq_ex
noncomputable def vNe : Int → Int → Bool := Classical.choose vNe_ex
theorem vLt_def (x y : Int) : vLt x y = decide (x < y) := Classical.choose_spec vLt_ex x y
theorem vLe_def (x y : Int) : vLe x y = decide (x ≤ y) := Classical.choose_spec vLe_ex x y
theorem vEq_def (x y : Int) : vEq x y = (x == y) := Classical.choose_spec vEq_ex x y
theorem vNe_def (x y : Int) : vNe x y = (x != y) := Classical.choose_spec vNe_ex x y
attribute [irreducible] vAnd vOr vXor vAndNot vShl vShr vWrap vQuo vRem vLt vLe vEq vNe
def kEq : IntKind → IntKind → Bool
  | .i8, .i8 | .i16, .i16 | .i32, .i32 | .i64, .i64 | .u8, .u8 | .u16, .u16 | .u32, .u32 | .u64, .u64 => true
  | _, _ => false
theorem kEq_eq {k k' : IntKind} (h : kEq k k' = true) : k = k' := by cases k <;> cases k' <;> first | rfl | cases h

/-! ## What is asked at an operation that simp could not run -/
/-- An operation that the plain rules do not run: it yields v and leaves w'. -/
inductive RunP (P : Program) (m : Sem Value) (w : World) (K : Value → World → Prop) : Prop
  | mk (v : Value) (w' : World) (h : m.run P w = .ok v w') (k : K v w')
inductive DoP (P : Program) (m : Sem Unit) (w : World) (K : World → Prop) : Prop
  | mk (w' : World) (h : m.run P w = .ok () w') (k : K w')
/-- A call of function f is entered, and hands back a value. -/
structure Fc (P : Program) (f : FuncId) (args : Array Value) (w : World) (R : Value → World → Prop) : Prop where
  entered : (callFunc f args).run P w = .ok (.enter f args) w
  calls : Calls P f args w fun e w' => ∃ v, e = .returned v ∧ R v w'
inductive CallP (P : Program) (f : FuncId) (args : Array Value) (w : World) (K : Value → World → Prop) : Prop
  | mk (h : Fc P f args w K)
inductive MethP (P : Program) (recv : Value) (name : String) (args : Array Value) (w : World) (K : Value → World → Prop) : Prop
  | mk (f : FuncId) (r : Value) (w1 : World) (t : TypeId) (v : Value) (hr : recv = .iface t v)
      (hm : (method (P.types.size + Made.depth) t v name).run P w = .ok (f, r) w1) (h : Fc P f (#[r] ++ args) w1 K)
def boolK (b : Bool) (k : Bool → Prop) : Prop := match b with
  | true => k true
  | false => k false
theorem boolK_eq (b : Bool) (k : Bool → Prop) : boolK b k = k b := by cases b <;> rfl
theorem br {b : Bool} {X Y : Prop} (t : b = true → X) (f : b = false → Y) : boolK.match_1 (fun _ => Prop) b (fun _ => X) (fun _ => Y) := by
  cases b
  · exact f rfl
  · exact t rfl
theorem br_t {b : Bool} {X Y : Prop} (h : b = true) (t : X) : boolK.match_1 (fun _ => Prop) b (fun _ => X) (fun _ => Y) := by subst h; exact t
theorem br_f {b : Bool} {X Y : Prop} (h : b = false) (f : Y) : boolK.match_1 (fun _ => Prop) b (fun _ => X) (fun _ => Y) := by subst h; exact f
inductive DivP (b : Int) (K : Prop) : Prop
  | mk (h : b ≠ 0) (k : K)
inductive ShiftP (b : Int) (K : Prop) : Prop
  | mk (h : 0 ≤ b) (k : K)

/-- A number that may be brought to another form before it is stored. -/
inductive EqP (e : Int) (K : Int → Prop) : Prop
  | mk (m : Int) (h : e = m) (k : K m)
theorem EqP.keep {e : Int} {K : Int → Prop} (k : K e) : EqP e K := ⟨e, rfl, k⟩
theorem EqP.imp {e : Int} {K K' : Int → Prop} (h : EqP e K) (hk : ∀ m, K m → K' m) : EqP e K' := by obtain ⟨m, e, k⟩ := h; exact ⟨m, e, hk _ k⟩

def intBin (op : BinOp) (k : IntKind) (a b : Int) (K : Value → Prop) : Prop :=
  match op with
  | .add => EqP (vWrap k (a + b)) fun n => K (.int k n)
  | .sub => EqP (vWrap k (a - b)) fun n => K (.int k n)
  | .mul => EqP (vWrap k (a * b)) fun n => K (.int k n)
  | .quo => DivP b (EqP (vQuo k a b) fun n => K (.int k n))
  | .rem => DivP b (EqP (vRem a b) fun n => K (.int k n))
  | .and => EqP (vAnd k a b) fun n => K (.int k n)
  | .or => EqP (vOr k a b) fun n => K (.int k n)
  | .xor => EqP (vXor k a b) fun n => K (.int k n)
  | .andNot => EqP (vAndNot k a b) fun n => K (.int k n)
  | .eql => K (.bool (vEq a b))
  | .neq => K (.bool (vNe a b))
  | .lss => K (.bool (vLt a b))
  | .leq => K (.bool (vLe a b))
  | .gtr => K (.bool (vLt b a))
  | .geq => K (.bool (vLe b a))
  | _ => False

def binK (P : Program) (op : BinOp) (t : TypeId) (x y : Operand) (a b : Value) (w : World) (K : Value → World → Prop) : Prop :=
  match a with
  | .int k a => match b with
    | .int k' b => match op with
      | .shl => ShiftP b (EqP (vShl k a b) fun n => K (.int k n) w)
      | .shr => ShiftP b (EqP (vShr k a b) fun n => K (.int k n) w)
      | op => match kEq k k' with
        | true => intBin op k a b fun v => K v w
        | false => False
    | b => RunP P (do eqGuard op t x y (.int k a) b; binOp op t (.int k a) b) w K
  | a => RunP P (do eqGuard op t x y a b; binOp op t a b) w K

def appK (l : List Value) : List Value → (List Value → Prop) → Prop :=
  List.rec (motive := fun _ => List Value → (List Value → Prop) → Prop) (fun ys k => k ys) (fun x _ ih ys k => ih ys fun zs => k (x :: zs)) l
theorem appK_cons (x : Value) (xs ys : List Value) (k : List Value → Prop) : appK (x :: xs) ys k = appK xs ys fun zs => k (x :: zs) := rfl
theorem appK_eq (xs ys : List Value) (k : List Value → Prop) : appK xs ys k = k (xs ++ ys) := by
  induction xs generalizing k with
  | nil => rfl
  | cons x xs ih => simp [appK_cons, ih]
def calleeK (P : Program) (f : Value) (args : List Value) (w : World) (K : Value → World → Prop) : Prop :=
  match f with
  | .func fn first captured => match fn with
    | .func id => appK args captured.toList fun a => appK first.toList a fun a => CallP P id a.toArray w K
    | _ => False
  | _ => False
def nthK (l : List Value) : Nat → (Value → Prop) → Prop :=
  List.rec (motive := fun _ => Nat → (Value → Prop) → Prop) (fun _ _ => False) (fun v _ ih n k => Nat.rec (motive := fun _ => Prop) (k v) (fun m _ => ih m k) n) l
theorem nthK_eq {l : List Value} {n : Nat} {k : Value → Prop} (h : nthK l n k) : ∃ v, l[n]? = some v ∧ k v := by
  induction l generalizing n with
  | nil => exact h.elim
  | cons x r ih => cases n with
    | zero => exact ⟨x, rfl, h⟩
    | succ n => simpa using ih (n := n) h
theorem nthK_imp {l : List Value} {n : Nat} {k k' : Value → Prop} (h : nthK l n k) (hk : ∀ v, k v → k' v) : nthK l n k' := by
  induction l generalizing n with
  | nil => exact h.elim
  | cons x r ih => cases n with
    | zero => exact hk _ h
    | succ n => exact ih (n := n) h

def unK (P : Program) (op : UnOp) (a : Value) (w : World) (K : Value → World → Prop) : Prop :=
  match op with
  | .not => match a with
    | .bool b => K (.bool (!b)) w
    | _ => False
  | .neg => match a with
    | .int k n => EqP (vWrap k (0 - n)) fun m => K (.int k m) w
    | _ => False
  | op => RunP P (Op.unary op a) w K

def convK (P : Program) (src dst : TypeId) (a : Value) (w : World) (K : Value → World → Prop) : Prop :=
  RunP P (convert src dst a) w K

def nilK (v : Value) (w : World) (K : Value → World → Prop) : Prop :=
  match v with
  | .pointer p => match p with
    | some a => K (.pointer (some a)) w
    | none => False
  | .func fn a b => match fn with
    | .func f => K (.func (.func f) a b) w
    | _ => False
  | .iface t x => K (.iface t x) w
  | _ => False

def pairsK (ρ : List Value) (l : List (Nat × Operand)) : (List (Nat × Value) → Prop) → Prop :=
  List.rec (motive := fun _ => (List (Nat × Value) → Prop) → Prop) (fun k => k []) (fun p _ ih k => match p with
    | (i, x) => evK ρ x fun v => ih fun vs => k ((i, v) :: vs)) l
theorem pairsK_cons (ρ : List Value) (i : Nat) (x : Operand) (r : List (Nat × Operand)) (k : List (Nat × Value) → Prop) : pairsK ρ ((i, x) :: r) k = evK ρ x fun v => pairsK ρ r fun vs => k ((i, v) :: vs) := rfl
theorem pairsK_eq (ρ : List Value) (xs : List (Nat × Operand)) (k : List (Nat × Value) → Prop) :
    pairsK ρ xs k = k (xs.map fun (i, x) => (i, ev ρ x)) := by
  induction xs generalizing k with
  | nil => rfl
  | cons x r ih => obtain ⟨i, x⟩ := x; simp [pairsK_cons, evK_eq, ih]
def optK (ρ : List Value) : Option Operand → (Option Value → Prop) → Prop
  | none, k => k none
  | some x, k => evK ρ x fun v => k (some v)
theorem optK_eq (ρ : List Value) (x : Option Operand) (k : Option Value → Prop) : optK ρ x k = k (x.map (ev ρ)) := by
  cases x <;> simp [optK, evK_eq]

def tupK (v : Value) (i : Nat) (w : World) (K : Value → World → Prop) : Prop :=
  match v with
  | .tuple vs => nthK vs.toList i fun v => K v w
  | _ => False

def opK (P : Program) (o : Oper) (ρ : List Value) (w : World) (K : Value → World → Prop) : Prop :=
  match o.op with
  | .move x => evK ρ x fun v => K v w
  | .assign x => evK ρ x fun v => K v w
  | .pick c a b => evK ρ c fun c => match c with
    | .bool c => boolK c fun c => match c with
      | true => evK ρ a fun v => K v w
      | false => evK ρ b fun v => K v w
    | _ => False
  | .alloc t => RunP P (Instr.alloc t true (.tuple #[])) w K
  | .box t x => evK ρ x fun v => RunP P (Instr.box t v) w K
  | .build t parts => pairsK ρ parts.toList fun vs => RunP P (Instr.build t vs.toArray) w K
  | .buildSlice t n parts => pairsK ρ parts.toList fun vs => RunP P (Instr.buildSlice t n vs.toArray) w K
  | .load t x => evK ρ x fun a => RunP P (Instr.loadAt t a) w K
  | .store t x y => evK ρ x fun a => evK ρ y fun v => DoP P (Instr.storeAt t a v) w (K undef)
  | .nilCheck x => evK ρ x fun v => nilK v w K
  | .binOp op t x y _ => evK ρ x fun a => evK ρ y fun b => binK P op t x y a b w K
  | .unOp op _ x => evK ρ x fun a => unK P op a w K
  | .convert s d x => evK ρ x fun a => convK P s d a w K
  | .makeInterface t x => evK ρ x fun a => RunP P (Instr.makeInterface t a) w K
  | .makeFunc fn first captured => evsK ρ first.toList fun fs => evsK ρ captured.toList fun cs => K (.func fn fs.toArray cs.toArray) w
  | .makeSlice t l c => evK ρ l fun l => evK ρ c fun c => RunP P (Instr.makeSlice t l c) w K
  | .slice t x lo hi mx => evK ρ x fun a => optK ρ lo fun lo => optK ρ hi fun hi => optK ρ mx fun mx => RunP P (Instr.sliceAt t a lo hi mx) w K
  | .fieldAddr t x f => evK ρ x fun a => RunP P (Instr.fieldAt t a f) w K
  | .field t x f => evK ρ x fun a => RunP P (Instr.field t a f) w K
  | .indexAddr t x i => evK ρ x fun a => evK ρ i fun i => RunP P (Instr.indexAt t a i) w K
  | .index t x i => evK ρ x fun a => evK ρ i fun i => RunP P (Instr.index t a i) w K
  | .extract x i => evK ρ x fun v => tupK v i w K
  | .typeAssert x t u ok => evK ρ x fun a => RunP P (Instr.typeAssert a t u ok) w K
  | .call c => match c.callee with
    | .value f => evK ρ f fun f => evsK ρ c.args.toList fun vs => calleeK P f vs w K
    | .builtin .append => evsK ρ c.args.toList fun vs => RunP P (Builtin.append_ c.argTypes o.type vs.toArray) w K
    | .builtin .len => evsK ρ c.args.toList fun vs => RunP P (Builtin.len_ c.argTypes o.type vs.toArray) w K
    | .builtin .copy => evsK ρ c.args.toList fun vs => RunP P (Builtin.copy_ c.argTypes o.type vs.toArray) w K
    | .builtin .max => evsK ρ c.args.toList fun vs => RunP P (Builtin.max_ c.argTypes o.type vs.toArray) w K
    | .builtin .min => evsK ρ c.args.toList fun vs => RunP P (Builtin.min_ c.argTypes o.type vs.toArray) w K
    | .builtin .cap => evsK ρ c.args.toList fun vs => RunP P (Builtin.cap_ c.argTypes o.type vs.toArray) w K
    | .builtin .clear => evsK ρ c.args.toList fun vs => RunP P (Builtin.clear_ c.argTypes o.type vs.toArray) w K
    | .builtin .delete => evsK ρ c.args.toList fun vs => RunP P (Builtin.delete_ c.argTypes o.type vs.toArray) w K
    | .invoke r name => evK ρ r fun r => evsK ρ c.args.toList fun vs => MethP P r name vs.toArray w K
    | _ => False
  | .makeMap t r => optK ρ r fun r => RunP P (Instr.makeMap t r) w K
  | .lookup t x i ok => evK ρ x fun a => evK ρ i fun i => RunP P (Instr.lookup t a i ok) w K
  | .mapUpdate t m k x => evK ρ m fun m => evK ρ k fun k => evK ρ x fun x => DoP P (Instr.mapUpdate t m k x) w (K undef)
  | .range t x => evK ρ x fun a => RunP P (Instr.range t a) w K
  | .next it st => evK ρ it fun a => RunP P (Instr.next a st o.type) w K
  | .entry it => evK ρ it fun a => RunP P (Instr.entry a) w K
  | _ => False

/-! ## Soundness of one operation -/
theorem RunP.imp {P : Program} {m : Sem Value} {w : World} {K K' : Value → World → Prop} (h : RunP P m w K) (hk : ∀ v w', K v w' → K' v w') : RunP P m w K' := by
  obtain ⟨v, w', h, k⟩ := h; exact ⟨v, w', h, hk _ _ k⟩
theorem DoP.imp {P : Program} {m : Sem Unit} {w : World} {K K' : World → Prop} (h : DoP P m w K) (hk : ∀ w', K w' → K' w') : DoP P m w K' := by
  obtain ⟨w', h, k⟩ := h; exact ⟨w', h, hk _ k⟩
theorem Fc.imp {P : Program} {f : FuncId} {args : Array Value} {w : World} {R R' : Value → World → Prop} (h : Fc P f args w R) (hk : ∀ v w', R v w' → R' v w') : Fc P f args w R' :=
  ⟨h.entered, h.calls.mono fun _ _ ⟨v, he, hr⟩ => ⟨v, he, hk _ _ hr⟩⟩
theorem CallP.imp {P : Program} {f : FuncId} {args : Array Value} {w : World} {R R' : Value → World → Prop} (h : CallP P f args w R) (hk : ∀ v w', R v w' → R' v w') : CallP P f args w R' := by
  obtain ⟨h⟩ := h; exact ⟨h.imp hk⟩
theorem MethP.imp {P : Program} {r : Value} {n : String} {args : Array Value} {w : World} {R R' : Value → World → Prop} (h : MethP P r n args w R) (hk : ∀ v w', R v w' → R' v w') : MethP P r n args w R' := by
  obtain ⟨f, r, w1, t, v, hr, hm, h⟩ := h; exact ⟨f, r, w1, t, v, hr, hm, h.imp hk⟩
theorem intBin_imp {op : BinOp} {k : IntKind} {a b : Int} {K K' : Value → Prop} (h : intBin op k a b K) (hk : ∀ v, K v → K' v) : intBin op k a b K' := by
  cases op <;> simp only [intBin] at h ⊢ <;> first | exact hk _ h | exact h.imp fun m => hk _ | (obtain ⟨h, k⟩ := h; exact ⟨h, k.imp fun m => hk _⟩) | exact h
theorem binK_imp {P : Program} {op : BinOp} {t : TypeId} {x y : Operand} {a b : Value} {w : World} {K K' : Value → World → Prop}
    (h : binK P op t x y a b w K) (hk : ∀ v w', K v w' → K' v w') : binK P op t x y a b w K' := by
  unfold binK at h ⊢
  split at h
  · split at h
    · split at h
      · obtain ⟨h, k⟩ := h; exact ⟨h, k.imp fun m => hk _ _⟩
      · obtain ⟨h, k⟩ := h; exact ⟨h, k.imp fun m => hk _ _⟩
      · split at h
        · exact intBin_imp h fun v => hk v w
        · exact h
    · exact h.imp hk
  · exact h.imp hk
theorem unK_imp {P : Program} {op : UnOp} {a : Value} {w : World} {K K' : Value → World → Prop}
    (h : unK P op a w K) (hk : ∀ v w', K v w' → K' v w') : unK P op a w K' := by
  unfold unK at h ⊢
  split at h
  · split at h
    · exact hk _ _ h
    · exact h
  · split at h
    · exact h.imp fun m => hk _ _
    · exact h
  · exact h.imp hk
theorem nilK_imp {a : Value} {w : World} {K K' : Value → World → Prop}
    (h : nilK a w K) (hk : ∀ v w', K v w' → K' v w') : nilK a w K' := by
  unfold nilK at h ⊢
  split at h
  · split at h
    · exact hk _ _ h
    · exact h
  · split at h
    · exact hk _ _ h
    · exact h
  · exact hk _ _ h
  · exact h
theorem tupK_imp {a : Value} {i : Nat} {w : World} {K K' : Value → World → Prop}
    (h : tupK a i w K) (hk : ∀ v w', K v w' → K' v w') : tupK a i w K' := by
  unfold tupK at h ⊢
  split at h
  · exact nthK_imp h fun v => hk v w
  · exact h
theorem calleeK_imp {P : Program} {f : Value} {vs : List Value} {w : World} {K K' : Value → World → Prop}
    (h : calleeK P f vs w K) (hk : ∀ v w', K v w' → K' v w') : calleeK P f vs w K' := by
  unfold calleeK at h ⊢
  simp only [appK_eq] at h ⊢
  split at h
  · split at h
    · exact h.imp hk
    · exact h
  · exact h
theorem opK_imp {P : Program} {o : Oper} {ρ : List Value} {w : World} {K K' : Value → World → Prop}
    (h : opK P o ρ w K) (hk : ∀ v w', K v w' → K' v w') : opK P o ρ w K' := by
  unfold opK at h ⊢
  simp only [evK_eq, evsK_eq, pairsK_eq, optK_eq, boolK_eq] at h ⊢
  split at h <;> first
    | exact h.imp hk
    | exact hk _ _ h
    | exact binK_imp h hk
    | exact unK_imp h hk
    | exact RunP.imp h hk
    | exact nilK_imp h hk
    | exact tupK_imp h hk
    | exact h.imp fun w' => hk _ w'
    | exact h
    | (split at h <;> first | exact calleeK_imp h hk | exact RunP.imp h hk | exact MethP.imp h hk | exact h | (split at h <;> exact hk _ _ h))

theorem upon_run {P : Program} {o : Oper} {a : Act} {m : Sem Value} {w : World} {next : Act → World → Prop} {Q : Exit → Act → World → Prop}
    (he : execOp a.eval o = (do pure (.value (← m)))) (h : RunP P m w fun v w' => next (a.put o.dst v) w') : o.wp P a w next Q := by
  obtain ⟨v, w', hm, k⟩ := h
  simp only [Oper.wp, he, Sem.run_bind, hm, Result.andThen_ok, Sem.run_pure, Oper.upon]
  exact k
theorem upon_val {P : Program} {o : Oper} {a : Act} {v : Value} {w w' : World} {next : Act → World → Prop} {Q : Exit → Act → World → Prop}
    (he : (execOp a.eval o).run P w = .ok (.value v) w') (h : next (a.put o.dst v) w') : o.wp P a w next Q := by
  simp only [Oper.wp, he, Oper.upon]
  exact h
theorem upon_call {P : Program} {o : Oper} {a : Act} {f : FuncId} {args : Array Value} {w : World} {next : Act → World → Prop} {Q : Exit → Act → World → Prop}
    (he : (execOp a.eval o).run P w = (callFunc f args).run P w) (h : Fc P f args w fun v w' => next (a.put o.dst v) w') : o.wp P a w next Q := by
  obtain ⟨h1, h2⟩ := h
  simp only [Oper.wp, he, h1, Oper.upon]
  refine h2.mono ?_
  rintro e w' ⟨v, rfl, hr⟩
  exact hr
theorem intBin_sound {P : Program} {op : BinOp} {k : IntKind} {t : TypeId} {x y : Operand} {a b : Int} {w : World} {K : Value → Prop} (hop1 : op ≠ .shl) (hop2 : op ≠ .shr)
    (h : intBin op k a b K) : RunP P (do eqGuard op t x y (.int k a) (.int k b); binOp op t (.int k a) (.int k b)) w fun v w' => w' = w ∧ K v := by
  have hg : (eqGuard op t x y (.int k a) (.int k b)).run P w = .ok () w := by
    unfold eqGuard; split <;> rfl
  cases op <;> simp only [intBin] at h <;> first
    | (obtain ⟨hb, _, rfl, h⟩ := h; refine ⟨_, w, ?_, rfl, h⟩; simp only [Sem.run_bind, hg, Result.andThen_ok]; simp [binOp, Op.intDiv, hb, vQuo, vRem])
    | (obtain ⟨_, rfl, h⟩ := h; refine ⟨_, w, ?_, rfl, h⟩; simp only [Sem.run_bind, hg, Result.andThen_ok]; simp [binOp, Op.intArith, Op.intBits, Op.intCmp, vWrap, vAnd, vOr, vXor, vAndNot, vEq_def, vNe_def, vLt_def, vLe_def])
    | (refine ⟨_, w, ?_, rfl, h⟩; simp only [Sem.run_bind, hg, Result.andThen_ok]; simp [binOp, Op.intArith, Op.intBits, Op.intCmp, vWrap, vAnd, vOr, vXor, vAndNot, vEq_def, vNe_def, vLt_def, vLe_def])
    | contradiction
    | exact h.elim
theorem binK_sound {P : Program} {op : BinOp} {t : TypeId} {x y : Operand} {a b : Value} {w : World} {K : Value → World → Prop}
    (h : binK P op t x y a b w K) : RunP P (do eqGuard op t x y a b; binOp op t a b) w K := by
  unfold binK at h
  split at h
  · split at h
    · split at h
      · obtain ⟨hb, _, rfl, h⟩ := h
        refine ⟨_, w, ?_, h⟩
        simp only [eqGuard, Sem.run_bind]; simp [binOp, Op.shift, vShl, Int.not_lt.2 hb]
      · obtain ⟨hb, _, rfl, h⟩ := h
        refine ⟨_, w, ?_, h⟩
        simp only [eqGuard, Sem.run_bind]; simp [binOp, Op.shift, vShr, Int.not_lt.2 hb]
      · rename_i hk1 hk2
        split at h
        · rename_i hk
          obtain rfl := kEq_eq hk
          exact (intBin_sound (fun e => hk1 e) (fun e => hk2 e) h).imp fun v w' ⟨e, k⟩ => e ▸ k
        · exact h.elim
    · exact h
  · exact h
theorem opK_sound {P : Program} {o : Oper} {ρ : List Value} {w : World} {K : Value → World → Prop} {next : Act → World → Prop} {Q : Exit → Act → World → Prop}
    (h : opK P o ρ w K) (hn : ∀ v w', K v w' → next ((⟨ρ.toArray, []⟩ : Act).put o.dst v) w') : o.wp P ⟨ρ.toArray, []⟩ w next Q := by
  have h := opK_imp h hn
  clear hn
  unfold opK at h
  simp only [evK_eq, evsK_eq, pairsK_eq, optK_eq, boolK_eq] at h
  split at h
  case h_1 x ho => exact upon_val (v := ev ρ x) (w' := w) (by rw [ev_eq]; unfold execOp; rw [ho]; rfl) h
  case h_2 x ho => exact upon_val (v := ev ρ x) (w' := w) (by rw [ev_eq]; unfold execOp; rw [ho]; rfl) h
  case h_3 c a b ho =>
    split at h
    · rename_i cb hc
      split at h
      · exact upon_val (v := ev ρ a) (w' := w) (by rw [ev_eq]; unfold execOp; rw [ho]; simp [hc, asBool]) h
      · exact upon_val (v := ev ρ b) (w' := w) (by rw [ev_eq]; unfold execOp; rw [ho]; simp [hc, asBool]) h
    · exact h.elim
  case h_4 t ho => exact upon_run (by unfold execOp; rw [ho]) h
  case h_5 t x ho => exact upon_run (by rw [ev_eq]; unfold execOp; rw [ho]) h
  case h_6 t ps ho =>
    refine upon_run (m := Instr.build t ((ps.toList.map fun (i, x) => (i, ev ρ x)).toArray)) (by rw [ev_eq]; unfold execOp; rw [ho]; simp [← Array.toList_map]) h
  case h_7 t n ps ho =>
    refine upon_run (m := Instr.buildSlice t n ((ps.toList.map fun (i, x) => (i, ev ρ x)).toArray)) (by rw [ev_eq]; unfold execOp; rw [ho]; simp [← Array.toList_map]) h
  case h_8 t x ho => exact upon_run (by rw [ev_eq]; unfold execOp; rw [ho]) h
  case h_9 t x y ho =>
    obtain ⟨w', hm, k⟩ := h
    have he : (execOp (⟨ρ.toArray, []⟩ : Act).eval o).run P w = .ok .skip w' := by
      rw [ev_eq]; unfold execOp; rw [ho]; simp only [Sem.run_bind, hm, Result.andThen_ok, Sem.run_pure]
    simp only [Oper.wp, he, Oper.upon]
    exact k
  case h_10 x ho =>
    have he : ∀ u, nilK (ev ρ x) w u → ∃ v, (execOp (ev ρ) o).run P w = .ok (.value v) w ∧ u v w := by
      intro u hu
      unfold nilK at hu
      unfold execOp
      rw [ho]
      simp only
      split at hu
      · rename_i p hp
        split at hu
        · exact ⟨_, by rw [hp]; rfl, hu⟩
        · exact hu.elim
      · rename_i fn a b hp
        split at hu
        · exact ⟨_, by rw [hp]; rfl, hu⟩
        · exact hu.elim
      · rename_i t v hp
        exact ⟨_, by rw [hp]; rfl, hu⟩
      · exact hu.elim
    obtain ⟨v, h1, h2⟩ := he _ h
    exact upon_val (by rw [ev_eq]; exact h1) h2
  case h_11 op t x y yt ho => exact upon_run (by rw [ev_eq]; unfold execOp; rw [ho]) (binK_sound h)
  case h_12 op t x ho =>
    unfold unK at h
    split at h
    · split at h
      · rename_i b hb
        refine upon_val (v := .bool (!b)) (w' := w) ?_ h
        rw [ev_eq]; unfold execOp; rw [ho]; simp [hb, Op.unary]
      · exact h.elim
    · split at h
      · rename_i k n hb
        obtain ⟨_, rfl, h⟩ := h
        refine upon_val (v := .int k (vWrap k (0 - n))) (w' := w) ?_ h
        rw [ev_eq]; unfold execOp; rw [ho]; simp [hb, Op.unary, Op.intArith, vWrap]
      · exact h.elim
    · exact upon_run (by rw [ev_eq]; unfold execOp; rw [ho]) h
  case h_13 s d x ho => exact upon_run (by rw [ev_eq]; unfold execOp; rw [ho]) h
  case h_14 t x ho => exact upon_run (by rw [ev_eq]; unfold execOp; rw [ho]) h
  case h_15 fn fs cs ho =>
    refine upon_val (w' := w) ?_ h
    rw [ev_eq]; unfold execOp; rw [ho]; simp [Instr.makeFunc, ← Array.toList_map]
  case h_16 t l c ho => exact upon_run (by rw [ev_eq]; unfold execOp; rw [ho]) h
  case h_17 t x lo hi mx ho => exact upon_run (by rw [ev_eq]; unfold execOp; rw [ho]) h
  case h_18 t x f ho => exact upon_run (by rw [ev_eq]; unfold execOp; rw [ho]) h
  case h_19 t x f ho => exact upon_run (by rw [ev_eq]; unfold execOp; rw [ho]) h
  case h_20 t x i ho => exact upon_run (by rw [ev_eq]; unfold execOp; rw [ho]) h
  case h_21 t x i ho => exact upon_run (by rw [ev_eq]; unfold execOp; rw [ho]) h
  case h_22 x i ho =>
    unfold tupK at h
    split at h
    · rename_i vs hv
      obtain ⟨u, hu, h⟩ := nthK_eq h
      refine upon_val (v := u) (w' := w) ?_ h
      rw [ev_eq]; unfold execOp; rw [ho]
      simp only [Array.getElem?_toList] at hu
      simp [hv, Instr.extract, hu]
    · exact h.elim
  case h_23 x t u ok ho => exact upon_run (by rw [ev_eq]; unfold execOp; rw [ho]) h
  case h_24 c ho =>
    have hargs : ∀ (xs : Array Operand), (xs.toList.map (ev ρ)).toArray = xs.map (ev ρ) := fun xs => by simp [← Array.toList_map]
    split at h
    · rename_i f hf
      unfold calleeK at h
      simp only [appK_eq] at h
      split at h
      · rename_i fn fst cap hv
        split at h
        · rename_i id
          obtain ⟨h⟩ := h
          refine upon_call (f := id) ?_ h
          have he : (fst.toList ++ (List.map (ev ρ) c.args.toList ++ cap.toList)).toArray = fst ++ Array.map (ev ρ) c.args ++ cap := by
            apply Array.ext'; simp
          rw [ev_eq]; unfold execOp; rw [ho]
          simp only [resolve, hf, hv, Deferred.ofValue, Sem.run_bind, Sem.run_pure, Result.andThen_ok, invoke, he]
        · exact h.elim
      · exact h.elim
    · rename_i hc
      refine upon_run (m := Builtin.append_ c.argTypes o.type (c.args.map (ev ρ))) ?_ (by rw [← hargs]; exact h)
      rw [ev_eq]; unfold execOp; rw [ho]; simp only [resolve, hc, pure_bind, invoke, builtin]
    · rename_i hc
      refine upon_run (m := Builtin.len_ c.argTypes o.type (c.args.map (ev ρ))) ?_ (by rw [← hargs]; exact h)
      rw [ev_eq]; unfold execOp; rw [ho]; simp only [resolve, hc, pure_bind, invoke, builtin]
    · rename_i hc
      refine upon_run (m := Builtin.copy_ c.argTypes o.type (c.args.map (ev ρ))) ?_ (by rw [← hargs]; exact h)
      rw [ev_eq]; unfold execOp; rw [ho]; simp only [resolve, hc, pure_bind, invoke, builtin]
    · rename_i hc
      refine upon_run (m := Builtin.max_ c.argTypes o.type (c.args.map (ev ρ))) ?_ (by rw [← hargs]; exact h)
      rw [ev_eq]; unfold execOp; rw [ho]; simp only [resolve, hc, pure_bind, invoke, builtin]
    · rename_i hc
      refine upon_run (m := Builtin.min_ c.argTypes o.type (c.args.map (ev ρ))) ?_ (by rw [← hargs]; exact h)
      rw [ev_eq]; unfold execOp; rw [ho]; simp only [resolve, hc, pure_bind, invoke, builtin]
    · rename_i hc
      refine upon_run (m := Builtin.cap_ c.argTypes o.type (c.args.map (ev ρ))) ?_ (by rw [← hargs]; exact h)
      rw [ev_eq]; unfold execOp; rw [ho]; simp only [resolve, hc, pure_bind, invoke, builtin]
    · rename_i hc
      refine upon_run (m := Builtin.clear_ c.argTypes o.type (c.args.map (ev ρ))) ?_ (by rw [← hargs]; exact h)
      rw [ev_eq]; unfold execOp; rw [ho]; simp only [resolve, hc, pure_bind, invoke, builtin]
    · rename_i hc
      refine upon_run (m := Builtin.delete_ c.argTypes o.type (c.args.map (ev ρ))) ?_ (by rw [← hargs]; exact h)
      rw [ev_eq]; unfold execOp; rw [ho]; simp only [resolve, hc, pure_bind, invoke, builtin]
    · rename_i r name hc
      obtain ⟨f, rv, w1, t, v, hr, hm, h⟩ := h
      obtain ⟨h1, h2⟩ := h
      have he : (execOp (⟨ρ.toArray, []⟩ : Act).eval o).run P w = .ok (.enter f (#[rv] ++ (c.args.toList.map (ev ρ)).toArray)) w1 := by
        rw [ev_eq]; unfold execOp; rw [ho]
        simp only [resolve, hc, pure_bind, invoke, hr]
        have e1 : (#[Value.iface t v] ++ Array.map (ev ρ) c.args)[0]? = some (.iface t v) := by
          rw [Array.getElem?_append_left (Nat.zero_lt_one)]; rfl
        have e2 : (#[Value.iface t v] ++ Array.map (ev ρ) c.args).extract 1 (#[Value.iface t v] ++ Array.map (ev ρ) c.args).size = Array.map (ev ρ) c.args := by
          apply Array.ext'; simp [List.take_of_length_le]
        simp only [e1, e2, callMethod]
        have e3 : ∀ (k : FuncId × Value → Sem Next), (do let __do_lift ← program; let x ← method (__do_lift.types.size + Made.depth) t v name; k x : Sem Next).run P w = (k (f, rv)).run P w1 := by
          intro k
          show (method (P.types.size + Made.depth) t v name >>= fun x => k x).run P w = _
          rw [Sem.run_bind, hm]; rfl
        rw [hargs] at h1 ⊢
        exact (e3 _).trans h1
      simp only [Oper.wp, he, Oper.upon]
      refine h2.mono ?_
      rintro e w' ⟨v, rfl, hr⟩
      exact hr
    · exact h.elim
  case h_25 t r ho => exact upon_run (by rw [ev_eq]; unfold execOp; rw [ho]) h
  case h_26 t x i ok ho => exact upon_run (by rw [ev_eq]; unfold execOp; rw [ho]) h
  case h_27 t m k x ho =>
    obtain ⟨w', hm, k⟩ := h
    have he : (execOp (⟨ρ.toArray, []⟩ : Act).eval o).run P w = .ok .skip w' := by
      rw [ev_eq]; unfold execOp; rw [ho]; simp only [Sem.run_bind, hm, Result.andThen_ok, Sem.run_pure]
    simp only [Oper.wp, he, Oper.upon]
    exact k
  case h_28 t x ho => exact upon_run (by rw [ev_eq]; unfold execOp; rw [ho]) h
  case h_29 it st ho => exact upon_run (by rw [ev_eq]; unfold execOp; rw [ho]) h
  case h_30 it ho => exact upon_run (by rw [ev_eq]; unfold execOp; rw [ho]) h
  case h_31 => exact h.elim
/-! ## Code -/
/-- The value of a guard: 'none' where the operation has none. -/
def guardK (ops : List Oper) (g : Option (Nat × Bool)) (ρ : List Value) (k : Bool → List Value → Prop) : Prop :=
  match g with
  | none => k true ρ
  | some (j, want) => match ops[j]? with
    | none => False
    | some oj => match oj.dst with
      | none => False
      | some d => gtK ρ d fun v => match v with
        | .bool b => boolK b fun b => stK ρ d (.bool b) fun ρ => match b with
          | true => match want with
            | true => k true ρ
            | false => k false ρ
          | false => match want with
            | true => k false ρ
            | false => k true ρ
        | .tuple _ => k false ρ
        | _ => False
def opsK (P : Program) (ops : List Oper) (K : List Value → World → Prop) (l : List Oper) : List Value → World → Prop :=
  List.rec (motive := fun _ => List Value → World → Prop) K (fun o _ ih ρ w => guardK ops o.guard ρ fun b ρ => match b with
    | true => opK P o ρ w fun v w => putK ρ o.dst v fun ρ => ih ρ w
    | false => putK ρ o.dst undef fun ρ => ih ρ w) l
theorem opsK_nil (P : Program) (ops : List Oper) (K : List Value → World → Prop) (ρ : List Value) (w : World) : opsK P ops K [] ρ w = K ρ w := rfl
theorem opsK_cons (P : Program) (ops : List Oper) (K : List Value → World → Prop) (o : Oper) (r : List Oper) (ρ : List Value) (w : World) : opsK P ops K (o :: r) ρ w = guardK ops o.guard ρ fun b ρ => match b with
    | true => opK P o ρ w fun v w => putK ρ o.dst v fun ρ => opsK P ops K r ρ w
    | false => putK ρ o.dst undef fun ρ => opsK P ops K r ρ w := rfl
def thenK (next : List Value → World → Prop) (Q : Exit → List Value → World → Prop) (e : Exit) (ρ : List Value) (w : World) : Prop :=
  match e with
  | .normal => next ρ w
  | e => Q e ρ w
def blockK (id : Nat) (Q : Exit → List Value → World → Prop) (e : Exit) (ρ : List Value) (w : World) : Prop :=
  match e with
  | .exit id' => match id' == id with
    | true => Q .normal ρ w
    | false => Q (.exit id') ρ w
  | e => Q e ρ w
def noGotoK (Q : Exit → List Value → World → Prop) (e : Exit) (ρ : List Value) (w : World) : Prop :=
  match e with
  | .goto _ => False
  | e => Q e ρ w
/-- As Q; by a goto to label l: J. -/
def jumpK (l : Nat) (J : List Value → World → Prop) (Q : Exit → List Value → World → Prop) (e : Exit) (ρ : List Value) (w : World) : Prop :=
  match e with
  | .goto l' => l' = l ∧ J ρ w
  | e => Q e ρ w
/-- The meaning of a piece of code: what it must come to, from a frame and a world. -/
abbrev Mng := (Exit → List Value → World → Prop) → List Value → World → Prop
/-- A loop: a word that holds at each round's head, and a measure. -/
inductive LoopP (P : Program) (c : Code) (B : Mng) (Q : Exit → List Value → World → Prop) (ρ : List Value) (w : World) : Prop
  | mk (I : List Value → World → Prop) (μ : List Value → World → Nat) (h0 : I ρ w)
      (round : ∀ ρ w, I ρ w → B (thenK (fun ρ' w' => I ρ' w' ∧ μ ρ' w' < μ ρ w) Q) ρ w)
/-- A test of the text's own. -/
inductive CondP (P : Program) (x y : Code) (B C : Mng) (b : Bool) (Q : Exit → List Value → World → Prop) (ρ : List Value) (w : World) : Prop
  | mk (t : b = true → B Q ρ w) (f : b = false → C Q ρ w)
/-- A block that is left by its number. -/
inductive BlkP (P : Program) (c : Code) (B : Mng) (id : Nat) (Q : Exit → List Value → World → Prop) (ρ : List Value) (w : World) : Prop
  | mk (h : B (blockK id Q) ρ w)
theorem cT {P : Program} {x y : Code} {B C : Mng} {b : Bool} {Q : Exit → List Value → World → Prop} {ρ : List Value} {w : World} (h : b = true) (k : B Q ρ w) : CondP P x y B C b Q ρ w :=
  ⟨fun _ => k, fun e => (by rw [h] at e; cases e)⟩
theorem cF {P : Program} {x y : Code} {B C : Mng} {b : Bool} {Q : Exit → List Value → World → Prop} {ρ : List Value} {w : World} (h : b = false) (k : C Q ρ w) : CondP P x y B C b Q ρ w :=
  ⟨fun e => (by rw [h] at e; cases e), fun _ => k⟩
theorem cI {P : Program} {x y : Code} {B C : Mng} {b : Bool} {Q : Exit → List Value → World → Prop} {ρ : List Value} {w : World} (t : b = true → B Q ρ w) (f : b = false → C Q ρ w) : CondP P x y B C b Q ρ w := ⟨t, f⟩
theorem bk {P : Program} {c : Code} {B : Mng} {id : Nat} {Q : Exit → List Value → World → Prop} {ρ : List Value} {w : World} (h : B (blockK id Q) ρ w) : BlkP P c B id Q ρ w := ⟨h⟩
def opsDsts (ops : List Oper) : List Nat := ops.filterMap fun o => o.dst
def gDsts (ops : List Oper) : List Nat := ops.filterMap fun o => match o.guard with
  | some (j, _) => (ops[j]?).bind fun o => o.dst
  | none => none
def agree (ds : List Nat) (ρ ρ' : List Value) : Prop := ρ'.length = ρ.length ∧ ∀ i, i ∉ ds → ρ'[i]? = ρ[i]?
def dstsC : Code → List Nat
  | .seq x y => dstsC x ++ dstsC y
  | .cond _ x y => dstsC x ++ dstsC y
  | .block _ c => dstsC c
  | .loop c => dstsC c
  | .scope c => dstsC c
  | .region _ ops _ => opsDsts ops.toList
  | _ => []
theorem dstsC_label {l : Nat} : ∀ {c rest : Code}, findLabel c l = some rest → ∀ i, i ∈ dstsC rest → i ∈ dstsC c := by
  intro c
  induction c with
  | seq x y ihx ihy =>
    intro rest h i hi
    unfold findLabel at h
    cases hx : findLabel x l with
    | some r =>
      rw [hx] at h
      obtain rfl := Option.some.inj h
      rcases List.mem_append.1 hi with hi | hi
      · exact List.mem_append_left _ (ihx hx i hi)
      · exact List.mem_append_right _ hi
    | none => rw [hx] at h; exact List.mem_append_right _ (ihy h i hi)
  | label l' =>
    intro rest h i hi
    unfold findLabel at h
    split at h
    · obtain rfl := Option.some.inj h; cases hi
    · cases h
  | _ => intro rest h; simp [findLabel] at h
def lift (Q : Exit → List Value → World → Prop) (e : Exit) (a : Act) (w : World) : Prop := a.defers = [] ∧ Q e a.tmps.toList w
/-- A meaning that may be trusted of a piece of code. -/
structure Fine (P : Program) (c : Code) (M : Mng) : Prop where
  sound : ∀ {Q : Exit → List Value → World → Prop} {ρ : List Value} {w : World}, M Q ρ w → c.wp P (lift Q) ⟨ρ.toArray, []⟩ w
  imp : ∀ {Q Q' : Exit → List Value → World → Prop} {ρ : List Value} {w : World}, M Q ρ w → (∀ e ρ w, Q e ρ w → Q' e ρ w) → M Q' ρ w
  frame : ∀ {Q : Exit → List Value → World → Prop} {ρ : List Value} {w : World}, M Q ρ w → M (fun e ρ' w' => Q e ρ' w' ∧ agree (dstsC c) ρ ρ') ρ w
/-- A scope: no jump, or jumps to one label. -/
inductive ScopeP (P : Program) (c : Code) (B : Mng) (Q : Exit → List Value → World → Prop) (ρ : List Value) (w : World) : Prop
  | straight (h : B (noGotoK Q) ρ w)
  | jumps (l : Nat) (rest : Code) (M : Mng) (hM : Fine P rest M) (J : List Value → World → Prop) (μ : List Value → World → Nat) (hf : findLabel c l = some rest) (first : B (jumpK l J Q) ρ w)
      (pass : ∀ ρ w, J ρ w → M (jumpK l (fun ρ' w' => J ρ' w' ∧ μ ρ' w' < μ ρ w) Q) ρ w)
/-- A region that draws its order. -/
inductive DrawP (P : Program) (id : Nat) (ops : Array Oper) (K : List Value → World → Prop) (ρ : List Value) (w : World) : Prop
  | mk (h : (Code.region id ops true).wp P (fun e a w' => e = .normal ∧ a.defers = [] ∧ agree (opsDsts ops.toList) ρ a.tmps.toList ∧ K a.tmps.toList w') ⟨ρ.toArray, []⟩ w)
def wpR (P : Program) (c : Code) : Mng :=
  Code.rec (motive := fun _ => Mng)
    (fun Q ρ w => Q .normal ρ w)
    (fun id ops draw Q ρ w => match draw with
      | false => opsK P ops.toList (Q .normal) ops.toList ρ w
      | true => DrawP P id ops (Q .normal) ρ w)
    (fun _ _ ihx ihy Q ρ w => ihx (thenK (ihy Q) Q) ρ w)
    (fun c x y ihx ihy Q ρ w => evK ρ c fun v => match v with
      | .bool b => CondP P x y ihx ihy b Q ρ w
      | _ => False)
    (fun id c ih Q ρ w => match c with
      | .loop _ => ih (blockK id Q) ρ w
      | c => BlkP P c ih id Q ρ w)
    (fun c ih Q ρ w => LoopP P c ih Q ρ w)
    (fun _ _ _ _ _ _ _ _ _ => False)
    (fun id Q ρ w => Q (.exit id) ρ w)
    (fun c ih Q ρ w => ScopeP P c ih Q ρ w)
    (fun _ Q ρ w => Q .normal ρ w)
    (fun l Q ρ w => Q (.goto l) ρ w)
    (fun Q ρ w => Q .ret ρ w)
    (fun _ _ _ _ => False) c
section
variable (P : Program) (Q : Exit → List Value → World → Prop) (ρ : List Value) (w : World)
theorem wpR_seq (x y : Code) : wpR P (.seq x y) Q ρ w = wpR P x (thenK (wpR P y Q) Q) ρ w := rfl
theorem wpR_cond (c : Operand) (x y : Code) : wpR P (.cond c x y) Q ρ w = evK ρ c fun v => match v with
      | .bool b => CondP P x y (wpR P x) (wpR P y) b Q ρ w
      | _ => False := rfl
theorem wpR_block (id : Nat) (c : Code) : wpR P (.block id c) Q ρ w ↔ wpR P c (blockK id Q) ρ w := by
  have h : BlkP P c (wpR P c) id Q ρ w ↔ wpR P c (blockK id Q) ρ w := ⟨fun ⟨h⟩ => h, fun h => ⟨h⟩⟩
  cases c <;> first | exact h | exact Iff.rfl
theorem wpR_loop (c : Code) : wpR P (.loop c) Q ρ w = LoopP P c (wpR P c) Q ρ w := rfl
end
theorem wpR_scope {P : Program} {Q : Exit → List Value → World → Prop} {ρ : List Value} {w : World} (c : Code) : wpR P (.scope c) Q ρ w = ScopeP P c (wpR P c) Q ρ w := rfl
theorem noGotoK_imp {Q Q' : Exit → List Value → World → Prop} (hq : ∀ e ρ w, Q e ρ w → Q' e ρ w) : ∀ e ρ w, noGotoK Q e ρ w → noGotoK Q' e ρ w := fun e ρ w h => by
  cases e <;> simp only [noGotoK] at h ⊢ <;> exact hq _ _ _ h
theorem jumpK_imp {l : Nat} {J J' : List Value → World → Prop} {Q Q' : Exit → List Value → World → Prop} (hj : ∀ ρ w, J ρ w → J' ρ w) (hq : ∀ e ρ w, Q e ρ w → Q' e ρ w) : ∀ e ρ w, jumpK l J Q e ρ w → jumpK l J' Q' e ρ w := fun e ρ w h => by
  cases e <;> simp only [jumpK] at h ⊢ <;> first | exact ⟨h.1, hj _ _ h.2⟩ | exact hq _ _ _ h
theorem CondP_iff {P : Program} {x y : Code} {B C : Mng} {b : Bool} {Q : Exit → List Value → World → Prop} {ρ : List Value} {w : World} : CondP P x y B C b Q ρ w ↔ if b then B Q ρ w else C Q ρ w := by
  constructor
  · rintro ⟨t, f⟩; cases b
    · exact f rfl
    · exact t rfl
  · intro h; cases b
    · exact cF rfl h
    · exact cT rfl h

theorem guardK_imp {ops : List Oper} {g : Option (Nat × Bool)} {ρ : List Value} {k k' : Bool → List Value → Prop} (h : guardK ops g ρ k) (hk : ∀ b ρ, k b ρ → k' b ρ) : guardK ops g ρ k' := by
  unfold guardK at h ⊢
  split at h
  · exact hk _ _ h
  · simp only [gtK_eq, stK_eq, boolK_eq] at h ⊢
    split at h
    · exact h.elim
    · split at h
      · exact h.elim
      · split at h
        · split at h <;> (split at h <;> exact hk _ _ h)
        · exact hk _ _ h
        · exact h.elim
theorem opsK_imp {P : Program} {ops : List Oper} {K K' : List Value → World → Prop} (hk : ∀ ρ w, K ρ w → K' ρ w) (l : List Oper) :
    ∀ {ρ : List Value} {w : World}, opsK P ops K l ρ w → opsK P ops K' l ρ w := by
  induction l with
  | nil => exact fun h => hk _ _ h
  | cons o r ih =>
    intro ρ w h
    simp only [opsK_cons] at h ⊢
    refine guardK_imp h fun b ρ h => ?_
    cases b
    · simp only [putK_eq] at h ⊢; exact ih h
    · simp only [putK_eq] at h ⊢; exact opK_imp h fun v w h => ih h
theorem wpR_imp {P : Program} (c : Code) : ∀ {Q Q' : Exit → List Value → World → Prop} {ρ : List Value} {w : World}, wpR P c Q ρ w → (∀ e ρ w, Q e ρ w → Q' e ρ w) → wpR P c Q' ρ w := by
  induction c with
  | skip => exact fun h hq => hq _ _ _ h
  | label l => exact fun h hq => hq _ _ _ h
  | exit i => exact fun h hq => hq _ _ _ h
  | ret => exact fun h hq => hq _ _ _ h
  | seq x y ihx ihy =>
    intro Q Q' ρ w h hq
    simp only [wpR_seq] at h ⊢
    refine ihx h fun e ρ w he => ?_
    cases e <;> simp only [thenK] at he ⊢ <;> first | exact ihy he hq | exact hq _ _ _ he
  | cond c x y ihx ihy =>
    intro Q Q' ρ w h hq
    simp only [wpR_cond, evK_eq, CondP_iff] at h ⊢
    split at h
    · split at h
      · rw [if_pos (by assumption)]; exact ihx h hq
      · rw [if_neg (by assumption)]; exact ihy h hq
    · exact h.elim
  | block id c ih =>
    intro Q Q' ρ w h hq
    rw [wpR_block] at h ⊢
    refine ih h fun e ρ w he => ?_
    cases e <;> simp only [blockK] at he ⊢ <;> first | exact hq _ _ _ he | (split at he <;> exact hq _ _ _ he)
  | region id ops draw =>
    intro Q Q' ρ w h hq
    cases draw
    · exact opsK_imp (fun ρ w => hq .normal ρ w) _ h
    · obtain ⟨h⟩ := h
      exact ⟨Code.wp_mono (fun e a w ⟨h1, h2, h3, h4⟩ => ⟨h1, h2, h3, hq _ _ _ h4⟩) h⟩
  | loop c ih =>
    intro Q Q' ρ w h hq
    obtain ⟨I, μ, h0, hr⟩ := h
    refine ⟨I, μ, h0, fun ρ w hI => ih (hr ρ w hI) fun e ρ w he => ?_⟩
    cases e <;> simp only [thenK] at he ⊢ <;> first | exact hq _ _ _ he | exact he
  | rangeFunc => exact fun h => h.elim
  | scope c ih =>
    intro Q Q' ρ w h hq
    rw [wpR_scope] at h ⊢
    cases h with
    | straight h => exact .straight (ih h (noGotoK_imp hq))
    | jumps l rest M hM J μ hf first pass => exact .jumps l rest M hM J μ hf (ih first (jumpK_imp (fun _ _ h => h) hq)) fun ρ w hJ => hM.imp (pass ρ w hJ) (jumpK_imp (fun _ _ h => h) hq)
  | goto => exact fun h hq => hq _ _ _ h
  | refuse => exact fun h => h.elim

/-! ## Soundness -/
theorem act_eta {a : Act} (h : a.defers = []) : a = ⟨a.tmps.toList.toArray, []⟩ := by
  cases a; simp only at h; subst h; simp
theorem guardK_sound {ops : Array Oper} {o : Oper} {ρ : List Value} {k : Bool → List Value → Prop} (h : guardK ops.toList o.guard ρ k) :
    ∃ b, Region.wanted o (yielded ops ρ.toArray) = b ∧ k b ρ := by
  unfold guardK at h
  split at h
  · rename_i hg; exact ⟨true, by simp [Region.wanted, hg], h⟩
  · rename_i j want hg
    simp only [gtK_eq, stK_eq, boolK_eq] at h
    split at h
    · exact h.elim
    · rename_i oj hj
      split at h
      · exact h.elim
      · rename_i d hd
        split at h
        · rename_i b hb
          have hset : ρ.set d (.bool b) = ρ := by
            apply List.ext_getElem?
            intro i
            rw [List.getElem?_set]
            split
            · rename_i e; subst e
              by_cases hl : d < ρ.length
              · rw [if_pos hl]
                rw [gt_eq] at hb
                simp only [Array.getD_eq_getD_getElem?, List.getElem?_toArray] at hb
                rw [List.getElem?_eq_getElem hl] at hb ⊢
                simp only [Option.getD_some] at hb
                rw [hb]
              · rw [if_neg hl]
                rw [List.getElem?_eq_none (Nat.le_of_not_lt hl)]
            · rfl
          have hy : yielded ops ρ.toArray j = some b := by
            have hl : d < ρ.length := by
              rcases Nat.lt_or_ge d ρ.length with hl | hl
              · exact hl
              · rw [gt_eq] at hb
                simp [Array.getD_eq_getD_getElem?, List.getElem?_eq_none hl, undef] at hb
            rw [gt_eq] at hb
            simp only [Array.getD_eq_getD_getElem?, List.getElem?_toArray, List.getElem?_eq_getElem hl, Option.getD_some] at hb
            simp only [Array.getElem?_toList] at hj
            simp [yielded, hj, hd, List.getElem?_eq_getElem hl, hb]
          rw [hset] at h
          cases b <;> cases want <;> simp only at h <;> exact ⟨_, by simp [Region.wanted, hg, hy], h⟩
        · rename_i vs hb
          refine ⟨false, ?_, h⟩
          have hy : yielded ops ρ.toArray j = none := by
            simp only [Array.getElem?_toList] at hj
            rw [gt_eq] at hb
            simp only [yielded, hj, Option.bind_some, hd]
            cases hl : ρ[d]? with
            | none => simp [hl]
            | some v =>
              simp [Array.getD_eq_getD_getElem?, hl] at hb
              simp [hl, hb]
          simp [Region.wanted, hg, hy]
        · exact h.elim
theorem opsK_sound {P : Program} {ops : Array Oper} {Q : Exit → List Value → World → Prop} (l : List Oper) :
    ∀ {ρ : List Value} {w : World}, opsK P ops.toList (Q .normal) l ρ w → wpList P ops (lift Q) l ⟨ρ.toArray, []⟩ w := by
  induction l with
  | nil => exact fun h => ⟨rfl, by simpa [opsK_nil] using h⟩
  | cons o r ih =>
    intro ρ w h
    simp only [opsK_cons, putK_eq] at h
    obtain ⟨b, hb, h⟩ := guardK_sound h
    unfold wpList
    cases b
    · rw [if_neg (by simp [hb]), put_eq]
      exact ih h
    · rw [if_pos hb]
      exact .inl (opK_sound h fun v w' h => by rw [put_eq]; exact ih h)
theorem wpR_sound {P : Program} (c : Code) : ∀ {Q : Exit → List Value → World → Prop} {ρ : List Value} {w : World}, wpR P c Q ρ w → c.wp P (lift Q) ⟨ρ.toArray, []⟩ w := by
  induction c with
  | skip => exact fun h => wp_skip ⟨rfl, h⟩
  | label l => exact fun h => wp_label ⟨rfl, h⟩
  | exit i => exact fun h => wp_exit ⟨rfl, h⟩
  | ret => exact fun h => wp_ret ⟨rfl, h⟩
  | seq x y ihx ihy =>
    intro Q ρ w h
    simp only [wpR_seq] at h
    refine wp_seq (wp_mono (ihx h) ?_)
    rintro e a w ⟨hd, he⟩
    cases e <;> simp only [thenK] at he <;> simp only [Exit.then]
    · rw [act_eta hd]; exact ihy he
    all_goals exact ⟨hd, he⟩
  | cond c x y ihx ihy =>
    intro Q ρ w h
    simp only [wpR_cond, evK_eq, CondP_iff] at h
    split at h
    · rename_i b hb
      refine wp_cond (t := b) (by rw [ev_eq]; exact hb) ?_
      split at h
      · rw [if_pos (by assumption)]; exact ihx h
      · rw [if_neg (by assumption)]; exact ihy h
    · exact h.elim
  | block id c ih =>
    intro Q ρ w h
    rw [wpR_block] at h
    refine wp_block (wp_mono (ih h) ?_)
    rintro e a w ⟨hd, he⟩
    cases e <;> simp only [blockK] at he <;> simp only [Exit.inBlock]
    case exit id' =>
      by_cases hi : id' = id
      · subst hi; simp only [beq_self_eq_true] at he; rw [if_pos rfl]; exact ⟨hd, he⟩
      · have : (id' == id) = false := by simpa using hi
        simp only [this] at he; rw [if_neg hi]; exact ⟨hd, he⟩
    all_goals exact ⟨hd, he⟩
  | region id ops draw =>
    intro Q ρ w h
    cases draw
    · exact wp_region_list (opsK_sound _ h)
    · obtain ⟨h⟩ := h
      exact wp_mono h fun e a w ⟨h1, h2, _, h4⟩ => by subst h1; exact ⟨h2, h4⟩
  | loop c ih =>
    intro Q ρ w h
    obtain ⟨I, μ, h0, hr⟩ := h
    refine wp_loop (fun a w => a.defers = [] ∧ I a.tmps.toList w) (fun a w => μ a.tmps.toList w) ⟨rfl, h0⟩ ?_
    rintro a w ⟨hd, hI⟩
    rw [act_eta hd]
    refine wp_mono (ih (hr _ _ hI)) ?_
    rintro e a' w' ⟨hd', he⟩
    cases e <;> simp only [thenK] at he <;> simp only [Exit.then]
    · exact ⟨⟨hd', he.1⟩, he.2⟩
    all_goals exact ⟨hd', he⟩
  | rangeFunc => exact fun h => h.elim
  | scope c ih =>
    intro Q ρ w h
    rw [wpR_scope] at h
    cases h with
    | straight h =>
      refine wp_scope_straight (wp_mono (ih h) ?_)
      rintro e a w ⟨hd, he⟩
      cases e <;> simp only [noGotoK] at he <;> exact ⟨hd, he⟩
    | jumps l rest M hM J μ hf first pass =>
      refine wp_scope_jumps l (fun a w => a.defers = [] ∧ J a.tmps.toList w) (fun a w => μ a.tmps.toList w) hf (wp_mono (ih first) ?_) ?_
      · rintro e a w ⟨hd, he⟩
        cases e <;> simp only [jumpK] at he <;> first | exact ⟨he.1, hd, he.2⟩ | exact ⟨hd, he⟩
      · rintro a w ⟨hd, hJ⟩
        rw [act_eta hd]
        refine wp_mono (hM.sound (pass _ _ hJ)) ?_
        rintro e a' w' ⟨hd', he⟩
        cases e <;> simp only [jumpK] at he <;> first | exact ⟨he.1, ⟨hd', he.2.1⟩, he.2.2⟩ | exact ⟨hd', he⟩
  | goto => exact fun h => wp_goto ⟨rfl, h⟩
  | refuse => exact fun h => h.elim
/-! ## What code leaves alone -/
theorem agree.refl (ds : List Nat) (ρ : List Value) : agree ds ρ ρ := ⟨rfl, fun _ _ => rfl⟩
theorem agree.trans {ds : List Nat} {a b c : List Value} (h : agree ds a b) (k : agree ds b c) : agree ds a c :=
  ⟨k.1.trans h.1, fun i hi => (k.2 i hi).trans (h.2 i hi)⟩
theorem agree.mono {ds ds' : List Nat} {a b : List Value} (h : agree ds a b) (hs : ∀ i, i ∈ ds → i ∈ ds') : agree ds' a b :=
  ⟨h.1, fun i hi => h.2 i fun hh => hi (hs i hh)⟩
theorem agree.put {ds : List Nat} {a b : List Value} (h : agree ds a b) (d : Option Nat) (hd : ∀ i, d = some i → i ∈ ds) (v : Value) : agree ds a (put b d v) := by
  cases d with
  | none => exact h
  | some d =>
    refine ⟨by simp [Eng.put, h.1], fun i hi => ?_⟩
    have : d ≠ i := fun e => hi (e ▸ hd d rfl)
    simp only [Eng.put, List.getElem?_set, if_neg this]
    exact h.2 i hi
theorem guardK_frame {ops : List Oper} {g : Option (Nat × Bool)} {ρ : List Value} {k : Bool → List Value → Prop} (h : guardK ops g ρ k) :
    guardK ops g ρ fun b ρ' => k b ρ' ∧ agree (opsDsts ops) ρ ρ' := by
  unfold guardK at h ⊢
  split at h
  · exact ⟨h, agree.refl _ _⟩
  · simp only [gtK_eq, stK_eq, boolK_eq] at h ⊢
    split at h
    · exact h.elim
    · rename_i oj hj
      split at h
      · exact h.elim
      · rename_i d hd
        have hmem : d ∈ opsDsts ops := by
          unfold opsDsts
          exact List.mem_filterMap.2 ⟨oj, List.mem_of_getElem? hj, hd⟩
        split at h
        · rename_i b hb
          split at h <;> (split at h <;> exact ⟨h, (agree.refl _ _).put (some d) (fun i e => by cases e; exact hmem) _⟩)
        · exact ⟨h, agree.refl _ _⟩
        · exact h.elim
theorem opsK_frame {P : Program} {ops : List Oper} {K : List Value → World → Prop} (l : List Oper) (hl : ∀ o, o ∈ l → o ∈ ops) :
    ∀ {ρ0 ρ : List Value} {w : World}, agree (opsDsts ops) ρ0 ρ → opsK P ops K l ρ w → opsK P ops (fun ρ' w' => K ρ' w' ∧ agree (opsDsts ops) ρ0 ρ') l ρ w := by
  induction l with
  | nil => exact fun ha h => ⟨h, ha⟩
  | cons o r ih =>
    intro ρ0 ρ w ha h
    simp only [opsK_cons] at h ⊢
    refine guardK_imp (guardK_frame h) fun b ρ1 ⟨h, ha1⟩ => ?_
    have hmem : ∀ i, o.dst = some i → i ∈ opsDsts ops := fun i e => by
      unfold opsDsts
      exact List.mem_filterMap.2 ⟨o, hl o (List.mem_cons_self ..), e⟩
    have ih' := fun {ρ : List Value} {w : World} => @ih (fun o ho => hl o (List.mem_cons_of_mem _ ho)) ρ0 ρ w
    cases b
    · simp only [putK_eq] at h ⊢
      exact ih' ((ha.trans ha1).put _ hmem _) h
    · simp only [putK_eq] at h ⊢
      exact opK_imp h fun v w h => ih' ((ha.trans ha1).put _ hmem _) h
theorem wpR_frame {P : Program} (c : Code) : ∀ {Q : Exit → List Value → World → Prop} {ρ : List Value} {w : World}, wpR P c Q ρ w →
    wpR P c (fun e ρ' w' => Q e ρ' w' ∧ agree (dstsC c) ρ ρ') ρ w := by
  induction c with
  | skip => exact fun h => ⟨h, agree.refl _ _⟩
  | label l => exact fun h => ⟨h, agree.refl _ _⟩
  | exit i => exact fun h => ⟨h, agree.refl _ _⟩
  | ret => exact fun h => ⟨h, agree.refl _ _⟩
  | seq x y ihx ihy =>
    intro Q ρ w h
    simp only [wpR_seq] at h ⊢
    refine wpR_imp x (ihx h) fun e ρ1 w1 ⟨he, ha⟩ => ?_
    have ha' : agree (dstsC (.seq x y)) ρ ρ1 := ha.mono fun i hi => List.mem_append_left _ hi
    cases e <;> simp only [thenK] at he ⊢
    · exact wpR_imp y (ihy he) fun e ρ2 w2 ⟨h2, h3⟩ => ⟨h2, ha'.trans (h3.mono fun i hi => List.mem_append_right _ hi)⟩
    all_goals exact ⟨he, ha'⟩
  | cond c x y ihx ihy =>
    intro Q ρ w h
    simp only [wpR_cond, evK_eq, CondP_iff] at h ⊢
    split at h
    · split at h
      · rw [if_pos (by assumption)]
        exact wpR_imp x (ihx h) fun e ρ2 w2 ⟨h2, h3⟩ => ⟨h2, h3.mono fun i hi => List.mem_append_left _ hi⟩
      · rw [if_neg (by assumption)]
        exact wpR_imp y (ihy h) fun e ρ2 w2 ⟨h2, h3⟩ => ⟨h2, h3.mono fun i hi => List.mem_append_right _ hi⟩
    · exact h.elim
  | block id c ih =>
    intro Q ρ w h
    rw [wpR_block] at h ⊢
    refine wpR_imp c (ih h) fun e ρ1 w1 ⟨he, ha⟩ => ?_
    cases e <;> simp only [blockK] at he ⊢
    case exit i => split at he <;> exact ⟨he, ha⟩
    all_goals exact ⟨he, ha⟩
  | region id ops draw =>
    intro Q ρ w h
    cases draw
    · exact opsK_frame _ (fun _ h => h) (agree.refl _ _) h
    · obtain ⟨h⟩ := h
      exact ⟨Code.wp_mono (fun e a w ⟨h1, h2, h3, h4⟩ => ⟨h1, h2, h3, h4, h3⟩) h⟩
  | loop c ih =>
    intro Q ρ w h
    obtain ⟨I, μ, h0, hr⟩ := h
    refine ⟨fun ρ' w' => I ρ' w' ∧ agree (dstsC c) ρ ρ', μ, ⟨h0, agree.refl _ _⟩, fun ρ1 w1 ⟨hI, ha⟩ => wpR_imp c (ih (hr ρ1 w1 hI)) fun e ρ2 w2 ⟨he, ha2⟩ => ?_⟩
    cases e <;> simp only [thenK] at he ⊢
    · exact ⟨⟨he.1, ha.trans ha2⟩, he.2⟩
    all_goals exact ⟨he, ha.trans ha2⟩
  | rangeFunc => exact fun h => h.elim
  | scope c ih =>
    intro Q ρ w h
    rw [wpR_scope] at h ⊢
    cases h with
    | straight h => exact .straight (wpR_imp c (ih h) fun e ρ1 w1 ⟨he, ha⟩ => by cases e <;> simp only [noGotoK] at he ⊢ <;> exact ⟨he, ha⟩)
    | jumps l rest M hM J μ hf first pass =>
      refine .jumps l rest M hM (fun ρ' w' => J ρ' w' ∧ agree (dstsC c) ρ ρ') μ hf (wpR_imp c (ih first) fun e ρ1 w1 ⟨he, ha⟩ => ?_) fun ρ1 w1 ⟨hJ, ha⟩ => hM.imp (hM.frame (pass ρ1 w1 hJ)) fun e ρ2 w2 ⟨he, ha2⟩ => ?_
      · cases e <;> simp only [jumpK] at he ⊢ <;> first | exact ⟨he.1, he.2, ha⟩ | exact ⟨he, ha⟩
      · have ha3 : agree (dstsC c) ρ ρ2 := ha.trans (ha2.mono fun i hi => dstsC_label hf i hi)
        cases e <;> simp only [jumpK] at he ⊢ <;> first | exact ⟨he.1, ⟨he.2.1, ha3⟩, he.2.2⟩ | exact ⟨he, ha3⟩
  | goto => exact fun h => ⟨h, agree.refl _ _⟩
  | refuse => exact fun h => h.elim

/-! ## Loops and joins -/
def hvK (l : List Nat) (f : Nat → Value) : List Value → (List Value → Prop) → Prop :=
  List.rec (motive := fun _ => List Value → (List Value → Prop) → Prop) (fun ρ k => k ρ) (fun d _ ih ρ k => stK ρ d (f d) fun ρ => ih ρ k) l
theorem hvK_cons (d : Nat) (ds : List Nat) (f : Nat → Value) (ρ : List Value) (k : List Value → Prop) : hvK (d :: ds) f ρ k = stK ρ d (f d) fun ρ => hvK ds f ρ k := rfl
def slK (l : List (Nat × Value)) : List Value → (List Value → Prop) → Prop :=
  List.rec (motive := fun _ => List Value → (List Value → Prop) → Prop) (fun ρ k => k ρ) (fun p _ ih ρ k => match p with
    | (i, v) => stK ρ i v fun ρ => ih ρ k) l
theorem slK_cons (i : Nat) (v : Value) (r : List (Nat × Value)) (ρ : List Value) (k : List Value → Prop) : slK ((i, v) :: r) ρ k = stK ρ i v fun ρ => slK r ρ k := rfl
/-- The slots hold these values. -/
def mt : List (Nat × Value) → List Value → Prop
  | [], _ => True
  | (i, v) :: r, ρ => gt ρ i = v ∧ mt r ρ
theorem mt_nil {ρ : List Value} : mt [] ρ := trivial
theorem mt_cons {i : Nat} {v : Value} {r : List (Nat × Value)} {ρ : List Value} (h : gt ρ i = v) (k : mt r ρ) : mt ((i, v) :: r) ρ := ⟨h, k⟩
theorem mt_i {i : Nat} {k : IntKind} {a b : Int} {r : List (Nat × Value)} {ρ : List Value} (hg : gt ρ i = .int k a) (h : a = b) (t : mt r ρ) : mt ((i, .int k b) :: r) ρ := ⟨by rw [hg, h], t⟩
theorem int_eq {k : IntKind} {a b : Int} (h : a = b) : Value.int k a = .int k b := by rw [h]
theorem hvK_agree {ρ' : List Value} (ds : List Nat) {k : List Value → Prop} : ∀ {ρ1 : List Value}, agree ds ρ1 ρ' → hvK ds (gt ρ') ρ1 k → k ρ' := by
  induction ds with
  | nil =>
    intro ρ1 ha h
    have : ρ' = ρ1 := List.ext_getElem? fun i => ha.2 i (by simp)
    rw [this]; exact h
  | cons d ds ih =>
    intro ρ1 ha h
    simp only [hvK_cons, stK_eq] at h
    refine ih ?_ h
    refine ⟨by simpa using ha.1, fun i hi => ?_⟩
    rw [List.getElem?_set]
    split
    · rename_i e; subst e
      split
      · rename_i hl
        have hl' : d < ρ'.length := by rw [ha.1]; exact hl
        rw [gt_eq]
        simp [Array.getD_eq_getD_getElem?, List.getElem?_eq_getElem hl']
      · rename_i hl
        rw [List.getElem?_eq_none (by rw [ha.1]; exact Nat.le_of_not_lt hl)]
    · rename_i hne
      exact ha.2 i fun hm => by cases hm <;> contradiction
theorem slK_mt {ρ : List Value} (sl : List (Nat × Value)) {k : List Value → Prop} (hm : mt sl ρ) (h : slK sl ρ k) : k ρ := by
  induction sl with
  | nil => exact h
  | cons p r ih =>
    obtain ⟨i, v⟩ := p
    obtain ⟨hv, hm⟩ := hm
    simp only [slK_cons, stK_eq] at h
    have : ρ.set i v = ρ := by
      apply List.ext_getElem?
      intro j
      rw [List.getElem?_set]
      split
      · rename_i e; subst e
        split
        · rename_i hl
          rw [gt_eq] at hv
          simp only [Array.getD_eq_getD_getElem?, List.getElem?_toArray, List.getElem?_eq_getElem hl, Option.getD_some] at hv
          rw [List.getElem?_eq_getElem hl, hv]
        · rename_i hl
          rw [List.getElem?_eq_none (Nat.le_of_not_lt hl)]
      · rfl
    rw [this] at h
    exact ih hm h
/-- What is owed at a round's end, and where ways meet. -/
inductive Nxt {α : Type} (sl : α → List (Nat × Value)) (inv : α → World → Prop) (p : α → Prop) (ρ : List Value) (w : World) : Prop
  | mk (y : α) (hm : mt (sl y) ρ) (hi : inv y w) (hp : p y)
inductive Jn {α : Type} (sl : α → List (Nat × Value)) (inv : α → World → Prop) (ρ : List Value) (w : World) : Prop
  | mk (y : α) (hm : mt (sl y) ρ) (hi : inv y w)
theorem LoopP.rule {P : Program} {c : Code} {B : Mng} {Q : Exit → List Value → World → Prop} {ρ : List Value} {w : World} {α : Type} (x0 : α) (sl : α → List (Nat × Value)) (inv : α → World → Prop) (μ : α → Nat)
    (hm : mt (sl x0) ρ) (h0 : inv x0 w)
    (round : ∀ x (f : Nat → Value) w', inv x w' → hvK (dstsC c) f ρ fun ρ => slK (sl x) ρ fun ρ =>
      B (thenK (fun ρ' w'' => Nxt sl inv (fun y => μ y < μ x) ρ' w'') Q) ρ w') (hB : B = wpR P c := by rfl) : LoopP P c B Q ρ w := by
  subst hB
  classical
  have hex : ∀ (p : Nat → Prop), (∃ n, p n) → ∃ n, p n ∧ ∀ m, p m → n ≤ m := fun p ⟨n, hn⟩ => by
    induction n using Nat.strongRecOn with
    | _ n ih =>
      by_cases h : ∃ m, m < n ∧ p m
      · obtain ⟨m, hm, hp⟩ := h; exact ih m hm hp
      · exact ⟨n, hn, fun m hp => Nat.le_of_not_lt fun hl => h ⟨m, hl, hp⟩⟩
  let p : List Value → World → Nat → Prop := fun ρ' w' n => ∃ x, μ x = n ∧ mt (sl x) ρ' ∧ inv x w'
  let M : List Value → World → Nat := fun ρ' w' => if h : ∃ n, p ρ' w' n then Classical.choose (hex _ h) else 0
  have hM : ∀ ρ' w', (∃ n, p ρ' w' n) → p ρ' w' (M ρ' w') ∧ ∀ m, p ρ' w' m → M ρ' w' ≤ m := fun ρ' w' h => by
    simp only [M, dif_pos h]
    exact Classical.choose_spec (hex _ h)
  refine ⟨fun ρ' w' => (∃ n, p ρ' w' n) ∧ agree (dstsC c) ρ ρ', M, ⟨⟨_, x0, rfl, hm, h0⟩, agree.refl _ _⟩, ?_⟩
  rintro ρ1 w1 ⟨hp, ha⟩
  obtain ⟨⟨x, hx, hmx, hix⟩, -⟩ := hM ρ1 w1 hp
  have hb := round x (gt ρ1) w1 hix
  have hb := slK_mt _ hmx (hvK_agree _ ha hb)
  refine wpR_imp c (wpR_frame c hb) ?_
  rintro e ρ2 w2 ⟨he, ha2⟩
  cases e <;> simp only [thenK] at he ⊢
  · obtain ⟨y, hmy, hiy, hlt⟩ := he
    refine ⟨⟨⟨_, y, rfl, hmy, hiy⟩, ha.trans ha2⟩, ?_⟩
    have := (hM ρ2 w2 ⟨_, y, rfl, hmy, hiy⟩).2 _ ⟨y, rfl, hmy, hiy⟩
    omega
  all_goals exact he
/-- The ways of a test meet behind it. -/
theorem cond_join {P : Program} {x y : Code} {B C : Mng} {K : List Value → World → Prop} {Q : Exit → List Value → World → Prop} {ρ : List Value} {w : World} {b : Bool} {α : Type} (sl : α → List (Nat × Value)) (inv : α → World → Prop)
    (hx : b = true → B (thenK (fun ρ' w' => Jn sl inv ρ' w') Q) ρ w)
    (hy : b = false → C (thenK (fun ρ' w' => Jn sl inv ρ' w') Q) ρ w)
    (hk : ∀ a (f : Nat → Value) w', inv a w' → hvK (dstsC x ++ dstsC y) f ρ fun ρ => slK (sl a) ρ fun ρ => K ρ w') (hB : B = wpR P x := by rfl) (hC : C = wpR P y := by rfl) :
    CondP P x y B C b (thenK K Q) ρ w := by
  subst hB
  subst hC
  refine ⟨fun hb => ?_, fun hb => ?_⟩
  · refine wpR_imp x (wpR_frame x (hx hb)) ?_
    rintro e ρ2 w2 ⟨he, ha⟩
    cases e <;> simp only [thenK] at he ⊢
    · obtain ⟨a, hm, hi⟩ := he
      exact slK_mt _ hm (hvK_agree _ (ha.mono fun i hi => List.mem_append_left _ hi) (hk a (gt ρ2) w2 hi))
    all_goals exact he
  · refine wpR_imp y (wpR_frame y (hy hb)) ?_
    rintro e ρ2 w2 ⟨he, ha⟩
    cases e <;> simp only [thenK] at he ⊢
    · obtain ⟨a, hm, hi⟩ := he
      exact slK_mt _ hm (hvK_agree _ (ha.mono fun i hi => List.mem_append_right _ hi) (hk a (gt ρ2) w2 hi))
    all_goals exact he
/-- The ways out of a block meet behind it. -/
theorem block_join {P : Program} {c : Code} {B : Mng} {id : Nat} {K : List Value → World → Prop} {Q : Exit → List Value → World → Prop} {ρ : List Value} {w : World} {α : Type} (sl : α → List (Nat × Value)) (inv : α → World → Prop)
    (hx : B (blockK id (thenK (fun ρ' w' => Jn sl inv ρ' w') Q)) ρ w)
    (hk : ∀ a (f : Nat → Value) w', inv a w' → hvK (dstsC c) f ρ fun ρ => slK (sl a) ρ fun ρ => K ρ w') (hB : B = wpR P c := by rfl) :
    BlkP P c B id (thenK K Q) ρ w := by
  subst hB
  refine ⟨wpR_imp c (wpR_frame c hx) ?_⟩
  have key : ∀ ρ2 w2, Jn sl inv ρ2 w2 → agree (dstsC c) ρ ρ2 → K ρ2 w2 := fun ρ2 w2 ⟨a, hm, hi⟩ ha =>
    slK_mt _ hm (hvK_agree _ ha (hk a (gt ρ2) w2 hi))
  rintro e ρ2 w2 ⟨he, ha⟩
  cases e <;> simp only [blockK, thenK] at he ⊢
  · exact key _ _ he ha
  · split at he
    · exact key _ _ he ha
    · exact he
  all_goals exact he

theorem wpR_fine (P : Program) (c : Code) : Fine P c (wpR P c) := ⟨wpR_sound c, wpR_imp c, wpR_frame c⟩
/-- A scope with jumps forward to one label: the ways meet behind it. -/
theorem scope_join {P : Program} {c : Code} {B : Mng} {Q : Exit → List Value → World → Prop} {ρ : List Value} {w : World} {α : Type} (l : Nat) (rest : Code) (hf : findLabel c l = some rest) (sl : α → List (Nat × Value)) (inv : α → World → Prop)
    (hx : B (jumpK l (fun ρ' w' => Jn sl inv ρ' w') Q) ρ w)
    (hk : ∀ a (f : Nat → Value) w', inv a w' → hvK (dstsC c) f ρ fun ρ => slK (sl a) ρ fun ρ => wpR P rest (noGotoK Q) ρ w') (hB : B = wpR P c := by rfl) :
    ScopeP P c B Q ρ w := by
  subst hB
  refine .jumps l rest (wpR P rest) (wpR_fine P rest) (fun ρ' w' => Jn sl inv ρ' w' ∧ agree (dstsC c) ρ ρ') (fun _ _ => 0) hf (wpR_imp c (wpR_frame c hx) fun e ρ1 w1 ⟨he, ha⟩ => ?_) fun ρ1 w1 ⟨⟨a, hm, hi⟩, ha⟩ => wpR_imp rest (slK_mt _ hm (hvK_agree _ ha (hk a (gt ρ1) w1 hi))) fun e ρ2 w2 he => ?_
  · cases e <;> simp only [jumpK] at he ⊢ <;> first | exact ⟨he.1, he.2, ha⟩ | exact he
  · cases e <;> simp only [noGotoK, jumpK] at he ⊢ <;> exact he

/-! ## A function -/
inductive Done (R : Value → World → Prop) (v : Value) (w : World) : Prop
  | mk (h : R v w)
inductive ReadP (P : Program) (m : Sem Value) (w : World) (K : Value → Prop) : Prop
  | mk (v : Value) (h : m.run P w = .ok v w) (k : K v)
def repK (n : Nat) : List Value → (List Value → Prop) → Prop :=
  Nat.rec (motive := fun _ => List Value → (List Value → Prop) → Prop) (fun acc k => k acc) (fun _ ih acc k => ih (undef :: acc) k) n
theorem repK_succ (n : Nat) (acc : List Value) (k : List Value → Prop) : repK (n + 1) acc k = repK n (undef :: acc) k := rfl
def resK (P : Program) (ρ : List Value) (w : World) (l : List ResultVar) : (List Value → Prop) → Prop :=
  List.rec (motive := fun _ => (List Value → Prop) → Prop) (fun k => k []) (fun x _ ih k => match x with
    | .tmp t => gtK ρ t fun v => ih fun vs => k (v :: vs)
    | .cell a t => gtK ρ a fun v => match v with
      | .pointer p => match p with
        | some a => ReadP P (loadVar t a) w fun v => ih fun vs => k (v :: vs)
        | none => False
      | _ => False) l
theorem resK_tmp (P : Program) (ρ : List Value) (w : World) (t : Nat) (r : List ResultVar) (k : List Value → Prop) : resK P ρ w (.tmp t :: r) k = gtK ρ t fun v => resK P ρ w r fun vs => k (v :: vs) := rfl
theorem resK_cell (P : Program) (ρ : List Value) (w : World) (a : Nat) (t : TypeId) (r : List ResultVar) (k : List Value → Prop) : resK P ρ w (.cell a t :: r) k = gtK ρ a fun v => match v with
      | .pointer p => match p with
        | some a => ReadP P (loadVar t a) w fun v => resK P ρ w r fun vs => k (v :: vs)
        | none => False
      | _ => False := rfl
def oneK (R : Value → World → Prop) (w : World) (vs : List Value) : Prop :=
  match vs with
  | [v] => Done R v w
  | [] => Done R (.tuple #[]) w
  | u :: v :: r => Done R (.tuple (u :: v :: r).toArray) w
def bodyK (P : Program) (rs : List ResultVar) (R : Value → World → Prop) (e : Exit) (ρ : List Value) (w : World) : Prop :=
  match e with
  | .normal => resK P ρ w rs fun vs => oneK R w vs
  | .ret => resK P ρ w rs fun vs => oneK R w vs
  | _ => False
def entK (P : Program) (fn : Func) (c : Code) (args : List Value) (w : World) (R : Value → World → Prop) : Prop :=
  repK (fn.ntmps - args.length) [] fun us => appK args us fun ρ => wpR P c (bodyK P fn.results.toList R) ρ w
theorem repK_eq (n : Nat) (acc : List Value) (k : List Value → Prop) : repK n acc k = k (List.replicate n undef ++ acc) := by
  induction n generalizing acc with
  | zero => rfl
  | succ n ih => simp only [repK_succ, ih]; congr 1; rw [List.replicate_succ', List.append_assoc]; rfl
def resF (tmps : Array Value) : ResultVar → Sem Value
  | .tmp t => pure (tmps.getD t undef)
  | .cell a t => do loadVar t (← asAddr (tmps.getD a undef))
theorem results_eq (fn : Func) (tmps : Array Value) : results fn tmps = (do let vs ← fn.results.mapM (resF tmps); pure (if h : vs.size = 1 then vs[0] else .tuple vs)) := by
  have : (fun (x : ResultVar) => (match x with
    | .tmp t => pure (tmps.getD t undef)
    | .cell a t => do loadVar t (← asAddr (tmps.getD a undef)) : Sem Value)) = resF tmps := by
    funext x; cases x <;> rfl
  unfold results
  rw [← this]
  rfl
theorem resK_sound {P : Program} {ρ : List Value} {w : World} : ∀ (rs : List ResultVar) {k : List Value → Prop}, resK P ρ w rs k →
    ∃ vs, (rs.mapM (resF ρ.toArray)).run P w = .ok vs w ∧ k vs := by
  intro rs
  induction rs with
  | nil => exact fun h => ⟨[], by simp, h⟩
  | cons x r ih =>
    intro k h
    cases x with
    | tmp t =>
      simp only [resK_tmp, gtK_eq] at h
      obtain ⟨vs, h1, h2⟩ := ih h
      exact ⟨gt ρ t :: vs, by rw [List.mapM_cons]; simp only [resF, Sem.run_bind, Sem.run_pure, Result.andThen_ok, h1, gt_eq], h2⟩
    | cell a t =>
      simp only [resK_cell, gtK_eq] at h
      split at h
      · rename_i p hp
        split at h
        · rename_i ad
          obtain ⟨v, hv, h⟩ := h
          obtain ⟨vs, h1, h2⟩ := ih h
          refine ⟨_, ?_, h2⟩
          rw [List.mapM_cons]
          rw [gt_eq] at hp
          simp only [resF, hp, asAddr, pure_bind, Sem.run_bind, Sem.run_pure, Result.andThen_ok, hv, h1]
        · exact h.elim
      · exact h.elim
theorem bodyK_sound {P : Program} {fn : Func} {R : Value → World → Prop} {e : Exit} {a : Act} {w : World} (h : lift (bodyK P fn.results.toList R) e a w) :
    bodyPost P fn (fun e w' => ∃ v, e = .returned v ∧ R v w') e a w := by
  obtain ⟨hd, h⟩ := h
  rw [act_eta hd]
  have key : (resK P a.tmps.toList w fn.results.toList fun vs => oneK R w vs) →
      ∃ v, (results fn a.tmps.toList.toArray).run P w = .ok v w ∧ ∃ v', Ending.returned v = .returned v' ∧ R v' w := by
    intro h
    obtain ⟨vs, h1, h2⟩ := resK_sound _ h
    have hm : (fn.results.mapM (resF a.tmps.toList.toArray)).run P w = .ok vs.toArray w := by
      rw [Array.mapM_eq_mapM_toList]
      simp only [Sem.run_map, h1, Result.andThen_ok]
    unfold oneK at h2
    split at h2
    · rename_i v
      obtain ⟨h2⟩ := h2
      exact ⟨v, by rw [results_eq]; simp only [Sem.run_bind, hm, Result.andThen_ok]; rfl, v, rfl, h2⟩
    · obtain ⟨h2⟩ := h2
      exact ⟨_, by rw [results_eq]; simp only [Sem.run_bind, hm, Result.andThen_ok]; rfl, _, rfl, h2⟩
    · rename_i u v r
      obtain ⟨h2⟩ := h2
      refine ⟨.tuple (u :: v :: r).toArray, ?_, _, rfl, h2⟩
      rw [results_eq]; simp only [Sem.run_bind, hm, Result.andThen_ok, Sem.run_pure]
      rw [dif_neg (by simp)]
  cases e
  case normal => obtain ⟨v, h1, h2⟩ := key h; exact ⟨rfl, v, h1, h2⟩
  case ret => obtain ⟨v, h1, h2⟩ := key h; exact ⟨rfl, v, h1, h2⟩
  all_goals exact False.elim h
theorem Fc.of {P : Program} {f : FuncId} {fn : Func} {c : Code} {args : Array Value} {w : World} {R : Value → World → Prop}
    (hf : P.funcs[f]? = some fn) (hb : fn.body = some c) (hn : (fn.name == "runtime.NumGoroutine") = false) (h : entK P fn c args.toList w R) : Fc P f args w R := by
  refine ⟨?_, ?_⟩
  · simp only [callFunc, Sem.run_bind, program, Sem.run, Result.andThen_ok, hf]
    rw [if_neg (by rw [hn]; decide), if_neg (by rw [hb]; simp)]
    rfl
  · refine calls_of_wp hf hb ?_
    unfold entK at h
    rw [repK_eq, appK_eq, List.append_nil] at h
    have := wpR_sound c h
    have e : (args.toList ++ List.replicate (fn.ntmps - args.toList.length) undef).toArray = args ++ Array.replicate (fn.ntmps - args.size) undef := by
      apply Array.ext'; simp
    rw [e] at this
    exact wp_mono this fun e a w h => bodyK_sound h
end Go.Proofs.YtcpniokopahakaaDoor.Eng
