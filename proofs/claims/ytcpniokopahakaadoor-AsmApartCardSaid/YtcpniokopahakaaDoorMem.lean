import Derived.Test.YtcpniokopahakaaDoorEng
import Derived.Laws.Slices
import Derived.Laws.Small
import Derived.Laws.StructEq
import Derived.Laws.Pointers
import Derived.Laws.Cover3
import Derived.Laws.Strings
import Derived.Laws.BytesString
import Derived.Laws.Build
import Derived.Laws.OwnMore
import Derived.Laws.MakeOwn
import Derived.Laws.CopyOwn
import Derived.Laws.BytesArg
import Derived.Below
import Derived.KernelRfl
namespace Go.Proofs.YtcpniokopahakaaDoor.Eng
open Go Go.RowKit
set_option linter.unusedVariables false
variable {P : Program} {w : World} {K : Value → World → Prop}

theorem Fc.arg {f : FuncId} {args args' : Array Value} {R : Value → World → Prop} (h : Fc P f args w R) (e : args = args') : Fc P f args' w R := e ▸ h
/-! ## Numbers -/
theorem vWrap_id {k : IntKind} {n : Int} (h0 : k.min ≤ n) (h1 : n ≤ k.max) : vWrap k n = n := by
  unfold vWrap
  cases k <;> simp [IntKind.wrap, IntKind.min, IntKind.max, IntKind.bits, IntKind.signed] at * <;> omega
theorem wi64 {n : Int} (h : -9223372036854775808 ≤ n ∧ n ≤ 9223372036854775807) : vWrap .i64 n = n := vWrap_id (by simpa [IntKind.min, IntKind.signed, IntKind.bits] using h.1) (by simpa [IntKind.max, IntKind.signed, IntKind.bits] using h.2)
theorem wi32 {n : Int} (h : -2147483648 ≤ n ∧ n ≤ 2147483647) : vWrap .i32 n = n := vWrap_id (by simpa [IntKind.min, IntKind.signed, IntKind.bits] using h.1) (by simpa [IntKind.max, IntKind.signed, IntKind.bits] using h.2)
theorem wu64 {n : Int} (h : 0 ≤ n ∧ n ≤ 18446744073709551615) : vWrap .u64 n = n := vWrap_id (by simpa [IntKind.min, IntKind.signed, IntKind.bits] using h.1) (by simpa [IntKind.max, IntKind.signed, IntKind.bits] using h.2)
theorem wu32 {n : Int} (h : 0 ≤ n ∧ n ≤ 4294967295) : vWrap .u32 n = n := vWrap_id (by simpa [IntKind.min, IntKind.signed, IntKind.bits] using h.1) (by simpa [IntKind.max, IntKind.signed, IntKind.bits] using h.2)
theorem wu8 {n : Int} (h : 0 ≤ n ∧ n ≤ 255) : vWrap .u8 n = n := vWrap_id (by simpa [IntKind.min, IntKind.signed, IntKind.bits] using h.1) (by simpa [IntKind.max, IntKind.signed, IntKind.bits] using h.2)
theorem vLt_t {a b : Int} (h : vLt a b = true) : a < b := by rw [vLt_def] at h; simpa using h
theorem vLt_f {a b : Int} (h : vLt a b = false) : b ≤ a := by rw [vLt_def] at h; simpa using h
theorem vLe_t {a b : Int} (h : vLe a b = true) : a ≤ b := by rw [vLe_def] at h; simpa using h
theorem vLe_f {a b : Int} (h : vLe a b = false) : b < a := by rw [vLe_def] at h; simpa using h
theorem vEq_t {a b : Int} (h : vEq a b = true) : a = b := by rw [vEq_def] at h; simpa using h
theorem vEq_f {a b : Int} (h : vEq a b = false) : a ≠ b := by rw [vEq_def] at h; simpa using h
theorem vNe_t {a b : Int} (h : vNe a b = true) : a ≠ b := by rw [vNe_def] at h; simpa using h
theorem vNe_f {a b : Int} (h : vNe a b = false) : a = b := by rw [vNe_def] at h; simpa using h
theorem vLt_iff {a b : Int} : vLt a b = decide (a < b) := vLt_def _ _
theorem vLe_iff {a b : Int} : vLe a b = decide (a ≤ b) := vLe_def _ _
theorem vEq_iff {a b : Int} : vEq a b = decide (a = b) := by rw [vEq_def]; rw [Bool.eq_iff_iff]; simp
theorem vNe_iff {a b : Int} : vNe a b = !decide (a = b) := by rw [vNe_def]; rw [Bool.eq_iff_iff]; simp

theorem rConvInt {s d : TypeId} {k0 k : IntKind} {n : Int} (hs : (P.underlying s).isSome = true) (hd : P.underlying d = some (.int k)) (h : K (.int k (vWrap k n)) w) :
    RunP P (convert s d (.int k0 n)) w K := by
  obtain ⟨ds, hds⟩ := Option.isSome_iff_exists.1 hs
  refine ⟨_, w, ?_, h⟩
  unfold convert
  simp only [Sem.run_bind, run_underlying hds, run_underlying hd, Result.andThen_ok, Conv.intToInt]
  unfold vWrap; rfl
theorem rConvIntE {s d : TypeId} {k0 k : IntKind} {n : Int} (m : Int) (e : vWrap k n = m) (hs : (P.underlying s).isSome = true) (hd : P.underlying d = some (.int k)) (h : K (.int k m) w) :
    RunP P (convert s d (.int k0 n)) w K := rConvInt hs hd (e ▸ h)
theorem rCompl {k : IntKind} {n : Int} (m : Int) (e : vXor k (if k.signed then -1 else k.max) n = m) (h : K (.int k m) w) : RunP P (Op.unary .xor (.int k n)) w K := by
  refine ⟨_, w, ?_, h⟩
  rw [← e]
  simp [Op.unary, Op.intBits, vXor]
theorem rMax {t : Array TypeId} {ty : TypeId} {k k' : IntKind} {a b : Int} (h : K (.int k (max a b)) w) : RunP P (Builtin.max_ t ty #[.int k a, .int k' b]) w K := by
  refine ⟨_, w, ?_, h⟩
  have : (if b > a then b else a) = max a b := by omega
  simp [Builtin.max_, Builtin.max2, this]
theorem rMin {t : Array TypeId} {ty : TypeId} {k k' : IntKind} {a b : Int} (h : K (.int k (min a b)) w) : RunP P (Builtin.min_ t ty #[.int k a, .int k' b]) w K := by
  refine ⟨_, w, ?_, h⟩
  have : (if b < a then b else a) = min a b := by omega
  simp [Builtin.min_, Builtin.min2, this]

/-! ## Strings -/
def bs (l : List UInt8) : ByteArray := ⟨l.toArray⟩
theorem bs_data (l : List UInt8) : (bs l).data.toList = l := rfl
theorem bs_size (l : List UInt8) : (bs l).size = l.length := by simp [bs, ByteArray.size]
theorem bs_of (s : ByteArray) : s = bs s.data.toList := by cases s; simp [bs]
theorem bs_toList (l : List UInt8) : (bs l).toList = l := by simp [bs]
theorem bs_extract (l : List UInt8) (i j : Nat) : (bs l).extract i j = bs ((l.take j).drop i) := by
  apply ByteArray.ext
  simp only [bs, ByteArray.data_extract]
  apply Array.ext'
  simp [List.drop_take]
theorem bs_append (a b : List UInt8) : bs a ++ bs b = bs (a ++ b) := by
  apply ByteArray.ext
  simp [bs]
theorem bs_inj {a b : List UInt8} (h : bs a = bs b) : a = b := by
  have := congrArg (fun s => s.data.toList) h; simpa [bs] using this
theorem rLenStr {t ty : TypeId} {s : List UInt8} (ht : P.underlying t = some .string) (h : K (.int .i64 s.length) w) : RunP P (Builtin.len_ #[t] ty #[.string (bs s)]) w K :=
  ⟨_, w, run_len_string (P := P) w t ty (bs s) ht, by rw [bs_size]; exact h⟩
theorem rLenSl {t ty e : TypeId} {a : Option Addr} {n c : Nat} (ht : P.underlying t = some (.slice e)) (h : K (.int .i64 n) w) : RunP P (Builtin.len_ #[t] ty #[.slice a n c]) w K :=
  ⟨_, w, by simp [Builtin.len_, run_underlying ht, goInt], h⟩
theorem rIdxStr {t : TypeId} {s : List UInt8} {k : IntKind} {i : Int} (ht : P.underlying t = some .string) (j : Nat) (hj : i = j) (hl : j < s.length) (h : K (.int .u8 (s[j].toNat : Int)) w) :
    RunP P (Instr.index t (.string (bs s)) (.int k i)) w K := by
  subst hj
  refine ⟨_, w, ?_, h⟩
  rw [run_index_string (P := P) w t (bs s) k j ht, dif_pos ⟨by omega, by rw [bs_size]; omega⟩]
  rfl
theorem rSub {t : TypeId} {s : List UInt8} {kl kh : IntKind} {l h : Int} (ht : P.underlying t = some .string) (i j : Nat) (hi : l = i) (hj : h = j) (hij : i ≤ j) (hl : j ≤ s.length)
    (k : K (.string (bs ((s.take j).drop i))) w) : RunP P (Instr.sliceAt t (.string (bs s)) (some (.int kl l)) (some (.int kh h)) none) w K := by
  subst hi; subst hj
  refine ⟨_, w, ?_, k⟩
  have hb : (bs s).size = s.length := bs_size s
  rw [run_sliceAt_string (P := P) w t _ _ _ _ ht]
  simp [Instr.slice, run_underlying ht, Instr.sliceBounds, run_sliceBound, hb, bs_extract, hij, hl]
theorem rSubL {t : TypeId} {s : List UInt8} {kl : IntKind} {l : Int} (ht : P.underlying t = some .string) (i : Nat) (hi : l = i) (hl : i ≤ s.length)
    (k : K (.string (bs (s.drop i))) w) : RunP P (Instr.sliceAt t (.string (bs s)) (some (.int kl l)) none none) w K := by
  subst hi
  refine ⟨_, w, ?_, k⟩
  have hb : (bs s).size = s.length := bs_size s
  rw [run_sliceAt_string (P := P) w t _ _ _ _ ht, run_slice_string_l (P := P) w t _ ht kl i (by omega) (by omega)]
  simp [hb, bs_extract]
theorem rSubH {t : TypeId} {s : List UInt8} {kh : IntKind} {h : Int} (ht : P.underlying t = some .string) (j : Nat) (hj : h = j) (hl : j ≤ s.length)
    (k : K (.string (bs (s.take j))) w) : RunP P (Instr.sliceAt t (.string (bs s)) none (some (.int kh h)) none) w K := by
  subst hj
  refine ⟨_, w, ?_, k⟩
  have hb : (bs s).size = s.length := bs_size s
  rw [run_sliceAt_string (P := P) w t _ _ _ _ ht, run_slice_string_h (P := P) w t _ ht kh j (by omega) (by omega)]
  simp [bs_extract]
theorem rCat {t : TypeId} {x y : Operand} {a b : List UInt8} (hl : a.length + b.length ≤ 9223372036854775807) (k : K (.string (bs (a ++ b))) w) :
    RunP P (do eqGuard .add t x y (.string (bs a)) (.string (bs b)); binOp .add t (.string (bs a)) (.string (bs b))) w K := by
  refine ⟨_, w, ?_, k⟩
  simp only [eqGuard_add, pure_bind, binOp_string_add, Op.stringOp]
  rw [if_neg (by simp [bs_size]; omega)]
  simp [bs_append]
theorem rStrEq {t : TypeId} {x y : Operand} {a b : List UInt8} (k : K (.bool (decide (a = b))) w) :
    RunP P (do eqGuard .eql t x y (.string (bs a)) (.string (bs b)); binOp .eql t (.string (bs a)) (.string (bs b))) w K := by
  refine ⟨_, w, ?_, k⟩
  simp only [eqGuard_at_string, pure_bind, binOp_string_eql, bs_toList, Sem.run_pure]
  congr 2
  rw [Bool.eq_iff_iff]; simp
theorem rStrNe {t : TypeId} {x y : Operand} {a b : List UInt8} (k : K (.bool (!decide (a = b))) w) :
    RunP P (do eqGuard .neq t x y (.string (bs a)) (.string (bs b)); binOp .neq t (.string (bs a)) (.string (bs b))) w K := by
  refine ⟨_, w, ?_, k⟩
  simp only [eqGuard_at_string, pure_bind, binOp_string_neq, bs_toList, Sem.run_pure]
  congr 3
  rw [Bool.eq_iff_iff]; simp
theorem rBoolEq {t : TypeId} {x y : Operand} {a b : Bool} (hu : P.underlying t = some .bool) (k : K (.bool (a == b)) w) :
    RunP P (do eqGuard .eql t x y (.bool a) (.bool b); binOp .eql t (.bool a) (.bool b)) w K := by
  refine ⟨_, w, ?_, k⟩
  simp only [eqGuard_at_bool, pure_bind, run_eql_bool (P := P) w t a b hu]
theorem rBoolNe {t : TypeId} {x y : Operand} {a b : Bool} (hu : P.underlying t = some .bool) (k : K (.bool (!(a == b))) w) :
    RunP P (do eqGuard .neq t x y (.bool a) (.bool b); binOp .neq t (.bool a) (.bool b)) w K := by
  refine ⟨_, w, ?_, k⟩
  simp only [eqGuard_at_bool, pure_bind]
  simp only [binOp, Sem.run_bind, run_equal_bool (P := P) w t a b hu, Result.andThen_ok, Sem.run_pure]

/-! ## New blocks -/
def cellsK (v : Value) (k : List Value → Prop) : Prop :=
  match v with
  | .agg cs => k cs.toList
  | v => k [v]
theorem cellsK_eq (v : Value) (k : List Value → Prop) : cellsK v k = k v.cells.toList := by
  cases v <;> rfl
theorem rBox0 {t : TypeId} {v : Value} (h : cellsK v fun cs => K (.pointer (some ⟨w.heap.size, 0, none⟩)) (w.alloc (.cells cs.toArray t))) : RunP P (Instr.box t v) w K := by
  rw [cellsK_eq] at h
  exact ⟨_, _, rfl, by simpa using h⟩
theorem rAlloc0 {t : TypeId} {z : Value} (hz : (P.info? t).bind (fun i => i.zero) = some z) (h : cellsK z fun cs => K (.pointer (some ⟨w.heap.size, 0, none⟩)) (w.alloc (.cells cs.toArray t))) :
    RunP P (Instr.alloc t true (.tuple #[])) w K := by
  rw [cellsK_eq] at h
  cases hi : P.info? t with
  | none => simp [hi] at hz
  | some i =>
    simp only [hi, Option.bind_some] at hz
    refine ⟨_, _, ?_, h⟩
    simp [Instr.alloc, zeroValue, typeInfo, hi, hz, newVar, newRow]
def setsK (cs : List Value) (o : Nat) (l : List Value) (k : List Value → Prop) : Prop :=
  List.rec (motive := fun _ => List Value → Nat → Prop) (fun cs _ => k cs) (fun v _ ih cs o => stK cs o v fun cs => ih cs (o + 1)) l cs o
theorem setsK_cons (cs : List Value) (o : Nat) (v : Value) (vs : List Value) (k : List Value → Prop) : setsK cs o (v :: vs) k = stK cs o v fun cs => setsK cs (o + 1) vs k := rfl
def setsL : List Value → Nat → List Value → List Value
  | cs, _, [] => cs
  | cs, o, v :: vs => setsL (cs.set o v) (o + 1) vs
theorem setsK_eq (vs : List Value) : ∀ (cs : List Value) (o : Nat) (k : List Value → Prop), setsK cs o vs k = k (setsL cs o vs) := by
  induction vs with
  | nil => intros; rfl
  | cons v vs ih => intro cs o k; simp only [setsK_cons, setsL, stK_eq, ih]
theorem setsL_length (vs : List Value) : ∀ (cs : List Value) (o : Nat), (setsL cs o vs).length = cs.length := by
  induction vs with
  | nil => intros; rfl
  | cons v vs ih => intro cs o; simp [setsL, ih]
def trueK (b : Bool) (k : Prop) : Prop := match b with
  | true => k
  | false => False
theorem trueK_eq {b : Bool} {k : Prop} (h : trueK b k) : b = true ∧ k := by cases b; exact h.elim; exact ⟨rfl, h⟩
def fillK (place : Nat → Option (Nat × Nat)) (l : List (Nat × Value)) (cs : List Value) (k : List Value → Prop) : Prop :=
  List.rec (motive := fun _ => List Value → Prop) k (fun p _ ih cs => match p with
    | (i, v) => match place i with
      | none => False
      | some p => match p with
        | (o, n) => cellsK v fun vs => trueK (Nat.beq vs.length n && Nat.ble (o + n) cs.length) (setsK cs o vs fun cs => ih cs)) l cs
theorem fillK_cons (place : Nat → Option (Nat × Nat)) (i : Nat) (v : Value) (r : List (Nat × Value)) (cs : List Value) (k : List Value → Prop) : fillK place ((i, v) :: r) cs k = match place i with
      | none => False
      | some p => match p with
        | (o, n) => cellsK v fun vs => trueK (Nat.beq vs.length n && Nat.ble (o + n) cs.length) (setsK cs o vs fun cs => fillK place r cs k) := rfl
theorem foldl_sets (vs : List Value) (o : Nat) : ∀ (j : Nat) (cs : Array Value), (vs.zipIdx j).foldl (fun cs (c, i) => cs.setIfInBounds (o + i) c) cs = (setsL cs.toList (o + j) vs).toArray := by
  induction vs with
  | nil => intro j cs; simp [setsL]
  | cons v vs ih => intro j cs; simp only [List.zipIdx_cons, List.foldl_cons, ih, setsL]; simp [Nat.add_assoc]
theorem fillK_sound {place : Nat → Option (Nat × Nat)} (ps : List (Nat × Value)) : ∀ {cs : List Value} {k : List Value → Prop}, fillK place ps cs k →
    ∃ cs', Instr.fill place cs.toArray ps = some cs' ∧ k cs'.toList := by
  induction ps with
  | nil => exact fun h => ⟨_, rfl, h⟩
  | cons p r ih =>
    obtain ⟨i, v⟩ := p
    intro cs k h
    simp only [fillK_cons, cellsK_eq, setsK_eq] at h
    split at h
    · exact h.elim
    · rename_i pr hp
      obtain ⟨o, n⟩ := pr
      dsimp only at h
      obtain ⟨hb, h⟩ := trueK_eq h
      simp only [Bool.and_eq_true, Nat.beq_eq, Nat.ble_eq] at hb
      obtain ⟨cs', h1, h2⟩ := ih h
      refine ⟨cs', ?_, h2⟩
      have hs : v.cells.size = n := by simpa using hb.1
      simp only [Instr.fill, hp]
      rw [if_neg (by simp [hs]; omega)]
      rw [← h1]
      congr 1
      have := foldl_sets v.cells.toList o 0 cs.toArray
      simp only [Nat.add_zero] at this
      rw [← this, ← Array.foldl_toList, Array.toList_zipIdx]
def zerosK (n : Nat) (z : List Value) : (List Value → Prop) → Prop :=
  Nat.rec (motive := fun _ => (List Value → Prop) → Prop) (fun k => k []) (fun _ ih k => ih fun cs => appK z cs k) n
theorem zerosK_succ (n : Nat) (z : List Value) (k : List Value → Prop) : zerosK (n + 1) z k = zerosK n z fun cs => appK z cs k := rfl
theorem zerosK_eq (n : Nat) (z : List Value) (k : List Value → Prop) : zerosK n z k = k (List.replicate n z).flatten := by
  induction n generalizing k with
  | zero => rfl
  | succ n ih => simp only [zerosK_succ, ih, appK_eq, List.replicate_succ, List.flatten_cons]
theorem zeros_eq (n : Nat) (z : Array Value) : ((Array.range (n * z.size)).map fun i => z[i % z.size]!) = (List.replicate n z.toList).flatten.toArray := by
  apply Array.ext'
  simp only [Array.toList_map, Array.toList_range]
  induction n with
  | zero => simp
  | succ n ih =>
    rw [Nat.succ_mul, List.range_add, List.map_append, ih, List.replicate_succ', List.flatten_append]
    congr 1
    simp only [List.flatten_cons, List.flatten_nil, List.append_nil, List.map_map]
    apply List.ext_getElem
    · simp
    · intro i h1 h2
      simp only [List.length_map, List.length_range] at h1
      simp only [List.getElem_map, List.getElem_range, Function.comp]
      rw [Nat.mul_comm, Nat.mul_add_mod, Nat.mod_eq_of_lt h1]
      simp [h1]
theorem rBuildSlice0 {t e : TypeId} {n sz : Nat} {z : Value} {ps : Array (Nat × Value)} (hu : P.underlying t = some (.slice e)) (hz : (P.info? e).map (fun i => (i.size, i.zero)) = some (sz, some z))
    (hsz : z.cells.size = sz) (hn : n * sz ≤ 16777216)
    (h : zerosK n z.cells.toList fun zs => fillK (fun i => some (i * sz, sz)) ps.toList zs fun cs => K (.slice (some ⟨w.heap.size, 0, none⟩) n n) (w.alloc (.cells cs.toArray e))) :
    RunP P (Instr.buildSlice t n ps) w K := by
  rw [zerosK_eq] at h
  cases hi : P.info? e with
  | none => simp [hi] at hz
  | some i =>
    simp only [hi, Option.map_some, Option.some.injEq, Prod.mk.injEq] at hz
    obtain ⟨h1, h2⟩ := hz
    obtain ⟨cs, hf, k⟩ := fillK_sound _ h
    refine ⟨_, _, ?_, k⟩
    have hb : ¬ (16777216 < n * sz) := by omega
    by_cases h0 : n * sz = 0
    · have : (List.replicate n z.cells.toList).flatten = [] := by
        apply List.eq_nil_of_length_eq_zero
        simp [hsz, h0]
      rw [this] at hf
      have hr : Array.range 0 = #[] := rfl
      simp [Instr.buildSlice, hr, run_underlying hu, sizeOf, typeInfo, hi, h1, h0, hf, newRow]
    · have hzz := zeros_eq n z.cells
      rw [hsz] at hzz
      simp [Instr.buildSlice, run_underlying hu, sizeOf, typeInfo, zeroValue, hi, h1, h0, h2, hb, hsz, hzz, hf, newRow]

/-! ## Blocks -/
/-- Block b is a row of these cells, whole. -/
def Blk (w : World) (b : Nat) (cs : List Value) (e : TypeId) : Prop := w.heap[b]? = some (.cells cs.toArray e (0, 0))
/-- At block b, from offset o on, lie these cells. -/
def At (w : World) (b o : Nat) (vs : List Value) : Prop := ∃ cs e fz, w.heap[b]? = some (.cells cs e fz) ∧ ∀ i v, vs[i]? = some v → cs[o + i]? = some v
/-- A new block. -/
structure New (w w' : World) (cs : List Value) (e : TypeId) : Prop where
  blk : Blk w' w.heap.size cs e
  below : Below w.heap.size w w'
  size : w'.heap.size = w.heap.size + 1
/-- Block b alone may have changed. -/
structure Upd (w w' : World) (b : Nat) : Prop where
  os : w'.os = w.os
  tape : w'.tape = w.tape
  output : w'.output = w.output
  size : w'.heap.size = w.heap.size
  block : ∀ k, k ≠ b → w'.heap[k]? = w.heap[k]?
theorem New.mk' (w : World) (cs : List Value) (e : TypeId) : New w (w.alloc (.cells cs.toArray e)) cs e :=
  ⟨heap_alloc_new w _, (Below.refl _ _).alloc (Nat.le_refl _) _, by simp⟩
theorem Upd.below {B : Nat} {w0 w w' : World} {b : Nat} (h : Upd w w' b) (hb : Below B w0 w) (hB : B ≤ b) : Below B w0 w' :=
  ⟨h.os.trans hb.os, h.tape.trans hb.tape, h.output.trans hb.output, by rw [h.size]; exact hb.size, fun k hk => (h.block k (by omega)).trans (hb.block k hk)⟩
theorem Blk.at {w : World} {b : Nat} {cs : List Value} {e : TypeId} (h : Blk w b cs e) : At w b 0 cs :=
  ⟨_, _, _, h, fun i v hi => by simpa using hi⟩
theorem Blk.lt {w : World} {b : Nat} {cs : List Value} {e : TypeId} (h : Blk w b cs e) : b < w.heap.size := (Array.getElem?_eq_some_iff.1 h).1
theorem At.lt {w : World} {b o : Nat} {vs : List Value} (h : At w b o vs) : b < w.heap.size := by
  obtain ⟨_, _, _, h, _⟩ := h; exact (Array.getElem?_eq_some_iff.1 h).1
theorem Blk.keep {w w' : World} {b : Nat} {cs : List Value} {e : TypeId} (h : Blk w b cs e) (hk : w'.heap[b]? = w.heap[b]?) : Blk w' b cs e := hk.trans h
theorem Blk.below {B : Nat} {w w' : World} {b : Nat} {cs : List Value} {e : TypeId} (h : Blk w b cs e) (hb : Below B w w') (hB : b < B) : Blk w' b cs e := h.keep (hb.block b hB)
theorem At.keep {w w' : World} {b o : Nat} {vs : List Value} (h : At w b o vs) (hk : w'.heap[b]? = w.heap[b]?) : At w' b o vs := by
  obtain ⟨cs, e, fz, h1, h2⟩ := h; exact ⟨cs, e, fz, hk.trans h1, h2⟩
theorem At.below {B : Nat} {w w' : World} {b o : Nat} {vs : List Value} (h : At w b o vs) (hb : Below B w w') (hB : b < B) : At w' b o vs := h.keep (hb.block b hB)
theorem At.sub {w : World} {b o : Nat} {vs : List Value} (h : At w b o vs) (i n : Nat) : At w b (o + i) ((vs.drop i).take n) := by
  obtain ⟨cs, e, fz, h1, h2⟩ := h
  refine ⟨cs, e, fz, h1, fun j v hj => ?_⟩
  rw [List.getElem?_take] at hj
  split at hj
  · rw [List.getElem?_drop] at hj; rw [Nat.add_assoc]; exact h2 _ _ hj
  · cases hj
theorem rBox {t : TypeId} {v : Value} (h : cellsK v fun cs => ∀ w', New w w' cs t → K (.pointer (some ⟨w.heap.size, 0, none⟩)) w') : RunP P (Instr.box t v) w K :=
  rBox0 (by rw [cellsK_eq] at h ⊢; exact h _ (New.mk' _ _ _))
theorem rAlloc {t : TypeId} {z : Value} (hz : (P.info? t).bind (fun i => i.zero) = some z) (h : cellsK z fun cs => ∀ w', New w w' cs t → K (.pointer (some ⟨w.heap.size, 0, none⟩)) w') :
    RunP P (Instr.alloc t true (.tuple #[])) w K :=
  rAlloc0 hz (by rw [cellsK_eq] at h ⊢; exact h _ (New.mk' _ _ _))
theorem fillK_imp {place : Nat → Option (Nat × Nat)} (ps : List (Nat × Value)) : ∀ {cs : List Value} {k k' : List Value → Prop}, fillK place ps cs k → (∀ cs, k cs → k' cs) → fillK place ps cs k' := by
  induction ps with
  | nil => exact fun h hk => hk _ h
  | cons p r ih =>
    obtain ⟨i, v⟩ := p
    intro cs k k' h hk
    simp only [fillK_cons, cellsK_eq, setsK_eq] at h ⊢
    split at h
    · exact h.elim
    · rename_i pr hp
      obtain ⟨o, n⟩ := pr
      dsimp only at h ⊢
      obtain ⟨hb, h⟩ := trueK_eq h
      rw [hb]; exact ih h hk
theorem rBuildSlice {t e : TypeId} {n sz : Nat} {z : Value} {ps : Array (Nat × Value)} (hu : P.underlying t = some (.slice e)) (hz : (P.info? e).map (fun i => (i.size, i.zero)) = some (sz, some z))
    (hsz : z.cells.size = sz) (hn : n * sz ≤ 16777216)
    (h : zerosK n z.cells.toList fun zs => fillK (fun i => some (i * sz, sz)) ps.toList zs fun cs => ∀ w', New w w' cs e → K (.slice (some ⟨w.heap.size, 0, none⟩) n n) w') :
    RunP P (Instr.buildSlice t n ps) w K :=
  rBuildSlice0 hu hz hsz hn (by rw [zerosK_eq] at h ⊢; exact fillK_imp _ h fun cs h => h _ (New.mk' _ _ _))

/-! ## Loads, stores, places -/
def aggB : TypeDesc → Bool
  | .struct _ | .array _ _ => true
  | _ => false
theorem isAgg_run {t : TypeId} {d : TypeDesc} (hu : P.underlying t = some d) : (isAgg t).run P w = .ok (aggB d) w := by
  unfold isAgg
  rw [Sem.run_bind, run_underlying hu w]
  cases d <;> rfl
theorem At.cell {w : World} {b o : Nat} {vs : List Value} (h : At w b o vs) {i : Nat} {v : Value} (hi : vs[i]? = some v) : w.cell? ⟨b, o + i, none⟩ = some v := by
  obtain ⟨cs, e, fz, h1, h2⟩ := h
  rw [cell_of_row w b (o + i) cs e fz h1]; exact h2 i v hi
theorem rLoadC {t : TypeId} {d : TypeDesc} {b o : Nat} {v : Value} (hc : w.cell? ⟨b, o, none⟩ = some v) (hu : P.underlying t = some d) (hd : aggB d = false) (k : K v w) :
    RunP P (Instr.loadAt t (.pointer (some ⟨b, o, none⟩))) w K := by
  refine ⟨v, w, ?_, k⟩
  simp [Instr.loadAt, Instr.sureAddr, loadVar, isAgg_run hu, hd, hc]
theorem rLoad {t : TypeId} {d : TypeDesc} {b o : Nat} {vs : List Value} (h : At w b o vs) (i : Nat) (hu : P.underlying t = some d) (hd : aggB d = false) (k : nthK vs i fun v => K v w) :
    RunP P (Instr.loadAt t (.pointer (some ⟨b, o + i, none⟩))) w K := by
  obtain ⟨v, hv, k⟩ := nthK_eq k
  exact rLoadC (h.cell hv) hu hd k
theorem rLoad0 {t : TypeId} {d : TypeDesc} {b o : Nat} {vs : List Value} (h : At w b o vs) (hu : P.underlying t = some d) (hd : aggB d = false) (k : nthK vs 0 fun v => K v w) :
    RunP P (Instr.loadAt t (.pointer (some ⟨b, o, none⟩))) w K := rLoad h 0 hu hd k
theorem rLoadA0 {t : TypeId} {d : TypeDesc} {b o : Nat} {vs : List Value} (h : At w b o vs) (hu : P.underlying t = some d) (hd : aggB d = true) (hs : (P.info? t).map (·.size) = some vs.length) (k : K (.agg vs.toArray) w) :
    RunP P (Instr.loadAt t (.pointer (some ⟨b, o, none⟩))) w K := by
  refine ⟨_, w, ?_, k⟩
  cases hi : P.info? t with
  | none => simp [hi] at hs
  | some i =>
    have hl : i.size = vs.length := by simpa [hi] using hs
    have := run_loadCells_list (P := P) w ⟨b, o, none⟩ vs (fun j v hv => by rw [Addr.add_lit]; exact h.cell hv)
    simp [Instr.loadAt, Instr.sureAddr, loadVar, isAgg_run hu, hd, sizeOf, typeInfo, hi, hl, this]
def dropK (l : List Value) : Nat → (List Value → Prop) → Prop :=
  List.rec (motive := fun _ => Nat → (List Value → Prop) → Prop) (fun _ k => k []) (fun x r ih n k => Nat.rec (motive := fun _ => Prop) (k (x :: r)) (fun m _ => ih m k) n) l
theorem dropK_succ (x : Value) (r : List Value) (n : Nat) (k : List Value → Prop) : dropK (x :: r) (n + 1) k = dropK r n k := rfl
def takeK (l : List Value) : Nat → (List Value → Prop) → Prop :=
  List.rec (motive := fun _ => Nat → (List Value → Prop) → Prop) (fun n k => Nat.rec (motive := fun _ => Prop) (k []) (fun _ _ => False) n) (fun x _ ih n k => Nat.rec (motive := fun _ => Prop) (k []) (fun m _ => ih m fun l => k (x :: l)) n) l
theorem dropK_eq (l : List Value) (n : Nat) (k : List Value → Prop) : dropK l n k = k (l.drop n) := by
  induction l generalizing n with
  | nil => cases n <;> rfl
  | cons x r ih => cases n with
    | zero => rfl
    | succ n => simp [dropK_succ, ih]
theorem takeK_eq {l : List Value} {n : Nat} {k : List Value → Prop} (h : takeK l n k) : n ≤ l.length ∧ k (l.take n) := by
  induction l generalizing n k with
  | nil => cases n with
    | zero => exact ⟨Nat.le_refl _, h⟩
    | succ n => exact h.elim
  | cons x r ih => cases n with
    | zero => exact ⟨Nat.zero_le _, h⟩
    | succ n => obtain ⟨h1, h2⟩ := ih (n := n) h; exact ⟨by simp; omega, by simpa using h2⟩
/-- A struct or array out of the middle of known cells. -/
theorem rLoadA {t : TypeId} {d : TypeDesc} {b o : Nat} {vs : List Value} (h : At w b o vs) (i : Nat) (hu : P.underlying t = some d) (hd : aggB d = true)
    (k : dropK vs i fun r => takeK r (P.cellsOf t) fun us => K (.agg us.toArray) w) :
    RunP P (Instr.loadAt t (.pointer (some ⟨b, o + i, none⟩))) w K := by
  rw [dropK_eq] at k
  obtain ⟨h1, h2⟩ := takeK_eq k
  refine rLoadA0 (h.sub i (P.cellsOf t)) hu hd ?_ h2
  cases hi : P.info? t with
  | none => simp [Program.underlying, hi] at hu
  | some j => simp [Program.cellsOf, hi] at h1 ⊢; omega
theorem rStoreC {t : TypeId} {e : TypeId} {b o : Nat} {cs : List Value} {v : Value} {K : World → Prop} (hb : Blk w b cs e) (ho : o < cs.length) (hs : (P.info? t).map (·.size) = some 1) (hv : v.oneCell' = true)
    (k : stK cs o v fun cs' => ∀ w', Upd w w' b → Blk w' b cs' e → K w') : DoP P (Instr.storeAt t (.pointer (some ⟨b, o, none⟩)) v) w K := by
  rw [stK_eq] at k
  cases hi : P.info? t with
  | none => simp [hi] at hs
  | some i =>
    have hl : i.size = 1 := by simpa [hi] using hs
    have hvc : v.cells = #[v] := by cases v <;> first | rfl | (simp [Value.oneCell'] at hv)
    have hc : w.cell? ⟨b, o, none⟩ = some cs[o] := by
      rw [cell_of_row w b o _ e (0, 0) hb]; simp [ho]
    have hf : w.frozen? ⟨b, o, none⟩ = false := frozen_of_row w b o _ e hb
    have hw : Upd w (w.setCell ⟨b, o, none⟩ v) b := ⟨rfl, rfl, rfl, by simp, fun k hk => heap_setCell_other w _ k v hk⟩
    have hw2 : Blk (w.setCell ⟨b, o, none⟩ v) b (cs.set o v) e := by
      unfold Blk
      rw [heap_setCell_same w b o _ e v hb]; simp
    refine ⟨_, ?_, k _ hw hw2⟩
    have hst : (store ⟨b, o, none⟩ v).run P w = .ok () (w.setCell ⟨b, o, none⟩ v) := by
      cases v <;> first | (simp [Value.oneCell'] at hv; done) | simp [store, Sem.run, hc, hf]
    simp [Instr.storeAt, Instr.sureAddr, storeVar, sizeOf, typeInfo, hi, hl, hvc, storeCells, Addr.add_zero', hst]
theorem rStoreL {t : TypeId} {e : TypeId} {b o : Nat} {cs : List Value} {v : Value} {K : World → Prop} (hb : Blk w b cs e) (ho : o < cs.length) (hs : (P.info? t).map (·.size) = some 1) (hv : v.oneCell' = true)
    (k : ∀ w', Upd w w' b → Blk w' b (cs.set o v) e → K w') : DoP P (Instr.storeAt t (.pointer (some ⟨b, o, none⟩)) v) w K :=
  rStoreC hb ho hs hv (by rw [stK_eq]; exact k)
theorem rIdx {t e : TypeId} {b o len cap : Nat} {ki : IntKind} {i : Int} (sz j p : Nat) (hj : i = j) (hl : j < len) (hp : o + j * sz = p) (ht : P.underlying t = some (.slice e)) (hs : (P.info? e).map (fun i => i.size) = some sz)
    (k : K (.pointer (some ⟨b, p, none⟩)) w) : RunP P (Instr.indexAt t (.slice (some ⟨b, o, none⟩) len cap) (.int ki i)) w K := by
  subst hj; subst hp
  refine ⟨_, w, ?_, k⟩
  cases hi' : P.info? e with
  | none => simp [hi'] at hs
  | some i' =>
    simp only [hi', Option.map_some, Option.some.injEq] at hs
    simp [Instr.indexAt, asIntOf, run_underlying ht, sizeOf, typeInfo, hi', hs, Addr.add_lit, hl]
theorem Upd.trans {w w' w'' : World} {b : Nat} (h : Upd w w' b) (k : Upd w' w'' b) : Upd w w'' b :=
  ⟨k.os.trans h.os, k.tape.trans h.tape, k.output.trans h.output, k.size.trans h.size, fun i hi => (k.block i hi).trans (h.block i hi)⟩
theorem Upd.refl (w : World) (b : Nat) : Upd w w b := ⟨rfl, rfl, rfl, rfl, fun _ _ => rfl⟩
def fldK (l : List Field) : Nat → (TypeId → Nat → Prop) → Prop :=
  List.rec (motive := fun _ => Nat → (TypeId → Nat → Prop) → Prop) (fun _ _ => False) (fun f _ ih n k => Nat.rec (motive := fun _ => Prop) (match f with
    | ⟨_, ty, off, _, _, _, _⟩ => k ty off) (fun m _ => ih m k) n) l
theorem fldK_eq {l : List Field} {i : Nat} {k : TypeId → Nat → Prop} (h : fldK l i k) : ∃ f, l[i]? = some f ∧ k f.type f.offset := by
  induction l generalizing i with
  | nil => exact h.elim
  | cons f r ih => cases i with
    | zero => exact ⟨f, rfl, h⟩
    | succ i => simpa using ih (i := i) h
theorem rFieldAt {s : TypeId} {fs : Array Field} {i b o : Nat} (hu : P.underlying s = some (.struct fs)) (h : fldK fs.toList i fun ty off => trueK (Nat.ble 1 (P.cellsOf ty)) (K (.pointer (some ⟨b, o + off, none⟩)) w)) :
    RunP P (Instr.fieldAt s (.pointer (some ⟨b, o, none⟩)) i) w K := by
  obtain ⟨f, hf, h⟩ := fldK_eq h
  obtain ⟨h1, h2⟩ := trueK_eq h
  refine ⟨_, w, ?_, h2⟩
  simp only [Array.getElem?_toList] at hf
  have h1 : 1 ≤ P.cellsOf f.type := by simpa using h1
  cases hi : P.info? f.type with
  | none => simp [Program.cellsOf, hi] at h1
  | some j =>
    have : j.size ≠ 0 := by simp [Program.cellsOf, hi] at h1; omega
    simp [Instr.fieldAt, run_underlying hu, hf, Instr.sureAddr, fieldPlace, sizeOf, typeInfo, hi, this, Addr.add_lit]
def partK (P : Program) (ty : TypeId) (cs : List Value) (off : Nat) (k : Value → Prop) : Prop :=
  match P.underlying ty with
  | some d => match aggB d with
    | true => dropK cs off fun r => takeK r (P.cellsOf ty) fun vs => k (.agg vs.toArray)
    | false => nthK cs off k
  | none => False
theorem partK_sound {ty : TypeId} {cs : List Value} {off : Nat} {k : Value → Prop} (h : partK P ty cs off k) : ∃ v, (part ty cs.toArray off).run P w = .ok v w ∧ k v := by
  unfold partK at h
  split at h
  · rename_i d hu
    split at h
    · rename_i hd
      rw [dropK_eq] at h
      obtain ⟨h1, h2⟩ := takeK_eq h
      refine ⟨_, ?_, h2⟩
      cases hi : P.info? ty with
      | none => simp [Program.underlying, hi] at hu
      | some i =>
        simp [part, isAgg_run hu, hd, sizeOf, typeInfo, hi, Program.cellsOf]
    · rename_i hd
      obtain ⟨v, hv, h⟩ := nthK_eq h
      exact ⟨v, by simp [part, isAgg_run hu, hd, hv], h⟩
  · exact h.elim
theorem rField {s : TypeId} {fs : Array Field} {i : Nat} {cs : Array Value} (hu : P.underlying s = some (.struct fs)) (h : fldK fs.toList i fun ty off => partK P ty cs.toList off fun v => K v w) :
    RunP P (Instr.field s (.agg cs) i) w K := by
  obtain ⟨f, hf, h⟩ := fldK_eq h
  obtain ⟨v, hv, h⟩ := partK_sound (w := w) h
  refine ⟨v, w, ?_, h⟩
  simp only [Array.getElem?_toList] at hf
  simp only [Array.toArray_toList] at hv
  simp [Instr.field, run_underlying hu, hf, asAgg, hv]
def placesK (P : Program) (l : List Field) : (List (Nat × Nat) → Prop) → Prop :=
  List.rec (motive := fun _ => (List (Nat × Nat) → Prop) → Prop) (fun k => k []) (fun f _ ih k => match f with
    | ⟨_, ty, off, _, _, _, _⟩ => ih fun l => k ((off, P.cellsOf ty) :: l)) l
theorem placesK_cons (f : Field) (r : List Field) (k : List (Nat × Nat) → Prop) : placesK P (f :: r) k = placesK P r fun l => k ((f.offset, P.cellsOf f.type) :: l) := by cases f; rfl
theorem placesK_eq (l : List Field) (k : List (Nat × Nat) → Prop) : placesK P l k = k (l.map fun f => (f.offset, P.cellsOf f.type)) := by
  induction l generalizing k with
  | nil => rfl
  | cons f r ih => simp [placesK_cons, ih]
theorem mapM_run {α β : Type} {g : α → Sem β} {h : α → β} : ∀ (l : List α), (∀ a, a ∈ l → (g a).run P w = .ok (h a) w) → (l.mapM g).run P w = .ok (l.map h) w
  | [], _ => by simp
  | a :: r, hl => by
    rw [List.mapM_cons]
    simp only [Sem.run_bind, hl a (List.mem_cons_self ..), Result.andThen_ok, mapM_run r fun b hb => hl b (List.mem_cons_of_mem _ hb), Sem.run_pure, List.map_cons]
theorem sizeOf_run {t : TypeId} (h : (P.info? t).isSome = true) : (sizeOf t).run P w = .ok (P.cellsOf t) w := by
  obtain ⟨j, hj⟩ := Option.isSome_iff_exists.1 h
  simp [sizeOf, typeInfo, hj, Program.cellsOf]
theorem rBuild {t : TypeId} {fs : Array Field} {z : Value} {ps : Array (Nat × Value)} (hu : P.underlying t = some (.struct fs)) (hz : (P.info? t).bind (fun i => i.zero) = some z)
    (hf : fs.toList.all (fun f => (P.info? f.type).isSome) = true)
    (h : placesK P fs.toList fun pl => cellsK z fun zs => fillK (fun i => pl[i]?) ps.toList zs fun cs => K (.agg cs.toArray) w) : RunP P (Instr.build t ps) w K := by
  rw [placesK_eq, cellsK_eq] at h
  obtain ⟨cs, h1, h2⟩ := fillK_sound _ h
  refine ⟨_, w, ?_, h2⟩
  cases hi : P.info? t with
  | none => simp [hi] at hz
  | some i =>
    simp only [hi, Option.bind_some] at hz
    have hm : (fs.mapM (m := Sem) fun f => do pure (f.offset, ← sizeOf f.type)).run P w = .ok (fs.toList.map fun f => (f.offset, P.cellsOf f.type)).toArray w := by
      rw [Array.mapM_eq_mapM_toList]
      rw [Sem.run_map, mapM_run (h := fun f => (f.offset, P.cellsOf f.type)) _ (fun f hm => ?_)]
      · rfl
      · have := List.all_eq_true.1 hf f hm
        simp only [Sem.run_bind, sizeOf_run this, Result.andThen_ok, Sem.run_pure]
    have hzv : (zeroValue t).run P w = .ok z w := by simp [zeroValue, typeInfo, hi, hz]
    simp only [Array.toArray_toList] at h1
    unfold Instr.build
    simp only [Sem.run_bind, hzv, Result.andThen_ok, run_underlying hu, hm, List.getElem?_toArray, h1, Sem.run_pure, Array.toArray_toList]
end Go.Proofs.YtcpniokopahakaaDoor.Eng
