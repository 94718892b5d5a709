/- Maps from numbers to numbers, as functions with a size. -/
import Derived.Test.YtcgenmddojgbpaaBase
import Derived.MapKept
import Derived.Maps.RangeRun
set_option maxRecDepth 100000
set_option linter.unusedVariables false
set_option linter.unusedSimpArgs false
namespace Go.Proofs.Ytcgenmddojgbpaa.Eng
open Go Go.RowKit
/-- What a list of pairs holds at a key. -/
def lk (m : List (Int × Int)) (k : Int) : Option Int := match m with
  | [] => none
  | p :: r => if p.1 = k then some p.2 else lk r k
abbrev MF := Int → Option Int
def mf0 : MF := fun _ => none
def upd (f : Int → Option Int) (k : Int) (o : Option Int) : Int → Option Int := fun x => if x = k then o else f x
theorem upd_same (f : Int → Option Int) (k : Int) (o : Option Int) : upd f k o k = o := if_pos rfl
theorem upd_ne (f : Int → Option Int) {k x : Int} (o : Option Int) (h : x ≠ k) : upd f k o x = f x := if_neg h
def enM (p : Int × Int) : Value × Value := (.int .i64 p.1, .int .i64 p.2)
def kv (e : MapEntry) : Value × Value := (e.key, e.val)
theorem lk_none {m : List (Int × Int)} {k : Int} : lk m k = none ↔ ∀ p ∈ m, p.1 ≠ k := by
  induction m with
  | nil => simp [lk]
  | cons p r ih =>
    rw [lk]
    split
    · rename_i h; simp [h]
    · rename_i h; rw [ih]; simp [h]
theorem lk_mem {m : List (Int × Int)} (hn : (m.map (·.1)).Nodup) {k v : Int} : lk m k = some v ↔ (k, v) ∈ m := by
  induction m with
  | nil => simp [lk]
  | cons p r ih =>
    rw [List.map_cons, List.nodup_cons] at hn
    rw [lk]
    split
    · rename_i h
      constructor
      · intro e; obtain rfl := Option.some.inj e; rw [← h]; exact List.mem_cons_self ..
      · intro e
        rcases List.mem_cons.1 e with e | e
        · rw [← e]
        · exact absurd (List.mem_map.2 ⟨_, e, rfl⟩) (h ▸ hn.1)
    · rename_i h
      rw [ih hn.2]
      constructor
      · intro e; exact List.mem_cons_of_mem _ e
      · intro e
        rcases List.mem_cons.1 e with e | e
        · exact absurd (by rw [← e]) h
        · exact e
/-- The entry of a key: its place, with nothing of that key ahead of it. -/
theorem lk_at {m : List (Int × Int)} {k v : Int} (h : lk m k = some v) : ∃ j, m[j]? = some (k, v) ∧ ∀ (i : Nat) (p : Int × Int), i < j → m[i]? = some p → p.1 ≠ k := by
  induction m with
  | nil => cases h
  | cons p r ih =>
    rw [lk] at h
    split at h
    · rename_i e
      obtain rfl := Option.some.inj h
      exact ⟨0, by subst e; rfl, fun i p hi => absurd hi (Nat.not_lt_zero i)⟩
    · rename_i e
      obtain ⟨j, h1, h2⟩ := ih h
      refine ⟨j + 1, h1, fun i q hi hq => ?_⟩
      cases i with
      | zero => obtain rfl := Option.some.inj hq; exact e
      | succ i => exact h2 i q (by omega) hq
theorem findNow_none {ik : IntKind} {k : Int} : ∀ (es : List MapEntry) (m : List (Int × Int)) (i : Nat), es.map kv = m.map enM → lk m k = none → Instr.findNow (.int ik) (.int .i64 k) es i = some none := by
  intro es
  induction es with
  | nil => intro m i _ _; rfl
  | cons e r ih =>
    intro m i he hl
    cases m with
    | nil => cases he
    | cons p m =>
      rw [List.map_cons, List.map_cons] at he
      injection he with h1 h2
      rw [lk] at hl
      split at hl
      · cases hl
      · rename_i hp
        have hk : e.key = .int .i64 p.1 := congrArg Prod.fst h1
        have hs : Instr.sameNow (.int ik) (.int .i64 k) e.key = some false := by
          rw [hk]
          show (if (IntKind.i64 : IntKind) = .i64 then some (k == p.1) else none) = some false
          rw [if_pos rfl]
          exact congrArg some (by simpa using fun h => hp h.symm)
        rw [Instr.findNow, hs]
        exact ih m (i + 1) h2 hl
theorem findNow_some {ik : IntKind} {k v : Int} : ∀ (es : List MapEntry) (m : List (Int × Int)) (i j : Nat), es.map kv = m.map enM → m[j]? = some (k, v) → (∀ (i' : Nat) (p : Int × Int), i' < j → m[i']? = some p → p.1 ≠ k) → Instr.findNow (.int ik) (.int .i64 k) es i = some (some (i + j, .int .i64 v)) := by
  intro es
  induction es with
  | nil =>
    intro m i j he hj _
    cases m with
    | nil => cases hj
    | cons p m => cases he
  | cons e r ih =>
    intro m i j he hj hb
    cases m with
    | nil => cases hj
    | cons p m =>
      rw [List.map_cons, List.map_cons] at he
      injection he with h1 h2
      have hk : e.key = .int .i64 p.1 := congrArg Prod.fst h1
      have hv : e.val = .int .i64 p.2 := congrArg Prod.snd h1
      have hs : ∀ b, (k == p.1) = b → Instr.sameNow (.int ik) (.int .i64 k) e.key = some b := fun b hb => by
        rw [hk]
        show (if (IntKind.i64 : IntKind) = .i64 then some (k == p.1) else none) = some b
        rw [if_pos rfl, hb]
      cases j with
      | zero =>
        obtain rfl := Option.some.inj hj
        rw [Instr.findNow, hs true (by simp), hv]
        rfl
      | succ j =>
        have hne := hb 0 p (by omega) rfl
        rw [Instr.findNow, hs false (by simpa using fun h => hne h.symm)]
        have := ih m (i + 1) j h2 hj (fun i' q hi hq => hb (i' + 1) q (by omega) hq)
        rw [show i + (j + 1) = i + 1 + j by omega]
        exact this
structure MapOk (es : Array MapEntry) (clock : Nat) (f : Int → Option Int) (m : List (Int × Int)) : Prop where
  row : es.toList.map kv = m.map enM
  keys : (m.map (·.1)).Nodup
  lk : ∀ k, lk m k = f k
  born : ∀ e ∈ es.toList, e.born < clock
  apart : (es.toList.map (·.born)).Nodup
/-- A map in block b: what it holds, and how much. -/
def Mp (b : Nat) (f : Int → Option Int) (n : Nat) : As := fun h => ∃ es clock m, h b = some (.map es clock) ∧ MapOk es clock f m ∧ m.length = n
/-- A map that is gone through by the iterator in block p: n entries are left; the last that came. -/
def Mi (b p : Nat) (f : Int → Option Int) (n0 n : Nat) (c : Option (Int × Int)) : As := fun h => ∃ es clock m seen, h b = some (.map es clock) ∧ MapOk es clock f m ∧ m.length = n0 ∧ h p = some (.mapIter (some b) clock seen clock) ∧ p ≠ b ∧
  (leftOf es seen).size = n ∧ (∀ q, c = some q → ∃ e ∈ es.toList, kv e = enM q ∧ ∃ s : Array Nat, seen = s.push e.born) ∧ ∀ k, h k ≠ none → k = b ∨ k = p
def hp2 (p : Nat) (y : Obj) (b : Nat) (x : Obj) : Hp := fun k => if k = p then some y else if k = b then some x else none
theorem hp2_p (p : Nat) (y : Obj) (b : Nat) (x : Obj) : hp2 p y b x p = some y := if_pos rfl
theorem hp2_b {p : Nat} (y : Obj) {b : Nat} (x : Obj) (h : p ≠ b) : hp2 p y b x b = some x := (if_neg (Ne.symm h)).trans (if_pos rfl)
theorem hp2_no {p k : Nat} (y : Obj) {b : Nat} (x : Obj) (h : k ≠ p) (h2 : k ≠ b) : hp2 p y b x k = none := (if_neg h).trans (if_neg h2)
theorem hp2_inv {p b k : Nat} {y x o : Obj} (h : hp2 p y b x k = some o) : (k = p ∧ o = y) ∨ (k ≠ p ∧ k = b ∧ o = x) := by
  unfold hp2 at h
  split at h
  · rename_i e; exact .inl ⟨e, (Option.some.inj h).symm⟩
  · rename_i e1
    split at h
    · rename_i e; exact .inr ⟨e1, e, (Option.some.inj h).symm⟩
    · cases h
theorem hp2_ne {p b k : Nat} {y x : Obj} (h : hp2 p y b x k ≠ none) : k = b ∨ k = p := by
  cases ho : hp2 p y b x k with
  | none => exact absurd ho h
  | some o => rcases hp2_inv ho with ⟨e, _⟩ | ⟨_, e, _⟩
              · exact .inr e
              · exact .inl e
section
variable {P : Program} {g : Glob} {w w' : World} {l : List As} {f : Int → Option Int} {n n0 j b p : Nat} {t kt et ty : TypeId} {k v : Int}
theorem keyInt : MapKept.IsKey (.int .i64) (.int .i64 k) := by trivial
theorem Sat.mp (H : Sat g w l) (j : Nat) (hj : l[j]? = some (Mp b f n)) : ∃ es clock m, w.heap[b]? = some (.map es clock) ∧ MapOk es clock f m ∧ m.length = n := by
  obtain ⟨a, ⟨es, clock, m, h1, h2, h3⟩, hs⟩ := H.part hj
  exact ⟨es, clock, m, hs b _ h1, h2, h3⟩
theorem rMakeMap {K : Value → World → Prop} (H : Sat g w l) (h : ∀ b w', Sat g w' (Mp b (fun _ => none) 0 :: l) → K (.map (some b)) w') : RunP P (Instr.makeMap t none) w K := by
  refine ⟨_, w.alloc (.map #[] 0), rfl, h _ _ (H.more ((Below.refl _ _).alloc (Nat.le_refl _) _) (a := fun k => if k = w.heap.size then some (.map #[] 0) else none) ⟨#[], 0, [], if_pos rfl, ⟨rfl, List.nodup_nil, fun _ => rfl, nofun, List.nodup_nil⟩, rfl⟩ (fun k o hk => ?_) fun k hk => if_neg (by omega))⟩
  dsimp only at hk
  split at hk
  · rename_i e; subst e; obtain rfl := Option.some.inj hk; exact heap_alloc_new w _
  · cases hk
theorem Sat.setMp {o : Obj} {A' : As} {es : Array MapEntry} {clock : Nat} {m : List (Int × Int)} (H : Sat g w l) (j : Nat) (hj : l[j]? = some (Mp b f n)) (hb : w.heap[b]? = some (.map es clock)) (hA : ∀ h : Hp, h b = some o → A' h) : Sat g { w with heap := w.heap.setIfInBounds b o } (l.set j A') := by
  obtain ⟨h1, h2⟩ := MapKept.heap_set (o' := o) hb
  refine H.step hj rfl rfl rfl fun a ha sa => ⟨fun k => if k = b then some o else none, hA _ (if_pos rfl), fun k o' hk => ?_, fun k hk hn => ?_⟩
  · dsimp only at hk
    split at hk
    · rename_i e; subst e; obtain rfl := Option.some.inj hk; exact h1
    · cases hk
  · obtain ⟨es', clock', m', h3, _⟩ := ha
    have hne : k ≠ b := fun e => by subst e; rw [h3] at hn; cases hn
    exact ⟨if_neg hne, h2 k hne⟩
theorem rMapLen {K : Value → World → Prop} (H : Sat g w l) (j : Nat) (hj : l[j]? = some (Mp b f n)) (ht : P.underlying t = some (.map kt et)) (h : K (.int .i64 n) w) : RunP P (Builtin.len_ #[t] ty #[.map (some b)]) w K := by
  obtain ⟨es, clock, m, hb, ok, hn⟩ := H.mp j hj
  refine ⟨_, w, ?_, h⟩
  have e : es.size = n := by
    have := congrArg List.length ok.row
    simpa [hn] using this
  simp [Builtin.len_, run_underlying ht, MapKept.run_getObj_map hb, Result.andThen, e]
  rfl
theorem run_zero {z : Value} (w : World) (hz : (P.info? et).bind (fun i => i.zero) = some z) : (zeroValue et).run P w = .ok z w := by
  cases hi : P.info? et with
  | none => rw [hi] at hz; cases hz
  | some i =>
    rw [hi] at hz
    simp only [Option.bind_some] at hz
    simp [zeroValue, typeInfo, hi, hz]
theorem rMapGet {K : Value → World → Prop} (H : Sat g w l) (j : Nat) (hj : l[j]? = some (Mp b f n)) (ht : P.underlying t = some (.map kt et)) (hk : P.underlying kt = some (.int .i64)) (hz : (P.info? et).bind (fun i => i.zero) = some (.int .i64 0))
    (h : ∀ x c, ((c = true ∧ f k = some x) ∨ (c = false ∧ f k = none ∧ x = 0)) → K (.tuple #[.int .i64 x, .bool c]) w) : RunP P (Instr.lookup t (.map (some b)) (.int .i64 k) true) w K := by
  obtain ⟨es, clock, m, hb, ok, hn⟩ := H.mp j hj
  have hl := ok.lk k
  cases hf : f k with
  | none =>
    rw [hf] at hl
    have h1 := findNow_none (ik := .i64) es.toList m 0 ok.row hl
    exact ⟨_, w, by simp [Instr.lookup, run_underlying ht, MapKept.run_getObj_map hb, MapKept.run_checkKey hk keyInt, MapKept.run_findKey hk h1, run_zero w hz, Result.andThen], h 0 false (.inr ⟨rfl, hf, rfl⟩)⟩
  | some x =>
    rw [hf] at hl
    obtain ⟨i, h2, h3⟩ := lk_at hl
    have h1 := findNow_some (ik := .i64) es.toList m 0 i ok.row h2 h3
    exact ⟨_, w, by simp [Instr.lookup, run_underlying ht, MapKept.run_getObj_map hb, MapKept.run_checkKey hk keyInt, MapKept.run_findKey hk h1, Result.andThen], h x true (.inl ⟨rfl, hf⟩)⟩
theorem rMapGet1 {K : Value → World → Prop} (H : Sat g w l) (j : Nat) (hj : l[j]? = some (Mp b f n)) (ht : P.underlying t = some (.map kt et)) (hk : P.underlying kt = some (.int .i64)) (hz : (P.info? et).bind (fun i => i.zero) = some (.int .i64 0))
    (h : ∀ x, x = (f k).getD 0 → K (.int .i64 x) w) : RunP P (Instr.lookup t (.map (some b)) (.int .i64 k) false) w K := by
  obtain ⟨es, clock, m, hb, ok, hn⟩ := H.mp j hj
  have hl := ok.lk k
  cases hf : f k with
  | none =>
    rw [hf] at hl
    have h1 := findNow_none (ik := .i64) es.toList m 0 ok.row hl
    exact ⟨_, w, by simp [Instr.lookup, run_underlying ht, MapKept.run_getObj_map hb, MapKept.run_checkKey hk keyInt, MapKept.run_findKey hk h1, run_zero w hz, Result.andThen], h 0 (by rw [hf]; rfl)⟩
  | some x =>
    rw [hf] at hl
    obtain ⟨i, h2, h3⟩ := lk_at hl
    have h1 := findNow_some (ik := .i64) es.toList m 0 i ok.row h2 h3
    exact ⟨_, w, by simp [Instr.lookup, run_underlying ht, MapKept.run_getObj_map hb, MapKept.run_checkKey hk keyInt, MapKept.run_findKey hk h1, Result.andThen], h x (by rw [hf]; rfl)⟩
theorem lk_snoc {m : List (Int × Int)} {k v : Int} (h : lk m k = none) (x : Int) : lk (m ++ [(k, v)]) x = if x = k then some v else lk m x := by
  induction m with
  | nil =>
    show (if k = x then some v else none) = _
    by_cases e : x = k
    · rw [if_pos e, if_pos e.symm]
    · rw [if_neg e, if_neg (Ne.symm e)]; rfl
  | cons p r ih =>
    rw [lk] at h
    split at h
    · cases h
    rename_i hp
    rw [List.cons_append, lk, lk]
    by_cases e : p.1 = x
    · rw [if_pos e, if_pos e, if_neg (fun e2 => hp (e.trans e2))]
    · rw [if_neg e, if_neg e]; exact ih h
theorem lk_set {m : List (Int × Int)} {k v v' : Int} {i : Nat} (hn : (m.map (·.1)).Nodup) (h : m[i]? = some (k, v)) (x : Int) : lk (m.set i (k, v')) x = if x = k then some v' else lk m x := by
  induction m generalizing i with
  | nil => cases h
  | cons p r ih =>
    rw [List.map_cons, List.nodup_cons] at hn
    cases i with
    | zero =>
      obtain rfl := Option.some.inj h
      rw [List.set_cons_zero, lk, lk]
      by_cases e : x = k
      · rw [if_pos e, if_pos e.symm]
      · rw [if_neg e, if_neg (fun e2 => e e2.symm), if_neg (fun e2 => e e2.symm)]
    | succ i =>
      rw [List.set_cons_succ, lk, lk]
      have hpk : p.1 ≠ k := fun e => hn.1 (e ▸ List.mem_map.2 ⟨_, List.mem_of_getElem? h, rfl⟩)
      by_cases e : p.1 = x
      · rw [if_pos e, if_pos e, if_neg (fun e2 => hpk (e.trans e2))]
      · rw [if_neg e, if_neg e]; exact ih hn.2 h
theorem lk_del {m : List (Int × Int)} {k v : Int} {i : Nat} (hn : (m.map (·.1)).Nodup) (h : m[i]? = some (k, v)) (x : Int) : lk (m.eraseIdx i) x = if x = k then none else lk m x := by
  induction m generalizing i with
  | nil => cases h
  | cons p r ih =>
    rw [List.map_cons, List.nodup_cons] at hn
    cases i with
    | zero =>
      obtain rfl := Option.some.inj h
      rw [List.eraseIdx_cons_zero, lk]
      by_cases e : x = k
      · rw [if_pos e]
        exact lk_none.2 fun q hq e2 => hn.1 (e ▸ e2 ▸ List.mem_map.2 ⟨q, hq, rfl⟩)
      · rw [if_neg e, if_neg (fun e2 => e e2.symm)]
    | succ i =>
      rw [List.eraseIdx_cons_succ, lk, lk]
      have hpk : p.1 ≠ k := fun e => hn.1 (e ▸ List.mem_map.2 ⟨_, List.mem_of_getElem? h, rfl⟩)
      by_cases e : p.1 = x
      · rw [if_pos e, if_pos e, if_neg (fun e2 => hpk (e.trans e2))]
      · rw [if_neg e, if_neg e]; exact ih hn.2 h
theorem rMapPut {K : World → Prop} (H : Sat g w l) (j : Nat) (hj : l[j]? = some (Mp b f n)) (ht : P.underlying t = some (.map kt et)) (hk : P.underlying kt = some (.int .i64))
    (h : ∀ n', n' = (if f k = none then n + 1 else n) → setA l j (Mp b (upd f k (some v)) n') fun l' => ∀ w', Sat g w' l' → K w') : DoP P (Instr.mapUpdate t (.map (some b)) (.int .i64 k) (.int .i64 v)) w K := by
  obtain ⟨es, clock, m, hb, ok, hn⟩ := H.mp j hj
  have hl := ok.lk k
  have h := h _ rfl
  rw [setA_eq] at h
  cases hf : f k with
  | none =>
    rw [hf] at hl
    have h1 := findNow_none (ik := .i64) es.toList m 0 ok.row hl
    refine ⟨_, by simp [Instr.mapUpdate, run_underlying ht, MapKept.run_getObj_map hb, MapKept.run_checkKey hk keyInt, MapKept.run_findKey hk h1, MapKept.run_setObj_map _ hb, Result.andThen]; rfl, h _ (H.setMp (m := m) j hj hb fun hp e => ⟨_, _, m ++ [(k, v)], e, ⟨?_, ?_, fun x => ?_, ?_, ?_⟩, ?_⟩)⟩
    · rw [Array.toList_push, List.map_append, List.map_append, ok.row]; rfl
    · rw [List.map_append, List.nodup_append]
      refine ⟨ok.keys, by simp, fun a ha c hc e => ?_⟩
      obtain ⟨q, hq, rfl⟩ := List.mem_map.1 ha
      have hc : c = k := by simpa using hc
      exact lk_none.1 hl q hq (e.trans hc)
    · rw [lk_snoc hl]; unfold upd; rw [ok.lk]
    · intro e he
      rw [Array.toList_push] at he
      rcases List.mem_append.1 he with he | he
      · have := ok.born e he; omega
      · obtain rfl : e = _ := by simpa using he
        exact Nat.lt_succ_self _
    · rw [Array.toList_push, List.map_append, List.nodup_append]
      refine ⟨ok.apart, by simp, fun a ha c hc e => ?_⟩
      obtain ⟨q, hq, rfl⟩ := List.mem_map.1 ha
      have hc : c = clock := by simpa using hc
      have := ok.born q hq
      omega
    · rw [List.length_append, hn, if_pos hf]; rfl
  | some x =>
    rw [hf] at hl
    obtain ⟨i, h2, h3⟩ := lk_at hl
    have h1 := findNow_some (ik := .i64) es.toList m 0 i ok.row h2 h3
    rw [Nat.zero_add] at h1
    have hil : i < es.size := by
      have := congrArg List.length ok.row
      have := (List.getElem?_eq_some_iff.1 h2).1
      simp at *; omega
    have hei : kv es[i] = enM (k, x) := by
      have := congrArg (·[i]?) ok.row
      simp only [List.getElem?_map, h2, Option.map_some, Array.getElem?_toList, Array.getElem?_eq_getElem hil] at this
      exact Option.some.inj this
    have hke : es[i].key = .int .i64 k := congrArg Prod.fst hei
    have hmod : (es.modify i fun e => { e with key := .int .i64 k, val := .int .i64 v }).toList = es.toList.set i { es[i] with key := .int .i64 k, val := .int .i64 v } := by
      rw [Array.toList_modify]
      apply List.ext_getElem?
      intro q
      rw [List.getElem?_modify, List.getElem?_set]
      split
      · rename_i e
        subst e
        simp [hil]
      · simp
    refine ⟨_, by simp [Instr.mapUpdate, run_underlying ht, MapKept.run_getObj_map hb, MapKept.run_checkKey hk keyInt, MapKept.run_findKey hk h1, hil, hke, MapKept.run_keyThatStays (d := .int .i64) keyInt, MapKept.run_setObj_map _ hb, Result.andThen]; rfl, h _ (H.setMp (m := m) j hj hb fun hp e => ⟨_, _, m.set i (k, v), e, ⟨?_, ?_, fun y => ?_, ?_, ?_⟩, ?_⟩)⟩
    · rw [hmod, List.map_set, List.map_set, ok.row]; rfl
    · rw [List.map_set]
      have : (m.map (·.1)).set i k = m.map (·.1) := by
        apply List.ext_getElem?
        intro q
        rw [List.getElem?_set]
        split
        · rename_i e
          subst e
          rw [if_pos (by simpa using (List.getElem?_eq_some_iff.1 h2).1), List.getElem?_map, h2]; rfl
        · rfl
      rw [this]; exact ok.keys
    · rw [lk_set ok.keys h2]; unfold upd; rw [ok.lk]
    · intro e he
      rw [hmod] at he
      rcases List.mem_or_eq_of_mem_set he with he | he
      · exact ok.born e he
      · rw [he]; exact ok.born es[i] (by simp)
    · rw [hmod, List.map_set]
      have : (es.toList.map (·.born)).set i es[i].born = es.toList.map (·.born) := by
        apply List.ext_getElem?
        intro q
        rw [List.getElem?_set]
        split
        · rename_i e
          subst e
          simp [hil]
        · rfl
      show ((es.toList.map (·.born)).set i es[i].born).Nodup
      rw [this]; exact ok.apart
    · rw [List.length_set, hn, if_neg (by rw [hf]; nofun)]
theorem rMapDel {K : Value → World → Prop} {kt2 : TypeId} (H : Sat g w l) (j : Nat) (hj : l[j]? = some (Mp b f n)) (ht : P.underlying t = some (.map kt et)) (hk : P.underlying kt = some (.int .i64))
    (h : ∀ n', n' = (if f k = none then n else n - 1) → setA l j (Mp b (upd f k none) n') fun l' => ∀ w', Sat g w' l' → K (.tuple #[]) w') : RunP P (Builtin.delete_ #[t, kt2] ty #[.map (some b), .int .i64 k]) w K := by
  obtain ⟨es, clock, m, hb, ok, hn⟩ := H.mp j hj
  have hl := ok.lk k
  have h := h _ rfl
  rw [setA_eq] at h
  cases hf : f k with
  | none =>
    rw [hf] at hl
    have h1 := findNow_none (ik := .i64) es.toList m 0 ok.row hl
    refine ⟨_, _, by simp [Builtin.delete_, run_underlying ht, MapKept.run_getObj_map hb, MapKept.run_checkKey hk keyInt, MapKept.run_findKey hk h1, MapKept.run_setObj_map _ hb, Result.andThen], h _ (H.setMp (m := m) j hj hb fun hp e => ⟨_, _, m, e, ⟨ok.row, ok.keys, fun x => ?_, ok.born, ok.apart⟩, ?_⟩)⟩
    · unfold upd
      split
      · rename_i e; rw [e]; exact hl
      · exact ok.lk x
    · rw [hn, if_pos hf]
  | some x =>
    rw [hf] at hl
    obtain ⟨i, h2, h3⟩ := lk_at hl
    have h1 := findNow_some (ik := .i64) es.toList m 0 i ok.row h2 h3
    rw [Nat.zero_add] at h1
    have hsub : (es.eraseIdxIfInBounds i).toList = es.toList.eraseIdx i := by simp
    refine ⟨_, _, by simp [Builtin.delete_, run_underlying ht, MapKept.run_getObj_map hb, MapKept.run_checkKey hk keyInt, MapKept.run_findKey hk h1, MapKept.run_setObj_map _ hb, Result.andThen]; rfl, h _ (H.setMp (m := m) j hj hb fun hp e => ⟨_, _, m.eraseIdx i, e, ⟨?_, ?_, fun x => ?_, ?_, ?_⟩, ?_⟩)⟩
    · rw [hsub, ChangeMaps.map_eraseIdx, ChangeMaps.map_eraseIdx, ok.row]
    · rw [ChangeMaps.map_eraseIdx]; exact (List.eraseIdx_sublist _ _).nodup ok.keys
    · rw [lk_del ok.keys h2]; unfold upd; rw [ok.lk]
    · intro e he
      rw [hsub] at he
      exact ok.born e ((List.eraseIdx_sublist _ _).subset he)
    · rw [hsub, ChangeMaps.map_eraseIdx]; exact (List.eraseIdx_sublist _ _).nodup ok.apart
    · rw [if_neg (by rw [hf]; nofun), List.length_eraseIdx, if_pos (List.getElem?_eq_some_iff.1 h2).1, hn]
theorem Sat.mi (H : Sat g w l) (j : Nat) {c : Option (Int × Int)} (hj : l[j]? = some (Mi b p f n0 n c)) : ∃ es clock m seen, w.heap[b]? = some (.map es clock) ∧ MapOk es clock f m ∧ m.length = n0 ∧ w.heap[p]? = some (.mapIter (some b) clock seen clock) ∧ p ≠ b ∧
  (leftOf es seen).size = n ∧ (∀ q, c = some q → ∃ e ∈ es.toList, kv e = enM q ∧ ∃ s : Array Nat, seen = s.push e.born) := by
  obtain ⟨a, ⟨es, clock, m, seen, h1, h2, h3, h4, h5, h6, h7, _⟩, hs⟩ := H.part hj
  exact ⟨es, clock, m, seen, hs b _ h1, h2, h3, hs p _ h4, h5, h6, h7⟩
theorem rRange {K : Value → World → Prop} (H : Sat g w l) (j : Nat) (hj : l[j]? = some (Mp b f n)) (ht : P.underlying t = some (.map kt et))
    (h : ∀ p, setA l j (Mi b p f n n none) fun l' => ∀ w', Sat g w' l' → K (.pointer (some ⟨p, 0, none⟩)) w') : RunP P (Instr.range t (.map (some b))) w K := by
  obtain ⟨es, clock, m, hb, ok, hn⟩ := H.mp j hj
  have h := h w.heap.size
  rw [setA_eq] at h
  have hlt : b < w.heap.size := (Array.getElem?_eq_some_iff.1 hb).1
  refine ⟨_, _, run_range_map w t kt et b es clock ht hb, h _ (H.step hj rfl rfl rfl fun a ha sa => ?_)⟩
  obtain ⟨es', clock', m', h1, _⟩ := ha
  refine ⟨hp2 w.heap.size (.mapIter (some b) clock #[] clock) b (.map es clock), ⟨es, clock, m, #[], hp2_b _ _ (by omega), ok, hn, hp2_p _ _ _ _, by omega, ?_, nofun, fun k hk => hp2_ne hk⟩, fun k o hk => ?_, fun k hk hn => ?_⟩
  · unfold leftOf
    rw [Array.filter_eq_self.2 (fun x _ => by simp)]
    have := congrArg List.length ok.row
    simpa [hn] using this
  · rcases hp2_inv hk with ⟨rfl, rfl⟩ | ⟨_, rfl, rfl⟩
    · exact heap_alloc_new w _
    · rw [Below.heap_alloc _ _ _ hlt]; exact hb
  · have hne : k ≠ b := fun e => by subst e; rw [h1] at hn; cases hn
    exact ⟨hp2_no _ _ (by omega) hne, Below.heap_alloc _ _ _ hk⟩
/-- One of those left comes, whichever. -/
theorem rNext {K : Value → World → Prop} {c : Option (Int × Int)} (H : Sat g w l) (j : Nat) (hj : l[j]? = some (Mi b p f n0 n c)) (h0 : n = 0 → K (.tuple #[.bool false]) w)
    (h1 : ∀ x v n', n = n' + 1 → f x = some v → setA l j (Mi b p f n0 n' (some (x, v))) fun l' => ∀ w', Sat g w' l' → K (.tuple #[.bool true, .int .i64 x, .int .i64 v]) w') : RunP P (Instr.next (.pointer (some ⟨p, 0, none⟩)) false ty) w K := by
  obtain ⟨es, clock, m, seen, hb, ok, hn, hp, hne, hl, _⟩ := H.mi j hj
  rcases run_next_at (P := P) w ty p b clock clock seen es clock hp hb ok.born (Nat.le_refl _) with ⟨e0, hr⟩ | ⟨e, he, w1, hw1, hr⟩
  · exact ⟨_, _, hr, h0 (by omega)⟩
  · have hef : e ∈ es.toList ∧ ¬ seen.contains e.born = true := by
      unfold leftOf at he
      simpa using he
    obtain ⟨i, hi, hie⟩ := List.mem_iff_getElem.1 hef.1
    have hrow := congrArg (·[i]?) ok.row
    simp only [List.getElem?_map, List.getElem?_eq_getElem hi, hie, Option.map_some] at hrow
    obtain ⟨q, hq, hqe⟩ : ∃ q, m[i]? = some q ∧ kv e = enM q := by
      cases hm : m[i]? with
      | none => rw [hm] at hrow; cases hrow
      | some q => rw [hm] at hrow; exact ⟨q, rfl, Option.some.inj hrow⟩
    have hfq : f q.1 = some q.2 := by rw [← ok.lk, lk_mem ok.keys]; exact List.mem_of_getElem? hq
    have hle : (leftOf es (seen.push e.born)).size < (leftOf es seen).size := by
      have hsz : ∀ s : Array Nat, (leftOf es s).size = (es.toList.filter (fun e => !s.contains e.born)).length := fun s => by unfold leftOf; rw [← Array.length_toList, Array.toList_filter]
      rw [hsz, hsz]
      refine filter_lt (fun e => !seen.contains e.born) (fun x => !(seen.push e.born).contains x.born) (fun x hx => ?_) e (by simpa using hef.2) (by simp) es.toList hef.1
      simp only [Array.contains_eq_mem, Array.mem_push, Bool.not_eq_true', decide_eq_false_iff_not, not_or] at hx ⊢
      exact hx.1
    have hle2 : (leftOf es seen).size ≤ (leftOf es (seen.push e.born)).size + 1 := by
      have hsz : ∀ s : Array Nat, (leftOf es s).size = (es.toList.filter (fun e => !s.contains e.born)).length := fun s => by unfold leftOf; rw [← Array.length_toList, Array.toList_filter]
      rw [hsz, hsz]
      have key : ∀ (r : List MapEntry), (r.map (·.born)).Nodup → (r.filter fun e => !seen.contains e.born).length ≤ (r.filter fun x => !(seen.push e.born).contains x.born).length + 1 ∧ ((∀ x ∈ r, x.born ≠ e.born) → (r.filter fun e => !seen.contains e.born).length ≤ (r.filter fun x => !(seen.push e.born).contains x.born).length) := by
        intro r
        induction r with
        | nil => intro _; exact ⟨Nat.zero_le _, fun _ => Nat.zero_le _⟩
        | cons y r ih =>
          intro hnd
          rw [List.map_cons, List.nodup_cons] at hnd
          obtain ⟨i1, i2⟩ := ih hnd.2
          have hc : (seen.push e.born).contains y.born = (seen.contains y.born || decide (y.born = e.born)) := by simp
          by_cases hye : y.born = e.born
          · have hr2 : ∀ x ∈ r, x.born ≠ e.born := fun x hx hxe => hnd.1 (List.mem_map.2 ⟨x, hx, hxe.trans hye.symm⟩)
            have := i2 hr2
            refine ⟨?_, fun h => absurd hye (h y (List.mem_cons_self ..))⟩
            rw [List.filter_cons, List.filter_cons]
            split <;> split <;> (try simp only [List.length_cons]) <;> omega
          · have e2 : (seen.push e.born).contains y.born = seen.contains y.born := by rw [hc, decide_eq_false hye, Bool.or_false]
            refine ⟨?_, fun h => ?_⟩
            · rw [List.filter_cons, List.filter_cons, e2]
              split <;> (try simp only [List.length_cons]) <;> omega
            · have := i2 fun x hx => h x (List.mem_cons_of_mem _ hx)
              rw [List.filter_cons, List.filter_cons, e2]
              split <;> (try simp only [List.length_cons]) <;> omega
      exact (key es.toList ok.apart).1
    have h1 := h1 q.1 q.2 (leftOf es (seen.push e.born)).size (by omega) hfq
    rw [setA_eq] at h1
    have hk1 : e.key = .int .i64 q.1 := congrArg Prod.fst hqe
    have hk2 : e.val = .int .i64 q.2 := congrArg Prod.snd hqe
    rw [hk1, hk2] at hr
    have hw : w1.heap = w.heap ∧ w1.os = w.os ∧ w1.tape = w.tape ∧ w1.output = w.output := by rcases hw1 with rfl | rfl <;> exact ⟨rfl, rfl, rfl, rfl⟩
    have hp1 : w1.heap[p]? = some (.mapIter (some b) clock seen clock) := by rw [hw.1]; exact hp
    obtain ⟨s1, s2⟩ := MapKept.heap_set (o' := .mapIter (some b) clock (seen.push e.born) clock) hp1
    refine ⟨_, _, hr, h1 _ (H.step hj hw.2.1 hw.2.2.1 hw.2.2.2 fun a ha sa => ?_)⟩
    obtain ⟨es', clock', m', seen', g1, g2, g3, g4, g5, g6, g7, g8⟩ := ha
    have hplt := (Array.getElem?_eq_some_iff.1 hp).1
    refine ⟨hp2 p (.mapIter (some b) clock (seen.push e.born) clock) b (.map es clock), ⟨es, clock, m, seen.push e.born, hp2_b _ _ hne, ok, hn, hp2_p _ _ _ _, hne, rfl, fun q' hq' => ?_, fun k hk => hp2_ne hk⟩, fun k o hk => ?_, fun k hk hn => ?_⟩
    · obtain rfl := Option.some.inj hq'
      exact ⟨e, hef.1, hqe, seen, rfl⟩
    · rcases hp2_inv hk with ⟨rfl, rfl⟩ | ⟨hkp, rfl, rfl⟩
      · exact s1
      · show (w1.heap.setIfInBounds _ _)[_]? = _
        rw [s2 _ hkp, hw.1]; exact hb
    · have hkp : k ≠ p := fun e => by subst e; rw [g4] at hn; cases hn
      have hkb : k ≠ b := fun e => by subst e; rw [g1] at hn; cases hn
      refine ⟨hp2_no _ _ hkp hkb, ?_⟩
      show (w1.heap.setIfInBounds _ _)[_]? = _
      rw [s2 _ hkp, hw.1]
theorem rEntry {K : Value → World → Prop} {x v : Int} (H : Sat g w l) (j : Nat) (hj : l[j]? = some (Mi b p f n0 n (some (x, v)))) (h : K (.tuple #[.int .i64 x, .int .i64 v]) w) : RunP P (Instr.entry (.pointer (some ⟨p, 0, none⟩))) w K := by
  obtain ⟨es, clock, m, seen, hb, ok, hn, hp, hne, hl, hc⟩ := H.mi j hj
  obtain ⟨e, he, hq, s, rfl⟩ := hc _ rfl
  have hk1 : e.key = .int .i64 x := congrArg Prod.fst hq
  have hk2 : e.val = .int .i64 v := congrArg Prod.snd hq
  have hr := run_entry_at (P := P) w p b clock s es clock e hp hb he ok.apart
  rw [hk1, hk2] at hr
  exact ⟨_, _, hr, h⟩
/-- The iterator is left. -/
theorem Sat.miMp {G : Prop} {c : Option (Int × Int)} (H : Sat g w l) (j : Nat) (hj : l[j]? = some (Mi b p f n0 n c)) (h : setA l j (Mp b f n0) fun l' => Sat g w l' → G) : G := by
  rw [setA_eq] at h
  refine h (H.step hj rfl rfl rfl fun a ha sa => ?_)
  obtain ⟨es, clock, m, seen, g1, g2, g3, g4, g5, g6, g7, g8⟩ := ha
  refine ⟨fun k => if k = b then some (.map es clock) else none, ⟨es, clock, m, if_pos rfl, g2, g3⟩, fun k o hk => ?_, fun k hk hn => ?_⟩
  · dsimp only at hk
    split at hk
    · rename_i e; subst e; obtain rfl := Option.some.inj hk; exact sa _ _ g1
    · cases hk
  · have hkb : k ≠ b := fun e => by subst e; rw [g1] at hn; cases hn
    exact ⟨if_neg hkb, rfl⟩
theorem rMapGetY {K : Value → World → Prop} {x : Int} (H : Sat g w l) (j : Nat) (hj : l[j]? = some (Mp b f n)) (hf : f k = some x) (ht : P.underlying t = some (.map kt et)) (hk : P.underlying kt = some (.int .i64)) (hz : (P.info? et).bind (fun i => i.zero) = some (.int .i64 0))
    (h : K (.tuple #[.int .i64 x, .bool true]) w) : RunP P (Instr.lookup t (.map (some b)) (.int .i64 k) true) w K :=
  rMapGet H j hj ht hk hz fun y c hc => by
    rcases hc with ⟨rfl, h2⟩ | ⟨rfl, h2, _⟩
    · rw [hf] at h2; obtain rfl := Option.some.inj h2; exact h
    · rw [hf] at h2; cases h2
theorem rMapGetN {K : Value → World → Prop} (H : Sat g w l) (j : Nat) (hj : l[j]? = some (Mp b f n)) (hf : f k = none) (ht : P.underlying t = some (.map kt et)) (hk : P.underlying kt = some (.int .i64)) (hz : (P.info? et).bind (fun i => i.zero) = some (.int .i64 0))
    (h : K (.tuple #[.int .i64 0, .bool false]) w) : RunP P (Instr.lookup t (.map (some b)) (.int .i64 k) true) w K :=
  rMapGet H j hj ht hk hz fun y c hc => by
    rcases hc with ⟨rfl, h2⟩ | ⟨rfl, h2, rfl⟩
    · rw [hf] at h2; cases h2
    · exact h
theorem rMapGetY1 {K : Value → World → Prop} {x : Int} (H : Sat g w l) (j : Nat) (hj : l[j]? = some (Mp b f n)) (hf : f k = some x) (ht : P.underlying t = some (.map kt et)) (hk : P.underlying kt = some (.int .i64)) (hz : (P.info? et).bind (fun i => i.zero) = some (.int .i64 0))
    (h : K (.int .i64 x) w) : RunP P (Instr.lookup t (.map (some b)) (.int .i64 k) false) w K :=
  rMapGet1 H j hj ht hk hz fun y hy => by rw [hf] at hy; obtain rfl : y = x := hy; exact h
theorem rMapGetN1 {K : Value → World → Prop} (H : Sat g w l) (j : Nat) (hj : l[j]? = some (Mp b f n)) (hf : f k = none) (ht : P.underlying t = some (.map kt et)) (hk : P.underlying kt = some (.int .i64)) (hz : (P.info? et).bind (fun i => i.zero) = some (.int .i64 0))
    (h : K (.int .i64 0) w) : RunP P (Instr.lookup t (.map (some b)) (.int .i64 k) false) w K :=
  rMapGet1 H j hj ht hk hz fun y hy => by rw [hf] at hy; obtain rfl : y = 0 := hy; exact h
theorem rNextZ {K : Value → World → Prop} {c : Option (Int × Int)} (H : Sat g w l) (j : Nat) (hj : l[j]? = some (Mi b p f n0 n c)) (hn : n = 0) (h : K (.tuple #[.bool false]) w) : RunP P (Instr.next (.pointer (some ⟨p, 0, none⟩)) false ty) w K :=
  rNext H j hj (fun _ => h) fun x v n' hn' => by omega
theorem rNextS {K : Value → World → Prop} {c : Option (Int × Int)} (H : Sat g w l) (j : Nat) (hj : l[j]? = some (Mi b p f n0 n c)) (hn : 0 < n)
    (h : ∀ x v n', n = n' + 1 → f x = some v → setA l j (Mi b p f n0 n' (some (x, v))) fun l' => ∀ w', Sat g w' l' → K (.tuple #[.bool true, .int .i64 x, .int .i64 v]) w') : RunP P (Instr.next (.pointer (some ⟨p, 0, none⟩)) false ty) w K :=
  rNext H j hj (fun h0 => by omega) h
theorem cgMp {f' : Int → Option Int} {n' : Nat} (h1 : f = f') (h2 : n = n') : Mp b f n = Mp b f' n' := by rw [h1, h2]
end
end Go.Proofs.Ytcgenmddojgbpaa.Eng
