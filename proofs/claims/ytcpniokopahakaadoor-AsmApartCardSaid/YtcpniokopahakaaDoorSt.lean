/- Structs: stored whole, compared. -/
import Derived.Test.YtcpniokopahakaaDoorSl
import Derived.Test.YtcpniokopahakaaDoorDraw
import Derived.Laws.CopyRow
import Derived.Laws.StructEq
set_option linter.unusedVariables false
namespace Go.Proofs.YtcpniokopahakaaDoor.Eng
open Go Go.RowKit
variable {P : Program} {w : World}
theorem partK_sound' {ty : TypeId} {cs : List Value} {off : Nat} {k : Value → Prop} (h : partK P ty cs off k) : ∃ v, (∀ w, (part ty cs.toArray off).run P w = .ok v w) ∧ k v := by
  unfold partK at h
  split at h
  · rename_i d hu
    split at h
    · rename_i hd
      rw [dropK_eq] at h
      obtain ⟨h1, h2⟩ := takeK_eq h
      refine ⟨_, fun w => ?_, h2⟩
      cases hi : P.info? ty with
      | none => simp [Program.underlying, hi] at hu
      | some i => simp [part, isAgg_run hu, hd, sizeOf, typeInfo, hi, Program.cellsOf]
    · rename_i hd
      obtain ⟨v, hv, h⟩ := nthK_eq h
      exact ⟨v, fun w => by simp [part, isAgg_run hu, hd, hv], h⟩
  · exact h.elim
theorem setsL_get (vs : List Value) : ∀ (cs : List Value) (o i : Nat), o + vs.length ≤ cs.length → (setsL cs o vs)[i]? = if o ≤ i ∧ i < o + vs.length then vs[i - o]? else cs[i]? := by
  induction vs with
  | nil => intro cs o i h; rw [if_neg (by simp only [List.length_nil]; omega)]; rfl
  | cons v vs ih =>
    intro cs o i h
    simp only [List.length_cons] at h ⊢
    rw [setsL, ih _ _ _ (by rw [List.length_set]; omega)]
    by_cases h2 : o = i
    · subst h2; rw [if_neg (by omega), if_pos (by omega), Nat.sub_self, List.getElem?_set_self (by omega)]; rfl
    · rw [List.getElem?_set_ne h2]
      by_cases h3 : o ≤ i ∧ i < o + (vs.length + 1)
      · rw [if_pos (by omega), if_pos h3, show i - o = (i - (o + 1)) + 1 by omega]; rfl
      · rw [if_neg (by omega), if_neg h3]
theorem setsL_eq (vs cs : List Value) (o : Nat) (h : o + vs.length ≤ cs.length) : setsL cs o vs = cs.take o ++ vs ++ cs.drop (o + vs.length) := by
  apply List.ext_getElem?
  intro i
  rw [setsL_get vs cs o i h, List.append_assoc]
  have hl : (cs.take o).length = o := by rw [List.length_take]; omega
  by_cases h1 : i < o
  · rw [if_neg (by omega), List.getElem?_append_left (by omega), List.getElem?_take, if_pos h1]
  · rw [List.getElem?_append_right (by omega), hl]
    by_cases h2 : i < o + vs.length
    · rw [if_pos (by omega), List.getElem?_append_left (by omega)]
    · rw [if_neg (by omega), List.getElem?_append_right (by omega), List.getElem?_drop]; congr 1; omega
/-- A struct or an array is stored whole. -/
theorem rStoreA {t : TypeId} {e : TypeId} {b o : Nat} {cs vs : List Value} {K : World → Prop} (hb : Blk w b cs e) (hs : (P.info? t).map (·.size) = some vs.length) (ho' : Nat.ble (o + vs.length) cs.length = true) (hv : vs.all (·.oneCell') = true)
    (k : setsK cs o vs fun cs' => ∀ w', Upd w w' b → Blk w' b cs' e → K w') : DoP P (Instr.storeAt t (.pointer (some ⟨b, o, none⟩)) (.agg vs.toArray)) w K := by
  have ho : o + vs.length ≤ cs.length := Nat.le_of_ble_eq_true ho'
  rw [setsK_eq, setsL_eq _ _ _ ho] at k
  cases hi : P.info? t with
  | none => simp [hi] at hs
  | some i =>
    have hl : i.size = vs.length := by simpa [hi] using hs
    have hst := run_storeCells_at (P := P) b o e vs 0 cs.toArray w hb (by simpa using ho) (fun v hm => List.all_eq_true.1 hv v hm)
    simp only [Nat.add_zero] at hst
    have hw2 : Blk (w.setRow b (cs.take o ++ vs ++ cs.drop (o + vs.length)).toArray) b (cs.take o ++ vs ++ cs.drop (o + vs.length)) e := setRow_heap w b _ _ e (0, 0) hb
    have hw : Upd w (w.setRow b (cs.take o ++ vs ++ cs.drop (o + vs.length)).toArray) b := by
      refine ⟨rfl, rfl, rfl, by simp [World.setRow], fun j hj => ?_⟩
      unfold World.setRow
      simp only [Array.getElem?_modify]
      rw [if_neg (fun h => hj h.symm)]
    refine ⟨_, ?_, k _ hw hw2⟩
    simp [Instr.storeAt, Instr.sureAddr, storeVar, sizeOf, typeInfo, hi, hl, Value.cells, hst]

/-! ## Structs compared -/
noncomputable def eqvK (P : Program) (n : Nat) : TypeId → Value → Value → (Bool → Prop) → Prop :=
  Nat.rec (motive := fun _ => TypeId → Value → Value → (Bool → Prop) → Prop) (fun _ _ _ _ => False)
    (fun _ ih ty a b k => match P.underlying ty with
      | some d => match d with
        | .int _ => match a with
          | .int k1 x => match b with
            | .int k2 y => trueK (kEq k1 k2) (k (vEq x y))
            | _ => False
          | _ => False
        | .bool => match a with
          | .bool x => match b with
            | .bool y => k (x == y)
            | _ => False
          | _ => False
        | .string => match a with
          | .string x => match b with
            | .string y => k (x.toList == y.toList)
            | _ => False
          | _ => False
        | .struct fs => match a with
          | .agg xs => match b with
            | .agg ys => List.rec (motive := fun _ => (Bool → Prop) → Prop) (fun k => k true) (fun f _ ihf k => match f with
              | ⟨_, fty, off, _, _, _, _⟩ => partK P fty xs.toList off fun a => partK P fty ys.toList off fun b => ih fty a b fun r => ihf fun r' => k (r && r')) fs.toList k
            | _ => False
          | _ => False
        | _ => False
      | none => False) n
/-- No field without a name, nothing stood in. -/
def eqOkB (P : Program) : Nat → TypeId → Bool
  | 0, _ => false
  | n + 1, ty => match P.underlying ty with
    | some (.struct fs) => !P.stoodInHeld ty && fs.toList.all fun f => f.name != "_" && eqOkB P n f.type
    | _ => true
theorem eqvK_sound (n : Nat) : ∀ {ty : TypeId} {a b : Value} {k : Bool → Prop}, eqOkB P n ty = true → eqvK P n ty a b k → ∃ r, k r ∧ ∀ d w, n ≤ d → (Op.equalIn d ty a b).run P w = .ok r w := by
  induction n with
  | zero => exact fun _ h => h.elim
  | succ n ih =>
    intro ty a b k hok h
    have hd : ∀ d, n + 1 ≤ d → ∃ d', d = d' + 1 ∧ n ≤ d' := fun d hd => ⟨d - 1, by omega, by omega⟩
    change (match P.underlying ty with
      | some d => _
      | none => False) at h
    cases hu : P.underlying ty with
    | none => rw [hu] at h; exact h.elim
    | some dsc =>
      rw [hu] at h
      cases dsc <;> dsimp only at h <;> first | exact h.elim | skip
      case int kk =>
        cases a <;> dsimp only at h <;> first | exact h.elim | skip
        cases b <;> dsimp only at h <;> first | exact h.elim | skip
        obtain ⟨hk, h'⟩ := trueK_eq h
        obtain rfl := kEq_eq hk
        refine ⟨_, h', fun d w hdl => ?_⟩
        obtain ⟨d', rfl, _⟩ := hd d hdl
        rw [run_equalIn_int w d' ty _ kk _ _ hu]; rw [vEq_def]
      case bool =>
        cases a <;> dsimp only at h <;> first | exact h.elim | skip
        cases b <;> dsimp only at h <;> first | exact h.elim | skip
        refine ⟨_, h, fun d w hdl => ?_⟩
        obtain ⟨d', rfl, _⟩ := hd d hdl
        exact run_equalIn_bool' w d' ty _ _ hu
      case string =>
        cases a <;> dsimp only at h <;> first | exact h.elim | skip
        cases b <;> dsimp only at h <;> first | exact h.elim | skip
        refine ⟨_, h, fun d w hdl => ?_⟩
        obtain ⟨d', rfl, _⟩ := hd d hdl
        exact run_equalIn_string w d' ty _ _ hu
      case struct fs =>
        cases a <;> dsimp only at h <;> first | exact h.elim | skip
        cases b <;> dsimp only at h <;> first | exact h.elim | skip
        rename_i xs ys
        unfold eqOkB at hok
        rw [hu] at hok
        simp only [Bool.and_eq_true, List.all_eq_true] at hok
        have hp : P.stoodInHeld ty = false := by simpa using hok.1
        have hall := hok.2
        have hf : P.fieldsOf ty = fs := by simp [Program.fieldsOf, hu]
        have key : ∀ (l : List Field) {k : Bool → Prop}, (∀ f, f ∈ l → (f.name != "_") = true ∧ eqOkB P n f.type = true) → (List.rec (motive := fun _ => (Bool → Prop) → Prop) (fun k => k true) (fun f _ ihf k => match f with
              | ⟨_, fty, off, _, _, _, _⟩ => partK P fty xs.toList off fun a => partK P fty ys.toList off fun b => eqvK P n fty a b fun r => ihf fun r' => k (r && r')) l k : Prop) →
            ∃ r, k r ∧ ∀ d w, n ≤ d → (Op.eqFields d xs ys l).run P w = .ok r w := by
          intro l
          induction l with
          | nil => exact fun _ h => ⟨true, h, fun d w _ => rfl⟩
          | cons f l ihl =>
            intro k hal h4
            have h3 := hal f (List.mem_cons_self ..)
            have hname : f.name ≠ "_" := by simpa using h3.1
            obtain ⟨va, hva, h5⟩ := partK_sound' h4
            obtain ⟨vb, hvb, h6⟩ := partK_sound' h5
            obtain ⟨r, h7, hr⟩ := ih h3.2 h6
            obtain ⟨r', h8, hr'⟩ := ihl (fun g hg => hal g (List.mem_cons_of_mem _ hg)) h7
            refine ⟨r && r', h8, fun d w hdl => ?_⟩
            simp only [Array.toArray_toList] at hva hvb
            simp only [Op.eqFields]
            rw [if_pos hname]
            simp only [Sem.run_bind, hva, Result.andThen_ok, hvb, hr d w hdl]
            cases r
            · simp
            · simp [hr' d w hdl]
        obtain ⟨r, hk, hr⟩ := key fs.toList hall h
        refine ⟨r, hk, fun d w hdl => ?_⟩
        obtain ⟨d', rfl, hd'⟩ := hd d hdl
        rw [run_equalIn_struct w d' ty xs ys (by rw [hf]; exact hu) hp, hf]
        exact hr d' w hd'
theorem rStructEq {K : Value → World → Prop} {t : TypeId} {x y : Operand} {xs ys : Array Value} (hm : P.eqGuardType P.depth t = false) (hok : eqOkB P 4 t = true) (h : eqvK P 4 t (.agg xs) (.agg ys) fun r => K (.bool r) w) :
    RunP P (do eqGuard .eql t x y (.agg xs) (.agg ys); binOp .eql t (.agg xs) (.agg ys)) w K := by
  obtain ⟨r, hk, hr⟩ := eqvK_sound 4 hok h
  refine ⟨_, w, ?_, hk⟩
  simp only [Sem.run_bind, run_eqGuard_agg w .eql t x y xs ys hm, Result.andThen_ok, run_eql_struct, hr 10000 w (by decide)]
theorem rStructNe {K : Value → World → Prop} {t : TypeId} {x y : Operand} {xs ys : Array Value} (hm : P.eqGuardType P.depth t = false) (hok : eqOkB P 4 t = true) (h : eqvK P 4 t (.agg xs) (.agg ys) fun r => K (.bool (!r)) w) :
    RunP P (do eqGuard .neq t x y (.agg xs) (.agg ys); binOp .neq t (.agg xs) (.agg ys)) w K := by
  obtain ⟨r, hk, hr⟩ := eqvK_sound 4 hok h
  refine ⟨_, w, ?_, hk⟩
  simp only [Sem.run_bind, run_eqGuard_agg w .neq t x y xs ys hm, Result.andThen_ok, run_neq_struct, hr 10000 w (by decide)]
theorem bl {a b : Nat} (h : Nat.ble (a + 1) b = true) : a < b := Nat.le_of_ble_eq_true h
/-! ## Facts carried on -/
section
variable {w0 w' : World} {b b' o : Nat} {cs vs cs' : List Value} {e e' : TypeId}
theorem gN (G : Below w0.heap.size w0 w) (n : New w w' cs e) : Below w0.heap.size w0 w' := G.trans (n.below.mono G.size)
theorem gU (G : Below w0.heap.size w0 w) (u : Upd w w' b) (hb : w0.heap.size ≤ b) : Below w0.heap.size w0 w' := u.below G hb
theorem gB (G : Below w0.heap.size w0 w) (h : Below w.heap.size w w') : Below w0.heap.size w0 w' := G.trans (h.mono G.size)
theorem gS (G : Below w0.heap.size w0 w) (s : Still w w') : Below w0.heap.size w0 w' := G.trans (s.below _)
theorem kN (h : Blk w b cs e) (n : New w w' cs' e') : Blk w' b cs e := h.below n.below h.lt
theorem kB (h : Blk w b cs e) (n : Below w.heap.size w w') : Blk w' b cs e := h.below n h.lt
theorem kU (h : Blk w b cs e) (u : Upd w w' b') (hne : b ≠ b') : Blk w' b cs e := h.keep (u.block _ hne)
theorem kS (h : Blk w b cs e) (s : Still w w') : Blk w' b cs e := h.keep (by rw [s.heap])
theorem aN (h : At w b o vs) (n : New w w' cs' e') : At w' b o vs := h.below n.below h.lt
theorem aB (h : At w b o vs) (n : Below w.heap.size w w') : At w' b o vs := h.below n h.lt
theorem aU (h : At w b o vs) (u : Upd w w' b') (hne : b ≠ b') : At w' b o vs := h.keep (u.block _ hne)
theorem aS (h : At w b o vs) (s : Still w w') : At w' b o vs := h.keep (by rw [s.heap])
theorem sB {α : Type} {R : Hv → List Value → α → Prop} {sz lo hi B : Nat} {v : Value} {xs : List α} (hR : Mono R) (h : SlR R sz (Rg w lo hi) v xs) (n : Below B w w') (hB : hi ≤ B) : SlR R sz (Rg w' lo hi) v xs := h.mono hR (Rg.below n hB)
end
/-- What a result variable that lies in memory reads as. -/
theorem rdA {t : TypeId} {d : TypeDesc} {b o : Nat} {vs : List Value} {K : Value → Prop} (h : At w b o vs) (hu : P.underlying t = some d) (hd : aggB d = true) (hs : (P.info? t).map (·.size) = some vs.length) (k : K (.agg vs.toArray)) :
    ReadP P (loadVar t ⟨b, o, none⟩) w K := by
  refine ⟨_, ?_, k⟩
  cases hi : P.info? t with
  | none => simp [hi] at hs
  | some i =>
    have hl : i.size = vs.length := by simpa [hi] using hs
    have := run_loadCells_list (P := P) w ⟨b, o, none⟩ vs (fun j v hv => by rw [Addr.add_lit]; exact h.cell hv)
    simp [loadVar, isAgg_run hu, hd, sizeOf, typeInfo, hi, hl, this]
theorem rdC {t : TypeId} {d : TypeDesc} {b o : Nat} {v : Value} {K : Value → Prop} (hc : w.cell? ⟨b, o, none⟩ = some v) (hu : P.underlying t = some d) (hd : aggB d = false) (k : K v) :
    ReadP P (loadVar t ⟨b, o, none⟩) w K := by
  refine ⟨v, ?_, k⟩
  simp [loadVar, isAgg_run hu, hd, hc]
/-- Cells that are written out flat. -/
def RE {α : Type} (en : α → List Value) (ok : α → Prop) : Hv → List Value → α → Prop := fun _ cs x => cs = en x ∧ ok x
theorem RE.mono' {α : Type} (en : α → List Value) (ok : α → Prop) : Mono (RE en ok) := fun _ _ _ _ _ h => h
end Go.Proofs.YtcpniokopahakaaDoor.Eng
