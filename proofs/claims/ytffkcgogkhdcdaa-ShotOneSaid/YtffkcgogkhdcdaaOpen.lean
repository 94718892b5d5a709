/- Arguments that are slices, of flat elements or of slices again: opened. -/
import Derived.Test.YtffkcgogkhdcdaaSl
import Derived.Test.YtffkcgogkhdcdaaSt
import Derived.Test.YtffkcgogkhdcdaaRow
import Derived.ChangeArms
set_option linter.unusedVariables false
namespace Go.Proofs.Ytffkcgogkhdcdaa.Eng
open Go Go.RowKit
/-- The kinds of a cell. -/
inductive Lk where
  | int (k : IntKind)
  | bool
  | str
def fitL : Lk → Value → Prop
  | .int k, v => ∃ n, v = .int k n ∧ k.min ≤ n ∧ n ≤ k.max
  | .bool, v => ∃ b, v = .bool b
  | .str, v => ∃ l, v = .string (bs l) ∧ l.length ≤ 9223372036854775807
def fitsL : List Lk → List Value → Prop
  | [], cs => cs = []
  | k :: ks, cs => ∃ v r, cs = v :: r ∧ fitL k v ∧ fitsL ks r
def leafSz : Value → Nat
  | .string s => s.size
  | _ => 0
def cellsSz (cs : List Value) : Nat := (cs.map leafSz).sum
def flatFs (P : Program) (rec : TypeId → Option (List Lk)) : Nat → List Field → Option (List Lk)
  | _, [] => some []
  | off, f :: fs => match rec f.type with
    | none => none
    | some ks => if f.offset = off ∧ ks.length = P.cellsOf f.type then match flatFs P rec (off + ks.length) fs with
      | none => none
      | some r => some (ks ++ r)
      else none
def flatK (P : Program) : Nat → TypeId → Option (List Lk)
  | 0, _ => none
  | n + 1, t => match P.underlying t with
    | some (.int k) => some [.int k]
    | some .bool => some [.bool]
    | some .string => some [.str]
    | some (.struct fs) => match flatFs P (flatK P n) 0 fs.toList with
      | some ks => if ks.length = P.cellsOf t then some ks else none
      | none => none
    | some (.array m e) => match flatK P n e with
      | some ks => if ks.length = P.cellsOf e ∧ m * ks.length = P.cellsOf t then some (List.replicate m ks).flatten else none
      | none => none
    | _ => none
theorem fitsL_append {k1 k2 : List Lk} {c1 c2 : List Value} (h1 : fitsL k1 c1) (h2 : fitsL k2 c2) : fitsL (k1 ++ k2) (c1 ++ c2) := by
  induction k1 generalizing c1 with
  | nil => obtain rfl : c1 = [] := h1; exact h2
  | cons k ks ih => obtain ⟨v, r, rfl, hv, hr⟩ := h1; exact ⟨v, r ++ c2, rfl, hv, ih hr⟩
theorem fitsL_length {ks : List Lk} {cs : List Value} (h : fitsL ks cs) : cs.length = ks.length := by
  induction ks generalizing cs with
  | nil => obtain rfl : cs = [] := h; rfl
  | cons k ks ih => obtain ⟨v, r, rfl, hv, hr⟩ := h; simp [ih hr]
theorem cellsSz_append (a b : List Value) : cellsSz (a ++ b) = cellsSz a + cellsSz b := by simp [cellsSz]
section
variable {H : Type} {enc : TypeId × Value → H} {P : Program} {w : World} {base : Nat} {sp : Nat → Bool} {held : Bool}
theorem bulk_pos (d : DataW H) : 1 ≤ Rows.uptoBulk d := by
  cases d with
  | lit l => cases l <;> simp [Rows.uptoBulk]
  | _ => simp [Rows.uptoBulk]
theorem bulkAll_append (a b : List (DataW H)) : Rows.uptoBulkAll (a ++ b) = Rows.uptoBulkAll a + Rows.uptoBulkAll b := by
  induction a with
  | nil => simp [Rows.uptoBulkAll]
  | cons x r ih => simp [Rows.uptoBulkAll, ih]; omega
theorem flatK_open (n : Nat) : ∀ {fuel : Nat} {t : TypeId} {cs : List Value} {x : DataW H × List MemPlace} {ks : List Lk}, flatK P n t = some ks → DataW.trod enc P w base sp held fuel t cs = some x → fitsL ks cs ∧ cellsSz cs + 1 ≤ Rows.uptoBulk x.1 := by
  induction n with
  | zero => intro _ _ _ _ _ h; cases h
  | succ n ih =>
    intro fuel t cs x ks hf h
    unfold flatK at hf
    split at hf
    · rename_i k hu
      obtain rfl := Option.some.inj hf
      obtain ⟨m, rfl, rfl, hw⟩ := DataW.trod_int hu h
      have := bd_wf hw
      exact ⟨⟨_, _, rfl, ⟨m, rfl, this.1, this.2⟩, rfl⟩, by simp [cellsSz, leafSz, Rows.uptoBulk]⟩
    · rename_i hu
      obtain rfl := Option.some.inj hf
      obtain ⟨b, rfl, rfl⟩ := DataW.trod_bool hu h
      exact ⟨⟨_, _, rfl, ⟨b, rfl⟩, rfl⟩, by simp [cellsSz, leafSz, Rows.uptoBulk]⟩
    · rename_i hu
      obtain rfl := Option.some.inj hf
      obtain ⟨s, rfl, rfl, hs⟩ := DataW.trod_string hu h
      obtain ⟨l, rfl, hl, e⟩ := open_bs hs
      refine ⟨⟨_, _, rfl, ⟨l, rfl, hl⟩, rfl⟩, ?_⟩
      simp [cellsSz, leafSz, Rows.uptoBulk, bs_size, ← e]
    · rename_i fs hu
      split at hf
      · rename_i ks' hks
        split at hf
        · rename_i hlen
          obtain rfl := Option.some.inj hf
          obtain ⟨xs, m, rfl, rfl, hcl, hxl, hel⟩ := DataW.trod_struct hu h
          have key : ∀ (l : List Field) (i off : Nat) (ks : List Lk), (∀ j f, l[j]? = some f → DataW.trod enc P w base sp held m f.type ((cs.drop f.offset).take (P.cellsOf f.type)) = xs[i + j]?) → i + l.length = xs.length →
              flatFs P (flatK P n) off l = some ks → off + ks.length = cs.length → fitsL ks (cs.drop off) ∧ cellsSz (cs.drop off) ≤ Rows.uptoBulkAll ((xs.drop i).map (·.1)) := by
            intro l
            induction l with
            | nil =>
              intro i off ks hj hil hfs hl
              unfold flatFs at hfs
              obtain rfl := Option.some.inj hfs
              rw [List.drop_eq_nil_of_le (by simp at hl; omega)]
              exact ⟨rfl, by simp [cellsSz]⟩
            | cons f l ihl =>
              intro i off ks hj hil hfs hl
              unfold flatFs at hfs
              split at hfs
              · cases hfs
              · rename_i kf hkf
                split at hfs
                · rename_i hoff
                  split at hfs
                  · cases hfs
                  · rename_i kr hkr
                    obtain rfl := Option.some.inj hfs
                    rw [List.length_append] at hl
                    have h0 := hj 0 f rfl
                    rw [Nat.add_zero] at h0
                    have hi : i < xs.length := by simp at hil; omega
                    rw [List.getElem?_eq_getElem hi, hoff.1, ← hoff.2] at h0
                    obtain ⟨a1, a2⟩ := ih hkf h0
                    obtain ⟨b1, b2⟩ := ihl (i + 1) (off + kf.length) kr (fun j g hg => by have := hj (j + 1) g hg; rwa [show i + (j + 1) = i + 1 + j by omega] at this) (by simp at hil; omega) hkr (by omega)
                    have e : cs.drop off = (cs.drop off).take kf.length ++ cs.drop (off + kf.length) := by rw [← List.drop_drop, List.take_append_drop]
                    rw [e]
                    refine ⟨fitsL_append a1 b1, ?_⟩
                    rw [cellsSz_append, List.drop_eq_getElem_cons hi]
                    simp only [List.map_cons, Rows.uptoBulkAll]
                    omega
                · cases hfs
          have := key fs.toList 0 0 ks' (fun j f hf => by have := hel j f (by simpa using hf); rwa [Nat.zero_add]) (by simp [hxl]) hks (by omega)
          simp only [List.drop_zero] at this
          refine ⟨this.1, ?_⟩
          simp only [Rows.uptoBulk]
          omega
        · cases hf
      · cases hf
    · rename_i m e hu
      split at hf
      · rename_i ks' hks
        split at hf
        · rename_i hlen
          obtain rfl := Option.some.inj hf
          obtain ⟨xs, fm, rfl, rfl, hcl, hxl, hel⟩ := DataW.trod_array hu h
          have key : ∀ (j i : Nat), i + j = m → fitsL (List.replicate j ks').flatten (cs.drop (i * ks'.length)) ∧ cellsSz (cs.drop (i * ks'.length)) ≤ Rows.uptoBulkAll ((xs.drop i).map (·.1)) := by
            intro j
            induction j with
            | zero =>
              intro i hij
              rw [List.drop_eq_nil_of_le (by rw [hcl, ← hlen.2, show i = m by omega]; exact Nat.le_refl _)]
              exact ⟨rfl, by simp [cellsSz]⟩
            | succ j ihj =>
              intro i hij
              have hi : i < xs.length := by omega
              have h0 := hel i (by omega)
              rw [List.getElem?_eq_getElem hi, ← hlen.1] at h0
              obtain ⟨a1, a2⟩ := ih hks h0
              obtain ⟨b1, b2⟩ := ihj (i + 1) (by omega)
              have e1 : cs.drop (i * ks'.length) = (cs.drop (i * ks'.length)).take ks'.length ++ cs.drop ((i + 1) * ks'.length) := by
                rw [Nat.succ_mul, ← List.drop_drop, List.take_append_drop]
              rw [e1, List.replicate_succ, List.flatten_cons]
              refine ⟨fitsL_append a1 b1, ?_⟩
              rw [cellsSz_append, List.drop_eq_getElem_cons hi]
              simp only [List.map_cons, Rows.uptoBulkAll]
              omega
          have := key m 0 (by omega)
          simp only [Nat.zero_mul, List.drop_zero] at this
          refine ⟨this.1, ?_⟩
          simp only [Rows.uptoBulk]
          omega
        · cases hf
      · cases hf
    · cases hf
/-! ## Slices -/
/-- What a type's readings give: a reading of the cells as a thing, of no more than so much. -/
def OpensT (enc : TypeId × Value → H) (P : Program) (w : World) (sp : Nat → Bool) (held : Bool) {α : Type} (t : TypeId) (R : Hv → List Value → α → Prop) (sz : α → Nat) : Prop :=
  ∀ {fuel : Nat} {cs : List Value} {x : DataW H × List MemPlace}, DataW.trod enc P w 0 sp held fuel t cs = some x → ∃ a, R (Rg w 0 w.heap.size) cs a ∧ sz a ≤ Rows.uptoBulk x.1
theorem choose_list {α : Type} {n : Nat} {p : Nat → α → Prop} (h : ∀ i, i < n → ∃ x, p i x) : ∃ l : List α, l.length = n ∧ ∀ i x, l[i]? = some x → p i x := by
  induction n with
  | zero => exact ⟨[], rfl, fun i x hx => by simp at hx⟩
  | succ n ih =>
    obtain ⟨l, hl, hp⟩ := ih (fun i hi => h i (by omega))
    obtain ⟨x, hx⟩ := h n (by omega)
    refine ⟨l ++ [x], by simp [hl], fun i y hy => ?_⟩
    by_cases hi : i < n
    · rw [List.getElem?_append_left (by omega)] at hy; exact hp i y hy
    · rw [List.getElem?_append_right (by omega)] at hy
      have : i = n := by
        have := (List.getElem?_eq_some_iff.1 hy).1
        simp at this; omega
      subst this
      rw [hl, Nat.sub_self] at hy
      obtain rfl := Option.some.inj hy
      exact hx
theorem sum_le {α : Type} (sz : α → Nat) : ∀ (xs : List α) (ds : List (DataW H)), xs.length = ds.length → (∀ (i : Nat) (x : α) (d : DataW H), xs[i]? = some x → ds[i]? = some d → sz x ≤ Rows.uptoBulk d) → (xs.map sz).sum ≤ Rows.uptoBulkAll ds := by
  intro xs
  induction xs with
  | nil => intro ds _ _; simp
  | cons x xs ih =>
    intro ds hl h
    cases ds with
    | nil => simp at hl
    | cons d ds =>
      have h0 := h 0 x d rfl rfl
      have := ih ds (by simpa using hl) (fun i y e hy he => h (i + 1) y e hy he)
      simp only [List.map_cons, List.sum_cons, Rows.uptoBulkAll]
      omega
theorem len_le_bulk (ds : List (DataW H)) : ds.length ≤ Rows.uptoBulkAll ds := by
  induction ds with
  | nil => simp
  | cons d ds ih => have := bulk_pos d; simp only [List.length_cons, Rows.uptoBulkAll]; omega
/-- A slice of things that are read, read. -/
theorem open_sl {α : Type} {t e : TypeId} {R : Hv → List Value → α → Prop} {sz : α → Nat} (s : Nat) (hs : P.cellsOf e = s) (hs0 : 0 < s) (ht : P.underlying t = some (.slice e)) (he : OpensT enc P w sp held e R sz) :
    OpensT enc P w sp held t (fun H cs xs => ∃ v, cs = [v] ∧ SlR R s H v xs) (fun xs => (xs.map sz).sum + 1 + 0 * xs.length) ∧
    (∀ {fuel : Nat} {v : Value} {x : DataW H × List MemPlace}, DataW.trod enc P w 0 sp held fuel t [v] = some x → ∃ xs : List α, SlR R s (Rg w 0 w.heap.size) v xs ∧ (xs.map sz).sum + 1 ≤ Rows.uptoBulk x.1 ∧ xs.length + 1 ≤ Rows.uptoBulk x.1 ∧ (∀ r : Nat, ((DataW.weights P t x.1).all (· ≤ r)) = true → xs.length * P.bytesOf e ≤ r)) := by
  have main : ∀ {fuel : Nat} {cs : List Value} {x : DataW H × List MemPlace}, DataW.trod enc P w 0 sp held fuel t cs = some x → ∃ (v : Value) (xs : List α), cs = [v] ∧ SlR R s (Rg w 0 w.heap.size) v xs ∧ (xs.map sz).sum + 1 ≤ Rows.uptoBulk x.1 ∧ xs.length + 1 ≤ Rows.uptoBulk x.1 ∧ (∀ r : Nat, ((DataW.weights P t x.1).all (· ≤ r)) = true → xs.length * P.bytesOf e ≤ r) := by
    intro fuel cs x h
    rcases DataW.trod_slice ht h with ⟨rfl, rfl⟩ | ⟨a, len, cap, elems, rest, n, rfl, rfl, rfl, hb, hlc, hcm, hel, hat, _, _⟩
    · exact ⟨_, [], rfl, SlR.nil _ _ _, by simp [Rows.uptoBulk], by simp [Rows.uptoBulk], fun r _ => by simp⟩
    · have hx : ∀ i, i < len → ∃ y : α, ∃ ci, w.cells? 0 (a.add (i * s)) s = some ci ∧ R (Rg w 0 w.heap.size) ci y ∧ ∀ d, (elems.map (·.1))[i]? = some d → sz y ≤ Rows.uptoBulk d := by
        intro i hi
        have h0 := hat i hi
        rw [hs, List.getElem?_eq_getElem (by omega), Option.bind_eq_some_iff] at h0
        obtain ⟨ci, h1, h2⟩ := h0
        obtain ⟨y, h3, h4⟩ := he h2
        refine ⟨y, ci, h1, h3, fun d hd => ?_⟩
        rw [List.getElem?_map, List.getElem?_eq_getElem (by omega)] at hd
        obtain rfl := Option.some.inj hd
        exact h4
      obtain ⟨xs, hxl, hxs⟩ := choose_list hx
      have hml : xs.length = (elems.map (·.1)).length := by simp; omega
      have hsum := sum_le sz xs (elems.map (·.1)) hml (fun i y d hy hd => by obtain ⟨ci, _, _, h⟩ := hxs i y hy; exact h d hd)
      have hlb := len_le_bulk (elems.map (·.1))
      refine ⟨_, xs, rfl, ?_, by simp only [Rows.uptoBulk]; omega, by simp only [Rows.uptoBulk]; rw [hml]; omega, fun r hr => ?_⟩
      rotate_left
      · simp only [DataW.weights, ht, List.all_cons, Bool.and_eq_true, decide_eq_true_eq, List.length_map] at hr
        refine Nat.le_trans (Nat.mul_le_mul_right _ ?_) hr.1
        omega
      refine ⟨some a, cap, by rw [hxl], by unfold maxLen at hcm; omega, (fun h => by cases h), fun hne => ?_⟩
      have hlen : 0 < len := by
        rw [← hxl]; exact List.length_pos_iff.2 hne
      obtain ⟨y0, hy0⟩ : ∃ y, xs[0]? = some y := ⟨xs[0], List.getElem?_eq_getElem (by omega)⟩
      obtain ⟨c0, hc0, _, _⟩ := hxs 0 y0 hy0
      obtain ⟨b, o, spot⟩ := a
      have hcells : ∀ i ci, w.cells? 0 ((⟨b, o, spot⟩ : Addr).add (i * s)) s = some ci → ci.length = s ∧ ∀ j, j < s → w.cell? (((⟨b, o, spot⟩ : Addr).add (i * s)).add j) = ci[j]? := fun i ci h => by
        have := World.cells?_some h
        exact ⟨this.2.1, this.2.2⟩
      have hspot : spot = none := by
        have h1 := (hcells 0 c0 hc0).2 0 hs0
        have hc0l := (hcells 0 c0 hc0).1
        rw [List.getElem?_eq_getElem (by omega)] at h1
        simp only [Nat.zero_mul] at h1
        cases spot with
        | none => rfl
        | some q =>
          exfalso
          simp only [Addr.add, if_true, World.cell?] at h1
          split at h1 <;> simp at h1
      subst hspot
      have hblk : ∃ C ty fz, w.heap[b]? = some (.cells C ty fz) := by
        have h1 := (hcells 0 c0 hc0).2 0 hs0
        have hc0l := (hcells 0 c0 hc0).1
        rw [List.getElem?_eq_getElem (by omega)] at h1
        simp only [Nat.zero_mul, Addr.add, if_true, World.cell?] at h1
        split at h1
        · rename_i C ty fz hh; exact ⟨C, ty, fz, hh⟩
        · cases h1
      obtain ⟨C, ty, fz, hC⟩ := hblk
      have hcell : ∀ k, w.cell? ⟨b, k, none⟩ = C[k]? := fun k => by simp [World.cell?, hC]
      have hin : ∀ i, i < len → ∀ j, j < s → ∀ y ci, xs[i]? = some y → w.cells? 0 ((⟨b, o, none⟩ : Addr).add (i * s)) s = some ci → C[o + i * s + j]? = ci[j]? := fun i hi j hj y ci hy hci => by
        have := (hcells i ci hci).2 j hj
        rw [Addr.add_lit, Addr.add_lit, hcell] at this
        exact this
      have hCl : o + len * s ≤ C.size := by
        obtain ⟨y, hy⟩ : ∃ y, xs[len - 1]? = some y := ⟨xs[len - 1], List.getElem?_eq_getElem (by omega)⟩
        obtain ⟨ci, hci, _, _⟩ := hxs (len - 1) y hy
        have h1 := hin (len - 1) (by omega) (s - 1) (by omega) y ci hy hci
        have hl := (hcells (len - 1) ci hci).1
        rw [List.getElem?_eq_getElem (by omega)] at h1
        have h2 := (Array.getElem?_eq_some_iff.1 h1).1
        have e : len * s = (len - 1) * s + s := by rw [← Nat.succ_mul]; congr 1; omega
        omega
      refine ⟨b, o, (C.toList.drop o).take (len * s), rfl, ⟨C, ty, fz, ⟨Nat.zero_le _, (Array.getElem?_eq_some_iff.1 hC).1, hC⟩, fun i v hv => ?_⟩, ?_, fun i y hy => ?_⟩
      · rw [List.getElem?_take] at hv
        split at hv
        · rw [List.getElem?_drop] at hv; simpa using hv
        · cases hv
      · simp [hxl]; omega
      · obtain ⟨ci, hci, hR, _⟩ := hxs i y hy
        have hi : i < len := by rw [← hxl]; exact (List.getElem?_eq_some_iff.1 hy).1
        have hl := (hcells i ci hci).1
        have e : (((C.toList.drop o).take (len * s)).drop (i * s)).take s = ci := by
          apply List.ext_getElem?
          intro j
          rw [List.getElem?_take]
          split
          · rename_i hj
            have hle : i * s + s ≤ len * s := by rw [← Nat.succ_mul]; exact Nat.mul_le_mul_right _ hi
            rw [List.getElem?_drop, List.getElem?_take, if_pos (by omega), List.getElem?_drop, ← hin i hi j hj y ci hy hci, Nat.add_assoc]
            simp
          · rw [List.getElem?_eq_none (by omega)]
        rw [e]; exact hR
  refine ⟨fun {fuel cs x} h => ?_, fun {fuel v x} h => ?_⟩
  · obtain ⟨v, xs, h1, h2, h3, _⟩ := main h
    exact ⟨xs, ⟨v, h1, h2⟩, by simp only [Nat.zero_mul, Nat.add_zero]; exact h3⟩
  · obtain ⟨v', xs, h1, h2, h3, h4, h5⟩ := main h
    obtain rfl : v = v' := by simpa using h1
    exact ⟨xs, h2, h3, h4, h5⟩
theorem open_flat {α : Type} {t : TypeId} {ks : List Lk} (n : Nat) (hf : flatK P n t = some ks) {en : α → List Value} {ok : α → Prop} (h : ∀ cs, fitsL ks cs → ∃ x, cs = en x ∧ ok x) : OpensT enc P w sp held t (RE en ok) (fun x => cellsSz (en x) + 1) := by
  intro fuel cs x hx
  obtain ⟨h1, h2⟩ := flatK_open n hf hx
  obtain ⟨a, rfl, ha⟩ := h cs h1
  exact ⟨a, ⟨rfl, ha⟩, h2⟩
/-! ## A law's arguments -/
theorem arg_struct {r : Reach} {b0 : Nat} {t : TypeId} {fs : Array Field} {ks : List Lk} {v : Value} {d : DataW H} {ps : List MemPlace} (ht : P.underlying t = some (.struct fs)) (n : Nat) (hf : flatK P n t = some ks) (hval : Value.okWide P w r b0 t v) (h : DataW.Trod enc P w base sp held t v d ps) :
    ∃ cs : List Value, v = .agg cs.toArray ∧ fitsL ks cs ∧ cellsSz cs + 1 ≤ Rows.uptoBulk d := by
  unfold Value.okWide at hval
  rw [ht] at hval
  obtain ⟨cs, rfl, _⟩ := hval
  obtain ⟨fuel, hh⟩ := h
  obtain ⟨h1, h2⟩ := flatK_open n hf hh
  exact ⟨cs.toList, by simp, h1, h2⟩
theorem arg_sl {α : Type} {r : Reach} {b0 : Nat} {t e : TypeId} {R : Hv → List Value → α → Prop} {sz : α → Nat} {v : Value} {d : DataW H} {ps : List MemPlace} (s : Nat) (hs : P.cellsOf e = s) (hs0 : 0 < s) (ht : P.underlying t = some (.slice e)) (he : OpensT enc P w sp held e R sz)
    (hval : Value.okWide P w r b0 t v) (h : DataW.Trod enc P w 0 sp held t v d ps) : ∃ xs : List α, SlR R s (Rg w 0 w.heap.size) v xs ∧ (xs.map sz).sum + 1 ≤ Rows.uptoBulk d ∧ xs.length + 1 ≤ Rows.uptoBulk d ∧ (∀ r : Nat, ((DataW.weights P t d).all (· ≤ r)) = true → xs.length * P.bytesOf e ≤ r) := by
  have hc : v.cells = #[v] := by
    unfold Value.okWide at hval
    rw [ht] at hval
    dsimp only at hval
    unfold Cell.okWide at hval
    rw [ht] at hval
    cases v <;> first | rfl | (exfalso; simp [Cell.ok, ht] at hval)
  obtain ⟨fuel, hh⟩ := h
  rw [hc] at hh
  exact (open_sl s hs hs0 ht he).2 hh
end
end Go.Proofs.Ytffkcgogkhdcdaa.Eng
