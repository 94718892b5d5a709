/- Arguments that are structures of flat parts and of slices: opened. -/
import Derived.Test.YtffkcgogkhdcdaaOpen
import Derived.Test.YtffkcgogkhdcdaaSep
set_option linter.unusedVariables false
namespace Go.Proofs.Ytffkcgogkhdcdaa.Eng
open Go Go.RowKit
section
variable {H : Type} {enc : TypeId × Value → H} {P : Program} {w : World} {base : Nat} {sp : Nat → Bool} {held : Bool}
/-- What the fields l of a structure give, from cell off on. -/
structure OpT (enc : TypeId × Value → H) (P : Program) (w : World) (sp : Nat → Bool) (held : Bool) {α : Type} (t : TypeId) (R : Hv → List Value → α → Prop) (sz : α → Nat) : Prop where
  o : OpensT enc P w sp held t R sz
structure OpensFs (enc : TypeId × Value → H) (P : Program) (w : World) (sp : Nat → Bool) (held : Bool) {α : Type} (l : List Field) (off : Nat) (R : Hv → List Value → α → Prop) (sz : α → Nat) : Prop where
  o : ∀ {n : Nat} {cs : List Value} {xs : List (DataW H × List MemPlace)}, (∀ (i : Nat) (f : Field), l[i]? = some f → DataW.trod enc P w 0 sp held n f.type ((cs.drop f.offset).take (P.cellsOf f.type)) = xs[i]?) → l.length = xs.length →
    ∃ a, R (Rg w 0 w.heap.size) (cs.drop off) a ∧ sz a ≤ Rows.uptoBulkAll (xs.map (·.1))
theorem openFs_nil {off : Nat} : OpensFs enc P w sp held [] off (fun _ _ (_ : Unit) => True) (fun _ => 0) := by
  refine ⟨?_⟩
  intro n cs xs _ hl
  exact ⟨(), trivial, Nat.zero_le _⟩
theorem openFs_cons {α β : Type} {f : Field} {l : List Field} {off : Nat} {R : Hv → List Value → α → Prop} {sz : α → Nat} {R' : Hv → List Value → β → Prop} {sz' : β → Nat} (ho : f.offset = off) (h : OpT enc P w sp held f.type R sz)
    (h' : OpensFs enc P w sp held l (off + P.cellsOf f.type) R' sz') :
    OpensFs enc P w sp held (f :: l) off (fun H cs (x : α × β) => R H (cs.take (P.cellsOf f.type)) x.1 ∧ R' H (cs.drop (P.cellsOf f.type)) x.2) (fun x => sz x.1 + sz' x.2) := by
  refine ⟨?_⟩
  intro n cs xs hj hl
  cases xs with
  | nil => simp at hl
  | cons x xs =>
    have h0 := hj 0 f rfl
    subst ho
    obtain ⟨a, a1, a2⟩ := h.o h0
    obtain ⟨b, b1, b2⟩ := h'.o (cs := cs) (xs := xs) (fun i g hg => by have := hj (i + 1) g hg; simpa using this) (by simpa using hl)
    refine ⟨(a, b), ⟨a1, ?_⟩, ?_⟩
    · rw [List.drop_drop]; exact b1
    · simp only [List.map_cons, Rows.uptoBulkAll]; omega
theorem open_structN {α : Type} {t : TypeId} {fs : Array Field} {R : Hv → List Value → α → Prop} {sz : α → Nat} (n0 : Nat) (ht : P.underlying t = some (.struct fs)) (hc : P.cellsOf t = n0) (h : OpensFs enc P w sp held fs.toList 0 R sz) :
    OpT enc P w sp held t (fun H cs a => cs.length = n0 ∧ R H cs a) (fun a => sz a) := by
  refine ⟨?_⟩
  intro fuel cs x hx
  obtain ⟨xs, n, rfl, rfl, hl, hxl, hj⟩ := DataW.trod_struct ht hx
  obtain ⟨a, h1, h2⟩ := h.o (n := n) (cs := cs) (xs := xs) (fun i f hf => hj i f (by simpa using hf)) (by simp [hxl])
  refine ⟨a, ⟨hl.trans hc, by simpa using h1⟩, ?_⟩
  show sz a ≤ Rows.uptoBulk (.agg (xs.map (·.1)))
  rw [Rows.uptoBulk]; omega
theorem OpT.map {α β : Type} {t : TypeId} {R : Hv → List Value → α → Prop} {sz : α → Nat} {R' : Hv → List Value → β → Prop} {sz' : β → Nat} (h : OpT enc P w sp held t R sz) (hm : ∀ H cs a, R H cs a → ∃ b, R' H cs b ∧ sz' b ≤ sz a) : OpT enc P w sp held t R' sz' := by
  refine ⟨?_⟩
  intro fuel cs x hx
  obtain ⟨a, h1, h2⟩ := h.o hx
  obtain ⟨b, h3, h4⟩ := hm _ _ _ h1
  exact ⟨b, h3, Nat.le_trans h4 h2⟩
theorem SlR.conv {α : Type} {R R' : Hv → List Value → α → Prop} {s : Nat} {H H' : Hv} {v : Value} {xs : List α} (h : SlR R s H v xs) (hh : Hle H H') (hR : ∀ cs x, R H cs x → R' H' cs x) : SlR R' s H' v xs := by
  obtain ⟨a, cap, h1, h2, h3, h4⟩ := h
  exact ⟨a, cap, h1, h2, h3, fun hx => let ⟨b, o, news, e, k1, k2⟩ := h4 hx; ⟨b, o, news, e, k1.mono hh, k2.1, fun i x hx => hR _ _ (k2.2 i x hx)⟩⟩
theorem rg_froz (w : World) : Hle (Rg w 0 w.heap.size) (Gh (froz w)) := fun b o ⟨_, _, h⟩ => h
theorem opFlat {α : Type} {t : TypeId} {ks : List Lk} (n : Nat) (hf : flatK P n t = some ks) {en : α → List Value} {ok : α → Prop} (h : ∀ cs, fitsL ks cs → ∃ x, cs = en x ∧ ok x) : OpT enc P w sp held t (RE en ok) (fun x => cellsSz (en x) + 1) := ⟨open_flat n hf h⟩
theorem opSl {α : Type} {t e : TypeId} {R : Hv → List Value → α → Prop} {sz : α → Nat} (s : Nat) (hs : P.cellsOf e = s) (hs0 : 0 < s) (ht : P.underlying t = some (.slice e)) (he : OpT enc P w sp held e R sz) :
    OpT enc P w sp held t (fun H cs xs => ∃ v, cs = [v] ∧ SlR R s H v xs) (fun xs => (xs.map sz).sum + 1 + 0 * xs.length) := ⟨(open_sl s hs hs0 ht he.o).1⟩
theorem arg_slN {α : Type} {r : Reach} {b0 : Nat} {t e : TypeId} {R : Hv → List Value → α → Prop} {sz : α → Nat} {v : Value} {d : DataW H} {ps : List MemPlace} (s : Nat) (hs : P.cellsOf e = s) (hs0 : 0 < s) (ht : P.underlying t = some (.slice e)) (he : OpT enc P w sp held e R sz)
    (hval : Value.okWide P w r b0 t v) (h : DataW.Trod enc P w 0 sp held t v d ps) : ∃ xs : List α, SlR R s (Rg w 0 w.heap.size) v xs ∧ (xs.map sz).sum + 1 ≤ Rows.uptoBulk d ∧ xs.length + 1 ≤ Rows.uptoBulk d ∧ (∀ r : Nat, ((DataW.weights P t d).all (· ≤ r)) = true → xs.length * P.bytesOf e ≤ r) :=
  arg_sl s hs hs0 ht he.o hval h
/-- An argument that is a structure. -/
theorem arg_st {α : Type} {r : Reach} {b0 : Nat} {t : TypeId} {fs : Array Field} {R : Hv → List Value → α → Prop} {sz : α → Nat} {v : Value} {d : DataW H} {ps : List MemPlace} (ht : P.underlying t = some (.struct fs)) (he : OpT enc P w sp held t R sz)
    (hval : Value.okWide P w r b0 t v) (h : DataW.Trod enc P w 0 sp held t v d ps) : ∃ (cs : List Value) (a : α), v = .agg cs.toArray ∧ R (Rg w 0 w.heap.size) cs a ∧ sz a ≤ Rows.uptoBulk d := by
  unfold Value.okWide at hval
  rw [ht] at hval
  obtain ⟨cs, rfl, _⟩ := hval
  obtain ⟨fuel, hh⟩ := h
  obtain ⟨a, h1, h2⟩ := he.o hh
  exact ⟨cs.toList, a, by simp, h1, h2⟩
end
end Go.Proofs.Ytffkcgogkhdcdaa.Eng
