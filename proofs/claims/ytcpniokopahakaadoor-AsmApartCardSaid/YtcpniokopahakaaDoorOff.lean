/- Rows of the call's own that may begin inside their block: grown, cut at the front, read. -/
import Derived.Test.YtcpniokopahakaaDoorApd
import Derived.ArgAppend
set_option linter.unusedVariables false
set_option linter.unusedSimpArgs false
namespace Go.Proofs.YtcpniokopahakaaDoor.Eng
open Go Go.RowKit
section
variable {P : Program} {α : Type} {lo s : Nat} {w w' w0 : World} {e e' : TypeId} {en : α → List Value} {v v' u : Value} {xs ys : List α} {b : Nat} {cs : List Value} {K : Value → World → Prop}
def Off (lo : Nat) (w : World) (e : TypeId) (s : Nat) (en : α → List Value) (v : Value) (xs : List α) : Prop :=
  ((v = .slice none 0 0 ∧ xs = []) ∨ ∃ g o cap cur, v = .slice (some ⟨g, o, none⟩) xs.length cap ∧ lo ≤ g ∧ Blk w g cur e ∧ o + cap * s ≤ cur.length ∧ xs.length ≤ cap ∧ cap ≤ 9223372036854775807 ∧ (cur.drop o).take (xs.length * s) = xs.flatMap en) ∧ ∀ x, (en x).length = s
theorem Off.nil (lo : Nat) (w : World) (e : TypeId) (h : ∀ x, (en x).length = s) : Off lo w e s en (.slice none 0 0) [] := ⟨.inl ⟨rfl, rfl⟩, h⟩
theorem Off.lt (h : Off lo w e s en v xs) {k : Nat} (hk : v.ownBlock = some k) : lo ≤ k ∧ k < w.heap.size := by
  rcases h.1 with ⟨rfl, _⟩ | ⟨g, o, cap, cur, rfl, hlo, hb, _⟩
  · cases hk
  · obtain rfl := Option.some.inj hk; exact ⟨hlo, hb.lt⟩
theorem Off.keep (h : Off lo w e s en v xs) (hb : ∀ k, v.ownBlock = some k → w'.heap[k]? = w.heap[k]?) : Off lo w' e s en v xs := by
  refine ⟨?_, h.2⟩
  rcases h.1 with h | ⟨g, o, cap, cur, rfl, hlo, hk, r⟩
  · exact .inl h
  · exact .inr ⟨g, o, cap, cur, rfl, hlo, hk.keep (hb g rfl), r⟩
theorem Off.ev {fp : Nat → Prop} (h : Off lo w e s en v xs) (x : Ev w w' fp) (hn : ∀ k, v.ownBlock = some k → ¬ fp k) : Off lo w' e s en v xs := h.keep fun k hk => x.block k (h.lt hk).2 (hn k hk)
theorem Off.one (h : Off lo w e s en v xs) : v.oneCell' = true := by
  rcases h.1 with ⟨rfl, _⟩ | ⟨_, _, _, _, rfl, _⟩ <;> rfl
theorem Off.form (h : Off lo w e s en v xs) : ∃ a c, v = .slice a xs.length c := by
  rcases h.1 with ⟨rfl, rfl⟩ | ⟨_, _, _, _, rfl, _⟩
  · exact ⟨_, _, rfl⟩
  · exact ⟨_, _, rfl⟩
theorem Off.own (h : w.ownsRow lo e s v xs.length (xs.flatMap en)) (hs : ∀ x, (en x).length = s) : Off lo w e s en v xs := by
  refine ⟨?_, hs⟩
  rcases h.2 with ⟨rfl, h0⟩ | ⟨g, cap, cur, rfl, hlo, hg, hnc, hcm, hcs, ht⟩
  · exact .inl ⟨rfl, List.eq_nil_of_length_eq_zero h0⟩
  · exact .inr ⟨g, 0, cap, cur.toList, rfl, hlo, hg, by simp [hcs], hnc, by unfold maxLen at hcm; omega, by simpa using ht⟩
/-- append, wherever the row begins. -/
theorem rAppF {t ty : TypeId} {m c b o : Nat} (z : Value) (by_ : Nat) (hown : Off lo w e s en v xs) (hat : At w b o (ys.flatMap en)) (hm : ys.length = m)
    (h1 : ∀ y ∈ ys, ((en y).all (·.oneCell')) = true) (hu : P.underlying t = some (.slice e)) (hz : (P.info? e).map (fun i => (i.zero, i.size, i.bytes)) = some (some z, s, by_)) (hzs : z.cells.size = s) (hsz : 0 < s)
    (hb : (xs.length + m) * by_ ≤ 140737488355328) (hml : xs.length + m ≤ 140737488355328) (hlo : lo ≤ w.heap.size)
    (k : ∀ v' w', Off lo w' e s en v' (xs ++ ys) → Gr w w' v v' → K v' w') : RunP P (Builtin.append_ #[t, t] ty #[v, .slice (some ⟨b, o, none⟩) m c]) w K := by
  rcases hown.1 with ⟨rfl, rfl⟩ | ⟨g, of, cap, cur, rfl, hlg, hbk, hfit, hnc, hcm, ht⟩
  · refine rAppO z by_ (Own.nil lo w e hown.2) hat hm h1 hu hz hzs hsz hb hml hlo fun v' w' hO hG => k v' w' ?_ hG
    exact Off.own hO.1 hO.2
  · have hol : (xs.flatMap en).length = xs.length * s := flat_len hown.2 xs
    have hnl : (ys.flatMap en).length = m * s := by rw [← hm]; exact flat_len hown.2 ys
    have ho : ∀ u ∈ ys.flatMap en, u.oneCell' = true := fun u hu => by
      obtain ⟨y, hy, hu⟩ := List.mem_flatMap.1 hu
      exact List.all_eq_true.1 (h1 y hy) u hu
    cases hi : P.info? e with
    | none => simp [hi] at hz
    | some i =>
      simp only [hi, Option.map_some, Option.some.injEq, Prod.mk.injEq] at hz
      obtain ⟨h2, h3, h4⟩ := hz
      subst h3
      by_cases hr : xs.length + m ≤ cap
      · have hcap : (xs.length + m) * i.size ≤ cap * i.size := Nat.mul_le_mul_right _ hr
        rw [Nat.add_mul] at hcap
        have hst := run_storeCells_at (P := P) g (of + xs.length * i.size) e (ys.flatMap en) 0 cur.toArray w hbk (by rw [hnl]; simp; omega) ho
        simp only [Nat.add_zero] at hst
        have hfc := run_firstCells_some (P := P) w i.size m ⟨b, o, none⟩ m c (ys.flatMap en) hnl (fun j u hj => by rw [Addr.add_lit]; exact hat.cell hj)
        obtain ⟨hU, hB⟩ := setRow_upd (o := of + xs.length * i.size) (vs := ys.flatMap en) hbk (by rw [hnl]; omega)
        refine ⟨.slice (some ⟨g, of, none⟩) (xs.length + m) cap, _, ?_, k _ _ ⟨.inr ⟨g, of, cap, _, by rw [List.length_append, hm], hlg, hB, by rw [setsL_length]; exact hfit, by rw [List.length_append, hm]; exact hr, hcm, ?_⟩, hown.2⟩ ⟨⟨hU.os, hU.tape, hU.output, by rw [hU.size]; exact Nat.le_refl _, fun k _ hk => hU.block k (fun e => hk (by rw [e]; rfl))⟩, .inl rfl⟩⟩
        · simp [Builtin.append_, run_underlying hu, sizeOf, typeInfo, hi, Builtin.lenOf, hr, hfc, Addr.add_lit, hst]
        · rw [List.length_append, hm, List.flatMap_append, ← ht, setsL_eq _ _ _ (by rw [hnl]; omega), List.append_assoc, List.drop_append_of_le_length (by rw [List.length_take]; omega), ← List.append_assoc, List.drop_take,
            show of + xs.length * i.size - of = xs.length * i.size by omega, List.take_append_of_le_length (by rw [List.length_append, List.length_take, List.length_drop, hnl, Nat.add_mul]; omega), List.take_of_length_le (by rw [List.length_append, List.length_take, List.length_drop, hnl, Nat.add_mul]; omega)]
      · have hat0 : At w g of (xs.flatMap en) := by
          have := hbk.at.sub of (xs.length * i.size); rw [ht, Nat.zero_add] at this; exact this
        obtain ⟨v', w', hrun, r1, r2⟩ := run_append_arg_grows (P := P) w t ty e i z i.size by_ hu hi h2 rfl h4 hzs hsz ⟨g, of, none⟩ xs.length cap (xs.flatMap en) hol (fun j u hj => by rw [Addr.add_lit]; exact hat0.cell hj) ⟨b, o, none⟩ m c (ys.flatMap en) hnl (fun j u hj => by rw [Addr.add_lit]; exact hat.cell hj) (by omega) (by simp [maxLen]; omega) hb
        have hO : Off w.heap.size w' e i.size en v' (xs ++ ys) := Off.own (by rw [List.length_append, hm, List.flatMap_append]; exact r1) hown.2
        refine ⟨v', w', hrun, k v' w' ?_ ⟨⟨r2.os, r2.tape, r2.output, r2.size, fun k hk _ => r2.block k hk (by simp)⟩, ?_⟩⟩
        · refine ⟨?_, hown.2⟩
          rcases hO.1 with h | ⟨g', o', c', cu', a1, a2, a3⟩
          · exact .inl h
          · exact .inr ⟨g', o', c', cu', a1, Nat.le_trans hlo a2, a3⟩
        · rcases hO.1 with ⟨h, _⟩ | ⟨g', o', c', cu', a1, a2, a3⟩
          · exact .inr (.inl (by rw [h]; rfl))
          · exact .inr (.inr ⟨g', by rw [a1]; rfl, a2⟩)
/-- The first element off. -/
theorem Off.tail {x : α} {g o n cap : Nat} (h : Off lo w e s en (.slice (some ⟨g, o, none⟩) n cap) (x :: xs)) : Off lo w e s en (.slice (some ⟨g, if cap = 1 then o else o + 1 * s, none⟩) (n - 1) (cap - 1)) xs := by
  rcases h.1 with ⟨_, h0⟩ | ⟨g', o', cap', cur, he, hlo, hb, hfit, hnc, hcm, hct⟩
  · cases h0
  · injection he with h1 h2 h3
    injection h1 with h1
    injection h1 with h1 h4
    subst h1; subst h2; subst h3; subst h4
    simp only [List.length_cons] at hnc hct ⊢
    refine ⟨.inr ⟨g, if cap = 1 then o else o + 1 * s, cap - 1, cur, by rw [Nat.add_sub_cancel], hlo, hb, ?_, by omega, by omega, ?_⟩, h.2⟩
    · split
      · have : cap - 1 = 0 := by omega
        rw [this]; omega
      · have : (cap - 1) * s + s = cap * s := by rw [← Nat.succ_mul]; congr 1; omega
        omega
    · split
      · have : xs = [] := List.eq_nil_of_length_eq_zero (by omega)
        subst this; simp
      · have e1 := congrArg (List.drop s) hct
        rw [List.drop_take, List.drop_drop, List.flatMap_cons, List.drop_append_of_le_length (by rw [h.2]; exact Nat.le_refl _), List.drop_of_length_le (l := en x) (by rw [h.2]; exact Nat.le_refl _), List.nil_append, Nat.succ_mul, Nat.add_sub_cancel] at e1
        rw [Nat.one_mul]; exact e1
/-- The first element, where it lies. -/
theorem Off.head {x : α} (h : Off lo w e s en v (x :: xs)) : ∃ g o cap, v = .slice (some ⟨g, o, none⟩) (xs.length + 1) cap ∧ lo ≤ g ∧ At w g o (en x) := by
  rcases h.1 with ⟨_, h0⟩ | ⟨g, o, cap, cur, rfl, hlo, hb, hfit, hnc, hcm, hct⟩
  · cases h0
  · refine ⟨g, o, cap, rfl, hlo, ?_⟩
    have := hb.at.sub o s
    rw [Nat.zero_add] at this
    have e1 := congrArg (List.take s) hct
    rw [List.take_take, List.length_cons, Nat.min_eq_left (by rw [Nat.succ_mul]; omega), List.flatMap_cons, List.take_append_of_le_length (by rw [h.2]; exact Nat.le_refl _)] at e1
    rw [e1, List.take_of_length_le (by rw [h.2]; exact Nat.le_refl _)] at this; exact this
end
theorem rIdxArr' {P : Program} {w : World} {K : Value → World → Prop} {t e : TypeId} {b o n : Nat} {ki : IntKind} {i : Int} (sz j p : Nat) (hj : i = j) (hl : j < n) (hp : o + j * sz = p) (ht : P.underlying t = some (.array n e)) (hs : (P.info? e).map (fun i => i.size) = some sz)
    (k : K (.pointer (some ⟨b, p, none⟩)) w) : RunP P (Instr.indexAt t (.pointer (some ⟨b, o, none⟩)) (.int ki i)) w K := by
  subst hj; subst hp
  refine ⟨_, w, ?_, k⟩
  cases hi' : P.info? e with
  | none => simp [hi'] at hs
  | some i' =>
    simp only [hi', Option.map_some, Option.some.injEq] at hs
    simp [Instr.indexAt, Instr.sureAddr, asIntOf, run_underlying ht, sizeOf, typeInfo, hi', hs, Addr.add_lit, hl]
end Go.Proofs.YtcpniokopahakaaDoor.Eng
