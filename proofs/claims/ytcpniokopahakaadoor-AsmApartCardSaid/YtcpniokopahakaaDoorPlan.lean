/- A cheap check of a plan: bit masks in the place of arrays. -/
import Derived.Test.YtcpniokopahakaaDoorDraw
namespace Go.Proofs.YtcpniokopahakaaDoor.Eng
open Go
set_option linter.unusedVariables false
def smask (l : List Nat) : Nat := l.foldr (fun t m => Nat.lor (Nat.shiftLeft 1 t) m) 0
theorem smask_bit (l : List Nat) (j : Nat) : (smask l).testBit j = true ↔ j ∈ l := by
  induction l with
  | nil => simp [smask]
  | cons t r ih =>
    have e : smask (t :: r) = (1 <<< t) ||| smask r := rfl
    rw [e, Nat.testBit_or, Bool.or_eq_true, ih, Nat.one_shiftLeft, Nat.testBit_two_pow, List.mem_cons]
    simp; constructor
    · rintro (h | h); exact .inl h.symm; exact .inr h
    · rintro (h | h); exact .inl h.symm; exact .inr h
/-- An operation's masks: what it waits for, what it looks at, what it writes. -/
structure Rec where
  i : Nat
  take : Bool
  af : Nat
  lk : Nat
  ds : Nat
def amask (o : Oper) : Nat := smask (o.after.toList.filterMap fun e => if Region.binds .any e then some e.on else none)
def mkRec (ops : Array Oper) (p : Nat × Bool) : Option Rec := (ops[p.1]?).map fun o => ⟨p.1, p.2, amask o, smask (o.looksAt ops), smask o.dst.toList⟩
def zeroB (n : Nat) : Bool := Nat.beq n 0
def recApart (x y : Rec) : Bool := zeroB (Nat.land x.ds (Nat.lor y.lk y.ds)) && zeroB (Nat.land y.ds x.lk)
def inB (m i : Nat) : Bool := Nat.beq (Nat.land (Nat.shiftRight m i) 1) 1
def recsOk : List Rec → Nat → Nat → Bool
  | [], listed, all => Nat.beq listed all
  | r :: rest, listed, all => Nat.beq (Nat.land r.af listed) r.af && !inB listed r.i &&
      (match r.take with
       | true => rest.all fun q => inB q.af r.i || recApart r q
       | false => rest.all fun q => !Nat.beq (Nat.land q.af listed) q.af) && recsOk rest (Nat.lor listed (Nat.shiftLeft 1 r.i)) all
def recsOf (ops : Array Oper) : List (Nat × Bool) → Option (List Rec)
  | [] => some []
  | p :: r => match mkRec ops p with
    | none => none
    | some x => match recsOf ops r with
      | none => none
      | some l => some (x :: l)
def fastOk (ops : Array Oper) (plan : List (Nat × Bool)) : Bool := Region.noSelect ops && Nat.beq plan.length ops.size && match recsOf ops plan with
  | none => false
  | some l => recsOk l 0 (2 ^ ops.size - 1)
theorem inB_eq (m i : Nat) : inB m i = m.testBit i := by
  unfold inB
  rw [show Nat.land (Nat.shiftRight m i) 1 = (m >>> i) &&& 1 from rfl, Nat.and_one_is_mod]
  rw [Nat.testBit, Nat.one_and_eq_mod_two]
  rcases Nat.mod_two_eq_zero_or_one (m >>> i) with h | h <;> rw [h] <;> rfl
theorem land_sub {a b : Nat} (h : Nat.beq (Nat.land a b) a = true) (j : Nat) (hj : a.testBit j = true) : b.testBit j = true := by
  have h := Nat.eq_of_beq_eq_true h
  have h2 : (a &&& b).testBit j = a.testBit j := congrArg (fun n => Nat.testBit n j) h
  rw [Nat.testBit_and, hj] at h2
  simpa using h2
theorem land_not {a b : Nat} (h : (!Nat.beq (Nat.land a b) a) = true) : ∃ j, a.testBit j = true ∧ b.testBit j = false := by
  apply Classical.byContradiction
  intro hn
  have e : a &&& b = a := by
    apply Nat.eq_of_testBit_eq
    intro j
    rw [Nat.testBit_and]
    cases ha : a.testBit j
    · rfl
    · cases hb : b.testBit j
      · exact absurd ⟨j, ha, hb⟩ hn
      · rfl
  rw [show Nat.land a b = a from e] at h
  simp at h
theorem zero_land {a b : Nat} (h : zeroB (Nat.land a b) = true) (j : Nat) (ha : a.testBit j = true) : b.testBit j = false := by
  have h := Nat.eq_of_beq_eq_true h
  have h2 : (a &&& b).testBit j = false := by rw [show a &&& b = 0 from h]; simp
  rw [Nat.testBit_and, ha] at h2
  simpa using h2
theorem amask_bit (o : Oper) (j : Nat) : (amask o).testBit j = true ↔ ∃ e ∈ o.after, Region.binds .any e = true ∧ e.on = j := by
  unfold amask
  rw [smask_bit, List.mem_filterMap]
  constructor
  · rintro ⟨e, he, h⟩
    split at h
    · exact ⟨e, by simpa using he, by assumption, Option.some.inj h⟩
    · cases h
  · rintro ⟨e, he, hb, h⟩
    exact ⟨e, by simpa using he, by rw [if_pos hb, h]⟩
theorem recApart_sound {ops : Array Oper} {x y : Oper} {rx ry : Rec} (hx : rx.lk = smask (x.looksAt ops)) (hx' : rx.ds = smask x.dst.toList) (hy : ry.lk = smask (y.looksAt ops)) (hy' : ry.ds = smask y.dst.toList)
    (h : recApart rx ry = true) : x.apart ops y = true := by
  unfold recApart at h
  rw [Bool.and_eq_true] at h
  obtain ⟨h1, h2⟩ := h
  unfold Oper.apart
  rw [Bool.and_eq_true]
  constructor
  · split
    · rename_i d hd
      have hb : rx.ds.testBit d = true := by rw [hx', smask_bit, hd]; simp
      have h3 := zero_land h1 d hb
      rw [show Nat.lor ry.lk ry.ds = ry.lk ||| ry.ds from rfl, Nat.testBit_or, Bool.or_eq_false_iff] at h3
      obtain ⟨h4, h5⟩ := h3
      rw [Bool.and_eq_true]
      constructor
      · rw [Bool.not_eq_true', ← Bool.not_eq_true, List.contains_iff_mem]
        intro hm
        rw [hy, ← Bool.not_eq_true, smask_bit] at h4
        exact h4 hm
      · rw [bne_iff_ne]
        intro he
        rw [hy', ← Bool.not_eq_true, smask_bit, he] at h5
        exact h5 (by simp)
    · rfl
  · split
    · rename_i d hd
      have hb : ry.ds.testBit d = true := by rw [hy', smask_bit, hd]; simp
      have h3 := zero_land h2 d hb
      rw [Bool.not_eq_true', ← Bool.not_eq_true, List.contains_iff_mem]
      intro hm
      rw [hx, ← Bool.not_eq_true, smask_bit] at h3
      exact h3 hm
    · rfl
theorem recsOf_cons {ops : Array Oper} {p : Nat × Bool} {r : List (Nat × Bool)} {l : List Rec} (h : recsOf ops (p :: r) = some l) :
    ∃ x l' o, l = x :: l' ∧ recsOf ops r = some l' ∧ ops[p.1]? = some o ∧ x = ⟨p.1, p.2, amask o, smask (o.looksAt ops), smask o.dst.toList⟩ := by
  unfold recsOf at h
  split at h
  · cases h
  · rename_i x hx
    split at h
    · cases h
    · rename_i l' hl
      obtain rfl := Option.some.inj h
      unfold mkRec at hx
      cases ho : ops[p.1]? with
      | none => rw [ho] at hx; cases hx
      | some o => rw [ho] at hx; exact ⟨x, l', o, rfl, hl, rfl, (Option.some.inj hx).symm⟩
theorem recsOf_mem {ops : Array Oper} : ∀ {r : List (Nat × Bool)} {l : List Rec}, recsOf ops r = some l → ∀ q ∈ l, ∃ o, ops[q.i]? = some o ∧ q.af = amask o ∧ q.lk = smask (o.looksAt ops) ∧ q.ds = smask o.dst.toList := by
  intro r
  induction r with
  | nil => intro l h q hq; unfold recsOf at h; obtain rfl := Option.some.inj h; cases hq
  | cons p r ih =>
    intro l h q hq
    obtain ⟨x, l', o, rfl, hl, ho, rfl⟩ := recsOf_cons h
    rcases List.mem_cons.1 hq with rfl | hq
    · exact ⟨o, ho, rfl, rfl, rfl⟩
    · exact ih hl q hq
theorem recs_cover : ∀ (l : List Rec) (m all : Nat), recsOk l m all = true → ∀ j, all.testBit j = true → m.testBit j = true ∨ ∃ q ∈ l, q.i = j := by
  intro l
  induction l with
  | nil =>
    intro m all h j hj
    unfold recsOk at h
    have := Nat.eq_of_beq_eq_true h
    subst this
    exact .inl hj
  | cons r l ih =>
    intro m all h j hj
    unfold recsOk at h
    rw [Bool.and_eq_true] at h
    rcases ih _ _ h.2 j hj with h1 | ⟨q, hq, e⟩
    · rw [show Nat.lor m (Nat.shiftLeft 1 r.i) = m ||| (1 <<< r.i) from rfl, Nat.testBit_or, Bool.or_eq_true, Nat.one_shiftLeft, Nat.testBit_two_pow] at h1
      rcases h1 with h1 | h1
      · exact .inl h1
      · exact .inr ⟨r, List.mem_cons_self, by simpa using h1⟩
    · exact .inr ⟨q, List.mem_cons_of_mem _ hq, e⟩
theorem big_bit : ∀ {l : List Rec} {m n j : Nat}, n ≤ j → recsOk l m (2 ^ n - 1) = true → m.testBit j = true → False := by
  intro l
  induction l with
  | nil =>
    intro m n j hj h hb
    unfold recsOk at h
    have := Nat.eq_of_beq_eq_true h
    rw [this, Nat.testBit_two_pow_sub_one] at hb
    simp at hb; omega
  | cons r l ih =>
    intro m n j hj h hb
    unfold recsOk at h
    rw [Bool.and_eq_true] at h
    refine ih hj h.2 ?_
    rw [show Nat.lor m (Nat.shiftLeft 1 r.i) = m ||| (1 <<< r.i) from rfl, Nat.testBit_or, hb, Bool.true_or]
theorem planOk_fast {ops : Array Oper} : ∀ (plan : List (Nat × Bool)) (l : List Rec) (m : Nat) (listed : Array Bool), recsOf ops plan = some l → recsOk l m (2 ^ ops.size - 1) = true → listed.size = ops.size →
    (∀ j, j < ops.size → listed.getD j true = m.testBit j) → planOk ops plan listed = true := by
  intro plan
  induction plan with
  | nil =>
    intro l m listed hl hok hsz hm
    unfold recsOf at hl
    obtain rfl := Option.some.inj hl
    unfold recsOk at hok
    have hok := Nat.eq_of_beq_eq_true hok
    show (Region.ready .any ops listed).isEmpty = true
    rw [List.isEmpty_iff, List.eq_nil_iff_forall_not_mem]
    intro j hj
    obtain ⟨h0, o, ho, _⟩ := mem_ready.1 hj
    have hlt : j < ops.size := (Array.getElem?_eq_some_iff.1 ho).1
    rw [hm j hlt, hok, Nat.testBit_two_pow_sub_one] at h0
    simp [hlt] at h0
  | cons p plan ih =>
    intro l m listed hl hok hsz hm
    obtain ⟨x, l', o, rfl, hl', ho, rfl⟩ := recsOf_cons hl
    have hcov := recs_cover _ _ _ hok
    unfold recsOk at hok
    simp only [Bool.and_eq_true] at hok
    obtain ⟨⟨⟨hr, hun⟩, hk⟩, hrest⟩ := hok
    have hlt : p.1 < ops.size := (Array.getElem?_eq_some_iff.1 ho).1
    have hunl : listed.getD p.1 true = false := by rw [hm _ hlt, ← inB_eq]; simpa using hun
    have hafter : ∀ e ∈ o.after, Region.binds .any e = true → listed.getD e.on false = true := fun e he hb => by
      have h1 := land_sub hr e.on ((amask_bit o e.on).2 ⟨e, he, hb, rfl⟩)
      have h3 : e.on < ops.size := by
        rcases Nat.lt_or_ge e.on ops.size with h | h
        · exact h
        · exact (big_bit h hrest (by rw [show Nat.lor m (Nat.shiftLeft 1 p.1) = m ||| (1 <<< p.1) from rfl, Nat.testBit_or, h1, Bool.true_or])).elim
      have h2 := hm e.on h3
      rw [h1] at h2
      simp only [Array.getD_eq_getD_getElem?] at h2 ⊢
      rw [Array.getElem?_eq_getElem (by omega)] at h2 ⊢
      simpa using h2
    have hready : p.1 ∈ Region.ready .any ops listed := mem_ready.2 ⟨hunl, o, ho, hafter⟩
    have hothers : ∀ j oj, ops[j]? = some oj → j ≠ p.1 → listed.getD j true = false → ∃ q ∈ l', q.i = j ∧ q.af = amask oj ∧ q.lk = smask (oj.looksAt ops) ∧ q.ds = smask oj.dst.toList := fun j oj hj hne hu => by
      have hjl : j < ops.size := (Array.getElem?_eq_some_iff.1 hj).1
      rcases hcov j (by rw [Nat.testBit_two_pow_sub_one]; simpa using hjl) with h1 | ⟨q, hq, e⟩
      · rw [hm j hjl, h1] at hu; cases hu
      · rcases List.mem_cons.1 hq with rfl | hq
        · exact absurd e.symm hne
        · obtain ⟨o', ho', h1, h2, h3⟩ := recsOf_mem hl' q hq
          rw [e, hj] at ho'
          obtain rfl := Option.some.inj ho'
          exact ⟨q, hq, e, h1, h2, h3⟩
    rw [planOk_cons, ho]
    simp only [Bool.and_eq_true]
    refine ⟨?_, ih l' _ _ hl' hrest (by simpa using hsz) fun j hj => ?_⟩
    · obtain ⟨i, take⟩ := p
      dsimp only at *
      cases take with
      | true =>
        dsimp only at hk ⊢
        rw [Bool.and_eq_true]
        refine ⟨?_, by simpa using hready⟩
        unfold Region.free
        rw [ho]
        simp only [List.all_eq_true, List.mem_range]
        intro j hj
        cases hji : (j == i)
        · cases hlj : listed.getD j true
          · rw [Array.getElem?_eq_getElem hj]
            simp only [Bool.false_or]
            obtain ⟨q, hq, e, h1, h2, h3⟩ := hothers j ops[j] (Array.getElem?_eq_getElem hj) (by simpa using hji) hlj
            have h4 := List.all_eq_true.1 hk q hq
            rw [Bool.or_eq_true] at h4 ⊢
            rcases h4 with h4 | h4
            · left
              rw [inB_eq, h1, amask_bit] at h4
              obtain ⟨ed, he, hb, hon⟩ := h4
              rw [Array.any_eq_true']
              exact ⟨ed, he, by rw [hb, hon]; simp⟩
            · right
              exact recApart_sound rfl rfl h2 h3 h4
          · simp
        · simp
      | false =>
        dsimp only at hk ⊢
        rw [beq_iff_eq]
        have huniq : ∀ j ∈ Region.ready .any ops listed, j = i := fun j hj => by
          apply Classical.byContradiction
          intro hne
          obtain ⟨h0, oj, hoj, hall⟩ := mem_ready.1 hj
          obtain ⟨q, hq, e, h1, h2, h3⟩ := hothers j oj hoj hne h0
          have h4 := List.all_eq_true.1 hk q hq
          obtain ⟨b, hb1, hb2⟩ := land_not h4
          rw [h1, amask_bit] at hb1
          obtain ⟨ed, he, hb, hon⟩ := hb1
          have h5 := hall ed he hb
          rw [hon] at h5
          have hbl : b < ops.size := by
            rcases Nat.lt_or_ge b listed.size with h | h
            · omega
            · simp [Array.getD_eq_getD_getElem?, Array.getElem?_eq_none h] at h5
          have h6 := hm b hbl
          rw [hb2] at h6
          simp only [Array.getD_eq_getD_getElem?] at h5 h6
          rw [Array.getElem?_eq_getElem (by omega)] at h5 h6
          simp at h5 h6
          rw [h5] at h6; cases h6
        have hnd : (Region.ready .any ops listed).Nodup := by
          unfold Region.ready; exact List.Pairwise.filter _ List.nodup_range
        generalize Region.ready .any ops listed = R at *
        match R, hnd, huniq, hready with
        | [], _, _, h => cases h
        | [a], _, hu, _ => rw [hu a List.mem_cons_self]
        | a :: b :: r, hnd, hu, _ =>
          have h1 := hu a List.mem_cons_self
          have h2 := hu b (by simp)
          rw [List.nodup_cons] at hnd
          exact absurd (by rw [h1, h2]; simp) hnd.1
    · show (listed.setIfInBounds p.1 true).getD j true = (m ||| (1 <<< p.1)).testBit j
      rw [Nat.testBit_or, Nat.one_shiftLeft, Nat.testBit_two_pow, ← hm j hj]
      by_cases h : p.1 = j
      · subst h; simp [hsz, hj]
      · simp [Array.getElem?_setIfInBounds_ne h, h]
theorem regionOk_fast {ops : Array Oper} {plan : List (Nat × Bool)} (h : fastOk ops plan = true) : regionOk ops plan = true := by
  unfold fastOk at h
  simp only [Bool.and_eq_true] at h
  obtain ⟨⟨h1, h2⟩, h3⟩ := h
  split at h3
  · cases h3
  · rename_i l hl
    unfold regionOk
    rw [h1, planOk_fast plan l 0 _ hl h3 (by simp) (fun j hj => by simp [hj])]
    simp [Nat.eq_of_beq_eq_true h2]
/-- A region that draws, walked along a plan (the cheap check). -/
theorem draws {P : Program} {ops : Array Oper} {K : List Value → World → Prop} {ρ0 : List Value} {id : Nat} {w : World} (S : World → Prop) (plan : List (Nat × Bool)) (hm : P.follows .mixedOrders = true) (hc : fastOk ops plan = true)
    (h : ∀ w1, w1 = w.drew → S w1 ∧ planK P ops.toList S K plan ρ0 w1) : DrawP P id ops K ρ0 w := draw S plan hm (regionOk_fast hc) h
end Go.Proofs.YtcpniokopahakaaDoor.Eng
