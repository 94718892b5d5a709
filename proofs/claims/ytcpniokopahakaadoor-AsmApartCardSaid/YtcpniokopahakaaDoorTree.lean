/- A region whose order is open at some places: a tree of plans; at a fork each way is walked. -/
import Derived.Test.YtcpniokopahakaaDoorSep
namespace Go.Proofs.YtcpniokopahakaaDoor.Eng
open Go Go.RowKit
set_option linter.unusedVariables false
inductive Tr where
  | nil
  | op (i : Nat) (k : Kd) (r : Tr)
  | fork (a b : Tr)
  | hold (r : Tr)
def heads : Tr → List Nat
  | .nil => []
  | .op i _ _ => [i]
  | .fork a b => heads a ++ heads b
  | .hold _ => []
def dep : Tr → Nat
  | .nil => 0
  | .op _ _ r => dep r + 1
  | .fork a b => max (dep a) (dep b)
  | .hold r => dep r
def heldT : Tr → List Nat
  | .nil => []
  | .op i k r => match k with
    | .held => i :: heldT r
    | _ => heldT r
  | .fork a b => heldT a ++ heldT b
  | .hold _ => []
def allT : Tr → List Nat
  | .nil => []
  | .op i _ r => i :: allT r
  | .fork a b => allT a ++ allT b
  | .hold r => allT r
def freeT : Tr → List Nat
  | .nil => []
  | .op i k r => match k with
    | .free => i :: freeT r
    | _ => freeT r
  | .fork a b => freeT a ++ freeT b
  | .hold r => allT r
def zAll (ops : Array Oper) : Tr → Bool
  | .nil => true
  | .op _ _ r => zAll ops r
  | .fork a b => zAll ops a && zAll ops b
  | .hold r => zOk ops (heldT r) (freeT r) && zAll ops r
def recOf (ops : Array Oper) (x : Oper × Nat) : Rec := ⟨x.2, true, amask x.1, smask (x.1.looksAt ops), smask x.1.dst.toList⟩
def recAll (ops : Array Oper) : List Rec := ops.toList.zipIdx.map (recOf ops)
def subB (a m : Nat) : Bool := Nat.beq (Nat.land a m) a
def treeOk (all : Nat) (recs : List Rec) : Tr → Nat → Bool → Bool
  | .nil, m, f => !f && Nat.beq m all
  | .op i k r, m, f => match recs[i]? with
    | none => false
    | some x => subB x.af m && !inB m i && (match kd2 k with
      | true => !f && recs.all fun q => inB m q.i || Nat.beq q.i i || inB q.af i || recApart x q
      | false => f || recs.all fun q => inB m q.i || Nat.beq q.i i || !subB q.af m) && treeOk all recs r (Nat.lor m (Nat.shiftLeft 1 i)) false
  | .fork a b, m, f => (f || recs.all fun q => inB m q.i || !subB q.af m || (heads a ++ heads b).contains q.i) && treeOk all recs a m true && treeOk all recs b m true
  | .hold r, m, f => !f && treeOk all recs r m false
theorem recAll_get {ops : Array Oper} {j : Nat} {o : Oper} (h : ops[j]? = some o) : (recAll ops)[j]? = some (recOf ops (o, j)) := by
  unfold recAll
  rw [List.getElem?_map, List.getElem?_zipIdx, Array.getElem?_toList, h]
  simp
theorem recAll_of {ops : Array Oper} {j : Nat} {x : Rec} (h : (recAll ops)[j]? = some x) : ∃ o, ops[j]? = some o ∧ x = recOf ops (o, j) := by
  unfold recAll at h
  rw [List.getElem?_map, List.getElem?_zipIdx, Array.getElem?_toList] at h
  cases ho : ops[j]? with
  | none => rw [ho] at h; cases h
  | some o => rw [ho] at h; exact ⟨o, rfl, by simpa using h.symm⟩
theorem recAll_mem {ops : Array Oper} {j : Nat} {o : Oper} (h : ops[j]? = some o) : recOf ops (o, j) ∈ recAll ops := List.mem_of_getElem? (recAll_get h)
theorem sub_of {a b : Nat} (h : ∀ j, a.testBit j = true → b.testBit j = true) : subB a b = true := by
  unfold subB
  rw [show Nat.land a b = a &&& b from rfl]
  have : a &&& b = a := by
    apply Nat.eq_of_testBit_eq
    intro j
    rw [Nat.testBit_and]
    cases ha : a.testBit j
    · rfl
    · rw [h j ha]; rfl
  rw [this]; exact Nat.beq_refl a
structure MInv (ops : Array Oper) (listed : Array Bool) (m : Nat) : Prop where
  sz : listed.size = ops.size
  bit : ∀ j, j < ops.size → listed.getD j true = m.testBit j
  lt : ∀ j, m.testBit j = true → j < ops.size
  cl : Cl .any ops listed
section
variable {ops : Array Oper} {listed : Array Bool} {m : Nat}
theorem MInv.getF (I : MInv ops listed m) {j : Nat} : listed.getD j false = true ↔ m.testBit j = true := by
  constructor
  · intro h
    have hj : j < listed.size := by
      rcases Nat.lt_or_ge j listed.size with h1 | h1
      · exact h1
      · simp [Array.getD_eq_getD_getElem?, Array.getElem?_eq_none h1] at h
    have h2 := I.bit j (I.sz ▸ hj)
    simp only [Array.getD_eq_getD_getElem?] at h h2
    rw [Array.getElem?_eq_getElem hj] at h h2
    simp at h h2
    rw [← h2, h]
  · intro h
    have hj := I.lt j h
    have h2 := I.bit j hj
    rw [h] at h2
    simp only [Array.getD_eq_getD_getElem?] at h2 ⊢
    rw [Array.getElem?_eq_getElem (by rw [I.sz]; exact hj)] at h2 ⊢
    simpa using h2
theorem MInv.rdy (I : MInv ops listed m) {j : Nat} {o : Oper} (ho : ops[j]? = some o) : j ∈ Region.ready .any ops listed ↔ m.testBit j = false ∧ subB (amask o) m = true := by
  have hj : j < ops.size := (Array.getElem?_eq_some_iff.1 ho).1
  rw [mem_ready, I.bit j hj]
  constructor
  · rintro ⟨h1, o', ho', h2⟩
    obtain rfl : o = o' := by rw [ho] at ho'; exact Option.some.inj ho'
    refine ⟨h1, sub_of fun k hk => ?_⟩
    obtain ⟨e, he, hb, rfl⟩ := (amask_bit o k).1 hk
    exact I.getF.1 (h2 e he hb)
  · rintro ⟨h1, h2⟩
    exact ⟨h1, o, ho, fun e he hb => I.getF.2 (land_sub h2 e.on ((amask_bit o e.on).2 ⟨e, he, hb, rfl⟩))⟩
theorem MInv.step (I : MInv ops listed m) {i : Nat} (hi : i < ops.size) (hr : i ∈ Region.ready .any ops listed) : MInv ops (listed.setIfInBounds i true) (Nat.lor m (Nat.shiftLeft 1 i)) := by
  refine ⟨by simpa using I.sz, fun j hj => ?_, fun j h => ?_, I.cl.step hr⟩
  · rw [show Nat.lor m (Nat.shiftLeft 1 i) = m ||| (1 <<< i) from rfl, Nat.testBit_or, Nat.one_shiftLeft, Nat.testBit_two_pow, ← I.bit j hj]
    by_cases h : i = j
    · subst h; simp [I.sz, hj]
    · simp [Array.getElem?_setIfInBounds_ne h, h]
  · rw [show Nat.lor m (Nat.shiftLeft 1 i) = m ||| (1 <<< i) from rfl, Nat.testBit_or, Nat.one_shiftLeft, Nat.testBit_two_pow, Bool.or_eq_true] at h
    rcases h with h | h
    · exact I.lt j h
    · have := of_decide_eq_true h; omega
theorem MInv.inB (I : MInv ops listed m) {j : Nat} : Eng.inB m j = m.testBit j := inB_eq m j
end
/-- From here on, other memory is held. -/
inductive HoldP (k : (World → Prop) → Prop) (w : World) : Prop
  | mk (S : World → Prop) (hS : S w) (h : k S)
def planT (P : Program) (ops : List Oper) (S : World → Prop) (K : List Value → World → Prop) (t : Tr) : Bool → List Value → World → Prop :=
  Tr.rec (motive := fun _ => (World → Prop) → Bool → List Value → World → Prop) (fun _ _ => K) (fun i k _ ih S live ρ w => match ops[i]? with
    | none => False
    | some o => match k with
      | .pure => guardK ops o.guard ρ fun b ρ => match b with
        | true => opT P (fun _ => True) o ρ fun v => putK ρ o.dst v fun ρ => ih S live ρ w
        | false => putK ρ o.dst undef fun ρ => ih S live ρ w
      | .held => match live with
        | true => guardK ops o.guard ρ fun b ρ => match b with
          | true => opT P S o ρ fun v => putK ρ o.dst v fun ρ => ih S true ρ w
          | false => putK ρ o.dst undef fun ρ => ih S true ρ w
        | false => False
      | .forced => match live with
        | true => guardK ops o.guard ρ fun b ρ => match b with
          | true => opK P o ρ w fun v w' => KeepP (S w') (putK ρ o.dst v fun ρ => ih S true ρ w')
          | false => putK ρ o.dst undef fun ρ => ih S true ρ w
        | false => False
      | .free => guardK ops o.guard ρ fun b ρ => match b with
        | true => opK P o ρ w fun v w' => putK ρ o.dst v fun ρ => ih S false ρ w'
        | false => putK ρ o.dst undef fun ρ => ih S false ρ w) (fun _ _ iha ihb S live ρ w => iha S live ρ w ∧ ihb S live ρ w) (fun _ ih S live ρ w => HoldP (fun S2 => ih S2 true ρ w) w) t S
theorem planT_op (P : Program) (ops : List Oper) (S : World → Prop) (K : List Value → World → Prop) (i : Nat) (k : Kd) (r : Tr) (live : Bool) (ρ : List Value) (w : World) :
    planT P ops S K (.op i k r) live ρ w = match ops[i]? with
    | none => False
    | some o => match k with
      | .pure => guardK ops o.guard ρ fun b ρ => match b with
        | true => opT P (fun _ => True) o ρ fun v => putK ρ o.dst v fun ρ => planT P ops S K r live ρ w
        | false => putK ρ o.dst undef fun ρ => planT P ops S K r live ρ w
      | .held => match live with
        | true => guardK ops o.guard ρ fun b ρ => match b with
          | true => opT P S o ρ fun v => putK ρ o.dst v fun ρ => planT P ops S K r true ρ w
          | false => putK ρ o.dst undef fun ρ => planT P ops S K r true ρ w
        | false => False
      | .forced => match live with
        | true => guardK ops o.guard ρ fun b ρ => match b with
          | true => opK P o ρ w fun v w' => KeepP (S w') (putK ρ o.dst v fun ρ => planT P ops S K r true ρ w')
          | false => putK ρ o.dst undef fun ρ => planT P ops S K r true ρ w
        | false => False
      | .free => guardK ops o.guard ρ fun b ρ => match b with
        | true => opK P o ρ w fun v w' => putK ρ o.dst v fun ρ => planT P ops S K r false ρ w'
        | false => putK ρ o.dst undef fun ρ => planT P ops S K r false ρ w := rfl
section
variable {P : Program} {ops : Array Oper} {S : World → Prop} {K : List Value → World → Prop} {ρ0 : List Value} {Z : Nat → Bool}
abbrev QT (ops : Array Oper) (K : List Value → World → Prop) (ρ0 : List Value) : Exit → Act → World → Prop := fun e a w' => e = .normal ∧ a.defers = [] ∧ agree (opsDsts ops.toList) ρ0 a.tmps.toList ∧ K a.tmps.toList w'
theorem dep_pos {all : Nat} {recs : List Rec} : ∀ {t : Tr} {m : Nat}, treeOk all recs t m true = true → 1 ≤ dep t ∧ ∃ i ∈ heads t, ∃ x, recs[i]? = some x ∧ subB x.af m = true ∧ inB m i = false := by
  intro t
  induction t with
  | nil => intro m h; cases h
  | op i k r _ =>
    intro m h
    unfold treeOk at h
    split at h
    · cases h
    · rename_i x hx
      simp only [Bool.and_eq_true] at h
      exact ⟨Nat.le_add_left _ _, i, List.mem_singleton.2 rfl, x, hx, h.1.1.1, by simpa using h.1.1.2⟩
  | fork a b iha _ =>
    intro m h
    unfold treeOk at h
    simp only [Bool.and_eq_true] at h
    obtain ⟨h1, i, hi, r⟩ := iha h.1.2
    exact ⟨Nat.le_trans h1 (Nat.le_max_left _ _), i, List.mem_append_left _ hi, r⟩
  | hold r _ => intro m h; simp [treeOk] at h
/-- One operation that writes. -/
theorem planT_step {i : Nat} {k : Kd} {r : Tr} {o : Oper} (ho : ops[i]? = some o) (hk : kd2 k = false) {fuel : Nat} {listed : Array Bool} {live : Bool} {ρ : List Value} {w : World}
    (hz : k = .free → Z i = true) (hS : live = true → S w) (hag : agree (opsDsts ops.toList) ρ0 ρ) (h : planT P ops.toList S K (.op i k r) live ρ w)
    (ih : ∀ live ρ w, (live = true → S w) → agree (opsDsts ops.toList) ρ0 ρ → planT P ops.toList S K r live ρ w → anyZ P .any ops (QT ops K ρ0) S Z fuel (listed.setIfInBounds i true) ⟨ρ.toArray, []⟩ w) :
    wpOp P ops (QT ops K ρ0) i (fun a' w' => (Z i = true ∨ (S w → S w')) ∧ anyZ P .any ops (QT ops K ρ0) S Z fuel (listed.setIfInBounds i true) a' w') ⟨ρ.toArray, []⟩ w := by
  have hmem : ∀ n, o.dst = some n → n ∈ opsDsts ops.toList := fun n hn => by
    unfold opsDsts; rw [List.mem_filterMap]
    exact ⟨o, by simpa using Array.mem_of_getElem? ho, hn⟩
  rw [planT_op] at h
  simp only [Array.getElem?_toList, ho] at h
  cases k with
  | pure => cases hk
  | held => cases hk
  | forced =>
    cases live with
    | false => exact h.elim
    | true =>
      obtain ⟨b, hb, h⟩ := guardK_sound h
      unfold wpOp
      rw [ho]
      simp only [hb]
      cases b
      · simp only [Bool.false_eq_true, if_false, putK_eq] at h ⊢
        rw [put_eq]
        exact ⟨.inr id, ih true _ w hS (agree_put hag hmem _) h⟩
      · simp only [if_true] at h ⊢
        refine .inl (opK_sound h fun v w' ⟨hS', hk⟩ => ?_)
        rw [putK_eq] at hk
        rw [put_eq]
        exact ⟨.inr fun _ => hS', ih true _ w' (fun _ => hS') (agree_put hag hmem v) hk⟩
  | free =>
    have hz := hz rfl
    obtain ⟨b, hb, h⟩ := guardK_sound h
    unfold wpOp
    rw [ho]
    simp only [hb]
    cases b
    · simp only [Bool.false_eq_true, if_false, putK_eq] at h ⊢
      rw [put_eq]
      exact ⟨.inl hz, ih false _ w nofun (agree_put hag hmem _) h⟩
    · simp only [if_true] at h ⊢
      refine .inl (opK_sound h fun v w' hk => ?_)
      rw [putK_eq] at hk
      rw [put_eq]
      exact ⟨.inl hz, ih false _ w' nofun (agree_put hag hmem v) hk⟩
theorem anyZ_weak {S1 S2 : World → Prop} {Z1 Z2 : Nat → Bool} {Q : Exit → Act → World → Prop} : ∀ (fuel : Nat) (listed : Array Bool) (a : Act) (w : World), (∀ i, i < ops.size → listed.getD i true = false → Z1 i = true) → anyZ P .any ops Q S2 Z2 fuel listed a w → anyZ P .any ops Q S1 Z1 fuel listed a w := by
  intro fuel
  induction fuel with
  | zero => exact fun _ _ _ _ h => h
  | succ f ih =>
    intro listed a w hz h
    refine ⟨h.1, fun i hi => wpOp_mono (fun a' w' k => ⟨.inl ?_, ih _ a' w' (fun j hl hj => hz j hl ?_) k.2⟩) (h.2 i hi)⟩
    · obtain ⟨h1, o, ho, _⟩ := mem_ready.1 hi
      exact hz i (Array.getElem?_eq_some_iff.1 ho).1 h1
    · rcases Nat.decEq i j with h | h
      · rw [getD_set_ne true h] at hj; exact hj
      · subst h
        simp only [Array.getD_eq_getD_getElem?, Array.getElem?_setIfInBounds] at hj ⊢
        split at hj
        · split at hj <;> first | cases hj | (rename_i h2; rw [Array.getElem?_eq_none (Nat.le_of_not_lt h2)]; exact hj)
        · exact hj
theorem cover {n : Nat} {recs : List Rec} : ∀ {t : Tr} {m : Nat} {f : Bool}, treeOk (2 ^ n - 1) recs t m f = true → ∀ j, j < n → m.testBit j = false → j ∈ allT t := by
  intro t
  induction t with
  | nil =>
    intro m f h j hj hm
    unfold treeOk at h
    rw [Bool.and_eq_true] at h
    rw [Nat.eq_of_beq_eq_true h.2, Nat.testBit_two_pow_sub_one] at hm
    simp [hj] at hm
  | op i k r ih =>
    intro m f h j hj hm
    unfold treeOk at h
    split at h
    · cases h
    · rw [Bool.and_eq_true] at h
      by_cases e : j = i
      · subst e; exact List.mem_cons_self ..
      · refine List.mem_cons_of_mem _ (ih h.2 j hj ?_)
        rw [show Nat.lor m (Nat.shiftLeft 1 i) = m ||| (1 <<< i) from rfl, Nat.testBit_or, hm, Nat.one_shiftLeft, Nat.testBit_two_pow]
        simp; omega
  | fork a b iha _ =>
    intro m f h j hj hm
    unfold treeOk at h
    simp only [Bool.and_eq_true] at h
    exact List.mem_append_left _ (iha h.1.2 j hj hm)
  | hold r ih =>
    intro m f h j hj hm
    unfold treeOk at h
    rw [Bool.and_eq_true] at h
    exact ih h.2 j hj hm
theorem planT_sound (hs : Region.noSelect ops = true) (t : Tr) : (∀ i ∈ heldT t, ∀ j oj, ops[j]? = some oj → Z j = true → Pre .any ops j i) → (∀ i ∈ freeT t, Z i = true) → zAll ops t = true →
    (∀ (fuel : Nat) (listed : Array Bool) (m : Nat) (live : Bool) (ρ : List Value) (w : World), dep t ≤ fuel → MInv ops listed m → treeOk (2 ^ ops.size - 1) (recAll ops) t m false = true → (live = true → S w) → agree (opsDsts ops.toList) ρ0 ρ →
      planT P ops.toList S K t live ρ w → anyZ P .any ops (QT ops K ρ0) S Z fuel listed ⟨ρ.toArray, []⟩ w) ∧
    (∀ (fuel : Nat) (listed : Array Bool) (m : Nat) (live : Bool) (ρ : List Value) (w : World), dep t ≤ fuel + 1 → MInv ops listed m → treeOk (2 ^ ops.size - 1) (recAll ops) t m true = true → (live = true → S w) → agree (opsDsts ops.toList) ρ0 ρ →
      planT P ops.toList S K t live ρ w → ∀ i ∈ heads t, wpOp P ops (QT ops K ρ0) i (fun a' w' => (Z i = true ∨ (S w → S w')) ∧ anyZ P .any ops (QT ops K ρ0) S Z fuel (listed.setIfInBounds i true) a' w') ⟨ρ.toArray, []⟩ w) := by
  induction t generalizing S Z with
  | nil =>
    intro _ _ _
    refine ⟨fun fuel listed m live ρ w _ I hok _ hag h => ?_, fun fuel listed m live ρ w _ _ hok => by cases hok⟩
    unfold treeOk at hok
    simp only [Bool.not_false, Bool.true_and] at hok
    have hok := Nat.eq_of_beq_eq_true hok
    have hr : Region.ready .any ops listed = [] := by
      rw [List.eq_nil_iff_forall_not_mem]
      intro j hj
      obtain ⟨_, o, ho, _⟩ := mem_ready.1 hj
      have hlt : j < ops.size := (Array.getElem?_eq_some_iff.1 ho).1
      have := ((I.rdy ho).1 hj).1
      rw [hok, Nat.testBit_two_pow_sub_one] at this
      simp [hlt] at this
    cases fuel with
    | zero => exact ⟨hr, rfl, rfl, hag, h⟩
    | succ f => exact ⟨fun _ => ⟨rfl, rfl, hag, h⟩, by rw [hr]; simp⟩
  | fork a b iha ihb =>
    intro hzz hzf hza
    unfold zAll at hza
    rw [Bool.and_eq_true] at hza
    obtain ⟨_, ia⟩ := iha (fun i hi => hzz i (List.mem_append_left _ hi)) (fun i hi => hzf i (List.mem_append_left _ hi)) hza.1
    obtain ⟨_, ib⟩ := ihb (fun i hi => hzz i (List.mem_append_right _ hi)) (fun i hi => hzf i (List.mem_append_right _ hi)) hza.2
    have two : ∀ (fuel : Nat) (listed : Array Bool) (m : Nat) (live : Bool) (ρ : List Value) (w : World), dep (.fork a b) ≤ fuel + 1 → MInv ops listed m → treeOk (2 ^ ops.size - 1) (recAll ops) a m true = true → treeOk (2 ^ ops.size - 1) (recAll ops) b m true = true → (live = true → S w) → agree (opsDsts ops.toList) ρ0 ρ →
      planT P ops.toList S K (.fork a b) live ρ w → ∀ i ∈ heads (.fork a b), wpOp P ops (QT ops K ρ0) i (fun a' w' => (Z i = true ∨ (S w → S w')) ∧ anyZ P .any ops (QT ops K ρ0) S Z fuel (listed.setIfInBounds i true) a' w') ⟨ρ.toArray, []⟩ w := by
      intro fuel listed m live ρ w hf I h1 h2 hS hag h i hi
      have hf : max (dep a) (dep b) ≤ fuel + 1 := hf
      rcases List.mem_append.1 hi with hi | hi
      · exact ia fuel listed m live ρ w (by omega) I h1 hS hag h.1 i hi
      · exact ib fuel listed m live ρ w (by omega) I h2 hS hag h.2 i hi
    refine ⟨fun fuel listed m live ρ w hf I hok hS hag h => ?_, fun fuel listed m live ρ w hf I hok hS hag h => ?_⟩
    · unfold treeOk at hok
      simp only [Bool.and_eq_true, Bool.false_or] at hok
      obtain ⟨⟨hall, h1⟩, h2⟩ := hok
      obtain ⟨hd, i0, hi0, x, hx, hsub, hin⟩ := dep_pos h1
      obtain ⟨f, rfl⟩ : ∃ f, fuel = f + 1 := ⟨fuel - 1, by have : max (dep a) (dep b) ≤ fuel := hf; omega⟩
      refine ⟨fun h0 => ?_, fun j hj => ?_⟩
      · obtain ⟨o, ho, rfl⟩ := recAll_of hx
        have : i0 ∈ Region.ready .any ops listed := (I.rdy ho).2 ⟨by rw [← inB_eq]; exact hin, hsub⟩
        rw [h0] at this; cases this
      · refine two f listed m live ρ w (Nat.le_trans hf (Nat.le_refl _)) I h1 h2 hS hag h j ?_
        obtain ⟨_, o, ho, _⟩ := mem_ready.1 hj
        obtain ⟨hb, hsb⟩ := (I.rdy ho).1 hj
        have := List.all_eq_true.1 hall _ (recAll_mem ho)
        simp only [recOf, inB_eq, hb, hsb, Bool.not_true, Bool.or_false, Bool.false_or] at this
        exact List.contains_iff_mem.1 this
    · unfold treeOk at hok
      simp only [Bool.and_eq_true] at hok
      exact two fuel listed m live ρ w hf I hok.1.2 hok.2 hS hag h
  | op i k r ih =>
    intro hzz hzf hza
    have hzz2 : ∀ i ∈ heldT r, ∀ j oj, ops[j]? = some oj → Z j = true → Pre .any ops j i := fun j hj => hzz j (by unfold heldT; cases k <;> first | exact hj | exact List.mem_cons_of_mem _ hj)
    have hzf2 : ∀ i ∈ freeT r, Z i = true := fun j hj => hzf j (by unfold freeT; cases k <;> first | exact hj | exact List.mem_cons_of_mem _ hj)
    have hzi : k = .free → Z i = true := fun e => hzf i (by subst e; exact List.mem_cons_self ..)
    obtain ⟨ih1, _⟩ := ih hzz2 hzf2 hza
    refine ⟨fun fuel listed m live ρ w hf I hok hS hag h => ?_, fun fuel listed m live ρ w hf I hok hS hag h j hj => ?_⟩
    · obtain ⟨f, rfl⟩ : ∃ f, fuel = f + 1 := ⟨fuel - 1, by have : dep r + 1 ≤ fuel := hf; omega⟩
      have hf2 : dep r ≤ f := Nat.le_of_succ_le_succ hf
      unfold treeOk at hok
      split at hok
      · cases hok
      · rename_i x hx
        obtain ⟨o, ho, rfl⟩ := recAll_of hx
        have hlt : i < ops.size := (Array.getElem?_eq_some_iff.1 ho).1
        rw [Bool.and_eq_true, Bool.and_eq_true, Bool.and_eq_true] at hok
        obtain ⟨⟨⟨hsub, hin⟩, hk⟩, hrest⟩ := hok
        have hready : i ∈ Region.ready .any ops listed := (I.rdy ho).2 ⟨by rw [← inB_eq]; simpa using hin, hsub⟩
        have hmem : ∀ n, o.dst = some n → n ∈ opsDsts ops.toList := fun n hn => by
          unfold opsDsts; rw [List.mem_filterMap]
          exact ⟨o, by simpa using Array.mem_of_getElem? ho, hn⟩
        have ih' := fun live ρ w hS hag h => ih1 f (listed.setIfInBounds i true) _ live ρ w hf2 (I.step hlt hready) hrest hS hag h
        cases hkd : kd2 k with
        | false =>
          rw [hkd] at hk
          simp only [Bool.false_or] at hk
          refine ⟨fun h0 => (by rw [h0] at hready; cases hready), fun j hj => ?_⟩
          have : j = i := by
            obtain ⟨_, oj, hoj, _⟩ := mem_ready.1 hj
            obtain ⟨hb, hsb⟩ := (I.rdy hoj).1 hj
            have := List.all_eq_true.1 hk _ (recAll_mem hoj)
            simp only [recOf, inB_eq, hb, hsb, Bool.not_true, Bool.or_false, Bool.false_or] at this
            exact Nat.eq_of_beq_eq_true this
          subst this
          exact planT_step ho hkd hzi hS hag h ih'
        | true =>
          rw [hkd] at hk
          simp only [Bool.not_false, Bool.true_and] at hk
          have hfree : ∀ j oj, ops[j]? = some oj → j ≠ i → listed.getD j true = false → (∀ e ∈ oj.after, Region.binds .any e = true → e.on ≠ i) → o.apart ops oj = true := fun j oj hoj hne hun hno => by
            have hjl : j < ops.size := (Array.getElem?_eq_some_iff.1 hoj).1
            have h4 := List.all_eq_true.1 hk _ (recAll_mem hoj)
            rw [I.bit j hjl] at hun
            have hne2 : Nat.beq j i = false := by
              cases hb : Nat.beq j i
              · rfl
              · exact absurd (Nat.eq_of_beq_eq_true hb) hne
            have haf : inB (amask oj) i = false := by
              cases hb : inB (amask oj) i
              · rfl
              · rw [inB_eq, amask_bit] at hb
                obtain ⟨e, he, hb, hon⟩ := hb
                exact absurd hon (hno e he hb)
            have haf2 : (recOf ops (oj, j)).af = amask oj := rfl
            have hi2 : (recOf ops (oj, j)).i = j := rfl
            rw [hi2, haf2, inB_eq, hun, hne2, haf] at h4
            exact recApart_sound rfl rfl rfl rfl (by simpa using h4)
          rw [planT_op] at h
          simp only [Array.getElem?_toList, ho] at h
          cases k with
          | forced => cases hkd
          | free => cases hkd
          | pure =>
            obtain ⟨b, hb, h⟩ := guardK_sound h
            have key : ∀ v, YieldsIf P ops (fun _ => True) o v ⟨ρ.toArray, []⟩ → planT P ops.toList S K r live (put ρ o.dst v) w → anyZ P .any ops (QT ops K ρ0) S Z (f + 1) listed ⟨ρ.toArray, []⟩ w := fun v hy hk =>
              anyZ_pure ho (Region.noSelect_spec hs) (fun c a w hq => by cases hq.1) f listed _ _ hfree hready hy (by
                rw [put_eq]
                exact ih' live _ w hS (agree_put hag hmem v) hk)
            cases b
            · simp only [putK_eq] at h
              exact key undef (.inr ⟨hb, rfl⟩) h
            · obtain ⟨v, hv, hk⟩ := opT_sound h
              rw [putK_eq] at hk
              exact key v (.inl ⟨hb, fun w hS => by rw [ev_eq]; exact hv w hS⟩) hk
          | held =>
            cases live with
            | false => exact h.elim
            | true =>
              obtain ⟨b, hb, h⟩ := guardK_sound h
              have key : ∀ v, YieldsIf P ops S o v ⟨ρ.toArray, []⟩ → planT P ops.toList S K r true (put ρ o.dst v) w → anyZ P .any ops (QT ops K ρ0) S Z (f + 1) listed ⟨ρ.toArray, []⟩ w := fun v hy hk =>
                anyZ_first ho (Region.noSelect_spec hs) (fun c a w hq => by cases hq.1) (hzz i (by unfold heldT; exact List.mem_cons_self ..)) f listed _ _ I.cl hfree hready hy (hS rfl) (by
                  rw [put_eq]
                  exact ih' true _ w hS (agree_put hag hmem v) hk)
              cases b
              · simp only [putK_eq] at h
                exact key undef (.inr ⟨hb, rfl⟩) h
              · obtain ⟨v, hv, hk⟩ := opT_sound h
                rw [putK_eq] at hk
                exact key v (.inl ⟨hb, fun w hS => by rw [ev_eq]; exact hv w hS⟩) hk
    · obtain rfl : j = i := by simpa [heads] using hj
      have hf2 : dep r ≤ fuel := Nat.le_of_succ_le_succ hf
      unfold treeOk at hok
      split at hok
      · cases hok
      · rename_i x hx
        obtain ⟨o, ho, rfl⟩ := recAll_of hx
        have hlt : j < ops.size := (Array.getElem?_eq_some_iff.1 ho).1
        rw [Bool.and_eq_true, Bool.and_eq_true, Bool.and_eq_true] at hok
        obtain ⟨⟨⟨hsub, hin⟩, hk⟩, hrest⟩ := hok
        have hkd : kd2 k = false := by
          cases hkd : kd2 k
          · rfl
          · rw [hkd] at hk; cases hk
        exact planT_step ho hkd hzi hS hag h fun live ρ w hS hag h => ih1 fuel (listed.setIfInBounds j true) _ live ρ w hf2 (I.step hlt ((I.rdy ho).2 ⟨by rw [← inB_eq]; simpa using hin, hsub⟩)) hrest hS hag h
  | hold r ih =>
    intro hzz hzf hza
    unfold zAll at hza
    rw [Bool.and_eq_true] at hza
    refine ⟨fun fuel listed m live ρ w hf I hok hS hag h => ?_, fun fuel listed m live ρ w _ _ hok => by simp [treeOk] at hok⟩
    obtain ⟨S2, hS2, h2⟩ := h
    unfold treeOk at hok
    rw [Bool.and_eq_true] at hok
    have k := (ih (S := S2) (Z := fun i => (freeT r).contains i) (fun i hi => zOk_spec hza.1 hi) (fun i hi => by simpa using hi) hza.2).1 fuel listed m true ρ w hf I hok.2 (fun _ => hS2) hag h2
    exact anyZ_weak fuel listed _ w (fun i hl hi => hzf i (cover hok.2 i hl (by rw [← I.bit i hl]; exact hi))) k
def treeOk0 (ops : Array Oper) (t : Tr) : Bool := Region.noSelect ops && Nat.ble (dep t) ops.size && treeOk (2 ^ ops.size - 1) (recAll ops) t 0 false && (zOk ops (heldT t) (freeT t) && zAll ops t)
/-- A region that draws, walked along a tree of plans. -/
theorem drawt {id : Nat} {w : World} (S : World → Prop) (t : Tr) (hm : P.follows .mixedOrders = true) (hc : treeOk0 ops t = true)
    (h : ∀ w1, w1 = w.drew → S w1 ∧ planT P ops.toList S K t true ρ0 w1) : DrawP P id ops K ρ0 w := by
  simp only [treeOk0, Bool.and_eq_true] at hc
  obtain ⟨⟨⟨h1, h2⟩, h3⟩, hz, hza⟩ := hc
  obtain ⟨hS, hk⟩ := h _ rfl
  have I : MInv ops (Array.replicate ops.size false) 0 := ⟨by simp, fun j hj => by simp [hj], fun j hj => by simp at hj, Cl.start _⟩
  refine ⟨wp_region_any hm (anyZ_any (S := S) (Z := fun i => (freeT t).contains i) _ _ _ _ (((planT_sound h1 t (fun i hi => zOk_spec hz hi) (fun i hi => by simpa using hi) hza).1) _ _ _ true _ _ (Nat.le_of_ble_eq_true h2) I h3 (fun _ => hS) (agree_refl _ _) hk))⟩
end
section
variable {P : Program} {g : Glob} {w w' : World} {l : List As}
/-- A region that draws: what is held is the memory as it is, but for the pieces ds. -/
theorem drawtS {id : Nat} {ops : Array Oper} {K : List Value → World → Prop} {ρ : List Value} (H : Sat g w l) (ds : List Nat) (t : Tr) (hm : P.follows .mixedOrders = true) (hc : treeOk0 ops t = true)
    (h : delsA ds l fun l' => ∀ w1, Sat g w1 l → planT P ops.toList (fun wx => Sat g wx l') K t true ρ w1) : DrawP P id ops K ρ w := by
  have key : ∃ l', (∀ wx, Sat g wx l → Sat g wx l') ∧ ∀ w1, Sat g w1 l → planT P ops.toList (fun wx => Sat g wx l') K t true ρ w1 := by
    have : ∀ (ds : List Nat) (l0 : List As), (∀ wx, Sat g wx l → Sat g wx l0) → (delsA ds l0 fun l' => ∀ w1, Sat g w1 l → planT P ops.toList (fun wx => Sat g wx l') K t true ρ w1) →
        ∃ l', (∀ wx, Sat g wx l → Sat g wx l') ∧ ∀ w1, Sat g w1 l → planT P ops.toList (fun wx => Sat g wx l') K t true ρ w1 := by
      intro ds
      induction ds with
      | nil => exact fun l0 h0 h => ⟨l0, h0, h⟩
      | cons i ds ih =>
        intro l0 h0 h
        have h : delA l0 i fun r => delsA ds r _ := h
        rw [delA_eq] at h
        exact ih _ (fun wx hx => (h0 wx hx).del i) h
    exact this ds l (fun _ h => h) h
  obtain ⟨l', h1, h2⟩ := key
  refine drawt (fun wx => Sat g wx l') t hm hc fun w1 e => ?_
  have H1 : Sat g w1 l := H.still (by rw [e]; exact Still.drew _)
  exact ⟨h1 _ H1, h2 _ H1⟩
theorem rHold {k : (World → Prop) → Prop} (H : Sat g w l) (ds : List Nat) (h : delsA ds l fun l' => k (fun wx => Sat g wx l')) : HoldP k w := by
  have : ∀ (ds : List Nat) (l0 : List As), Sat g w l0 → (delsA ds l0 fun l' => k (fun wx => Sat g wx l')) → HoldP k w := by
    intro ds
    induction ds with
    | nil => exact fun l0 h0 h => ⟨_, h0, h⟩
    | cons i ds ih =>
      intro l0 h0 h
      have h : delA l0 i fun r => delsA ds r _ := h
      rw [delA_eq] at h
      exact ih _ (h0.del i) h
  exact this ds l H h
end
end Go.Proofs.YtcpniokopahakaaDoor.Eng
