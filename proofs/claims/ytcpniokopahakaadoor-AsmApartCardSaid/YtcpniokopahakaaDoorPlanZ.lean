/- A region that draws, whose last operations write: what is held need not hold behind those, as each of them waits for all that was taken. -/
import Derived.Test.YtcpniokopahakaaDoorPlan
namespace Go.Proofs.YtcpniokopahakaaDoor.Eng
open Go Go.RowKit
set_option linter.unusedVariables false
section
variable {P : Program} {ops : Array Oper} {Q : Exit → Act → World → Prop} {md : Region.Mode} {S : World → Prop} {Z : Nat → Bool}
def anyZ (P : Program) (md : Region.Mode) (ops : Array Oper) (Q : Exit → Act → World → Prop) (S : World → Prop) (Z : Nat → Bool) : Nat → Array Bool → Act → World → Prop
  | 0, listed, a, w => Region.ready md ops listed = [] ∧ Q .normal a w
  | fuel + 1, listed, a, w => (Region.ready md ops listed = [] → Q .normal a w) ∧
      ∀ i ∈ Region.ready md ops listed, wpOp P ops Q i (fun a' w' => (Z i = true ∨ (S w → S w')) ∧ anyZ P md ops Q S Z fuel (listed.setIfInBounds i true) a' w') a w
theorem anyZ_any : ∀ (fuel : Nat) (listed : Array Bool) (a : Act) (w : World), anyZ P md ops Q S Z fuel listed a w → wpAny P md ops Q fuel listed a w := by
  intro fuel
  induction fuel with
  | zero => exact fun _ _ _ h => h
  | succ f ih => exact fun _ _ _ h => ⟨h.1, fun i hi => wpOp_mono (fun a' w' k => ih _ a' w' k.2) (h.2 i hi)⟩
/-- What is listed has all listed that it waits for. -/
def Cl (md : Region.Mode) (ops : Array Oper) (listed : Array Bool) : Prop := ∀ (k : Nat) (ok : Oper), ops[k]? = some ok → listed.getD k false = true → ∀ e ∈ ok.after, Region.binds md e = true → listed.getD e.on false = true
/-- j waits for i, if not at once. -/
inductive Pre (md : Region.Mode) (ops : Array Oper) : Nat → Nat → Prop
  | one {j i : Nat} {oj : Oper} (hj : ops[j]? = some oj) {e : Edge} (he : e ∈ oj.after) (hb : Region.binds md e = true) (hi : e.on = i) : Pre md ops j i
  | more {j i : Nat} {oj : Oper} (hj : ops[j]? = some oj) {e : Edge} (he : e ∈ oj.after) (hb : Region.binds md e = true) (hi : Pre md ops e.on i) : Pre md ops j i
theorem Pre.trans {a b c : Nat} (h : Pre md ops a b) (k : Pre md ops b c) : Pre md ops a c := by
  induction h with
  | one hj he hb hi => subst hi; exact .more hj he hb k
  | more hj he hb _ ih => exact .more hj he hb (ih k)
theorem Cl.pre {listed : Array Bool} (hc : Cl md ops listed) {j i : Nat} (h : Pre md ops j i) (hl : listed.getD j false = true) : listed.getD i false = true := by
  induction h with
  | one hj he hb hi => subst hi; exact hc _ _ hj hl _ he hb
  | more hj he hb _ ih => exact ih (hc _ _ hj hl _ he hb)
theorem Cl.ready {listed : Array Bool} (hc : Cl md ops listed) {j i : Nat} (h : Pre md ops j i) (hr : j ∈ Region.ready md ops listed) : listed.getD i false = true := by
  obtain ⟨_, oj, hoj, hall⟩ := mem_ready.1 hr
  cases h with
  | one hj he hb hi => subst hi; rw [hj] at hoj; obtain rfl := Option.some.inj hoj; exact hall _ he hb
  | more hj he hb hp => rw [hj] at hoj; obtain rfl := Option.some.inj hoj; exact hc.pre hp (hall _ he hb)
theorem Cl.step {listed : Array Bool} (hc : Cl md ops listed) {j : Nat} (hr : j ∈ Region.ready md ops listed) : Cl md ops (listed.setIfInBounds j true) := by
  obtain ⟨_, oj, hoj, hall⟩ := mem_ready.1 hr
  have up : ∀ k, listed.getD k false = true → (listed.setIfInBounds j true).getD k false = true := fun k hk => by
    simp only [Array.getD_eq_getD_getElem?] at hk ⊢
    rw [Array.getElem?_setIfInBounds]
    split
    · split
      · rfl
      · rename_i h h2; subst h
        rw [Array.getElem?_eq_none (Nat.le_of_not_lt h2)] at hk; exact hk
    · exact hk
  intro k ok hk hl e he hb
  by_cases h : j = k
  · subst h; rw [hoj] at hk; obtain rfl := Option.some.inj hk; exact up _ (hall e he hb)
  · refine up _ (hc k ok hk ?_ e he hb)
    simp only [Array.getD_eq_getD_getElem?] at hl ⊢
    rw [Array.getElem?_setIfInBounds, if_neg h] at hl; exact hl
theorem Cl.start (n : Nat) : Cl md ops (Array.replicate n false) := fun k ok _ hl => by
  simp only [Array.getD_eq_getD_getElem?, Array.getElem?_replicate] at hl
  split at hl <;> cases hl
theorem anyZ_first {i : Nat} {oi : Oper} {v : Value} (hi : ops[i]? = some oi) (hsel : ∀ (j : Nat) (o : Oper) cs b, ops[j]? = some o → o.op ≠ .select cs b)
    (hQ : ∀ c a w, Q (.panic c) (a.put oi.dst v) w → Q (.panic c) a w) (hz : ∀ j oj, ops[j]? = some oj → Z j = true → Pre md ops j i) :
    ∀ (fuel : Nat) (listed : Array Bool) (a : Act) (w : World), Cl md ops listed →
      (∀ j oj, ops[j]? = some oj → j ≠ i → listed.getD j true = false → (∀ e ∈ oj.after, Region.binds md e = true → e.on ≠ i) → oi.apart ops oj = true) →
      i ∈ Region.ready md ops listed → YieldsIf P ops S oi v a → S w →
      anyZ P md ops Q S Z fuel (listed.setIfInBounds i true) (a.put oi.dst v) w → anyZ P md ops Q S Z (fuel + 1) listed a w := by
  intro fuel
  induction fuel with
  | zero =>
    intro listed a w _ _ hr hy hS H
    refine ⟨fun h => absurd (h ▸ hr) (List.not_mem_nil), fun j hj => ?_⟩
    rcases Nat.decEq j i with hji | hji
    · exact absurd (H.1 ▸ ready_mono hj hji) (List.not_mem_nil)
    · subst hji; exact hy.wpOp hi hS ⟨.inr id, H⟩
  | succ fuel ih =>
    intro listed a w hcl hfree hr hy hS H
    refine ⟨fun h => absurd (h ▸ hr) (List.not_mem_nil), fun j hj => ?_⟩
    rcases Nat.decEq j i with hji | hji
    · have h1 := H.2 j (ready_mono hj hji)
      obtain ⟨hjun, oj, hoj, hall⟩ := mem_ready.1 hj
      have hiun := (mem_ready.1 hr).1
      have hnot : ∀ e ∈ oj.after, Region.binds md e = true → e.on ≠ i := fun e he hb heq => by
        have h2 := hall e he hb
        rw [heq] at h2
        simp only [Array.getD_eq_getD_getElem?] at h2 hiun
        cases hx : listed[i]? with
        | none => rw [hx] at h2; simp at h2
        | some b => rw [hx] at h2 hiun; simp at h2 hiun; rw [h2] at hiun; cases hiun
      have hZ : Z j ≠ true := fun hzj => by
        have h2 := hcl.ready (hz j oj hoj hzj) hj
        simp only [Array.getD_eq_getD_getElem?] at h2 hiun
        cases hx : listed[i]? with
        | none => rw [hx] at h2; simp at h2
        | some b => rw [hx] at h2 hiun; simp at h2 hiun; rw [h2] at hiun; cases hiun
      have h2 := wpOp_putIf hoj (hfree j oj hoj hji hjun hnot) (fun cs b => hsel i oi cs b hi) (fun cs b => hsel j oj cs b hoj) hQ hy h1
      refine wpOp_mono (fun a' w' h3 => ?_) h2
      have hSw : S w' := h3.2.1.resolve_left hZ hS
      refine ⟨.inr fun _ => hSw, ih (listed.setIfInBounds j true) a' w' (hcl.step hj) (fun k ok hk hki hun hno => hfree k ok hk hki ?_ hno) (ready_mono hr (Ne.symm hji)) h3.1 hSw ?_⟩
      · rcases Nat.decEq j k with h | h
        · rw [getD_set_ne true h] at hun; exact hun
        · subst h; exact hjun
      · rw [Array.setIfInBounds_comm _ _ hji]; exact h3.2.2
    · subst hji; exact hy.wpOp hi hS ⟨.inr id, H⟩
theorem anyZ_pure {i : Nat} {oi : Oper} {v : Value} (hi : ops[i]? = some oi) (hsel : ∀ (j : Nat) (o : Oper) cs b, ops[j]? = some o → o.op ≠ .select cs b)
    (hQ : ∀ c a w, Q (.panic c) (a.put oi.dst v) w → Q (.panic c) a w) :
    ∀ (fuel : Nat) (listed : Array Bool) (a : Act) (w : World),
      (∀ j oj, ops[j]? = some oj → j ≠ i → listed.getD j true = false → (∀ e ∈ oj.after, Region.binds md e = true → e.on ≠ i) → oi.apart ops oj = true) →
      i ∈ Region.ready md ops listed → YieldsIf P ops (fun _ => True) oi v a →
      anyZ P md ops Q S Z fuel (listed.setIfInBounds i true) (a.put oi.dst v) w → anyZ P md ops Q S Z (fuel + 1) listed a w := by
  intro fuel
  induction fuel with
  | zero =>
    intro listed a w _ hr hy H
    refine ⟨fun h => absurd (h ▸ hr) (List.not_mem_nil), fun j hj => ?_⟩
    rcases Nat.decEq j i with hji | hji
    · exact absurd (H.1 ▸ ready_mono hj hji) (List.not_mem_nil)
    · subst hji; exact hy.wpOp hi trivial ⟨.inr id, H⟩
  | succ fuel ih =>
    intro listed a w hfree hr hy H
    refine ⟨fun h => absurd (h ▸ hr) (List.not_mem_nil), fun j hj => ?_⟩
    rcases Nat.decEq j i with hji | hji
    · have h1 := H.2 j (ready_mono hj hji)
      obtain ⟨hjun, oj, hoj, hall⟩ := mem_ready.1 hj
      have hiun := (mem_ready.1 hr).1
      have hnot : ∀ e ∈ oj.after, Region.binds md e = true → e.on ≠ i := fun e he hb heq => by
        have h2 := hall e he hb
        rw [heq] at h2
        simp only [Array.getD_eq_getD_getElem?] at h2 hiun
        cases hx : listed[i]? with
        | none => rw [hx] at h2; simp at h2
        | some b => rw [hx] at h2 hiun; simp at h2 hiun; rw [h2] at hiun; cases hiun
      have h2 := wpOp_putIf hoj (hfree j oj hoj hji hjun hnot) (fun cs b => hsel i oi cs b hi) (fun cs b => hsel j oj cs b hoj) hQ hy h1
      refine wpOp_mono (fun a' w' h3 => ?_) h2
      refine ⟨h3.2.1, ih (listed.setIfInBounds j true) a' w' (fun k ok hk hki hun hno => hfree k ok hk hki ?_ hno) (ready_mono hr (Ne.symm hji)) h3.1 ?_⟩
      · rcases Nat.decEq j k with h | h
        · rw [getD_set_ne true h] at hun; exact hun
        · subst h; exact hjun
      · rw [Array.setIfInBounds_comm _ _ hji]; exact h3.2.2
    · subst hji; exact hy.wpOp hi trivial ⟨.inr id, H⟩
end
/-- How an operation comes: it yields its value in every world; in every world that is held; it is the only one that may come, and what is held is held behind it; or need not be held behind it any more. -/
inductive Kd where
  | pure
  | held
  | forced
  | free
def planW (P : Program) (ops : List Oper) (S : World → Prop) (K : List Value → World → Prop) (plan : List (Nat × Kd)) : Bool → List Value → World → Prop :=
  List.rec (motive := fun _ => Bool → List Value → World → Prop) (fun _ => K) (fun i _ ih live ρ w => match ops[i.1]? with
    | none => False
    | some o => match i.2 with
      | .pure => guardK ops o.guard ρ fun b ρ => match b with
        | true => opT P (fun _ => True) o ρ fun v => putK ρ o.dst v fun ρ => ih live ρ w
        | false => putK ρ o.dst undef fun ρ => ih live ρ w
      | .held => match live with
        | true => guardK ops o.guard ρ fun b ρ => match b with
          | true => opT P S o ρ fun v => putK ρ o.dst v fun ρ => ih true ρ w
          | false => putK ρ o.dst undef fun ρ => ih true ρ w
        | false => False
      | .forced => match live with
        | true => guardK ops o.guard ρ fun b ρ => match b with
          | true => opK P o ρ w fun v w' => KeepP (S w') (putK ρ o.dst v fun ρ => ih true ρ w')
          | false => putK ρ o.dst undef fun ρ => ih true ρ w
        | false => False
      | .free => guardK ops o.guard ρ fun b ρ => match b with
        | true => opK P o ρ w fun v w' => putK ρ o.dst v fun ρ => ih false ρ w'
        | false => putK ρ o.dst undef fun ρ => ih false ρ w) plan
theorem planW_cons (P : Program) (ops : List Oper) (S : World → Prop) (K : List Value → World → Prop) (i : Nat × Kd) (r : List (Nat × Kd)) (live : Bool) (ρ : List Value) (w : World) :
    planW P ops S K (i :: r) live ρ w = match ops[i.1]? with
    | none => False
    | some o => match i.2 with
      | .pure => guardK ops o.guard ρ fun b ρ => match b with
        | true => opT P (fun _ => True) o ρ fun v => putK ρ o.dst v fun ρ => planW P ops S K r live ρ w
        | false => putK ρ o.dst undef fun ρ => planW P ops S K r live ρ w
      | .held => match live with
        | true => guardK ops o.guard ρ fun b ρ => match b with
          | true => opT P S o ρ fun v => putK ρ o.dst v fun ρ => planW P ops S K r true ρ w
          | false => putK ρ o.dst undef fun ρ => planW P ops S K r true ρ w
        | false => False
      | .forced => match live with
        | true => guardK ops o.guard ρ fun b ρ => match b with
          | true => opK P o ρ w fun v w' => KeepP (S w') (putK ρ o.dst v fun ρ => planW P ops S K r true ρ w')
          | false => putK ρ o.dst undef fun ρ => planW P ops S K r true ρ w
        | false => False
      | .free => guardK ops o.guard ρ fun b ρ => match b with
        | true => opK P o ρ w fun v w' => putK ρ o.dst v fun ρ => planW P ops S K r false ρ w'
        | false => putK ρ o.dst undef fun ρ => planW P ops S K r false ρ w := rfl
def kd2 : Kd → Bool
  | .pure => true
  | .held => true
  | .forced => false
  | .free => false
def pl2 (plan : List (Nat × Kd)) : List (Nat × Bool) := plan.map fun p => (p.1, kd2 p.2)
def heldOf (plan : List (Nat × Kd)) : List Nat := plan.filterMap fun p => match p.2 with
  | .held => some p.1
  | _ => none
def freeOf (plan : List (Nat × Kd)) : List Nat := plan.filterMap fun p => match p.2 with
  | .free => some p.1
  | _ => none
def reach (ops : List (Oper × Nat)) (m : Nat) : Nat := ops.foldl (fun m p => match inB m p.2 with
  | true => Nat.lor m (amask p.1)
  | false => m) m
theorem reach_spec {ops : Array Oper} {z : Nat} : ∀ (l : List (Oper × Nat)) (m : Nat), (∀ p ∈ l, ops[p.2]? = some p.1) → (∀ i, m.testBit i = true → Pre .any ops z i) → ∀ i, (reach l m).testBit i = true → Pre .any ops z i := by
  intro l
  induction l with
  | nil => exact fun m _ h => h
  | cons p l ih =>
    intro m hl h
    refine ih _ (fun q hq => hl q (List.mem_cons_of_mem _ hq)) fun i hi => ?_
    dsimp only at hi
    cases hb : inB m p.2 with
    | false => rw [hb] at hi; exact h i hi
    | true =>
      rw [hb] at hi
      have hi : (m ||| amask p.1).testBit i = true := hi
      rw [Nat.testBit_or, Bool.or_eq_true] at hi
      rcases hi with hi | hi
      · exact h i hi
      · obtain ⟨e, he, hb2, hon⟩ := (amask_bit p.1 i).1 hi
        exact (h p.2 (by rw [← inB_eq]; exact hb)).trans (.one (hl p (List.mem_cons_self ..)) he hb2 hon)
def zOk (ops : Array Oper) (takes zs : List Nat) : Bool := zs.all fun z => match ops[z]? with
  | none => false
  | some o => Nat.beq (Nat.land (smask takes) (amask o)) (smask takes) || Nat.beq (Nat.land (smask takes) (reach ops.toList.zipIdx.reverse (amask o))) (smask takes)
theorem zOk_spec {ops : Array Oper} {takes zs : List Nat} (h : zOk ops takes zs = true) {i : Nat} (hi : i ∈ takes) : ∀ j oj, ops[j]? = some oj → zs.contains j = true → Pre .any ops j i := by
  intro j oj hj hz
  have h1 := List.all_eq_true.1 h j (by simpa using hz)
  rw [hj] at h1
  rw [Bool.or_eq_true] at h1
  have d : ∀ k, (amask oj).testBit k = true → Pre .any ops j k := fun k hk => by
    obtain ⟨e, he, hb, hon⟩ := (amask_bit oj k).1 hk
    exact .one hj he hb hon
  rcases h1 with h1 | h1
  · exact d i (land_sub h1 i ((smask_bit takes i).2 hi))
  · refine reach_spec ops.toList.zipIdx.reverse (amask oj) (fun p hp => ?_) d i (land_sub h1 i ((smask_bit takes i).2 hi))
    have hp2 := List.mem_reverse.1 hp
    have := List.mem_zipIdx' hp2
    rw [← Array.getElem?_toList]
    rw [List.getElem?_eq_some_iff]
    exact ⟨this.1, this.2.symm⟩
section
variable {P : Program} {ops : Array Oper} {S : World → Prop} {K : List Value → World → Prop} {ρ0 : List Value} {Z : Nat → Bool}
/-- What is owed behind an operation: the held worlds, or an excuse. -/
theorem planW_sound (hs : Region.noSelect ops = true) (plan : List (Nat × Kd)) : ∀ (fuel : Nat) (listed : Array Bool) (live : Bool) (ρ : List Value) (w : World), plan.length ≤ fuel →
    (∀ i, (i, Kd.held) ∈ plan → ∀ j oj, ops[j]? = some oj → Z j = true → Pre .any ops j i) →
    (∀ i, (i, Kd.free) ∈ plan → Z i = true) →
    planOk ops (pl2 plan) listed = true → (live = true → S w) → agree (opsDsts ops.toList) ρ0 ρ →
    Cl .any ops listed → planW P ops.toList S K plan live ρ w → anyZ P .any ops (fun e a w' => e = .normal ∧ a.defers = [] ∧ agree (opsDsts ops.toList) ρ0 a.tmps.toList ∧ K a.tmps.toList w') S Z fuel listed ⟨ρ.toArray, []⟩ w := by
  induction plan with
  | nil =>
    intro fuel listed live ρ w _ _ _ hok _ hag _ h
    have hr := List.isEmpty_iff.1 hok
    cases fuel with
    | zero => exact ⟨hr, rfl, rfl, hag, h⟩
    | succ f => exact ⟨fun _ => ⟨rfl, rfl, hag, h⟩, by rw [hr]; simp⟩
  | cons ib r ih =>
    obtain ⟨i, kd⟩ := ib
    intro fuel listed live ρ w hfl hzz hzf hok hS hag hcl h
    obtain ⟨f, rfl⟩ : ∃ f, fuel = f + 1 := ⟨fuel - 1, by simp at hfl; omega⟩
    have hfl2 : r.length ≤ f := by simpa using hfl
    have hzz2 : ∀ i, (i, Kd.held) ∈ r → ∀ j oj, ops[j]? = some oj → Z j = true → Pre .any ops j i := fun k hk => hzz k (by simp [hk])
    have hzf2 : ∀ i, (i, Kd.free) ∈ r → Z i = true := fun k hk => hzf k (by simp [hk])
    unfold pl2 at hok
    rw [List.map_cons, planOk_cons] at hok
    rw [planW_cons] at h
    simp only [Array.getElem?_toList] at h
    cases ho : ops[i]? with
    | none => rw [ho] at hok; cases hok
    | some o =>
      rw [ho] at hok h
      simp only [Bool.and_eq_true] at hok h
      have hmem : ∀ n, o.dst = some n → n ∈ opsDsts ops.toList := fun n hn => by
        unfold opsDsts; rw [List.mem_filterMap]
        exact ⟨o, by simpa using Array.mem_of_getElem? ho, hn⟩
      have ih' := fun live ρ w => ih f (listed.setIfInBounds i true) live ρ w hfl2 hzz2 hzf2
      cases kd with
      | pure =>
        simp only [kd2, Bool.and_eq_true] at hok
        obtain ⟨⟨hfree, hready⟩, hrest⟩ := hok
        obtain ⟨b, hb, h⟩ := guardK_sound h
        have key : ∀ v, YieldsIf P ops (fun _ => True) o v ⟨ρ.toArray, []⟩ → planW P ops.toList S K r live (put ρ o.dst v) w → anyZ P .any ops (fun e a w' => e = .normal ∧ a.defers = [] ∧ agree (opsDsts ops.toList) ρ0 a.tmps.toList ∧ K a.tmps.toList w') S Z (f + 1) listed ⟨ρ.toArray, []⟩ w := fun v hy hk =>
          anyZ_pure ho (Region.noSelect_spec hs) (fun c a w hq => by cases hq.1) f listed _ _ (Region.free_spec ho hfree) (by simpa using hready) hy (by
            rw [put_eq]
            exact ih' live _ w hrest hS (agree_put hag hmem v) (hcl.step (by simpa using hready)) hk)
        cases b
        · simp only [putK_eq] at h
          exact key undef (.inr ⟨hb, rfl⟩) h
        · obtain ⟨v, hv, hk⟩ := opT_sound h
          rw [putK_eq] at hk
          exact key v (.inl ⟨hb, fun w hS => by rw [ev_eq]; exact hv w hS⟩) hk
      | held =>
        simp only [kd2, Bool.and_eq_true] at hok
        obtain ⟨⟨hfree, hready⟩, hrest⟩ := hok
        cases live with
        | false => exact h.elim
        | true =>
          obtain ⟨b, hb, h⟩ := guardK_sound h
          have key : ∀ v, YieldsIf P ops S o v ⟨ρ.toArray, []⟩ → planW P ops.toList S K r true (put ρ o.dst v) w → anyZ P .any ops (fun e a w' => e = .normal ∧ a.defers = [] ∧ agree (opsDsts ops.toList) ρ0 a.tmps.toList ∧ K a.tmps.toList w') S Z (f + 1) listed ⟨ρ.toArray, []⟩ w := fun v hy hk =>
            anyZ_first ho (Region.noSelect_spec hs) (fun c a w hq => by cases hq.1) (hzz i (by simp)) f listed _ _ hcl (Region.free_spec ho hfree) (by simpa using hready) hy (hS rfl) (by
              rw [put_eq]
              exact ih' true _ w hrest hS (agree_put hag hmem v) (hcl.step (by simpa using hready)) hk)
          cases b
          · simp only [putK_eq] at h
            exact key undef (.inr ⟨hb, rfl⟩) h
          · obtain ⟨v, hv, hk⟩ := opT_sound h
            rw [putK_eq] at hk
            exact key v (.inl ⟨hb, fun w hS => by rw [ev_eq]; exact hv w hS⟩) hk
      | forced =>
        simp only [kd2, beq_iff_eq] at hok
        obtain ⟨hready, hrest⟩ := hok
        cases live with
        | false => exact h.elim
        | true =>
          obtain ⟨b, hb, h⟩ := guardK_sound h
          refine ⟨fun h0 => by rw [hready] at h0; simp at h0, fun j hj => ?_⟩
          obtain rfl : j = i := by rw [hready] at hj; simpa using hj
          unfold wpOp
          rw [ho]
          simp only [hb]
          cases b
          · simp only [Bool.false_eq_true, if_false, putK_eq] at h ⊢
            rw [put_eq]
            exact ⟨.inr id, ih' true _ w hrest hS (agree_put hag hmem _) (hcl.step hj) h⟩
          · simp only [if_true] at h ⊢
            refine .inl (opK_sound h fun v w' ⟨hS', hk⟩ => ?_)
            rw [putK_eq] at hk
            rw [put_eq]
            exact ⟨.inr fun _ => hS', ih' true _ w' hrest (fun _ => hS') (agree_put hag hmem v) (hcl.step hj) hk⟩
      | free =>
        simp only [kd2, beq_iff_eq] at hok
        obtain ⟨hready, hrest⟩ := hok
        have hz : Z i = true := hzf i (by simp)
        obtain ⟨b, hb, h⟩ := guardK_sound h
        refine ⟨fun h0 => by rw [hready] at h0; simp at h0, fun j hj => ?_⟩
        obtain rfl : j = i := by rw [hready] at hj; simpa using hj
        unfold wpOp
        rw [ho]
        simp only [hb]
        cases b
        · simp only [Bool.false_eq_true, if_false, putK_eq] at h ⊢
          rw [put_eq]
          exact ⟨.inl hz, ih' false _ w hrest nofun (agree_put hag hmem _) (hcl.step hj) h⟩
        · simp only [if_true] at h ⊢
          refine .inl (opK_sound h fun v w' hk => ?_)
          rw [putK_eq] at hk
          rw [put_eq]
          exact ⟨.inl hz, ih' false _ w' hrest nofun (agree_put hag hmem v) (hcl.step hj) hk⟩
/-- A region that draws, walked along a plan. -/
theorem drawz {id : Nat} {w : World} (S : World → Prop) (plan : List (Nat × Kd)) (hm : P.follows .mixedOrders = true) (hc : fastOk ops (pl2 plan) = true) (hz : zOk ops (heldOf plan) (freeOf plan) = true)
    (h : ∀ w1, w1 = w.drew → S w1 ∧ planW P ops.toList S K plan true ρ0 w1) : DrawP P id ops K ρ0 w := by
  have hc' := regionOk_fast hc
  simp only [regionOk, Bool.and_eq_true, beq_iff_eq] at hc'
  obtain ⟨⟨h1, h2⟩, h3⟩ := hc'
  obtain ⟨hS, hk⟩ := h _ rfl
  have hl : plan.length ≤ ops.size := by rw [← h2]; simp [pl2]
  refine ⟨wp_region_any hm (anyZ_any (S := S) (Z := fun i => (freeOf plan).contains i) _ _ _ _ (planW_sound h1 plan _ _ true _ _ hl (fun i hi => zOk_spec hz ?_) (fun i hi => ?_) h3 (fun _ => hS) (agree_refl _ _) (Cl.start _) hk))⟩
  · unfold heldOf; rw [List.mem_filterMap]; exact ⟨(i, .held), hi, rfl⟩
  · simp only [List.contains_iff_mem]
    unfold freeOf; rw [List.mem_filterMap]; exact ⟨(i, .free), hi, rfl⟩
end
end Go.Proofs.YtcpniokopahakaaDoor.Eng
