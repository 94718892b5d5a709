/- Regions that draw their order: a walk along one plan stands for all orders. -/
import Derived.Test.YtcpniokopahakaaDoorEng
import Derived.OrdersHeld
import Derived.Below
namespace Go.Proofs.YtcpniokopahakaaDoor.Eng
open Go Go.RowKit
set_option linter.unusedVariables false
/-- The world but for the count of drawn orders. -/
def Still (w w' : World) : Prop := ∃ d, w' = { w with drawn := d }
theorem Still.refl (w : World) : Still w w := ⟨w.drawn, rfl⟩
theorem Still.trans {a b c : World} (h : Still a b) (k : Still b c) : Still a c := by
  obtain ⟨d, rfl⟩ := h; obtain ⟨e, rfl⟩ := k; exact ⟨e, rfl⟩
theorem Still.drew (w : World) : Still w w.drew := ⟨w.drawn + 1, rfl⟩
theorem Still.heap {w w' : World} (h : Still w w') : w'.heap = w.heap := by obtain ⟨d, rfl⟩ := h; rfl
theorem Still.below {w w' : World} (h : Still w w') (B : Nat) : Below B w w' := by obtain ⟨d, rfl⟩ := h; exact ⟨rfl, rfl, rfl, Nat.le_refl _, fun _ _ => rfl⟩
/-- An operation that yields v in every world that meets S, and leaves the world. -/
inductive TkP (P : Program) (S : World → Prop) (m : Sem Value) (K : Value → Prop) : Prop
  | mk (v : Value) (h : ∀ w, S w → m.run P w = .ok v w) (k : K v)
theorem TkP.of {P : Program} {S : World → Prop} {m : Sem Value} {K : Value → Prop} (v : Value) (h : ∀ w, S w → RunP P m w (fun u w' => v = u ∧ w = w')) (k : K v) : TkP P S m K :=
  ⟨v, fun w hS => (by obtain ⟨u, w', hm, rfl, rfl⟩ := h w hS; exact hm), k⟩
theorem tk {P : Program} {S : World → Prop} {m : Sem Value} {K : Value → Prop} {v : Value} (h : ∀ w, S w → RunP P m w (fun u w' => v = u ∧ w = w')) (k : K v) : TkP P S m K := TkP.of v h k
def binT (P : Program) (S : World → Prop) (op : BinOp) (t : TypeId) (x y : Operand) (a b : Value) (K : Value → Prop) : Prop :=
  match a with
  | .int k a => match b with
    | .int k' b => match op with
      | .shl => ShiftP b (EqP (vShl k a b) fun n => K (.int k n))
      | .shr => ShiftP b (EqP (vShr k a b) fun n => K (.int k n))
      | op => match kEq k k' with
        | true => intBin op k a b K
        | false => False
    | b => TkP P S (do eqGuard op t x y (.int k a) b; binOp op t (.int k a) b) K
  | a => TkP P S (do eqGuard op t x y a b; binOp op t a b) K
def unT (P : Program) (S : World → Prop) (op : UnOp) (a : Value) (K : Value → Prop) : Prop :=
  match op with
  | .not => match a with
    | .bool b => K (.bool (!b))
    | _ => False
  | .neg => match a with
    | .int k n => EqP (vWrap k (0 - n)) fun m => K (.int k m)
    | _ => False
  | op => TkP P S (Op.unary op a) K
def nilT (v : Value) (K : Value → Prop) : Prop :=
  match v with
  | .pointer p => match p with
    | some a => K (.pointer (some a))
    | none => False
  | .func fn a b => match fn with
    | .func f => K (.func (.func f) a b)
    | _ => False
  | .iface t x => K (.iface t x)
  | _ => False
def tupT (v : Value) (i : Nat) (K : Value → Prop) : Prop :=
  match v with
  | .tuple vs => nthK vs.toList i K
  | _ => False
def opT (P : Program) (S : World → Prop) (o : Oper) (ρ : List Value) (K : Value → Prop) : Prop :=
  match o.op with
  | .move x => evK ρ x K
  | .assign x => evK ρ x K
  | .pick c a b => evK ρ c fun c => match c with
    | .bool c => boolK c fun c => match c with
      | true => evK ρ a K
      | false => evK ρ b K
    | _ => False
  | .build t parts => pairsK ρ parts.toList fun vs => TkP P S (Instr.build t vs.toArray) K
  | .load t x => evK ρ x fun a => TkP P S (Instr.loadAt t a) K
  | .nilCheck x => evK ρ x fun v => nilT v K
  | .binOp op t x y _ => evK ρ x fun a => evK ρ y fun b => binT P S op t x y a b K
  | .unOp op _ x => evK ρ x fun a => unT P S op a K
  | .convert s d x => evK ρ x fun a => TkP P S (convert s d a) K
  | .makeInterface t x => evK ρ x fun a => TkP P S (Instr.makeInterface t a) K
  | .makeFunc fn first captured => evsK ρ first.toList fun fs => evsK ρ captured.toList fun cs => K (.func fn fs.toArray cs.toArray)
  | .slice t x lo hi mx => evK ρ x fun a => optK ρ lo fun lo => optK ρ hi fun hi => optK ρ mx fun mx => TkP P S (Instr.sliceAt t a lo hi mx) K
  | .fieldAddr t x f => evK ρ x fun a => TkP P S (Instr.fieldAt t a f) K
  | .field t x f => evK ρ x fun a => TkP P S (Instr.field t a f) K
  | .indexAddr t x i => evK ρ x fun a => evK ρ i fun i => TkP P S (Instr.indexAt t a i) K
  | .index t x i => evK ρ x fun a => evK ρ i fun i => TkP P S (Instr.index t a i) K
  | .extract x i => evK ρ x fun v => tupT v i K
  | .typeAssert x t u ok => evK ρ x fun a => TkP P S (Instr.typeAssert a t u ok) K
  | .call c => match c.callee with
    | .builtin .len => evsK ρ c.args.toList fun vs => TkP P S (Builtin.len_ c.argTypes o.type vs.toArray) K
    | .builtin .max => evsK ρ c.args.toList fun vs => TkP P S (Builtin.max_ c.argTypes o.type vs.toArray) K
    | .builtin .min => evsK ρ c.args.toList fun vs => TkP P S (Builtin.min_ c.argTypes o.type vs.toArray) K
    | _ => False
  | _ => False
section
variable {P : Program} {S : World → Prop}
theorem run_TkP {o : Oper} {ρ : List Value} {m : Sem Value} {K : Value → Prop} (he : execOp (ev ρ) o = (do pure (.value (← m)))) (h : TkP P S m K) :
    ∃ v, (∀ w, S w → (execOp (ev ρ) o).run P w = .ok (.value v) w) ∧ K v := by
  obtain ⟨v, hm, k⟩ := h
  exact ⟨v, fun w hS => by simp only [he, Sem.run_bind, hm w hS, Result.andThen_ok, Sem.run_pure], k⟩
theorem intBinT {op : BinOp} {k : IntKind} {t : TypeId} {x y : Operand} {a b : Int} {K : Value → Prop} (hop1 : op ≠ .shl) (hop2 : op ≠ .shr) (h : intBin op k a b K) :
    ∃ v, (∀ w, (do eqGuard op t x y (.int k a) (.int k b); binOp op t (.int k a) (.int k b) : Sem Value).run P w = .ok v w) ∧ K v := by
  have hg : ∀ w, (eqGuard op t x y (.int k a) (.int k b)).run P w = .ok () w := fun w => by
    unfold eqGuard; split <;> rfl
  cases op <;> simp only [intBin] at h <;> first
    | (obtain ⟨hb, _, rfl, h⟩ := h; refine ⟨_, fun w => ?_, h⟩; simp only [Sem.run_bind, hg, Result.andThen_ok]; simp [binOp, Op.intDiv, hb, vQuo, vRem]; done)
    | (obtain ⟨_, rfl, h⟩ := h; refine ⟨_, fun w => ?_, h⟩; simp only [Sem.run_bind, hg, Result.andThen_ok]; simp [binOp, Op.intArith, Op.intBits, Op.intCmp, vWrap, vAnd, vOr, vXor, vAndNot, vEq_def, vNe_def, vLt_def, vLe_def]; done)
    | (refine ⟨_, fun w => ?_, h⟩; simp only [Sem.run_bind, hg, Result.andThen_ok]; simp [binOp, Op.intArith, Op.intBits, Op.intCmp, vWrap, vAnd, vOr, vXor, vAndNot, vEq_def, vNe_def, vLt_def, vLe_def]; done)
    | contradiction
    | exact h.elim
theorem binT_sound {op : BinOp} {t : TypeId} {x y : Operand} {a b : Value} {K : Value → Prop} (h : binT P S op t x y a b K) : TkP P S (do eqGuard op t x y a b; binOp op t a b) K := by
  unfold binT at h
  split at h
  · split at h
    · split at h
      · obtain ⟨hb, _, rfl, h⟩ := h
        refine ⟨_, fun w _ => ?_, h⟩
        simp only [eqGuard, Sem.run_bind]; simp [binOp, Op.shift, vShl, Int.not_lt.2 hb]
      · obtain ⟨hb, _, rfl, h⟩ := h
        refine ⟨_, fun w _ => ?_, h⟩
        simp only [eqGuard, Sem.run_bind]; simp [binOp, Op.shift, vShr, Int.not_lt.2 hb]
      · rename_i hk1 hk2
        split at h
        · rename_i hk
          obtain rfl := kEq_eq hk
          obtain ⟨v, h1, h2⟩ := intBinT (P := P) (t := t) (x := x) (y := y) (fun e => hk1 e) (fun e => hk2 e) h
          exact ⟨v, fun w _ => h1 w, h2⟩
        · exact h.elim
    · exact h
  · exact h
theorem opT_sound {o : Oper} {ρ : List Value} {K : Value → Prop} (h : opT P S o ρ K) : ∃ v, (∀ w, S w → (execOp (ev ρ) o).run P w = .ok (.value v) w) ∧ K v := by
  unfold opT at h
  simp only [evK_eq, evsK_eq, pairsK_eq, optK_eq, boolK_eq] at h
  split at h
  case h_1 x ho => exact ⟨_, fun w _ => by unfold execOp; rw [ho]; rfl, h⟩
  case h_2 x ho => exact ⟨_, fun w _ => by unfold execOp; rw [ho]; rfl, h⟩
  case h_3 c a b ho =>
    split at h
    · rename_i cb hc
      split at h
      · exact ⟨_, fun w _ => by unfold execOp; rw [ho]; simp [hc, asBool], h⟩
      · exact ⟨_, fun w _ => by unfold execOp; rw [ho]; simp [hc, asBool], h⟩
    · exact h.elim
  case h_4 t ps ho =>
    exact run_TkP (m := Instr.build t ((ps.toList.map fun (i, x) => (i, ev ρ x)).toArray)) (by unfold execOp; rw [ho]; simp [← Array.toList_map]) h
  case h_5 t x ho => exact run_TkP (by unfold execOp; rw [ho]) h
  case h_6 x ho =>
    unfold nilT at h
    split at h
    · rename_i p hp
      split at h
      · exact ⟨_, fun w _ => by unfold execOp; rw [ho]; simp only [hp]; rfl, h⟩
      · exact h.elim
    · rename_i fn a b hp
      split at h
      · exact ⟨_, fun w _ => by unfold execOp; rw [ho]; simp only [hp]; rfl, h⟩
      · exact h.elim
    · rename_i t v hp
      exact ⟨_, fun w _ => by unfold execOp; rw [ho]; simp only [hp]; rfl, h⟩
    · exact h.elim
  case h_7 op t x y yt ho => exact run_TkP (by unfold execOp; rw [ho]) (binT_sound h)
  case h_8 op t x ho =>
    unfold unT at h
    split at h
    · split at h
      · rename_i b hb
        exact ⟨_, fun w _ => by unfold execOp; rw [ho]; simp [hb, Op.unary], h⟩
      · exact h.elim
    · split at h
      · rename_i k n hb
        obtain ⟨_, rfl, h⟩ := h
        exact ⟨_, fun w _ => by unfold execOp; rw [ho]; simp [hb, Op.unary, Op.intArith, vWrap], h⟩
      · exact h.elim
    · exact run_TkP (by unfold execOp; rw [ho]) h
  case h_9 s d x ho => exact run_TkP (by unfold execOp; rw [ho]) h
  case h_10 t x ho => exact run_TkP (by unfold execOp; rw [ho]) h
  case h_11 fn fs cs ho =>
    exact ⟨_, fun w _ => by unfold execOp; rw [ho]; simp [Instr.makeFunc, ← Array.toList_map], h⟩
  case h_12 t x lo hi mx ho => exact run_TkP (by unfold execOp; rw [ho]) h
  case h_13 t x f ho => exact run_TkP (by unfold execOp; rw [ho]) h
  case h_14 t x f ho => exact run_TkP (by unfold execOp; rw [ho]) h
  case h_15 t x i ho => exact run_TkP (by unfold execOp; rw [ho]) h
  case h_16 t x i ho => exact run_TkP (by unfold execOp; rw [ho]) h
  case h_17 x i ho =>
    unfold tupT at h
    split at h
    · rename_i vs hv
      obtain ⟨u, hu, h⟩ := nthK_eq h
      refine ⟨u, fun w _ => ?_, h⟩
      unfold execOp; rw [ho]
      simp only [Array.getElem?_toList] at hu
      simp [hv, Instr.extract, hu]
    · exact h.elim
  case h_18 x t u ok ho => exact run_TkP (by unfold execOp; rw [ho]) h
  case h_19 c ho =>
    have hargs : ∀ (xs : Array Operand), (xs.toList.map (ev ρ)).toArray = xs.map (ev ρ) := fun xs => by simp [← Array.toList_map]
    split at h
    · rename_i hc
      exact run_TkP (m := Builtin.len_ c.argTypes o.type (c.args.map (ev ρ))) (by unfold execOp; rw [ho]; simp only [resolve, hc, pure_bind, invoke, builtin]) (by rw [← hargs]; exact h)
    · rename_i hc
      exact run_TkP (m := Builtin.max_ c.argTypes o.type (c.args.map (ev ρ))) (by unfold execOp; rw [ho]; simp only [resolve, hc, pure_bind, invoke, builtin]) (by rw [← hargs]; exact h)
    · rename_i hc
      exact run_TkP (m := Builtin.min_ c.argTypes o.type (c.args.map (ev ρ))) (by unfold execOp; rw [ho]; simp only [resolve, hc, pure_bind, invoke, builtin]) (by rw [← hargs]; exact h)
    · exact h.elim
  case h_20 => exact h.elim
end
/-- After an operation that may turn the world, S is to be shown anew. -/
inductive KeepP (S : Prop) (K : Prop) : Prop
  | mk (h : S) (k : K)
/-- The walk along the plan. -/
def planK (P : Program) (ops : List Oper) (S : World → Prop) (K : List Value → World → Prop) (plan : List (Nat × Bool)) : List Value → World → Prop :=
  List.rec (motive := fun _ => List Value → World → Prop) K (fun i _ ih ρ w => match ops[i.1]? with
    | none => False
    | some o => match i.2 with
      | true => guardK ops o.guard ρ fun b ρ => match b with
        | true => opT P S o ρ fun v => putK ρ o.dst v fun ρ => ih ρ w
        | false => putK ρ o.dst undef fun ρ => ih ρ w
      | false => guardK ops o.guard ρ fun b ρ => match b with
        | true => opK P o ρ w fun v w' => KeepP (S w') (putK ρ o.dst v fun ρ => ih ρ w')
        | false => putK ρ o.dst undef fun ρ => ih ρ w) plan
theorem planK_cons (P : Program) (ops : List Oper) (S : World → Prop) (K : List Value → World → Prop) (i : Nat × Bool) (r : List (Nat × Bool)) (ρ : List Value) (w : World) :
    planK P ops S K (i :: r) ρ w = match ops[i.1]? with
    | none => False
    | some o => match i.2 with
      | true => guardK ops o.guard ρ fun b ρ => match b with
        | true => opT P S o ρ fun v => putK ρ o.dst v fun ρ => planK P ops S K r ρ w
        | false => putK ρ o.dst undef fun ρ => planK P ops S K r ρ w
      | false => guardK ops o.guard ρ fun b ρ => match b with
        | true => opK P o ρ w fun v w' => KeepP (S w') (putK ρ o.dst v fun ρ => planK P ops S K r ρ w')
        | false => putK ρ o.dst undef fun ρ => planK P ops S K r ρ w := rfl
noncomputable def planOk (ops : Array Oper) (plan : List (Nat × Bool)) : Array Bool → Bool :=
  List.rec (motive := fun _ => Array Bool → Bool) (fun listed => (Region.ready .any ops listed).isEmpty) (fun i _ ih listed => match ops[i.1]? with
    | none => false
    | some o => (match i.2 with
      | true => Region.free .any ops listed i.1 && (Region.ready .any ops listed).contains i.1
      | false => Region.ready .any ops listed == [i.1]) && ih (listed.setIfInBounds i.1 true)) plan
theorem planOk_cons (ops : Array Oper) (i : Nat × Bool) (r : List (Nat × Bool)) (listed : Array Bool) : planOk ops (i :: r) listed = match ops[i.1]? with
    | none => false
    | some o => (match i.2 with
      | true => Region.free .any ops listed i.1 && (Region.ready .any ops listed).contains i.1
      | false => Region.ready .any ops listed == [i.1]) && planOk ops r (listed.setIfInBounds i.1 true) := rfl
noncomputable def regionOk (ops : Array Oper) (plan : List (Nat × Bool)) : Bool := Region.noSelect ops && plan.length == ops.size && planOk ops plan (Array.replicate ops.size false)
theorem agree_refl (ds : List Nat) (ρ : List Value) : agree ds ρ ρ := ⟨rfl, fun _ _ => rfl⟩
theorem agree_put {ds : List Nat} {ρ0 ρ : List Value} (h : agree ds ρ0 ρ) {d : Option Nat} (hd : ∀ n, d = some n → n ∈ ds) (v : Value) : agree ds ρ0 (put ρ d v) := by
  obtain ⟨h1, h2⟩ := h
  cases d with
  | none => exact ⟨h1, h2⟩
  | some n =>
    refine ⟨by simp [put, h1], fun i hi => ?_⟩
    have : n ≠ i := fun e => hi (e ▸ hd n rfl)
    simp only [put]
    rw [List.getElem?_set_ne this]
    exact h2 i hi
section
variable {P : Program} {ops : Array Oper} {S : World → Prop} {K : List Value → World → Prop} {ρ0 : List Value}
theorem planK_sound (hs : Region.noSelect ops = true) (plan : List (Nat × Bool)) : ∀ (fuel : Nat) (listed : Array Bool) (ρ : List Value) (w : World), plan.length ≤ fuel → planOk ops plan listed = true → S w → agree (opsDsts ops.toList) ρ0 ρ →
    planK P ops.toList S K plan ρ w → wpAnyH P .any ops (fun e a w' => e = .normal ∧ a.defers = [] ∧ agree (opsDsts ops.toList) ρ0 a.tmps.toList ∧ K a.tmps.toList w') S fuel listed ⟨ρ.toArray, []⟩ w := by
  induction plan with
  | nil =>
    intro fuel listed ρ w _ hok hS hag h
    exact wpAnyH_done (List.isEmpty_iff.1 hok) ⟨rfl, rfl, hag, h⟩ fuel
  | cons ib r ih =>
    obtain ⟨i, isTake⟩ := ib
    intro fuel listed ρ w hfl hok hS hag h
    obtain ⟨f, rfl⟩ : ∃ f, fuel = f + 1 := ⟨fuel - 1, by simp at hfl; omega⟩
    have hfl2 : r.length ≤ f := by simpa using hfl
    rw [planOk_cons] at hok
    rw [planK_cons] at h
    simp only [Array.getElem?_toList] at h
    cases ho : ops[i]? with
    | none => rw [ho] at hok; cases hok
    | some o =>
      rw [ho] at hok h
      simp only [Bool.and_eq_true] at hok h
      have hmem : ∀ n, o.dst = some n → n ∈ opsDsts ops.toList := fun n hn => by
        unfold opsDsts
        rw [List.mem_filterMap]
        exact ⟨o, by simpa using Array.mem_of_getElem? ho, hn⟩
      cases hT : isTake with
      | true =>
        rw [hT] at hok h
        simp only [Bool.and_eq_true] at hok
        obtain ⟨⟨hfree, hready⟩, hrest⟩ := hok
        obtain ⟨b, hb, h⟩ := guardK_sound h
        have key : ∀ v, YieldsIf P ops S o v ⟨ρ.toArray, []⟩ → planK P ops.toList S K r (put ρ o.dst v) w → wpAnyH P .any ops (fun e a w' => e = .normal ∧ a.defers = [] ∧ agree (opsDsts ops.toList) ρ0 a.tmps.toList ∧ K a.tmps.toList w') S (f + 1) listed ⟨ρ.toArray, []⟩ w := fun v hy hk =>
          wpAnyH_take ho hs hfree hready (fun c a w hq => by cases hq.1) hy hS (by
            rw [put_eq]
            exact ih f _ _ w hfl2 hrest hS (agree_put hag hmem v) hk)
        cases b
        · simp only [putK_eq] at h
          exact key undef (.inr ⟨hb, rfl⟩) h
        · obtain ⟨v, hv, hk⟩ := opT_sound h
          rw [putK_eq] at hk
          exact key v (.inl ⟨hb, fun w hS => by rw [ev_eq]; exact hv w hS⟩) hk
      | false =>
        rw [hT] at hok h
        simp only [beq_iff_eq] at hok
        obtain ⟨hready, hrest⟩ := hok
        obtain ⟨b, hb, h⟩ := guardK_sound h
        refine wpAnyH_all hready (by simp) fun j hj => ?_
        obtain rfl : j = i := by simpa using hj
        unfold wpOp
        rw [ho]
        simp only [hb]
        cases b
        · simp only [Bool.false_eq_true, if_false, putK_eq] at h ⊢
          rw [put_eq]
          exact ⟨hS, ih f _ _ w hfl2 hrest hS (agree_put hag hmem _) h⟩
        · simp only [if_true] at h ⊢
          refine .inl (opK_sound h fun v w' ⟨hS', hk⟩ => ?_)
          rw [putK_eq] at hk
          rw [put_eq]
          exact ⟨hS', ih f _ _ w' hfl2 hrest hS' (agree_put hag hmem v) hk⟩
/-- A region that draws, walked along a plan. -/
theorem draw {id : Nat} {w : World} (S : World → Prop) (plan : List (Nat × Bool)) (hm : P.follows .mixedOrders = true) (hc : regionOk ops plan = true)
    (h : ∀ w1, w1 = w.drew → S w1 ∧ planK P ops.toList S K plan ρ0 w1) : DrawP P id ops K ρ0 w := by
  simp only [regionOk, Bool.and_eq_true, beq_iff_eq] at hc
  obtain ⟨⟨h1, h2⟩, h3⟩ := hc
  obtain ⟨hS, hk⟩ := h _ rfl
  exact ⟨wp_region_held hm (planK_sound h1 plan _ _ _ _ (Nat.le_of_eq h2) h3 hS (agree_refl _ _) hk)⟩
end
end Go.Proofs.YtcpniokopahakaaDoor.Eng
