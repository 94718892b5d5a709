/- Bodies as trees. -/
import Derived.Test.YtpobebafdecgaaaNestL
set_option maxRecDepth 100000
set_option linter.unusedVariables false
set_option linter.unusedSimpArgs false
namespace Go.Proofs.Ytpobebafdecgaaa.Nest
open Go.Proofs.Ytpobebafdecgaaa.Leb Go.Proofs.Ytpobebafdecgaaa.Txt Go.Proofs.Ytpobebafdecgaaa.Ins
inductive Nd
  | single (x : InsD)
  | block (h : InsD) (w : List Nd)
  | choice (h : InsD) (w o : List Nd) (both : Bool)
def endI : InsD := ⟨11, 0, 0, []⟩
def elseI : InsD := ⟨5, 0, 0, []⟩
mutual
def flatN : Nd → List InsD
  | .single x => [x]
  | .block h w => h :: (flatL w ++ [endI])
  | .choice h w o both => h :: (flatL w ++ ((if both then elseI :: flatL o else []) ++ [endI]))
def flatL : List Nd → List InsD
  | [] => []
  | n :: r => flatN n ++ flatL r
end
mutual
def deepN : Nd → Nat
  | .single _ => 0
  | .block _ w => 1 + deepL w
  | .choice _ w o _ => max (1 + deepL w) (1 + deepL o)
def deepL : List Nd → Nat
  | [] => 0
  | n :: r => max (deepN n) (deepL r)
end
mutual
def sizeN : Nd → Nat
  | .single _ => 0
  | .block _ w => 1 + sizeL w
  | .choice _ w o _ => 1 + sizeL w + sizeL o
def sizeL : List Nd → Nat
  | [] => 0
  | n :: r => sizeN n + sizeL r
end
theorem flatL_app (a b : List Nd) : flatL (a ++ b) = flatL a ++ flatL b := by
  induction a with
  | nil => rfl
  | cons n r ih => rw [List.cons_append, flatL, flatL, ih, List.append_assoc]
theorem deepL_app (a b : List Nd) : deepL (a ++ b) = max (deepL a) (deepL b) := by
  induction a with
  | nil => rw [List.nil_append, deepL]; omega
  | cons n r ih => rw [List.cons_append, deepL, deepL, ih]; omega
theorem sizeL_app (a b : List Nd) : sizeL (a ++ b) = sizeL a + sizeL b := by
  induction a with
  | nil => rw [List.nil_append, sizeL]; omega
  | cons n r ih => rw [List.cons_append, sizeL, sizeL, ih]; omega
mutual
theorem deep_sizeN : ∀ n : Nd, deepN n ≤ sizeN n
  | .single _ => by rw [deepN, sizeN]; exact Nat.le_refl _
  | .block _ w => by have := deep_sizeL w; rw [deepN, sizeN]; omega
  | .choice _ w o _ => by have := deep_sizeL w; have := deep_sizeL o; rw [deepN, sizeN]; omega
theorem deep_sizeL : ∀ l : List Nd, deepL l ≤ sizeL l
  | [] => by rw [deepL, sizeL]; exact Nat.le_refl _
  | n :: r => by have := deep_sizeN n; have := deep_sizeL r; rw [deepL, sizeL]; omega
end
/-- What nest.parts makes of a list: the nodes, and what is left. -/
inductive Parts : List InsD → List Nd → List InsD → Prop
  | stop (x : InsD) (r : List InsD) (hx : x.op = 11 ∨ x.op = 5) : Parts (x :: r) [] (x :: r)
  | single (x : InsD) (r : List InsD) (ns : List Nd) (rest : List InsD) (h2 : x.op ≠ 2) (h3 : x.op ≠ 3) (h4 : x.op ≠ 4) (h5 : x.op ≠ 5) (h11 : x.op ≠ 11) (h : Parts r ns rest) : Parts (x :: r) (.single x :: ns) rest
  | block (x : InsD) (r : List InsD) (w : List Nd) (y : InsD) (r' : List InsD) (ns : List Nd) (rest : List InsD) (hx : x.op = 2 ∨ x.op = 3) (hw : Parts r w (y :: r')) (h : Parts r' ns rest) : Parts (x :: r) (.block x w :: ns) rest
  | one (x : InsD) (r : List InsD) (w : List Nd) (y : InsD) (r' : List InsD) (ns : List Nd) (rest : List InsD) (hx : x.op = 4) (hw : Parts r w (y :: r')) (hy : y.op ≠ 5) (h : Parts r' ns rest) : Parts (x :: r) (.choice x w [] false :: ns) rest
  | two (x : InsD) (r : List InsD) (w : List Nd) (y : InsD) (r1 : List InsD) (o : List Nd) (z : InsD) (r2 : List InsD) (ns : List Nd) (rest : List InsD) (hx : x.op = 4) (hw : Parts r w (y :: r1)) (hy : y.op = 5) (ho : Parts r1 o (z :: r2)) (h : Parts r2 ns rest) : Parts (x :: r) (.choice x w o true :: ns) rest
theorem Parts.app {l rest : List InsD} {ns : List Nd} (h : Parts l ns rest) (s : List InsD) : Parts (l ++ s) ns (rest ++ s) := by
  induction h with
  | stop x r hx => exact .stop x (r ++ s) hx
  | single x r ns rest h2 h3 h4 h5 h11 h ih => exact .single x _ ns _ h2 h3 h4 h5 h11 ih
  | block x r w y r' ns rest hx hw h ih1 ih2 => exact .block x _ w y _ ns _ hx ih1 ih2
  | one x r w y r' ns rest hx hw hy h ih1 ih2 => exact .one x _ w y _ ns _ hx ih1 hy ih2
  | two x r w y r1 o z r2 ns rest hx hw hy ho h ih1 ih2 ih3 => exact .two x _ w y _ o z _ ns _ hx ih1 hy ih2 ih3
theorem Parts.rest {l rest : List InsD} {ns : List Nd} (h : Parts l ns rest) : ∃ x r, rest = x :: r ∧ (x.op = 11 ∨ x.op = 5) := by
  induction h with
  | stop x r hx => exact ⟨x, r, rfl, hx⟩
  | single _ _ _ _ _ _ _ _ _ _ ih => exact ih
  | block _ _ _ _ _ _ _ _ _ _ _ ih => exact ih
  | one _ _ _ _ _ _ _ _ _ _ _ _ ih => exact ih
  | two _ _ _ _ _ _ _ _ _ _ _ _ _ _ _ _ _ ih => exact ih
theorem Parts.len {l rest : List InsD} {ns : List Nd} (h : Parts l ns rest) : rest.length ≤ l.length := by
  induction h with
  | stop x r hx => exact Nat.le_refl _
  | single _ _ _ _ _ _ _ _ _ _ ih => simp only [List.length_cons]; omega
  | block _ _ _ _ _ _ _ _ _ _ ih1 ih2 => simp only [List.length_cons] at *; omega
  | one _ _ _ _ _ _ _ _ _ _ _ ih1 ih2 => simp only [List.length_cons] at *; omega
  | two _ _ _ _ _ _ _ _ _ _ _ _ _ _ _ ih1 ih2 ih3 => simp only [List.length_cons] at *; omega
/-! ## The walker over a list -/
def runE : NS → Nat → List InsD → NS × Int
  | st, _, [] => (st, 0)
  | st, k, x :: r => if chk x ≠ 0 then (st, chk x) else if (nextS st x.op k).2.2 ≠ 0 then (st, (nextS st x.op k).2.2) else runE (nextS st x.op k).1 (k + 1) r
theorem goB_run : ∀ (l : List InsD) (k : Nat) (st : NS), goB l k st = if (runE st k l).2 ≠ 0 then (runE st k l).2 else if (runE st k l).1.over = true then 0 else 3
  | [], k, st => by rw [goB, runE]; simp
  | x :: r, k, st => by
    rw [goB, runE]
    split
    · rfl
    split
    · rfl
    exact goB_run r (k + 1) _
theorem run_app : ∀ (a b : List InsD) (k : Nat) (st : NS), runE st k (a ++ b) = if (runE st k a).2 ≠ 0 then runE st k a else runE (runE st k a).1 (k + a.length) b
  | [], b, k, st => by rw [List.nil_append, runE, if_neg (by simp)]; rfl
  | x :: r, b, k, st => by
    rw [List.cons_append, runE, runE]
    split
    · rfl
    split
    · rfl
    rw [run_app r b (k + 1), List.length_cons, show k + 1 + r.length = k + (r.length + 1) by omega]
theorem chk_endI : chk endI = 0 := by decide
theorem chk_elseI : chk elseI = 0 := by decide
theorem is_end {y : InsD} (hc : chk y = 0) (ho : y.op = 11) : y = endI := by
  obtain ⟨h0, h1, h2, h3, h4, h5⟩ := chk_ok hc
  obtain ⟨o, a, b, to⟩ := y
  simp only at ho h0 h1 h2 h3 h4 h5
  subst ho
  have e : bsd 11 = 1 := by decide
  rw [e] at h2 h3 h4
  have := h2 (by decide); subst this
  have := h3 (by decide); subst this
  have h4 : a = 0 := by simpa [goodK] using h4
  subst h4; rfl
theorem is_else {y : InsD} (hc : chk y = 0) (ho : y.op = 5) : y = elseI := by
  obtain ⟨h0, h1, h2, h3, h4, h5⟩ := chk_ok hc
  obtain ⟨o, a, b, to⟩ := y
  simp only at ho h0 h1 h2 h3 h4 h5
  subst ho
  have e : bsd 5 = 1 := by decide
  rw [e] at h2 h3 h4
  have := h2 (by decide); subst this
  have := h3 (by decide); subst this
  have h4 : a = 0 := by simpa [goodK] using h4
  subst h4; rfl
/-- The top is an if that has no else yet. -/
def isIf (st : NS) : Prop := st.last[st.op.length - 1]? = some 4
theorem run_cons {st : NS} {k : Nat} {x : InsD} {r : List InsD} {sF : NS} (h : runE st k (x :: r) = (sF, 0)) : chk x = 0 ∧ (nextS st x.op k).2.2 = 0 ∧ runE (nextS st x.op k).1 (k + 1) r = (sF, 0) := by
  rw [runE] at h
  split at h
  · rename_i h1; injection h with _ h; exact absurd h h1
  rename_i h1
  split at h
  · rename_i h2; injection h with _ h; exact absurd h h2
  rename_i h2
  exact ⟨Decidable.not_not.1 h1, Decidable.not_not.1 h2, h⟩
structure Ps (l : List InsD) (st : NS) (sF : NS) (ns : List Nd) (x : InsD) (r : List InsD) (j : Nat) : Prop where
  parts : Parts l ns (x :: r)
  flat : l = flatL ns ++ x :: r
  run : runE st j (x :: r) = (sF, 0)
  top : x.op = 11 ∨ (x.op = 5 ∧ isIf st)
  deep : st.op.length - 1 + deepL ns ≤ 12
theorem parse : ∀ (n : Nat) (l : List InsD) (st sF : NS) (k : Nat), l.length ≤ n → NOk st → st.over = false → runE st k l = (sF, 0) → sF.over = true → ∃ ns x r j, Ps l st sF ns x r j := by
  intro n
  induction n with
  | zero =>
    intro l st sF k hl hok ho hr hF
    obtain rfl := List.eq_nil_of_length_eq_zero (Nat.le_zero.1 hl)
    rw [runE] at hr
    injection hr with hr _
    rw [hr, hF] at ho; cases ho
  | succ n ih =>
    intro l st sF k hl hok ho hr hF
    cases l with
    | nil =>
      rw [runE] at hr
      injection hr with hr _
      rw [hr, hF] at ho; cases ho
    | cons x r =>
      obtain ⟨hc, hn, hr'⟩ := run_cons hr
      have hl' : r.length ≤ n := by simp only [List.length_cons] at hl; omega
      have hpos := hok.pos ho
      have hlen := hok.len
      have hle := hok.le
      have hok' := nextS_ok hok x.op k
      obtain ⟨op, last, ov⟩ := st
      simp only at ho hpos hlen hle
      subst ho
      by_cases h11 : x.op = 11
      · exact ⟨[], x, r, k, .stop x r (.inl h11), rfl, hr, .inl h11, by rw [deepL]; simp only; omega⟩
      by_cases h5 : x.op = 5
      · refine ⟨[], x, r, k, .stop x r (.inr h5), rfl, hr, .inr ⟨h5, ?_⟩, by rw [deepL]; simp only; omega⟩
        unfold nextS at hn
        rw [if_neg (by simp), if_neg (by omega), if_pos h5] at hn
        split at hn
        · cases hn
        · rename_i h4
          have h4 := Decidable.not_not.1 h4
          unfold isIf
          simp only at h4 ⊢
          rw [List.getD_eq_getElem?_getD] at h4
          cases hq : last[op.length - 1]? with
          | none => rw [hq] at h4; cases h4
          | some q => rw [hq] at h4; exact congrArg some h4
      by_cases hop : x.op = 2 ∨ x.op = 3 ∨ x.op = 4
      · -- a block is opened
        have hnx : nextS ⟨op, last, false⟩ x.op k = (⟨op ++ [(k : Int)], last ++ [x.op], false⟩, -2, 0) ∧ op.length - 1 < 12 := by
          unfold nextS at hn ⊢
          rw [if_neg (by simp), if_pos hop] at hn ⊢
          split at hn
          · cases hn
          · rename_i h12
            simp only at h12
            rw [if_neg h12]
            exact ⟨rfl, by omega⟩
        obtain ⟨hnx, h12⟩ := hnx
        rw [hnx] at hr' hok'
        simp only at hr' hok'
        obtain ⟨w, y, r', j, P⟩ := ih r _ sF (k + 1) hl' hok' rfl hr' hF
        obtain ⟨p1, p2, p3, p4, p5⟩ := P
        obtain ⟨yc, yn, yr⟩ := run_cons p3
        have hrl : (y :: r').length ≤ r.length := p1.len
        simp only [List.length_cons] at hrl
        have hpop : ∀ (la : List Int) (q : Int) (j : Nat), nextS ⟨op ++ [(k : Int)], last ++ [q], false⟩ 11 j = ((⟨op, last, false⟩ : NS), (k : Int), (0 : Int)) := fun la q j => by
          unfold nextS
          rw [if_neg (by simp), if_neg (by decide), if_neg (by decide), if_pos rfl]
          simp only [List.length_append, List.length_singleton, Nat.add_sub_cancel, List.take_left]
          rw [← hlen, List.take_left, hlen, List.getD_eq_getElem?_getD, List.getElem?_append_right (Nat.le_refl _)]
          simp only [Nat.sub_self, List.getElem?_cons_zero, Option.getD_some]
          try rw [show decide (op.length = 0) = false from decide_eq_false (by omega)]
        have hd : op.length + deepL w ≤ 12 := by simpa using p5
        rcases p4 with y11 | ⟨y5, yi⟩
        · rw [y11, hpop []] at yr
          simp only at yr
          obtain ⟨ns, z, r2, j2, Q⟩ := ih r' _ sF (j + 1) (by omega) hok rfl yr hF
          obtain ⟨q1, q2, q3, q4, q5⟩ := Q
          have ye := is_end yc y11
          simp only at q5
          by_cases h4 : x.op = 4
          · refine ⟨.choice x w [] false :: ns, z, r2, j2, .one x r w y r' ns _ h4 p1 (by omega) q1, ?_, q3, q4, ?_⟩
            · rw [flatL, flatN, p2, ye, q2]; simp
            · simp only [deepL, deepN]; omega
          · refine ⟨.block x w :: ns, z, r2, j2, .block x r w y r' ns _ (by omega) p1 q1, ?_, q3, q4, ?_⟩
            · rw [flatL, flatN, p2, ye, q2]; simp
            · simp only [deepL, deepN]; omega
        · -- an else
          have h4 : x.op = 4 := by
            unfold isIf at yi
            simp only [List.length_append, List.length_singleton, Nat.add_sub_cancel] at yi
            rw [← hlen, List.getElem?_append_right (Nat.le_refl _)] at yi
            simpa using yi
          have hnx2 : nextS ⟨op ++ [(k : Int)], last ++ [x.op], false⟩ y.op j = ((⟨op ++ [(k : Int)], last ++ [5], false⟩ : NS), (k : Int), (0 : Int)) := by
            unfold nextS
            rw [if_neg (by simp), if_neg (by omega), if_pos y5]
            simp only [List.length_append, List.length_singleton, Nat.add_sub_cancel]
            rw [List.getD_eq_getElem?_getD, ← hlen, List.getElem?_append_right (Nat.le_refl _), if_neg (by simp [h4])]
            rw [List.set_append_right _ _ (Nat.le_refl _), List.getD_eq_getElem?_getD, hlen, List.getElem?_append_right (Nat.le_refl _)]
            simp
          rw [hnx2] at yr
          simp only at yr
          have hok2 := nextS_ok hok' y.op j
          rw [hnx2] at hok2
          obtain ⟨o, z, r1, j1, Q⟩ := ih r' _ sF (j + 1) (by omega) hok2 rfl yr hF
          obtain ⟨q1, q2, q3, q4, q5⟩ := Q
          have hrl2 : (z :: r1).length ≤ r'.length := q1.len
          simp only [List.length_cons] at hrl2
          have z11 : z.op = 11 := by
            rcases q4 with q4 | ⟨_, q4⟩
            · exact q4
            · exfalso
              unfold isIf at q4
              simp only [List.length_append, List.length_singleton, Nat.add_sub_cancel] at q4
              rw [← hlen, List.getElem?_append_right (Nat.le_refl _)] at q4
              simp at q4
          obtain ⟨zc, zn, zr⟩ := run_cons q3
          rw [z11, hpop []] at zr
          simp only at zr
          obtain ⟨ns, z2, r2, j2, R⟩ := ih r1 _ sF (j1 + 1) (by omega) hok rfl zr hF
          obtain ⟨t1, t2, t3, t4, t5⟩ := R
          have ye := is_else yc y5
          have ze := is_end zc z11
          have hd2 : op.length + deepL o ≤ 12 := by simpa using q5
          simp only at t5
          refine ⟨.choice x w o true :: ns, z2, r2, j2, .two x r w y r' o z r1 ns _ h4 p1 y5 q1 t1, ?_, t3, t4, ?_⟩
          · rw [flatL, flatN, p2, ye, q2, ze, t2]; simp
          · simp only [deepL, deepN]; omega
      · -- a single one
        have hnx : nextS ⟨op, last, false⟩ x.op k = (⟨op, last, false⟩, -2, 0) := by
          unfold nextS
          rw [if_neg (by simp), if_neg hop, if_neg h5, if_neg h11]
        rw [hnx] at hr'
        simp only at hr'
        obtain ⟨ns, z, r2, j2, Q⟩ := ih r _ sF (k + 1) hl' hok rfl hr' hF
        obtain ⟨q1, q2, q3, q4, q5⟩ := Q
        refine ⟨.single x :: ns, z, r2, j2, .single x r ns _ (by omega) (by omega) (by omega) h5 h11 q1, ?_, q3, q4, ?_⟩
        · rw [flatL, flatN, q2]; rfl
        · simp only [deepL, deepN] at q5 ⊢; omega
/-- The tree of a body. -/
theorem body_tree {l : List InsD} (h : chkB l = 0) : ∃ ns, Parts l ns [endI] ∧ l = flatL ns ++ [endI] ∧ deepL ns ≤ 12 := by
  unfold chkB at h
  split at h
  · cases h
  rw [goB_run] at h
  split at h
  · rename_i h1; exact absurd h h1
  rename_i h1
  split at h
  · rename_i hov
    have hr : runE ns0 0 l = ((runE ns0 0 l).1, 0) := by rw [← Decidable.not_not.1 h1]
    obtain ⟨ns, x, r, j, P⟩ := parse l.length l ns0 _ 0 (Nat.le_refl _) ns0_ok rfl hr hov
    obtain ⟨p1, p2, p3, p4, p5⟩ := P
    obtain ⟨xc, xn, xr⟩ := run_cons p3
    have x11 : x.op = 11 := by
      rcases p4 with q | ⟨_, q⟩
      · exact q
      · exact absurd q (by unfold isIf; decide)
    have hxe := is_end xc x11
    have hnil : r = [] := by
      cases r with
      | nil => rfl
      | cons y r' =>
        exfalso
        obtain ⟨_, yn, _⟩ := run_cons xr
        rw [x11, over_no (show (nextS ns0 11 j).1.over = true from rfl)] at yn
        cases yn
    subst hnil
    subst hxe
    exact ⟨ns, p1, p2, by simpa [ns0] using p5⟩
  · cases h
/-! ## Trees that are well made -/
mutual
def canN : Nd → Prop
  | .single x => chk x = 0 ∧ x.op ≠ 2 ∧ x.op ≠ 3 ∧ x.op ≠ 4 ∧ x.op ≠ 5 ∧ x.op ≠ 11
  | .block h w => chk h = 0 ∧ (h.op = 2 ∨ h.op = 3) ∧ canL w
  | .choice h w o both => chk h = 0 ∧ h.op = 4 ∧ canL w ∧ canL o ∧ (both = false → o = [])
def canL : List Nd → Prop
  | [] => True
  | n :: r => canN n ∧ canL r
end
theorem Parts.can {l rest : List InsD} {ns : List Nd} (h : Parts l ns rest) (hc : ∀ x ∈ l, chk x = 0) : canL ns ∧ ∀ x ∈ rest, chk x = 0 := by
  induction h with
  | stop x r hx => exact ⟨trivial, hc⟩
  | single x r ns rest h2 h3 h4 h5 h11 h ih =>
    obtain ⟨a, b⟩ := ih fun y hy => hc y (List.mem_cons_of_mem _ hy)
    exact ⟨⟨⟨hc x (List.mem_cons_self ..), h2, h3, h4, h5, h11⟩, a⟩, b⟩
  | block x r w y r' ns rest hx hw h ih1 ih2 =>
    obtain ⟨a, b⟩ := ih1 fun y hy => hc y (List.mem_cons_of_mem _ hy)
    obtain ⟨c, d⟩ := ih2 fun y hy => b y (List.mem_cons_of_mem _ hy)
    exact ⟨⟨⟨hc x (List.mem_cons_self ..), hx, a⟩, c⟩, d⟩
  | one x r w y r' ns rest hx hw hy h ih1 ih2 =>
    obtain ⟨a, b⟩ := ih1 fun y hy => hc y (List.mem_cons_of_mem _ hy)
    obtain ⟨c, d⟩ := ih2 fun y hy => b y (List.mem_cons_of_mem _ hy)
    exact ⟨⟨⟨hc x (List.mem_cons_self ..), hx, a, trivial, fun _ => rfl⟩, c⟩, d⟩
  | two x r w y r1 o z r2 ns rest hx hw hy ho h ih1 ih2 ih3 =>
    obtain ⟨a, b⟩ := ih1 fun y hy => hc y (List.mem_cons_of_mem _ hy)
    obtain ⟨c, d⟩ := ih2 fun y hy => b y (List.mem_cons_of_mem _ hy)
    obtain ⟨e, f⟩ := ih3 fun y hy => d y (List.mem_cons_of_mem _ hy)
    exact ⟨⟨⟨hc x (List.mem_cons_self ..), hx, a, c, nofun⟩, e⟩, f⟩
theorem run_open {op last : List Int} {k : Nat} {x : InsD} {r : List InsD} (hc : chk x = 0) (ho : x.op = 2 ∨ x.op = 3 ∨ x.op = 4) (h12 : op.length - 1 < 12) : runE ⟨op, last, false⟩ k (x :: r) = runE ⟨op ++ [(k : Int)], last ++ [x.op], false⟩ (k + 1) r := by
  have hn : nextS ⟨op, last, false⟩ x.op k = (⟨op ++ [(k : Int)], last ++ [x.op], false⟩, -2, 0) := by
    unfold nextS
    rw [if_neg (by simp), if_pos ho, if_neg (by simp only; omega)]
  rw [runE, if_neg (by rw [hc]; simp), hn, if_neg (by simp)]
theorem run_deep {op last : List Int} {k : Nat} {x : InsD} {r : List InsD} (hc : chk x = 0) (ho : x.op = 2 ∨ x.op = 3 ∨ x.op = 4) (h12 : 12 ≤ op.length - 1) : (runE ⟨op, last, false⟩ k (x :: r)).2 = 7 := by
  have hn : nextS ⟨op, last, false⟩ x.op k = (⟨op, last, false⟩, -2, 7) := by
    unfold nextS
    rw [if_neg (by simp), if_pos ho, if_pos h12]
  rw [runE, if_neg (by rw [hc]; simp), hn, if_pos (by simp)]
theorem run_end {op last : List Int} {k k2 : Nat} {q : Int} {r : List InsD} (hl : last.length = op.length) (hp : 0 < op.length) : runE ⟨op ++ [(k : Int)], last ++ [q], false⟩ k2 (endI :: r) = runE ⟨op, last, false⟩ (k2 + 1) r := by
  have hn : nextS ⟨op ++ [(k : Int)], last ++ [q], false⟩ endI.op k2 = ((⟨op, last, false⟩ : NS), (k : Int), (0 : Int)) := by
    show nextS _ 11 _ = _
    unfold nextS
    rw [if_neg (by simp), if_neg (by decide), if_neg (by decide), if_pos rfl]
    simp only [List.length_append, List.length_singleton, Nat.add_sub_cancel, List.take_left]
    rw [← hl, List.take_left, hl, List.getD_eq_getElem?_getD, List.getElem?_append_right (Nat.le_refl _)]
    simp only [Nat.sub_self, List.getElem?_cons_zero, Option.getD_some]
    try rw [show decide (op.length = 0) = false from decide_eq_false (by omega)]
  rw [runE, if_neg (by rw [chk_endI]; simp), hn, if_neg (by simp)]
theorem run_else {op last : List Int} {k k2 : Nat} {r : List InsD} (hl : last.length = op.length) : runE ⟨op ++ [(k : Int)], last ++ [4], false⟩ k2 (elseI :: r) = runE ⟨op ++ [(k : Int)], last ++ [5], false⟩ (k2 + 1) r := by
  have hn : nextS ⟨op ++ [(k : Int)], last ++ [4], false⟩ elseI.op k2 = ((⟨op ++ [(k : Int)], last ++ [5], false⟩ : NS), (k : Int), (0 : Int)) := by
    show nextS _ 5 _ = _
    unfold nextS
    rw [if_neg (by simp), if_neg (by decide), if_pos rfl]
    simp only [List.length_append, List.length_singleton, Nat.add_sub_cancel]
    rw [List.getD_eq_getElem?_getD, ← hl, List.getElem?_append_right (Nat.le_refl _), if_neg (by simp)]
    rw [List.set_append_right _ _ (Nat.le_refl _), List.getD_eq_getElem?_getD, hl, List.getElem?_append_right (Nat.le_refl _)]
    simp
  rw [runE, if_neg (by rw [chk_elseI]; simp), hn, if_neg (by simp)]
theorem run_plain {op last : List Int} {k : Nat} {x : InsD} {r : List InsD} (hc : chk x = 0) (h2 : x.op ≠ 2) (h3 : x.op ≠ 3) (h4 : x.op ≠ 4) (h5 : x.op ≠ 5) (h11 : x.op ≠ 11) : runE ⟨op, last, false⟩ k (x :: r) = runE ⟨op, last, false⟩ (k + 1) r := by
  have hn : nextS ⟨op, last, false⟩ x.op k = (⟨op, last, false⟩, -2, 0) := by
    unfold nextS
    rw [if_neg (by simp), if_neg (by omega), if_neg h5, if_neg h11]
  rw [runE, if_neg (by rw [hc]; simp), hn, if_neg (by simp)]
mutual
theorem run_node : ∀ (n : Nd) (op last : List Int) (k : Nat) (r : List InsD), canN n → last.length = op.length → 0 < op.length → op.length - 1 ≤ 12 →
    (op.length - 1 + deepN n ≤ 12 → ∃ k', runE ⟨op, last, false⟩ k (flatN n ++ r) = runE ⟨op, last, false⟩ k' r) ∧ (12 < op.length - 1 + deepN n → (runE ⟨op, last, false⟩ k (flatN n ++ r)).2 = 7)
  | .single x, op, last, k, r, hc, hl, hp, h13 => by
    rw [canN] at hc
    rw [deepN, flatN]
    exact ⟨fun _ => ⟨k + 1, run_plain hc.1 hc.2.1 hc.2.2.1 hc.2.2.2.1 hc.2.2.2.2.1 hc.2.2.2.2.2⟩, fun h => by omega⟩
  | .block h w, op, last, k, r, hc, hl, hp, h13 => by
    rw [canN] at hc
    rw [deepN, flatN, List.cons_append, List.append_assoc]
    by_cases h12 : op.length - 1 < 12
    · rw [run_open hc.1 (by have := hc.2.1; omega) h12]
      obtain ⟨a, b⟩ := run_list w (op ++ [(k : Int)]) (last ++ [h.op]) (k + 1) ([endI] ++ r) hc.2.2 (by simp [hl]) (by simp) (by simp; omega)
      simp only [List.length_append, List.length_singleton, Nat.add_sub_cancel] at a b
      refine ⟨fun hd => ?_, fun hd => b (by omega)⟩
      obtain ⟨k', e⟩ := a (by omega)
      rw [e]
      exact ⟨k' + 1, run_end hl hp⟩
    · refine ⟨fun hd => by omega, fun _ => run_deep hc.1 (by have := hc.2.1; omega) (by omega)⟩
  | .choice h w o both, op, last, k, r, hc, hl, hp, h13 => by
    rw [canN] at hc
    obtain ⟨c1, c2, c3, c4, c5⟩ := hc
    rw [deepN, flatN, List.cons_append, List.append_assoc]
    by_cases h12 : op.length - 1 < 12
    · rw [run_open c1 (by omega) h12, c2]
      obtain ⟨a, b⟩ := run_list w (op ++ [(k : Int)]) (last ++ [4]) (k + 1) ((if both then elseI :: flatL o else []) ++ [endI] ++ r) c3 (by simp [hl]) (by simp) (by simp; omega)
      simp only [List.length_append, List.length_singleton, Nat.add_sub_cancel] at a b
      cases both with
      | false =>
        have := c5 rfl
        subst this
        rw [deepL]
        refine ⟨fun hd => ?_, fun hd => b (by omega)⟩
        obtain ⟨k', e⟩ := a (by omega)
        rw [e]
        exact ⟨k' + 1, run_end hl hp⟩
      | true =>
        by_cases hw : op.length + deepL w ≤ 12
        · obtain ⟨k', e⟩ := a hw
          rw [e]
          simp only [if_true, List.cons_append, List.append_assoc, List.nil_append]
          rw [run_else hl]
          obtain ⟨a2, b2⟩ := run_list o (op ++ [(k : Int)]) (last ++ [5]) (k' + 1) (endI :: r) c4 (by simp [hl]) (by simp) (by simp; omega)
          simp only [List.length_append, List.length_singleton, Nat.add_sub_cancel] at a2 b2
          refine ⟨fun hd => ?_, fun hd => b2 (by omega)⟩
          obtain ⟨k2, e2⟩ := a2 (by omega)
          rw [e2]
          exact ⟨k2 + 1, run_end hl hp⟩
        · exact ⟨fun hd => by omega, fun hd => b (by omega)⟩
    · exact ⟨fun hd => by omega, fun _ => run_deep c1 (by omega) (by omega)⟩
theorem run_list : ∀ (l : List Nd) (op last : List Int) (k : Nat) (r : List InsD), canL l → last.length = op.length → 0 < op.length → op.length - 1 ≤ 12 →
    (op.length - 1 + deepL l ≤ 12 → ∃ k', runE ⟨op, last, false⟩ k (flatL l ++ r) = runE ⟨op, last, false⟩ k' r) ∧ (12 < op.length - 1 + deepL l → (runE ⟨op, last, false⟩ k (flatL l ++ r)).2 = 7)
  | [], op, last, k, r, hc, hl, hp, h13 => by
    rw [deepL, flatL, List.nil_append]
    exact ⟨fun _ => ⟨k, rfl⟩, fun h => by omega⟩
  | n :: l, op, last, k, r, hc, hl, hp, h13 => by
    rw [canL] at hc
    rw [deepL, flatL, List.append_assoc]
    obtain ⟨a, b⟩ := run_node n op last k (flatL l ++ r) hc.1 hl hp h13
    by_cases hn : op.length - 1 + deepN n ≤ 12
    · obtain ⟨k', e⟩ := a hn
      rw [e]
      obtain ⟨a2, b2⟩ := run_list l op last k' r hc.2 hl hp h13
      exact ⟨fun hd => a2 (by omega), fun hd => b2 (by omega)⟩
    · exact ⟨fun hd => by omega, fun _ => b (by omega)⟩
end
/-- A body within a block. -/
theorem wraps {l : List InsD} {ns : List Nd} {h : InsD} (hc : chkB l = 0) (hp : Parts l ns [endI]) (hf : l = flatL ns ++ [endI]) (ho : h.op = 2 ∨ h.op = 3) (hh : chk h = 0) :
    (198 < l.length → chkB (h :: (l ++ [endI])) = 2) ∧ (l.length ≤ 198 → deepL ns = 12 → chkB (h :: (l ++ [endI])) = 7) ∧ (l.length ≤ 198 → deepL ns < 12 → chkB (h :: (l ++ [endI])) = 0 ∧ Parts (h :: (l ++ [endI])) [.block h ns] [endI]) := by
  obtain ⟨hl, hS, _⟩ := chkB_ok hc
  have hall : ∀ x ∈ l, chk x = 0 := fun x hx => by
    obtain ⟨i, hi, rfl⟩ := List.mem_iff_getElem.1 hx
    exact (hS i _ hi (List.getElem?_eq_getElem hi)).1
  have hcan := (hp.can hall).1
  have hlen : (h :: (l ++ [endI])).length = l.length + 2 := by simp
  have hrun : runE ns0 0 (h :: (l ++ [endI])) = runE ⟨[-1] ++ [((0 : Nat) : Int)], [2] ++ [h.op], false⟩ 1 (flatL ns ++ ([endI] ++ [endI])) := by
    rw [show ns0 = ⟨[-1], [2], false⟩ from rfl, run_open hh (by omega) (by decide), hf, List.append_assoc]
  obtain ⟨a, b⟩ := run_list ns ([-1] ++ [((0 : Nat) : Int)]) ([2] ++ [h.op]) 1 ([endI] ++ [endI]) hcan rfl (by decide) (by decide)
  refine ⟨fun h1 => chkB_large (by omega), fun h1 h2 => ?_, fun h1 h2 => ⟨?_, ?_⟩⟩
  · unfold chkB
    rw [if_neg (by omega), goB_run, hrun, b (by rw [h2]; decide)]; rfl
  · obtain ⟨k', e⟩ := a (by simp; omega)
    unfold chkB
    rw [if_neg (by omega), goB_run, hrun, e]
    have e2 : runE ⟨[-1] ++ [((0 : Nat) : Int)], [2] ++ [h.op], false⟩ k' ([endI] ++ [endI]) = (⟨[], [], true⟩, 0) := by
      show runE ⟨[-1] ++ [((0 : Nat) : Int)], [2] ++ [h.op], false⟩ k' (endI :: [endI]) = _
      refine (run_end (op := [-1]) (last := [2]) rfl (by decide)).trans ?_
      rw [runE, if_neg (by rw [chk_endI]; simp)]
      rfl
    rw [e2]; rfl
  · have := hp.app [endI]
    exact .block h _ ns endI [endI] [] _ ho this (.stop endI [] (.inl rfl))
end Go.Proofs.Ytpobebafdecgaaa.Nest
