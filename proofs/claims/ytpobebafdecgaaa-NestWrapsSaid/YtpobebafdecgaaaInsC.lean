/- Package ins: Check. -/
import Derived.Test.YtpobebafdecgaaaInsB
set_option maxRecDepth 100000
set_option maxHeartbeats 4000000
set_option linter.unusedVariables false
set_option linter.unusedSimpArgs false
namespace Go.Proofs.Ytpobebafdecgaaa.Ins
open Go Go.Proofs.Ytpobebafdecgaaa.Eng Go.RowKit
def enI (n : Int) : List Value := [.int .i64 n]
def okI (n : Int) : Prop := I64 n
theorem chk_0 {x : InsD} (h : bsd x.op = 0) : chk x = 6 := by unfold chk; rw [if_pos h]
theorem chk_2 {x : InsD} (h : bsd x.op ≠ 0) (h2 : 16 < x.to.length) : chk x = 2 := by unfold chk; rw [if_neg h, if_pos h2]
theorem chk_1 {x : InsD} (h : bsd x.op ≠ 0) (h2 : x.to.length ≤ 16) (h3 : (bsd x.op ≠ 4 ∧ 0 < x.to.length) ∨ (bsd x.op ≠ 6 ∧ x.b ≠ 0)) : chk x = 1 := by unfold chk; rw [if_neg h, if_neg (by omega), if_pos h3]
theorem chk_g {x : InsD} {q : Bool} (h : bsd x.op ≠ 0) (h2 : x.to.length ≤ 16) (h3 : bsd x.op = 4 ∨ x.to.length = 0) (h4 : bsd x.op = 6 ∨ x.b = 0) (hq : q = true ↔ goodK (bsd x.op) x.a x.b ∧ ∀ n ∈ x.to, isIdx n) : chk x = if q then 0 else 1 := by
  unfold chk
  rw [if_neg h, if_neg (by omega), if_neg (by omega)]
  by_cases hg : goodK (bsd x.op) x.a x.b ∧ ∀ n ∈ x.to, isIdx n
  · rw [if_pos hg, if_pos (hq.2 hg)]
  · rw [if_neg hg, if_neg (fun h => hg (hq.1 h))]
theorem all_take {p : Int → Prop} {l : List Int} {k : Nat} {x : Int} (hx : l[k]? = some x) : (∀ n ∈ l.take (k + 1), p n) ↔ (∀ n ∈ l.take k, p n) ∧ p x := by
  rw [List.take_add_one, hx]
  simp only [Option.toList_some, List.mem_append, List.mem_singleton]
  exact ⟨fun h => ⟨fun n hn => h n (.inl hn), h x (.inr rfl)⟩, fun h n hn => hn.elim (h.1 n) (fun e => e ▸ h.2)⟩
theorem allT {P : Prop} {p : Int → Prop} {l : List Int} {k : Nat} {x : Int} {b : Bool} (hx : l[k]? = some x) (h : P ∧ ∀ n ∈ l.take k, p n) (hb : b = true ↔ p x) : b = true ↔ P ∧ ∀ n ∈ l.take (k + 1), p n := by
  rw [all_take hx, hb]
  exact ⟨fun q => ⟨h.1, h.2, q⟩, fun q => q.2.2⟩
theorem allF {P : Prop} {p : Int → Prop} {l : List Int} {k : Nat} {x : Int} (hx : l[k]? = some x) (h : ¬ (P ∧ ∀ n ∈ l.take k, p n)) : false = true ↔ P ∧ ∀ n ∈ l.take (k + 1), p n := by
  rw [all_take hx]
  exact ⟨nofun, fun q => absurd ⟨q.1, q.2.1⟩ h⟩
theorem chk_y {x : InsD} {k : Nat} (h : bsd x.op ≠ 0) (h2 : x.to.length ≤ 16) (h3 : bsd x.op = 4 ∨ x.to.length = 0) (h4 : bsd x.op = 6 ∨ x.b = 0) (hq : goodK (bsd x.op) x.a x.b ∧ ∀ n ∈ x.to.take k, isIdx n) (hk : x.to.length ≤ k) : chk x = 0 := by
  rw [List.take_of_length_le hk] at hq
  rw [chk_g h h2 h3 h4 (q := true) ⟨fun _ => hq, fun _ => rfl⟩]; rfl
theorem chk_n {x : InsD} {k : Nat} (h : bsd x.op ≠ 0) (h2 : x.to.length ≤ 16) (h3 : bsd x.op = 4 ∨ x.to.length = 0) (h4 : bsd x.op = 6 ∨ x.b = 0) (hq : ¬ (goodK (bsd x.op) x.a x.b ∧ ∀ n ∈ x.to.take k, isIdx n)) (hk : x.to.length ≤ k) : chk x = 1 := by
  rw [List.take_of_length_le hk] at hq
  rw [chk_g h h2 h3 h4 (q := false) ⟨nofun, fun h => absurd h hq⟩]; rfl
theorem goodK_17 {k a b : Int} (h : k = 1 ∨ k = 7) : goodK k a b ↔ a = 0 := by unfold goodK; rw [if_pos h]
theorem goodK_2 {k a b : Int} (h : k = 2) : goodK k a b ↔ a = 64 ∨ a = 127 ∨ a = 126 := by subst h; unfold goodK; simp
theorem goodK_8 {k a b : Int} (h : k = 8) : goodK k a b ↔ -2147483648 ≤ a ∧ a ≤ 2147483647 := by subst h; unfold goodK; simp
theorem goodK_6 {k a b : Int} (h : k = 6) : goodK k a b ↔ isIdx a ∧ isIdx b := by subst h; unfold goodK; simp
theorem goodK_345 {k a b : Int} (h : k = 3 ∨ k = 4 ∨ k = 5) : goodK k a b ↔ isIdx a := by unfold goodK; rw [if_neg (by omega), if_neg (by omega), if_neg (by omega), if_neg (by omega), if_pos h]
theorem goodK_9 {k a b : Int} (h : k ≠ 1) (h7 : k ≠ 7) (h2 : k ≠ 2) (h8 : k ≠ 8) (h6 : k ≠ 6) (h3 : k ≠ 3) (h4 : k ≠ 4) (h5 : k ≠ 5) : goodK k a b ↔ True := by unfold goodK; rw [if_neg (by omega), if_neg (by omega), if_neg (by omega), if_neg (by omega), if_neg (by omega)]
theorem fits32 {a : Int} (ha : I64 a) : vEq a (vWrap .i64 (vWrap .i32 a)) = true ↔ -2147483648 ≤ a ∧ a ≤ 2147483647 := by
  have h : -2147483648 ≤ vWrap .i32 a ∧ vWrap .i32 a ≤ 2147483647 ∧ (a = vWrap .i32 a ↔ -2147483648 ≤ a ∧ a ≤ 2147483647) := by
    unfold vWrap IntKind.wrap
    simp [IntKind.bits, IntKind.signed]
    split <;> omega
  rw [wi64 (by omega), vEq_iff]
  simp only [decide_eq_true_eq]
  exact h.2.2
theorem check (o a b : Int) (tv : Value) (to : List Int) (w : World) (ha : I64 a) (hx : Rd enI okI 1 w tv to) : Fc Try.prog 22 #[.agg #[.int .u8 o, .int .i64 a, .int .i64 b, tv]] w (fun v w' => (∃ r, v = .int .i64 r ∧ r = chk ⟨o, a, b, to⟩) ∧ Sat (froz w) w' []) := by
  refine Fc.of Try.func22 rfl (by kernel_rfl) ?_
  have H := Sat.start w
  have hx := hx.fz
  refine rBoxS H ?_
  clear H
  intro p1 w1 H
  refine rFieldAt rfl ?_
  refine rLd (H.at 0 rfl) 0 rfl rfl rfl ?_
  refine CallP.mk (Fc.imp (Go.Proofs.Ytpobebafdecgaaa.Ins.besides _ _) ?_)
  rintro _ w2 ⟨⟨r1, ⟨rfl, h1⟩⟩, H'⟩
  refine H.mergeK H' ?_
  clear H H'
  intro H
  refine block_join (α := Unit) (fun x_ => []) (fun x_ w_ => (bsd o ≠ 0) ∧ (to.length ≤ 16) ∧ (bsd o = 4 ∨ to.length = 0) ∧ (bsd o = 6 ∨ b = 0) ∧ Sat (froz w) w_ ([Pt p1 [.int .u8 o, .int .i64 a, .int .i64 b, tv] 37])) ?_ ?_
  · refine cI (fun c1 => ?_) (fun c1 => ?_)
    · replace c1 := vEq_t (c1)
      refine Done.mk ?_
      refine ⟨?_, ?_⟩
      · refine ⟨6, ?_⟩
        refine ⟨?_, ?_⟩
        · refine int_eq ?_
          omega
        exact (chk_0 (by simp only; omega)).symm
      refine H.firsts 0 ?_
      clear H
      intro H
      exact H
    replace c1 := vEq_f (c1)
    refine rFieldAt rfl ?_
    refine rLd (H.at 0 rfl) 3 rfl rfl rfl ?_
    refine rLenF hx rfl ?_
    refine cI (fun c2 => ?_) (fun c2 => ?_)
    · replace c2 := vLt_t (c2)
      refine Done.mk ?_
      refine ⟨?_, ?_⟩
      · refine ⟨2, ?_⟩
        refine ⟨?_, ?_⟩
        · refine int_eq ?_
          omega
        exact (chk_2 (by simp only; omega) (by simp only; omega)).symm
      refine H.firsts 0 ?_
      clear H
      intro H
      exact H
    replace c2 := vLt_f (c2)
    refine br (fun c3 => ?_) (fun c3 => ?_)
    · replace c3 := vNe_t (c3)
      refine rFieldAt rfl ?_
      refine rLd (H.at 0 rfl) 3 rfl rfl rfl ?_
      refine rLenF hx rfl ?_
      refine cI (fun c4 => ?_) (fun c4 => ?_)
      · replace c4 := vLt_t (c4)
        refine cT (vLt_T (by assumption)) ?_
        refine Done.mk ?_
        refine ⟨?_, ?_⟩
        · refine ⟨1, ?_⟩
          refine ⟨?_, ?_⟩
          · refine int_eq ?_
            omega
          exact (chk_1 (by simp only; omega) (by simp only; omega) (by simp only; omega)).symm
        refine H.firsts 0 ?_
        clear H
        intro H
        exact H
      replace c4 := vLt_f (c4)
      refine br (fun c5 => ?_) (fun c5 => ?_)
      · replace c5 := vNe_t (c5)
        refine rFieldAt rfl ?_
        refine rLd (H.at 0 rfl) 2 rfl rfl rfl ?_
        refine cI (fun c6 => ?_) (fun c6 => ?_)
        · replace c6 := vNe_t (c6)
          refine Done.mk ?_
          refine ⟨?_, ?_⟩
          · refine ⟨1, ?_⟩
            refine ⟨?_, ?_⟩
            · refine int_eq ?_
              omega
            exact (chk_1 (by simp only; omega) (by simp only; omega) (by simp only; omega)).symm
          refine H.firsts 0 ?_
          clear H
          intro H
          exact H
        replace c6 := vNe_f (c6)
        refine Jn.mk (()) (mt_nil) ?_
        refine ⟨?_, ?_⟩
        · intro x1
          omega
        refine ⟨?_, ?_⟩
        · omega
        refine ⟨?_, ?_⟩
        · refine (Or.inr ?_)
          omega
        refine ⟨?_, ?_⟩
        · refine (Or.inr ?_)
          assumption
        exact H
      replace c5 := vNe_f (c5)
      refine cF rfl ?_
      refine Jn.mk (()) (mt_nil) ?_
      refine ⟨?_, ?_⟩
      · intro x1
        omega
      refine ⟨?_, ?_⟩
      · omega
      refine ⟨?_, ?_⟩
      · refine (Or.inr ?_)
        omega
      refine ⟨?_, ?_⟩
      · refine (Or.inl ?_)
        omega
      exact H
    replace c3 := vNe_f (c3)
    refine cF rfl ?_
    refine br_t (vNe_T (by omega)) ?_
    refine rFieldAt rfl ?_
    refine rLd (H.at 0 rfl) 2 rfl rfl rfl ?_
    refine cI (fun c4 => ?_) (fun c4 => ?_)
    · replace c4 := vNe_t (c4)
      refine Done.mk ?_
      refine ⟨?_, ?_⟩
      · refine ⟨1, ?_⟩
        refine ⟨?_, ?_⟩
        · refine int_eq ?_
          omega
        exact (chk_1 (by simp only; omega) (by simp only; omega) (by simp only; omega)).symm
      refine H.firsts 0 ?_
      clear H
      intro H
      exact H
    replace c4 := vNe_f (c4)
    refine Jn.mk (()) (mt_nil) ?_
    refine ⟨?_, ?_⟩
    · intro x1
      omega
    refine ⟨?_, ?_⟩
    · omega
    refine ⟨?_, ?_⟩
    · refine (Or.inl ?_)
      omega
    refine ⟨?_, ?_⟩
    · refine (Or.inr ?_)
      assumption
    exact H
  clear H
  rintro _ f_ w_ ⟨h0, h2, h3, h4, H⟩
  try simp only at h0 h2 h3 h4 H ⊢
  
  refine block_join (α := Bool) (fun x_ => [(4, .bool x_)]) (fun x_ w_ => (x_ = true ↔ goodK (bsd o) a b) ∧ Sat (froz w) w_ ([Pt p1 [.int .u8 o, .int .i64 a, .int .i64 b, tv] 37])) ?_ ?_
  · refine cI (fun c1 => ?_) (fun c1 => ?_)
    · replace c1 := vEq_t (c1)
      refine cT (vEq_T (by assumption)) ?_
      refine rFieldAt rfl ?_
      refine rLd (H.at 0 rfl) 1 rfl rfl rfl ?_
      refine Jn.mk (vEq a 0) (mt_cons rfl (mt_nil)) ?_
      refine ⟨?_, ?_⟩
      · exact Iff.trans (by simp [vEq_iff]) (goodK_17 (by omega)).symm
      exact H
    replace c1 := vEq_f (c1)
    refine cI (fun c2 => ?_) (fun c2 => ?_)
    · replace c2 := vEq_t (c2)
      refine rFieldAt rfl ?_
      refine rLd (H.at 0 rfl) 1 rfl rfl rfl ?_
      refine Jn.mk (vEq a 0) (mt_cons rfl (mt_nil)) ?_
      refine ⟨?_, ?_⟩
      · exact Iff.trans (by simp [vEq_iff]) (goodK_17 (by omega)).symm
      exact H
    replace c2 := vEq_f (c2)
    refine cI (fun c3 => ?_) (fun c3 => ?_)
    · replace c3 := vEq_t (c3)
      refine rFieldAt rfl ?_
      refine rLd (H.at 0 rfl) 1 rfl rfl rfl ?_
      refine br (fun c4 => ?_) (fun c4 => ?_)
      · replace c4 := vEq_t (c4)
        refine Jn.mk (true) (mt_cons rfl (mt_nil)) ?_
        refine ⟨?_, ?_⟩
        · exact Iff.trans (by simp; omega) (goodK_2 (by omega)).symm
        exact H
      replace c4 := vEq_f (c4)
      refine rFieldAt rfl ?_
      refine rLd (H.at 0 rfl) 1 rfl rfl rfl ?_
      refine br (fun c5 => ?_) (fun c5 => ?_)
      · replace c5 := vEq_t (c5)
        refine Jn.mk (true) (mt_cons rfl (mt_nil)) ?_
        refine ⟨?_, ?_⟩
        · exact Iff.trans (by simp; omega) (goodK_2 (by omega)).symm
        exact H
      replace c5 := vEq_f (c5)
      refine rFieldAt rfl ?_
      refine rLd (H.at 0 rfl) 1 rfl rfl rfl ?_
      refine Jn.mk (vEq a 126) (mt_cons rfl (mt_nil)) ?_
      refine ⟨?_, ?_⟩
      · exact Iff.trans (by simp [vEq_iff]; omega) (goodK_2 (by omega)).symm
      exact H
    replace c3 := vEq_f (c3)
    refine cI (fun c4 => ?_) (fun c4 => ?_)
    · replace c4 := vEq_t (c4)
      refine rFieldAt rfl ?_
      refine rLd (H.at 0 rfl) 1 rfl rfl rfl ?_
      refine rFieldAt rfl ?_
      refine rLd (H.at 0 rfl) 1 rfl rfl rfl ?_
      refine rConvInt rfl rfl ?_
      refine rConvInt rfl rfl ?_
      refine Jn.mk (vEq a (vWrap IntKind.i64 (vWrap IntKind.i32 a))) (mt_cons rfl (mt_nil)) ?_
      refine ⟨?_, ?_⟩
      · exact Iff.trans (fits32 ha) (goodK_8 (by omega)).symm
      exact H
    replace c4 := vEq_f (c4)
    refine cI (fun c5 => ?_) (fun c5 => ?_)
    · replace c5 := vEq_t (c5)
      refine rFieldAt rfl ?_
      refine rLd (H.at 0 rfl) 1 rfl rfl rfl ?_
      refine CallP.mk (Fc.imp (Go.Proofs.Ytpobebafdecgaaa.Ins.isIndex _ _) ?_)
      rintro _ _ ⟨⟨b1, ⟨rfl, h5⟩⟩, rfl⟩
      refine br (fun c6 => ?_) (fun c6 => ?_)
      · replace c6 := h5.1 (c6)
        refine rFieldAt rfl ?_
        refine rLd (H.at 0 rfl) 2 rfl rfl rfl ?_
        refine CallP.mk (Fc.imp (Go.Proofs.Ytpobebafdecgaaa.Ins.isIndex _ _) ?_)
        rintro _ _ ⟨⟨b2, ⟨rfl, h6⟩⟩, rfl⟩
        refine Jn.mk (b2) (mt_cons rfl (mt_nil)) ?_
        refine ⟨?_, ?_⟩
        · exact Iff.trans (by simp [*]) (goodK_6 (by omega)).symm
        exact H
      replace c6 := iff_f h5 (c6)
      refine Jn.mk (false) (mt_cons rfl (mt_nil)) ?_
      refine ⟨?_, ?_⟩
      · exact Iff.trans (by simp [*]) (goodK_6 (by omega)).symm
      exact H
    replace c5 := vEq_f (c5)
    refine cI (fun c6 => ?_) (fun c6 => ?_)
    · replace c6 := vEq_t (c6)
      refine cT (vEq_T (by assumption)) ?_
      refine rFieldAt rfl ?_
      refine rLd (H.at 0 rfl) 1 rfl rfl rfl ?_
      refine CallP.mk (Fc.imp (Go.Proofs.Ytpobebafdecgaaa.Ins.isIndex _ _) ?_)
      rintro _ _ ⟨⟨b1, ⟨rfl, h5⟩⟩, rfl⟩
      refine Jn.mk (b1) (mt_cons rfl (mt_nil)) ?_
      refine ⟨?_, ?_⟩
      · exact Iff.trans (by assumption) (goodK_345 (by omega)).symm
      exact H
    replace c6 := vEq_f (c6)
    refine cI (fun c7 => ?_) (fun c7 => ?_)
    · replace c7 := vEq_t (c7)
      refine cT (vEq_T (by assumption)) ?_
      refine rFieldAt rfl ?_
      refine rLd (H.at 0 rfl) 1 rfl rfl rfl ?_
      refine CallP.mk (Fc.imp (Go.Proofs.Ytpobebafdecgaaa.Ins.isIndex _ _) ?_)
      rintro _ _ ⟨⟨b1, ⟨rfl, h5⟩⟩, rfl⟩
      refine Jn.mk (b1) (mt_cons rfl (mt_nil)) ?_
      refine ⟨?_, ?_⟩
      · exact Iff.trans (by assumption) (goodK_345 (by omega)).symm
      exact H
    replace c7 := vEq_f (c7)
    refine cI (fun c8 => ?_) (fun c8 => ?_)
    · replace c8 := vEq_t (c8)
      refine rFieldAt rfl ?_
      refine rLd (H.at 0 rfl) 1 rfl rfl rfl ?_
      refine CallP.mk (Fc.imp (Go.Proofs.Ytpobebafdecgaaa.Ins.isIndex _ _) ?_)
      rintro _ _ ⟨⟨b1, ⟨rfl, h5⟩⟩, rfl⟩
      refine Jn.mk (b1) (mt_cons rfl (mt_nil)) ?_
      refine ⟨?_, ?_⟩
      · exact Iff.trans (by assumption) (goodK_345 (by omega)).symm
      exact H
    replace c8 := vEq_f (c8)
    refine Jn.mk (true) (mt_cons rfl (mt_nil)) ?_
    refine ⟨?_, ?_⟩
    · exact Iff.trans (by simp) (goodK_9 (by omega) (by omega) (by omega) (by omega) (by omega) (by omega) (by omega) (by omega)).symm
    exact H
  clear H
  rintro q f_ w_ ⟨hq, H⟩
  try simp only at hq H ⊢
  refine rFieldAt rfl ?_
  refine rLd (H.at 0 rfl) 3 rfl rfl rfl ?_
  refine rLenF hx rfl ?_
  refine LoopP.rule (α := Nat × Bool) (0, q) (fun x_ => [(85, .int .i64 x_.1), (4, .bool x_.2)]) (fun x_ w_ => (x_.1 ≤ to.length) ∧ (x_.2 = true ↔ goodK (bsd o) a b ∧ ∀ n ∈ to.take x_.1, isIdx n) ∧ Sat (froz w) w_ ([Pt p1 [.int .u8 o, .int .i64 a, .int .i64 b, tv] 37])) (fun x_ => to.length - x_.1) ?_ ?_ ?_
  · repeat first | exact mt_nil | refine mt_cons rfl ?_ | refine mt_i rfl (by first | omega | (simp only; omega) | (simp; omega) | (simp; done)) ?_
  · try simp only
    refine ⟨?_, ?_⟩
    · omega
    refine ⟨?_, ?_⟩
    · (rw [hq]; simp)
    exact H
  clear H
  rintro ⟨k, u⟩ f_ w_ ⟨hk, hu, H⟩
  try simp only at hk hu H ⊢
  refine cI (fun c1 => ?_) (fun c1 => ?_)
  · replace c1 := vLt_t (c1)
    refine bk ?_
    obtain ⟨x1, hx1⟩ : ∃ x, (to)[(k)]? = some x := ⟨_, List.getElem?_eq_getElem (by omega)⟩
    obtain ⟨b1, o1, E1, F1, hok1⟩ := FSl.elt hx hx1
    refine rIxE E1 rfl rfl rfl ?_
    refine rLd (H.fat F1) 0 rfl rfl rfl ?_
    refine br (fun c2 => ?_) (fun c2 => ?_)
    · replace c2 := hu.1 (c2)
      refine CallP.mk (Fc.imp (Go.Proofs.Ytpobebafdecgaaa.Ins.isIndex _ _) ?_)
      rintro _ _ ⟨⟨b2, ⟨rfl, h5⟩⟩, rfl⟩
      refine eqI64 (by omega) ?_
      refine Nxt.mk ((k + 1, b2)) (mt_i rfl (by first | omega | (simp only; omega) | (simp; omega)) (mt_cons rfl (mt_nil))) ?_ ?_
      · refine ⟨?_, ?_⟩
        · omega
        refine ⟨?_, ?_⟩
        · exact allT hx1 (by assumption) (by assumption)
        exact H
      omega
    replace c2 := iff_f hu (c2)
    refine eqI64 (by omega) ?_
    refine Nxt.mk ((k + 1, false)) (mt_i rfl (by first | omega | (simp only; omega) | (simp; omega)) (mt_cons rfl (mt_nil))) ?_ ?_
    · refine ⟨?_, ?_⟩
      · omega
      refine ⟨?_, ?_⟩
      · exact allF hx1 (by assumption)
      exact H
    omega
  replace c1 := vLt_f (c1)
  refine cI (fun c2 => ?_) (fun c2 => ?_)
  · replace c2 := iff_f hu (not_t (c2))
    refine Done.mk ?_
    refine ⟨?_, ?_⟩
    · refine ⟨1, ?_⟩
      refine ⟨?_, ?_⟩
      · refine int_eq ?_
        omega
      exact (chk_n (k := k) (by simp only; omega) (by simp only; omega) (by simp only; omega) (by simp only; omega) (by assumption) (by simp only; omega)).symm
    refine H.firsts 0 ?_
    clear H
    intro H
    exact H
  replace c2 := hu.1 (not_f (c2))
  refine Done.mk ?_
  refine ⟨?_, ?_⟩
  · refine ⟨0, ?_⟩
    refine ⟨?_, ?_⟩
    · refine int_eq ?_
      omega
    exact (chk_y (k := k) (by simp only; omega) (by simp only; omega) (by simp only; omega) (by simp only; omega) (by assumption) (by simp only; omega)).symm
  refine H.firsts 0 ?_
  clear H
  intro H
  exact H
end Go.Proofs.Ytpobebafdecgaaa.Ins
