/- Texts of this claim, one behind the other. -/
import Derived.Test.YtndhikahjmgamaaGreatDoorM2
import Derived.Test.YtndhikahjmgamaaGreatDoorM1
import Derived.MapKept
import Derived.Maps.RangeRun
/- Package ins: Check. -/
set_option maxRecDepth 100000
set_option maxHeartbeats 4000000
set_option linter.unusedVariables false
set_option linter.unusedSimpArgs false
namespace Go.Proofs.YtndhikahjmgamaaGreatDoor.Ins
open Go Go.Proofs.YtndhikahjmgamaaGreatDoor.Eng Go.RowKit
def enI (n : Int) : List Value := [.int .i64 n]
def okI (n : Int) : Prop := I64 n
theorem chk_0 {x : InsD} (h : bsd x.op = 0) : chk x = 6 := by unfold chk; rw [if_pos h]
theorem chk_2 {x : InsD} (h : bsd x.op ≠ 0) (h2 : 16 < x.to.length) : chk x = 2 := by unfold chk; rw [if_neg h, if_pos h2]
theorem chk_1 {x : InsD} (h : bsd x.op ≠ 0) (h2 : x.to.length ≤ 16) (h3 : (bsd x.op ≠ 4 ∧ 0 < x.to.length) ∨ (bsd x.op ≠ 6 ∧ x.b ≠ 0)) : chk x = 1 := by unfold chk; rw [if_neg h, if_neg (by omega), if_pos h3]
theorem chk_g {x : InsD} {q : Bool} (h : bsd x.op ≠ 0) (h2 : x.to.length ≤ 16) (h3 : bsd x.op = 4 ∨ x.to.length = 0) (h4 : bsd x.op = 6 ∨ x.b = 0) (hq : q = true ↔ goodK (bsd x.op) x.a x.b ∧ ∀ n ∈ x.to, isIdx n) : chk x = if q then 0 else 1 := by
  unfold chk
  rw [if_neg h, if_neg (by omega), if_neg (by omega)]
  by_cases hg : goodK (bsd x.op) x.a x.b ∧ ∀ n ∈ x.to, isIdx n
  · rw [if_pos hg, if_pos (hq.2 hg)]
  · rw [if_neg hg, if_neg (fun h => hg (hq.1 h))]
theorem all_take {p : Int → Prop} {l : List Int} {k : Nat} {x : Int} (hx : l[k]? = some x) : (∀ n ∈ l.take (k + 1), p n) ↔ (∀ n ∈ l.take k, p n) ∧ p x := by
  rw [List.take_add_one, hx]
  simp only [Option.toList_some, List.mem_append, List.mem_singleton]
  exact ⟨fun h => ⟨fun n hn => h n (.inl hn), h x (.inr rfl)⟩, fun h n hn => hn.elim (h.1 n) (fun e => e ▸ h.2)⟩
theorem allT {P : Prop} {p : Int → Prop} {l : List Int} {k : Nat} {x : Int} {b : Bool} (hx : l[k]? = some x) (h : P ∧ ∀ n ∈ l.take k, p n) (hb : b = true ↔ p x) : b = true ↔ P ∧ ∀ n ∈ l.take (k + 1), p n := by
  rw [all_take hx, hb]
  exact ⟨fun q => ⟨h.1, h.2, q⟩, fun q => q.2.2⟩
theorem allF {P : Prop} {p : Int → Prop} {l : List Int} {k : Nat} {x : Int} (hx : l[k]? = some x) (h : ¬ (P ∧ ∀ n ∈ l.take k, p n)) : false = true ↔ P ∧ ∀ n ∈ l.take (k + 1), p n := by
  rw [all_take hx]
  exact ⟨nofun, fun q => absurd ⟨q.1, q.2.1⟩ h⟩
theorem chk_y {x : InsD} {k : Nat} (h : bsd x.op ≠ 0) (h2 : x.to.length ≤ 16) (h3 : bsd x.op = 4 ∨ x.to.length = 0) (h4 : bsd x.op = 6 ∨ x.b = 0) (hq : goodK (bsd x.op) x.a x.b ∧ ∀ n ∈ x.to.take k, isIdx n) (hk : x.to.length ≤ k) : chk x = 0 := by
  rw [List.take_of_length_le hk] at hq
  rw [chk_g h h2 h3 h4 (q := true) ⟨fun _ => hq, fun _ => rfl⟩]; rfl
theorem chk_n {x : InsD} {k : Nat} (h : bsd x.op ≠ 0) (h2 : x.to.length ≤ 16) (h3 : bsd x.op = 4 ∨ x.to.length = 0) (h4 : bsd x.op = 6 ∨ x.b = 0) (hq : ¬ (goodK (bsd x.op) x.a x.b ∧ ∀ n ∈ x.to.take k, isIdx n)) (hk : x.to.length ≤ k) : chk x = 1 := by
  rw [List.take_of_length_le hk] at hq
  rw [chk_g h h2 h3 h4 (q := false) ⟨nofun, fun h => absurd h hq⟩]; rfl
theorem goodK_17 {k a b : Int} (h : k = 1 ∨ k = 7) : goodK k a b ↔ a = 0 := by unfold goodK; rw [if_pos h]
theorem goodK_2 {k a b : Int} (h : k = 2) : goodK k a b ↔ a = 64 ∨ a = 127 ∨ a = 126 := by subst h; unfold goodK; simp
theorem goodK_8 {k a b : Int} (h : k = 8) : goodK k a b ↔ -2147483648 ≤ a ∧ a ≤ 2147483647 := by subst h; unfold goodK; simp
theorem goodK_6 {k a b : Int} (h : k = 6) : goodK k a b ↔ isIdx a ∧ isIdx b := by subst h; unfold goodK; simp
theorem goodK_345 {k a b : Int} (h : k = 3 ∨ k = 4 ∨ k = 5) : goodK k a b ↔ isIdx a := by unfold goodK; rw [if_neg (by omega), if_neg (by omega), if_neg (by omega), if_neg (by omega), if_pos h]
theorem goodK_9 {k a b : Int} (h : k ≠ 1) (h7 : k ≠ 7) (h2 : k ≠ 2) (h8 : k ≠ 8) (h6 : k ≠ 6) (h3 : k ≠ 3) (h4 : k ≠ 4) (h5 : k ≠ 5) : goodK k a b ↔ True := by unfold goodK; rw [if_neg (by omega), if_neg (by omega), if_neg (by omega), if_neg (by omega), if_neg (by omega)]
theorem fits32 {a : Int} (ha : I64 a) : vEq a (vWrap .i64 (vWrap .i32 a)) = true ↔ -2147483648 ≤ a ∧ a ≤ 2147483647 := by
  have h : -2147483648 ≤ vWrap .i32 a ∧ vWrap .i32 a ≤ 2147483647 ∧ (a = vWrap .i32 a ↔ -2147483648 ≤ a ∧ a ≤ 2147483647) := by
    unfold vWrap IntKind.wrap
    simp [IntKind.bits, IntKind.signed]
    split <;> omega
  rw [wi64 (by omega), vEq_iff]
  simp only [decide_eq_true_eq]
  exact h.2.2
theorem check (o a b : Int) (tv : Value) (to : List Int) (w : World) (ha : I64 a) (hx : Rd enI okI 1 w tv to) : Fc Tryz.prog 44 #[.agg #[.int .u8 o, .int .i64 a, .int .i64 b, tv]] w (fun v w' => (∃ r, v = .int .i64 r ∧ r = chk ⟨o, a, b, to⟩) ∧ Sat (froz w) w' []) := by
  refine Fc.of Tryz.func44 rfl (by kernel_rfl) ?_
  have H := Sat.start w
  have hx := hx.fz
  refine rBoxS H ?_
  clear H
  intro p1 w1 H
  refine rFieldAt rfl ?_
  refine rLd (H.at 0 rfl) 0 rfl rfl rfl ?_
  refine CallP.mk (Fc.imp (Go.Proofs.YtndhikahjmgamaaGreatDoor.Ins.besides _ _) ?_)
  rintro _ w2 ⟨⟨r1, ⟨rfl, h1⟩⟩, H'⟩
  refine H.mergeK H' ?_
  clear H H'
  intro H
  refine block_join (α := Unit) (fun x_ => []) (fun x_ w_ => (bsd o ≠ 0) ∧ (to.length ≤ 16) ∧ (bsd o = 4 ∨ to.length = 0) ∧ (bsd o = 6 ∨ b = 0) ∧ Sat (froz w) w_ ([Pt p1 [.int .u8 o, .int .i64 a, .int .i64 b, tv] 40])) ?_ ?_
  · refine cI (fun c1 => ?_) (fun c1 => ?_)
    · replace c1 := vEq_t (c1)
      refine Done.mk ?_
      refine ⟨?_, ?_⟩
      · refine ⟨6, ?_⟩
        refine ⟨?_, ?_⟩
        · refine int_eq ?_
          omega
        exact (chk_0 (by simp only; omega)).symm
      refine H.firsts 0 ?_
      clear H
      intro H
      exact H
    replace c1 := vEq_f (c1)
    refine rFieldAt rfl ?_
    refine rLd (H.at 0 rfl) 3 rfl rfl rfl ?_
    refine rLenF hx rfl ?_
    refine cI (fun c2 => ?_) (fun c2 => ?_)
    · replace c2 := vLt_t (c2)
      refine Done.mk ?_
      refine ⟨?_, ?_⟩
      · refine ⟨2, ?_⟩
        refine ⟨?_, ?_⟩
        · refine int_eq ?_
          omega
        exact (chk_2 (by simp only; omega) (by simp only; omega)).symm
      refine H.firsts 0 ?_
      clear H
      intro H
      exact H
    replace c2 := vLt_f (c2)
    refine br (fun c3 => ?_) (fun c3 => ?_)
    · replace c3 := vNe_t (c3)
      refine rFieldAt rfl ?_
      refine rLd (H.at 0 rfl) 3 rfl rfl rfl ?_
      refine rLenF hx rfl ?_
      refine cI (fun c4 => ?_) (fun c4 => ?_)
      · replace c4 := vLt_t (c4)
        refine cT (vLt_T (by assumption)) ?_
        refine Done.mk ?_
        refine ⟨?_, ?_⟩
        · refine ⟨1, ?_⟩
          refine ⟨?_, ?_⟩
          · refine int_eq ?_
            omega
          exact (chk_1 (by simp only; omega) (by simp only; omega) (by simp only; omega)).symm
        refine H.firsts 0 ?_
        clear H
        intro H
        exact H
      replace c4 := vLt_f (c4)
      refine br (fun c5 => ?_) (fun c5 => ?_)
      · replace c5 := vNe_t (c5)
        refine rFieldAt rfl ?_
        refine rLd (H.at 0 rfl) 2 rfl rfl rfl ?_
        refine cI (fun c6 => ?_) (fun c6 => ?_)
        · replace c6 := vNe_t (c6)
          refine Done.mk ?_
          refine ⟨?_, ?_⟩
          · refine ⟨1, ?_⟩
            refine ⟨?_, ?_⟩
            · refine int_eq ?_
              omega
            exact (chk_1 (by simp only; omega) (by simp only; omega) (by simp only; omega)).symm
          refine H.firsts 0 ?_
          clear H
          intro H
          exact H
        replace c6 := vNe_f (c6)
        refine Jn.mk (()) (mt_nil) ?_
        refine ⟨?_, ?_⟩
        · intro x1
          omega
        refine ⟨?_, ?_⟩
        · omega
        refine ⟨?_, ?_⟩
        · refine (Or.inr ?_)
          omega
        refine ⟨?_, ?_⟩
        · refine (Or.inr ?_)
          assumption
        exact H
      replace c5 := vNe_f (c5)
      refine cF rfl ?_
      refine Jn.mk (()) (mt_nil) ?_
      refine ⟨?_, ?_⟩
      · intro x1
        omega
      refine ⟨?_, ?_⟩
      · omega
      refine ⟨?_, ?_⟩
      · refine (Or.inr ?_)
        omega
      refine ⟨?_, ?_⟩
      · refine (Or.inl ?_)
        omega
      exact H
    replace c3 := vNe_f (c3)
    refine cF rfl ?_
    refine br_t (vNe_T (by omega)) ?_
    refine rFieldAt rfl ?_
    refine rLd (H.at 0 rfl) 2 rfl rfl rfl ?_
    refine cI (fun c4 => ?_) (fun c4 => ?_)
    · replace c4 := vNe_t (c4)
      refine Done.mk ?_
      refine ⟨?_, ?_⟩
      · refine ⟨1, ?_⟩
        refine ⟨?_, ?_⟩
        · refine int_eq ?_
          omega
        exact (chk_1 (by simp only; omega) (by simp only; omega) (by simp only; omega)).symm
      refine H.firsts 0 ?_
      clear H
      intro H
      exact H
    replace c4 := vNe_f (c4)
    refine Jn.mk (()) (mt_nil) ?_
    refine ⟨?_, ?_⟩
    · intro x1
      omega
    refine ⟨?_, ?_⟩
    · omega
    refine ⟨?_, ?_⟩
    · refine (Or.inl ?_)
      omega
    refine ⟨?_, ?_⟩
    · refine (Or.inr ?_)
      assumption
    exact H
  clear H
  rintro _ f_ w_ ⟨h0, h2, h3, h4, H⟩
  try simp only at h0 h2 h3 h4 H ⊢
  
  refine block_join (α := Bool) (fun x_ => [(4, .bool x_)]) (fun x_ w_ => (x_ = true ↔ goodK (bsd o) a b) ∧ Sat (froz w) w_ ([Pt p1 [.int .u8 o, .int .i64 a, .int .i64 b, tv] 40])) ?_ ?_
  · refine cI (fun c1 => ?_) (fun c1 => ?_)
    · replace c1 := vEq_t (c1)
      refine cT (vEq_T (by assumption)) ?_
      refine rFieldAt rfl ?_
      refine rLd (H.at 0 rfl) 1 rfl rfl rfl ?_
      refine Jn.mk (vEq a 0) (mt_cons rfl (mt_nil)) ?_
      refine ⟨?_, ?_⟩
      · exact Iff.trans (by simp [vEq_iff]) (goodK_17 (by omega)).symm
      exact H
    replace c1 := vEq_f (c1)
    refine cI (fun c2 => ?_) (fun c2 => ?_)
    · replace c2 := vEq_t (c2)
      refine rFieldAt rfl ?_
      refine rLd (H.at 0 rfl) 1 rfl rfl rfl ?_
      refine Jn.mk (vEq a 0) (mt_cons rfl (mt_nil)) ?_
      refine ⟨?_, ?_⟩
      · exact Iff.trans (by simp [vEq_iff]) (goodK_17 (by omega)).symm
      exact H
    replace c2 := vEq_f (c2)
    refine cI (fun c3 => ?_) (fun c3 => ?_)
    · replace c3 := vEq_t (c3)
      refine rFieldAt rfl ?_
      refine rLd (H.at 0 rfl) 1 rfl rfl rfl ?_
      refine br (fun c4 => ?_) (fun c4 => ?_)
      · replace c4 := vEq_t (c4)
        refine Jn.mk (true) (mt_cons rfl (mt_nil)) ?_
        refine ⟨?_, ?_⟩
        · exact Iff.trans (by simp; omega) (goodK_2 (by omega)).symm
        exact H
      replace c4 := vEq_f (c4)
      refine rFieldAt rfl ?_
      refine rLd (H.at 0 rfl) 1 rfl rfl rfl ?_
      refine br (fun c5 => ?_) (fun c5 => ?_)
      · replace c5 := vEq_t (c5)
        refine Jn.mk (true) (mt_cons rfl (mt_nil)) ?_
        refine ⟨?_, ?_⟩
        · exact Iff.trans (by simp; omega) (goodK_2 (by omega)).symm
        exact H
      replace c5 := vEq_f (c5)
      refine rFieldAt rfl ?_
      refine rLd (H.at 0 rfl) 1 rfl rfl rfl ?_
      refine Jn.mk (vEq a 126) (mt_cons rfl (mt_nil)) ?_
      refine ⟨?_, ?_⟩
      · exact Iff.trans (by simp [vEq_iff]; omega) (goodK_2 (by omega)).symm
      exact H
    replace c3 := vEq_f (c3)
    refine cI (fun c4 => ?_) (fun c4 => ?_)
    · replace c4 := vEq_t (c4)
      refine rFieldAt rfl ?_
      refine rLd (H.at 0 rfl) 1 rfl rfl rfl ?_
      refine rFieldAt rfl ?_
      refine rLd (H.at 0 rfl) 1 rfl rfl rfl ?_
      refine rConvInt rfl rfl ?_
      refine rConvInt rfl rfl ?_
      refine Jn.mk (vEq a (vWrap IntKind.i64 (vWrap IntKind.i32 a))) (mt_cons rfl (mt_nil)) ?_
      refine ⟨?_, ?_⟩
      · exact Iff.trans (fits32 ha) (goodK_8 (by omega)).symm
      exact H
    replace c4 := vEq_f (c4)
    refine cI (fun c5 => ?_) (fun c5 => ?_)
    · replace c5 := vEq_t (c5)
      refine rFieldAt rfl ?_
      refine rLd (H.at 0 rfl) 1 rfl rfl rfl ?_
      refine CallP.mk (Fc.imp (Go.Proofs.YtndhikahjmgamaaGreatDoor.Ins.isIndex _ _) ?_)
      rintro _ _ ⟨⟨b1, ⟨rfl, h5⟩⟩, rfl⟩
      refine br (fun c6 => ?_) (fun c6 => ?_)
      · replace c6 := h5.1 (c6)
        refine rFieldAt rfl ?_
        refine rLd (H.at 0 rfl) 2 rfl rfl rfl ?_
        refine CallP.mk (Fc.imp (Go.Proofs.YtndhikahjmgamaaGreatDoor.Ins.isIndex _ _) ?_)
        rintro _ _ ⟨⟨b2, ⟨rfl, h6⟩⟩, rfl⟩
        refine Jn.mk (b2) (mt_cons rfl (mt_nil)) ?_
        refine ⟨?_, ?_⟩
        · exact Iff.trans (by simp [*]) (goodK_6 (by omega)).symm
        exact H
      replace c6 := iff_f h5 (c6)
      refine Jn.mk (false) (mt_cons rfl (mt_nil)) ?_
      refine ⟨?_, ?_⟩
      · exact Iff.trans (by simp [*]) (goodK_6 (by omega)).symm
      exact H
    replace c5 := vEq_f (c5)
    refine cI (fun c6 => ?_) (fun c6 => ?_)
    · replace c6 := vEq_t (c6)
      refine cT (vEq_T (by assumption)) ?_
      refine rFieldAt rfl ?_
      refine rLd (H.at 0 rfl) 1 rfl rfl rfl ?_
      refine CallP.mk (Fc.imp (Go.Proofs.YtndhikahjmgamaaGreatDoor.Ins.isIndex _ _) ?_)
      rintro _ _ ⟨⟨b1, ⟨rfl, h5⟩⟩, rfl⟩
      refine Jn.mk (b1) (mt_cons rfl (mt_nil)) ?_
      refine ⟨?_, ?_⟩
      · exact Iff.trans (by assumption) (goodK_345 (by omega)).symm
      exact H
    replace c6 := vEq_f (c6)
    refine cI (fun c7 => ?_) (fun c7 => ?_)
    · replace c7 := vEq_t (c7)
      refine cT (vEq_T (by assumption)) ?_
      refine rFieldAt rfl ?_
      refine rLd (H.at 0 rfl) 1 rfl rfl rfl ?_
      refine CallP.mk (Fc.imp (Go.Proofs.YtndhikahjmgamaaGreatDoor.Ins.isIndex _ _) ?_)
      rintro _ _ ⟨⟨b1, ⟨rfl, h5⟩⟩, rfl⟩
      refine Jn.mk (b1) (mt_cons rfl (mt_nil)) ?_
      refine ⟨?_, ?_⟩
      · exact Iff.trans (by assumption) (goodK_345 (by omega)).symm
      exact H
    replace c7 := vEq_f (c7)
    refine cI (fun c8 => ?_) (fun c8 => ?_)
    · replace c8 := vEq_t (c8)
      refine rFieldAt rfl ?_
      refine rLd (H.at 0 rfl) 1 rfl rfl rfl ?_
      refine CallP.mk (Fc.imp (Go.Proofs.YtndhikahjmgamaaGreatDoor.Ins.isIndex _ _) ?_)
      rintro _ _ ⟨⟨b1, ⟨rfl, h5⟩⟩, rfl⟩
      refine Jn.mk (b1) (mt_cons rfl (mt_nil)) ?_
      refine ⟨?_, ?_⟩
      · exact Iff.trans (by assumption) (goodK_345 (by omega)).symm
      exact H
    replace c8 := vEq_f (c8)
    refine Jn.mk (true) (mt_cons rfl (mt_nil)) ?_
    refine ⟨?_, ?_⟩
    · exact Iff.trans (by simp) (goodK_9 (by omega) (by omega) (by omega) (by omega) (by omega) (by omega) (by omega) (by omega)).symm
    exact H
  clear H
  rintro q f_ w_ ⟨hq, H⟩
  try simp only at hq H ⊢
  refine rFieldAt rfl ?_
  refine rLd (H.at 0 rfl) 3 rfl rfl rfl ?_
  refine rLenF hx rfl ?_
  refine LoopP.rule (α := Nat × Bool) (0, q) (fun x_ => [(85, .int .i64 x_.1), (4, .bool x_.2)]) (fun x_ w_ => (x_.1 ≤ to.length) ∧ (x_.2 = true ↔ goodK (bsd o) a b ∧ ∀ n ∈ to.take x_.1, isIdx n) ∧ Sat (froz w) w_ ([Pt p1 [.int .u8 o, .int .i64 a, .int .i64 b, tv] 40])) (fun x_ => to.length - x_.1) ?_ ?_ ?_
  · repeat first | exact mt_nil | refine mt_cons rfl ?_ | refine mt_i rfl (by first | omega | (simp only; omega) | (simp; omega) | (simp; done)) ?_
  · try simp only
    refine ⟨?_, ?_⟩
    · omega
    refine ⟨?_, ?_⟩
    · (rw [hq]; simp)
    exact H
  clear H
  rintro ⟨k, u⟩ f_ w_ ⟨hk, hu, H⟩
  try simp only at hk hu H ⊢
  refine cI (fun c1 => ?_) (fun c1 => ?_)
  · replace c1 := vLt_t (c1)
    refine bk ?_
    obtain ⟨x1, hx1⟩ : ∃ x, (to)[(k)]? = some x := ⟨_, List.getElem?_eq_getElem (by omega)⟩
    obtain ⟨b1, o1, E1, F1, hok1⟩ := FSl.elt hx hx1
    refine rIxE E1 rfl rfl rfl ?_
    refine rLd (H.fat F1) 0 rfl rfl rfl ?_
    refine br (fun c2 => ?_) (fun c2 => ?_)
    · replace c2 := hu.1 (c2)
      refine CallP.mk (Fc.imp (Go.Proofs.YtndhikahjmgamaaGreatDoor.Ins.isIndex _ _) ?_)
      rintro _ _ ⟨⟨b2, ⟨rfl, h5⟩⟩, rfl⟩
      refine eqI64 (by omega) ?_
      refine Nxt.mk ((k + 1, b2)) (mt_i rfl (by first | omega | (simp only; omega) | (simp; omega)) (mt_cons rfl (mt_nil))) ?_ ?_
      · refine ⟨?_, ?_⟩
        · omega
        refine ⟨?_, ?_⟩
        · exact allT hx1 (by assumption) (by assumption)
        exact H
      omega
    replace c2 := iff_f hu (c2)
    refine eqI64 (by omega) ?_
    refine Nxt.mk ((k + 1, false)) (mt_i rfl (by first | omega | (simp only; omega) | (simp; omega)) (mt_cons rfl (mt_nil))) ?_ ?_
    · refine ⟨?_, ?_⟩
      · omega
      refine ⟨?_, ?_⟩
      · exact allF hx1 (by assumption)
      exact H
    omega
  replace c1 := vLt_f (c1)
  refine cI (fun c2 => ?_) (fun c2 => ?_)
  · replace c2 := iff_f hu (not_t (c2))
    refine Done.mk ?_
    refine ⟨?_, ?_⟩
    · refine ⟨1, ?_⟩
      refine ⟨?_, ?_⟩
      · refine int_eq ?_
        omega
      exact (chk_n (k := k) (by simp only; omega) (by simp only; omega) (by simp only; omega) (by simp only; omega) (by assumption) (by simp only; omega)).symm
    refine H.firsts 0 ?_
    clear H
    intro H
    exact H
  replace c2 := hu.1 (not_f (c2))
  refine Done.mk ?_
  refine ⟨?_, ?_⟩
  · refine ⟨0, ?_⟩
    refine ⟨?_, ?_⟩
    · refine int_eq ?_
      omega
    exact (chk_y (k := k) (by simp only; omega) (by simp only; omega) (by simp only; omega) (by simp only; omega) (by assumption) (by simp only; omega)).symm
  refine H.firsts 0 ?_
  clear H
  intro H
  exact H
end Go.Proofs.YtndhikahjmgamaaGreatDoor.Ins
/- Arguments that are instructions, opened. -/
set_option maxRecDepth 100000
set_option linter.unusedVariables false
namespace Go.Proofs.YtndhikahjmgamaaGreatDoor.Ins
open Go Go.RowKit Go.Proofs.YtndhikahjmgamaaGreatDoor.Eng
/-- An instruction as it lies: its list is told by its slice. -/
structure InsV where
  op : Int
  a : Int
  b : Int
  tv : Value
  to : List Int
def InsV.d (x : InsV) : InsD := ⟨x.op, x.a, x.b, x.to⟩
def enV (x : InsV) : List Value := [.int .u8 x.op, .int .i64 x.a, .int .i64 x.b, x.tv]
def okH (H : Hv) (x : InsV) : Prop := U8 x.op ∧ I64 x.a ∧ I64 x.b ∧ SlR (RE enI okI) 1 H x.tv x.to
/-- An instruction whose list is frozen. -/
structure okV (g : Glob) (x : InsV) : Prop where
  op : U8 x.op
  a : I64 x.a
  b : I64 x.b
  to : FSl g enI okI 1 x.tv x.to
theorem okV.ext {g g' : Glob} {x : InsV} (h : okV g x) (E : Ext g g') : okV g' x := ⟨h.op, h.a, h.b, h.to.ext E⟩
theorem okV.of {g : Glob} {H : Hv} {x : InsV} (h : okH H x) (hh : Hle H (Gh g)) : okV g x := ⟨h.1, h.2.1, h.2.2.1, h.2.2.2.mono (RE.mono' enI okI) hh⟩
section
variable {H : Type} {enc : TypeId × Value → H} {w : World} {sp : Nat → Bool} {held : Bool}
theorem fitsI1 (cs : List Value) (h : fitsL [.int .i64] cs) : ∃ x, cs = enI x ∧ okI x := by
  obtain ⟨_, _, rfl, ⟨a, rfl, ha⟩, rfl⟩ := h
  exact ⟨a, rfl, ha⟩
theorem fitsB1 (cs : List Value) (h : fitsL [.int .u8] cs) : ∃ x, cs = enK x ∧ U8 x := by
  obtain ⟨_, _, rfl, ⟨a, rfl, ha⟩, rfl⟩ := h
  exact ⟨a, rfl, ha⟩
theorem open_i64s : OpT enc Tryz.prog w sp held 38 (fun H cs xs => ∃ v, cs = [v] ∧ SlR (RE enI okI) 1 H v xs) (fun xs => (xs.map (fun x => cellsSz (enI x) + 1)).sum + 1 + 0 * xs.length) :=
  opSl 1 rfl (by decide) Tryz.underlying38 (opFlat 6 rfl fitsI1)
theorem sum_len {α : Type} (f : α → Nat) (xs : List α) : xs.length ≤ (xs.map (fun x => f x + 1)).sum := by
  induction xs with
  | nil => exact Nat.zero_le _
  | cons a r ih => simp only [List.length_cons, List.map_cons, List.sum_cons]; omega
theorem open_ins : OpT enc Tryz.prog w sp held 40 (fun H cs x => cs = enV x ∧ okH H x) (fun x => x.to.length) := by
  refine (open_structN 4 Tryz.underlying40 rfl (openFs_cons rfl (opFlat (en := enK) (ok := U8) 6 rfl fitsB1) (openFs_cons rfl (opFlat (en := enI) (ok := okI) 6 rfl fitsI1) (openFs_cons rfl (opFlat (en := enI) (ok := okI) 6 rfl fitsI1) (openFs_cons rfl open_i64s openFs_nil))))).map ?_
  rintro H cs ⟨o, a, b, to, _⟩ ⟨hl, ⟨h1, h1'⟩, ⟨h2, h2'⟩, ⟨h3, h3'⟩, ⟨v, h4, h5⟩, _⟩
  refine ⟨⟨o, a, b, v, to⟩, ⟨?_, h1', h2', h3', h5⟩, by have := sum_len (fun x => cellsSz (enI x)) to; show to.length ≤ _; dsimp only; omega⟩
  match cs, hl with
  | [c0, c1, c2, c3], _ =>
    have e1 : [c0] = enK o := h1
    have e2 : [c1] = enI a := h2
    have e3 : [c2] = enI b := h3
    have e4 : [c3] = [v] := h4
    simp only [enK, enI, List.cons.injEq, and_true] at e1 e2 e3 e4
    show _ = [_, _, _, _]
    rw [e1, e2, e3, e4]
end
end Go.Proofs.YtndhikahjmgamaaGreatDoor.Ins
/- Are two instructions the same? -/
set_option maxRecDepth 100000
set_option maxHeartbeats 4000000
set_option linter.unusedVariables false
set_option linter.unusedSimpArgs false
namespace Go.Proofs.YtndhikahjmgamaaGreatDoor.Ins
open Go Go.Proofs.YtndhikahjmgamaaGreatDoor.Eng Go.RowKit
end Go.Proofs.YtndhikahjmgamaaGreatDoor.Ins
/- Package nest: the walker. -/
set_option maxRecDepth 100000
set_option maxHeartbeats 4000000
set_option linter.unusedVariables false
set_option linter.unusedSimpArgs false
namespace Go.Proofs.YtndhikahjmgamaaGreatDoor.Nest
open Go Go.Proofs.YtndhikahjmgamaaGreatDoor.Eng Go.RowKit
open Ins
section
variable {g : Glob} {w : World} {l : List As} {e : TypeId} {s j h : Nat} {α : Type} {en : α → List Value} {v v' : Value} {xs : List α}
/-- A row of which a beginning is kept. -/
theorem _root_.Go.Proofs.YtndhikahjmgamaaGreatDoor.Eng.Sat.ofVw (H : Sat g w l) (j : Nat) (hj : l[j]? = some (Sl e s en v xs)) (V : Vw v s xs.length 0 h v') : Sat g w (l.set j (Sl e s en v' (xs.take h))) := by
  obtain ⟨ad, cap, hv, hh, hnc, hcm, ha, rfl⟩ := V
  have ho := H.off j hj
  refine H.slSet (lo := 0) hj ?_ (Gr.same w ?_)
  · rcases ho.1 with ⟨h1, h2⟩ | ⟨gb, o, cap', cur, h1, h2, h3, h4, h5, h6, h7⟩
    · subst h2
      rw [h1] at hv
      injection hv with e1 e2 e3
      subst e1; subst e3
      have : h = 0 := by simpa using hh
      subst this
      exact ⟨.inl ⟨rfl, by simp⟩, ho.2⟩
    · rw [h1] at hv
      injection hv with e1 e2 e3
      subst e1; subst e3
      refine ⟨.inr ⟨gb, o, cap', cur, ?_, h2, h3, h4, by rw [List.length_take]; omega, h6, ?_⟩, ho.2⟩
      · rw [List.length_take, Nat.min_eq_left hh]
        simp [Addr.add_zero']
      · rw [List.length_take, Nat.min_eq_left hh, ← flat_take ho.2 xs h hh, ← h7, List.take_take]
        congr 1
        have := Nat.mul_le_mul_right s hh
        omega
  · rcases ho.1 with ⟨h1, h2⟩ | ⟨gb, o, cap', cur, h1, h2, h3, h4, h5, h6, h7⟩
    · rw [h1] at hv
      injection hv with e1 e2 e3
      subst e1; subst e3
      left; rw [h1]; simp [Value.ownBlock]
    · rw [h1] at hv
      injection hv with e1 e2 e3
      subst e1; subst e3
      left; rw [h1]; simp [Value.ownBlock, Addr.add_zero']
end
theorem begin_ (w : World) : Fc Tryz.prog 29 #[] w (fun v w' => ∃ p vo vl, v = .pointer (some ⟨p, 0, none⟩) ∧ Sat (froz w) w' [Pt p [vo, vl, .bool false] 118, Sl 3 1 enI vo ns0.op, Sl 5 1 enK vl ns0.last]) := by
  refine Fc.of Tryz.func29 rfl (by kernel_rfl) ?_
  have H := Sat.start w
  refine rBuildSliceS H rfl rfl rfl rfl ?_
  clear H
  intro p1 w1 H
  refine rBuildSliceS H rfl rfl rfl rfl ?_
  clear H
  intro p2 w2 H
  clear w1
  refine rBuild rfl rfl rfl ?_
  refine rBoxS H ?_
  clear H
  intro p3 w1 H
  clear w2
  refine H.ptSl (n := 1) (en := enK) (s := 1) 1 rfl [_] rfl rfl (fun _ => rfl) rfl ?_
  clear H
  intro H
  refine H.ptSl (n := 1) (en := enI) (s := 1) 2 rfl [_] rfl rfl (fun _ => rfl) rfl ?_
  clear H
  intro H
  refine Done.mk ?_
  refine ⟨p3, Value.slice (some { block := p1, off := 0 }) 1 1, Value.slice (some { block := p2, off := 0 }) 1 1, ?_⟩
  refine ⟨?_, ?_⟩
  · rfl
  refine H.fronts [1, 2, 2] ?_
  clear H
  intro H
  exact H
section
variable {g : Glob} {w : World} {l : List As}
theorem nx_deep {op last : List Int} {o k : Int} (ho : o = 2 ∨ o = 3 ∨ o = 4) (h : 12 ≤ op.length - 1) : nextS ⟨op, last, false⟩ o k = (⟨op, last, false⟩, -2, 7) := by
  unfold nextS; rw [if_neg (by simp), if_pos ho, if_pos h]
theorem nx_open {op last : List Int} {o k : Int} (ho : o = 2 ∨ o = 3 ∨ o = 4) (h : op.length - 1 < 12) : nextS ⟨op, last, false⟩ o k = (⟨op ++ [k], last ++ [o], false⟩, -2, 0) := by
  unfold nextS; rw [if_neg (by simp), if_pos ho, if_neg (by simp only; omega)]
theorem nx_else_no {op last : List Int} {o k x : Int} (ho : o = 5) (hx : last[op.length - 1]? = some x) (h : x ≠ 4) : nextS ⟨op, last, false⟩ o k = (⟨op, last, false⟩, -2, 4) := by
  unfold nextS; rw [if_neg (by simp), if_neg (by omega), if_pos ho, if_pos (by simp only [List.getD_eq_getElem?_getD, hx]; exact h)]
theorem nx_else {op last : List Int} {o k x y : Int} (ho : o = 5) (hx : last[op.length - 1]? = some x) (h : x = 4) (hy : op[op.length - 1]? = some y) : nextS ⟨op, last, false⟩ o k = (⟨op, last.set (op.length - 1) 5, false⟩, y, 0) := by
  unfold nextS; rw [if_neg (by simp), if_neg (by omega), if_pos ho, if_neg (by simp only [List.getD_eq_getElem?_getD, hx]; simpa using h)]
  simp only [List.getD_eq_getElem?_getD, hy]; rfl
theorem nx_end {op last : List Int} {o k y : Int} (ho : o = 11) (hy : op[op.length - 1]? = some y) : nextS ⟨op, last, false⟩ o k = (⟨op.take (op.length - 1), last.take (op.length - 1), decide (op.length - 1 = 0)⟩, y, 0) := by
  unfold nextS; rw [if_neg (by simp), if_neg (by omega), if_neg (by omega), if_pos ho]
  simp only [List.getD_eq_getElem?_getD, hy]; rfl
theorem nx_end' {op last : List Int} {o k y : Int} (ho : o = 11) (hy : op[op.length - 1]? = some y) (hp : 0 < op.length) : nextS ⟨op, last, false⟩ o k = (⟨op.take (op.length - 1), last.take (op.length - 1), vEq ((op.length : Int) - 1) 0⟩, y, 0) := by
  rw [nx_end ho hy, vEq_iff, show decide ((op.length : Int) - 1 = 0) = decide (op.length - 1 = 0) from decide_eq_decide.2 (by omega)]
theorem nx_else_ {op last : List Int} {o k : Int} (h2 : o ≠ 2) (h3 : o ≠ 3) (h4 : o ≠ 4) (h5 : o ≠ 5) (h11 : o ≠ 11) : nextS ⟨op, last, false⟩ o k = (⟨op, last, false⟩, -2, 0) := by
  unfold nextS; rw [if_neg (by simp), if_neg (by omega), if_neg h5, if_neg h11]
theorem next {p : Nat} {vo vl : Value} (st : NS) (hst : NOk st) (H : Sat g w (Pt p [vo, vl, .bool st.over] 118 :: Sl 3 1 enI vo st.op :: Sl 5 1 enK vl st.last :: l)) (o a b k : Int) (tv : Value) :
    Fc Tryz.prog 30 #[.pointer (some ⟨p, 0, none⟩), .agg #[.int .u8 o, .int .i64 a, .int .i64 b, tv], .int .i64 k] w
    (fun v w' => ∃ (op' last' : List Int) (ov' : Bool) (vo' vl' : Value) (is e : Int), v = .tuple #[.int .i64 is, .int .i64 e] ∧ nextS st o k = (⟨op', last', ov'⟩, is, e) ∧ Sat g w' (Pt p [vo', vl', .bool ov'] 118 :: Sl 3 1 enI vo' op' :: Sl 5 1 enK vl' last' :: l)) := by
  refine Fc.of Tryz.func30 rfl (by kernel_rfl) ?_
  obtain ⟨hs1, hs2, hs3⟩ := hst
  obtain ⟨op, last, ov⟩ := st
  simp only at hs1 hs2 hs3 H
  cases ov
  · have hs4 := hs2 rfl
    clear hs2
    refine rBoxS H ?_
    clear H
    intro p1 w1 H
    refine rFieldAt rfl ?_
    refine rLd (H.at 1 rfl) 0 rfl rfl rfl ?_
    refine rLenS H 2 rfl rfl ?_
    refine eqI64 (by omega) ?_
    refine bk ?_
    refine rFieldAt rfl ?_
    refine rLd (H.at 1 rfl) 2 rfl rfl rfl ?_
    refine cF rfl ?_
    refine rFieldAt rfl ?_
    refine rLd (H.at 0 rfl) 0 rfl rfl rfl ?_
    refine cI (fun c1 => ?_) (fun c1 => ?_)
    · replace c1 := vEq_t (c1)
      refine cT (vEq_T (by assumption)) ?_
      refine cI (fun c2 => ?_) (fun c2 => ?_)
      · replace c2 := vLe_t (c2)
        refine Done.mk ?_
        refine ⟨op, last, false, vo, vl, -2, 7, ?_⟩
        refine ⟨?_, ?_⟩
        · rfl
        refine ⟨?_, ?_⟩
        · exact nx_deep (by omega) (by omega)
        refine H.fronts [3, 3, 3] ?_
        clear H
        intro H
        refine H.drop 3 ?_
        clear H
        intro H
        exact H
      replace c2 := vLe_f (c2)
      refine rFieldAt rfl ?_
      refine rLd (H.at 1 rfl) 0 rfl rfl rfl ?_
      refine rBuildSliceS H rfl rfl rfl rfl ?_
      clear H
      intro p2 w2 H
      clear w1
      refine rApS (ys := [_]) 8 H 3 rfl (H.at 0 rfl) rfl (fun y _ => rfl) rfl rfl rfl (by omega) (by omega) ?_
      intro v1
      clear H
      intro w1 H
      clear w2
      refine rFieldAt rfl ?_
      refine rStS H 2 rfl rfl rfl (H.one 3 rfl) ?_
      clear H
      intro w2 H
      clear w1
      refine drawzS H [] [(0, .pure), (1, .pure), (2, .pure), (3, .pure), (4, .held), (5, .pure), (6, .held), (7, .forced), (8, .free), (9, .pure), (10, .pure), (11, .free)] mixed (by kernel_rfl) (by kernel_rfl) ?_
      clear H
      intro w1 H
      clear w2
      refine tk (fun wx HS => rFieldAt rfl ⟨rfl, rfl⟩) ?_
      refine tk (fun wx HS => rLd (HS.at 2 rfl) 1 rfl rfl rfl ⟨rfl, rfl⟩) ?_
      refine tk (fun wx HS => rFieldAt rfl ⟨rfl, rfl⟩) ?_
      refine tk (fun wx HS => rLd (HS.at 1 rfl) 0 rfl rfl rfl ⟨rfl, rfl⟩) ?_
      refine rBuildSliceS H rfl rfl rfl rfl ?_
      clear H
      intro p3 w2 H
      clear w1
      refine KeepP.mk (H.drop 0 (fun H => H)) ?_
      refine rApS (ys := [_]) 1 H 5 rfl (H.at 0 rfl) rfl (fun y _ => rfl) rfl rfl rfl (by omega) (by omega) ?_
      intro v2
      clear H
      intro w1 H
      clear w2
      refine tk (fun wx HS => rFieldAt rfl ⟨rfl, rfl⟩) ?_
      refine rStS H 3 rfl rfl rfl (H.one 5 rfl) ?_
      clear H
      intro w2 H
      clear w1
      refine Done.mk ?_
      refine ⟨op ++ [k], last ++ [o], false, v1, v2, -2, 0, ?_⟩
      refine ⟨?_, ?_⟩
      · rfl
      refine ⟨?_, ?_⟩
      · exact nx_open (by omega) (by omega)
      refine H.fronts [5, 5, 5] ?_
      clear H
      intro H
      refine H.drop 5 ?_
      clear H
      intro H
      refine H.drop 4 ?_
      clear H
      intro H
      refine H.drop 3 ?_
      clear H
      intro H
      exact H
    replace c1 := vEq_f (c1)
    refine rFieldAt rfl ?_
    refine rLd (H.at 0 rfl) 0 rfl rfl rfl ?_
    refine cI (fun c2 => ?_) (fun c2 => ?_)
    · replace c2 := vEq_t (c2)
      refine cT (vEq_T (by assumption)) ?_
      refine cI (fun c3 => ?_) (fun c3 => ?_)
      · replace c3 := vLe_t (c3)
        refine Done.mk ?_
        refine ⟨op, last, false, vo, vl, -2, 7, ?_⟩
        refine ⟨?_, ?_⟩
        · rfl
        refine ⟨?_, ?_⟩
        · exact nx_deep (by omega) (by omega)
        refine H.fronts [3, 3, 3] ?_
        clear H
        intro H
        refine H.drop 3 ?_
        clear H
        intro H
        exact H
      replace c3 := vLe_f (c3)
      refine rFieldAt rfl ?_
      refine rLd (H.at 1 rfl) 0 rfl rfl rfl ?_
      refine rBuildSliceS H rfl rfl rfl rfl ?_
      clear H
      intro p2 w2 H
      clear w1
      refine rApS (ys := [_]) 8 H 3 rfl (H.at 0 rfl) rfl (fun y _ => rfl) rfl rfl rfl (by omega) (by omega) ?_
      intro v1
      clear H
      intro w1 H
      clear w2
      refine rFieldAt rfl ?_
      refine rStS H 2 rfl rfl rfl (H.one 3 rfl) ?_
      clear H
      intro w2 H
      clear w1
      refine drawzS H [] [(0, .pure), (1, .pure), (2, .pure), (3, .pure), (4, .held), (5, .pure), (6, .held), (7, .forced), (8, .free), (9, .pure), (10, .pure), (11, .free)] mixed (by kernel_rfl) (by kernel_rfl) ?_
      clear H
      intro w1 H
      clear w2
      refine tk (fun wx HS => rFieldAt rfl ⟨rfl, rfl⟩) ?_
      refine tk (fun wx HS => rLd (HS.at 2 rfl) 1 rfl rfl rfl ⟨rfl, rfl⟩) ?_
      refine tk (fun wx HS => rFieldAt rfl ⟨rfl, rfl⟩) ?_
      refine tk (fun wx HS => rLd (HS.at 1 rfl) 0 rfl rfl rfl ⟨rfl, rfl⟩) ?_
      refine rBuildSliceS H rfl rfl rfl rfl ?_
      clear H
      intro p3 w2 H
      clear w1
      refine KeepP.mk (H.drop 0 (fun H => H)) ?_
      refine rApS (ys := [_]) 1 H 5 rfl (H.at 0 rfl) rfl (fun y _ => rfl) rfl rfl rfl (by omega) (by omega) ?_
      intro v2
      clear H
      intro w1 H
      clear w2
      refine tk (fun wx HS => rFieldAt rfl ⟨rfl, rfl⟩) ?_
      refine rStS H 3 rfl rfl rfl (H.one 5 rfl) ?_
      clear H
      intro w2 H
      clear w1
      refine Done.mk ?_
      refine ⟨op ++ [k], last ++ [o], false, v1, v2, -2, 0, ?_⟩
      refine ⟨?_, ?_⟩
      · rfl
      refine ⟨?_, ?_⟩
      · exact nx_open (by omega) (by omega)
      refine H.fronts [5, 5, 5] ?_
      clear H
      intro H
      refine H.drop 5 ?_
      clear H
      intro H
      refine H.drop 4 ?_
      clear H
      intro H
      refine H.drop 3 ?_
      clear H
      intro H
      exact H
    replace c2 := vEq_f (c2)
    refine rFieldAt rfl ?_
    refine rLd (H.at 0 rfl) 0 rfl rfl rfl ?_
    refine cI (fun c3 => ?_) (fun c3 => ?_)
    · replace c3 := vEq_t (c3)
      refine cI (fun c4 => ?_) (fun c4 => ?_)
      · replace c4 := vLe_t (c4)
        refine Done.mk ?_
        refine ⟨op, last, false, vo, vl, -2, 7, ?_⟩
        refine ⟨?_, ?_⟩
        · rfl
        refine ⟨?_, ?_⟩
        · exact nx_deep (by omega) (by omega)
        refine H.fronts [3, 3, 3] ?_
        clear H
        intro H
        refine H.drop 3 ?_
        clear H
        intro H
        exact H
      replace c4 := vLe_f (c4)
      refine rFieldAt rfl ?_
      refine rLd (H.at 1 rfl) 0 rfl rfl rfl ?_
      refine rBuildSliceS H rfl rfl rfl rfl ?_
      clear H
      intro p2 w2 H
      clear w1
      refine rApS (ys := [_]) 8 H 3 rfl (H.at 0 rfl) rfl (fun y _ => rfl) rfl rfl rfl (by omega) (by omega) ?_
      intro v1
      clear H
      intro w1 H
      clear w2
      refine rFieldAt rfl ?_
      refine rStS H 2 rfl rfl rfl (H.one 3 rfl) ?_
      clear H
      intro w2 H
      clear w1
      refine drawzS H [] [(0, .pure), (1, .pure), (2, .pure), (3, .pure), (4, .held), (5, .pure), (6, .held), (7, .forced), (8, .free), (9, .pure), (10, .pure), (11, .free)] mixed (by kernel_rfl) (by kernel_rfl) ?_
      clear H
      intro w1 H
      clear w2
      refine tk (fun wx HS => rFieldAt rfl ⟨rfl, rfl⟩) ?_
      refine tk (fun wx HS => rLd (HS.at 2 rfl) 1 rfl rfl rfl ⟨rfl, rfl⟩) ?_
      refine tk (fun wx HS => rFieldAt rfl ⟨rfl, rfl⟩) ?_
      refine tk (fun wx HS => rLd (HS.at 1 rfl) 0 rfl rfl rfl ⟨rfl, rfl⟩) ?_
      refine rBuildSliceS H rfl rfl rfl rfl ?_
      clear H
      intro p3 w2 H
      clear w1
      refine KeepP.mk (H.drop 0 (fun H => H)) ?_
      refine rApS (ys := [_]) 1 H 5 rfl (H.at 0 rfl) rfl (fun y _ => rfl) rfl rfl rfl (by omega) (by omega) ?_
      intro v2
      clear H
      intro w1 H
      clear w2
      refine tk (fun wx HS => rFieldAt rfl ⟨rfl, rfl⟩) ?_
      refine rStS H 3 rfl rfl rfl (H.one 5 rfl) ?_
      clear H
      intro w2 H
      clear w1
      refine Done.mk ?_
      refine ⟨op ++ [k], last ++ [o], false, v1, v2, -2, 0, ?_⟩
      refine ⟨?_, ?_⟩
      · rfl
      refine ⟨?_, ?_⟩
      · exact nx_open (by omega) (by omega)
      refine H.fronts [5, 5, 5] ?_
      clear H
      intro H
      refine H.drop 5 ?_
      clear H
      intro H
      refine H.drop 4 ?_
      clear H
      intro H
      refine H.drop 3 ?_
      clear H
      intro H
      exact H
    replace c3 := vEq_f (c3)
    refine rFieldAt rfl ?_
    refine rLd (H.at 0 rfl) 0 rfl rfl rfl ?_
    refine cI (fun c4 => ?_) (fun c4 => ?_)
    · replace c4 := vEq_t (c4)
      refine rFieldAt rfl ?_
      refine rLd (H.at 1 rfl) 1 rfl rfl rfl ?_
      obtain ⟨x1, hx1⟩ : ∃ x, (last)[((op.length) - 1)]? = some x := ⟨_, List.getElem?_eq_getElem (by omega)⟩
      obtain ⟨b1, o1, E1⟩ := H.elt 3 rfl ((op.length) - 1) (by omega)
      refine rIxE E1 (by omega) rfl rfl ?_
      refine rLd (H.el 3 rfl E1 hx1) 0 rfl rfl rfl ?_
      refine cI (fun c5 => ?_) (fun c5 => ?_)
      · replace c5 := vNe_t (c5)
        refine Done.mk ?_
        refine ⟨op, last, false, vo, vl, -2, 4, ?_⟩
        refine ⟨?_, ?_⟩
        · rfl
        refine ⟨?_, ?_⟩
        · exact nx_else_no (by omega) hx1 (by assumption)
        refine H.fronts [3, 3, 3] ?_
        clear H
        intro H
        refine H.drop 3 ?_
        clear H
        intro H
        exact H
      replace c5 := vNe_f (c5)
      refine rFieldAt rfl ?_
      refine rLd (H.at 1 rfl) 1 rfl rfl rfl ?_
      refine rIxE E1 (by omega) rfl rfl ?_
      refine rStE H 3 rfl E1 hx1 0 (5) rfl rfl rfl rfl ?_
      clear H
      intro w2 H
      clear w1
      refine rFieldAt rfl ?_
      refine rLd (H.at 1 rfl) 0 rfl rfl rfl ?_
      obtain ⟨x2, hx2⟩ : ∃ x, (op)[((op.length) - 1)]? = some x := ⟨_, List.getElem?_eq_getElem (by omega)⟩
      obtain ⟨b2, o2, E2⟩ := H.elt 2 rfl ((op.length) - 1) (by omega)
      refine rIxE E2 (by omega) rfl rfl ?_
      refine rLd (H.el 2 rfl E2 hx2) 0 rfl rfl rfl ?_
      refine Done.mk ?_
      refine ⟨op, last.set (op.length - 1) 5, false, vo, vl, x2, 0, ?_⟩
      refine ⟨?_, ?_⟩
      · rfl
      refine ⟨?_, ?_⟩
      · exact nx_else (by omega) hx1 (by assumption) (by assumption)
      refine H.fronts [3, 3, 3] ?_
      clear H
      intro H
      refine H.drop 3 ?_
      clear H
      intro H
      exact H
    replace c4 := vEq_f (c4)
    refine rFieldAt rfl ?_
    refine rLd (H.at 0 rfl) 0 rfl rfl rfl ?_
    refine cI (fun c5 => ?_) (fun c5 => ?_)
    · replace c5 := vEq_t (c5)
      refine rFieldAt rfl ?_
      refine rLd (H.at 1 rfl) 0 rfl rfl rfl ?_
      obtain ⟨x1, hx1⟩ : ∃ x, (op)[((op.length) - 1)]? = some x := ⟨_, List.getElem?_eq_getElem (by omega)⟩
      obtain ⟨b1, o1, E1⟩ := H.elt 2 rfl ((op.length) - 1) (by omega)
      refine rIxE E1 (by omega) rfl rfl ?_
      refine rLd (H.el 2 rfl E1 hx1) 0 rfl rfl rfl ?_
      refine drawzS H [] [(0, .pure), (1, .pure), (2, .pure), (3, .pure), (4, .pure), (5, .held), (6, .pure), (7, .pure), (8, .pure), (9, .pure), (10, .pure), (11, .held), (12, .pure), (13, .pure), (14, .pure), (15, .pure), (16, .free), (17, .pure), (18, .pure), (19, .free)] mixed (by kernel_rfl) (by kernel_rfl) ?_
      clear H
      intro w2 H
      clear w1
      refine tk (fun wx HS => rFieldAt rfl ⟨rfl, rfl⟩) ?_
      refine tk (fun wx HS => rLd (HS.at 1 rfl) 0 rfl rfl rfl ⟨rfl, rfl⟩) ?_
      obtain ⟨v1, V1⟩ := H.vw 2 rfl (0) (((op.length) - 1)) (by omega) (by omega)
      refine tk (fun wx HS => rSlVw V1 rfl rfl (.inl ⟨rfl, rfl⟩) (.inr ⟨_, by first | rfl | (congr 2; omega)⟩) ⟨rfl, rfl⟩) ?_
      refine tk (fun wx HS => rFieldAt rfl ⟨rfl, rfl⟩) ?_
      refine tk (fun wx HS => rLd (HS.at 1 rfl) 1 rfl rfl rfl ⟨rfl, rfl⟩) ?_
      obtain ⟨v2, V2⟩ := H.vw 3 rfl (0) (((op.length) - 1)) (by omega) (by omega)
      refine tk (fun wx HS => rSlVw V2 rfl rfl (.inl ⟨rfl, rfl⟩) (.inr ⟨_, by first | rfl | (congr 2; omega)⟩) ⟨rfl, rfl⟩) ?_
      refine tk (fun wx HS => rFieldAt rfl ⟨rfl, rfl⟩) ?_
      refine rStS H 1 rfl rfl rfl (by simp only [Bool.and_true, H.one 2 rfl, H.one 3 rfl, Vw.one V2, Vw.one V1]) ?_
      clear H
      intro w1 H
      clear w2
      refine tk (fun wx HS => rFieldAt rfl ⟨rfl, rfl⟩) ?_
      refine rStS H 1 rfl rfl rfl (by simp only [Bool.and_true, H.one 2 rfl, H.one 3 rfl, Vw.one V2, Vw.one V1]) ?_
      clear H
      intro w2 H
      clear w1
      refine rFieldAt rfl ?_
      refine rStS H 1 rfl rfl rfl rfl ?_
      clear H
      intro w1 H
      clear w2
      refine Done.mk ?_
      exact ⟨_, _, _, v1, v2, _, _, rfl, nx_end' (by omega) hx1 hs4, ((H.ofVw 2 rfl V1).ofVw 3 rfl V2).del 0⟩
    replace c5 := vEq_f (c5)
    refine Done.mk ?_
    refine ⟨op, last, false, vo, vl, -2, 0, ?_⟩
    refine ⟨?_, ?_⟩
    · rfl
    refine ⟨?_, ?_⟩
    · exact nx_else_ (by omega) (by omega) (by omega) (by omega) (by omega)
    refine H.fronts [3, 3, 3] ?_
    clear H
    intro H
    refine H.drop 3 ?_
    clear H
    intro H
    exact H
  · refine rBoxS H ?_
    clear H
    intro p1 w1 H
    refine rFieldAt rfl ?_
    refine rLd (H.at 1 rfl) 0 rfl rfl rfl ?_
    refine rLenS H 2 rfl rfl ?_
    refine eqI64 (by omega) ?_
    refine bk ?_
    refine rFieldAt rfl ?_
    refine rLd (H.at 1 rfl) 2 rfl rfl rfl ?_
    refine cT rfl ?_
    refine Done.mk ?_
    refine ⟨op, last, true, vo, vl, -2, 4, ?_⟩
    refine ⟨?_, ?_⟩
    · rfl
    refine ⟨?_, ?_⟩
    · rfl
    refine H.fronts [3, 3, 3] ?_
    clear H
    intro H
    refine H.drop 3 ?_
    clear H
    intro H
    exact H
end
end Go.Proofs.YtndhikahjmgamaaGreatDoor.Nest
/- Bodies that are written and read. -/
set_option maxRecDepth 100000
set_option linter.unusedVariables false
set_option linter.unusedSimpArgs false
namespace Go.Proofs.YtndhikahjmgamaaGreatDoor.Nest
open Go.Proofs.YtndhikahjmgamaaGreatDoor.Leb Go.Proofs.YtndhikahjmgamaaGreatDoor.Txt Go.Proofs.YtndhikahjmgamaaGreatDoor.Ins
def txtL (l : List InsD) : List UInt8 := l.flatMap txt
/-- What is read of a body, from byte k on, with what was read before. -/
def rdG : Nat → List UInt8 → Nat → List InsD → NS → List InsD × Nat × Int
  | 0, _, _, _, _ => ([], 0, 2)
  | f + 1, s, k, acc, st =>
    if st.over = true then (acc, k, 0)
    else if (rdI (s.drop k)).2.2 ≠ 0 then ([], 0, (rdI (s.drop k)).2.2)
    else if acc.length = 200 then ([], 0, 2)
    else if (nextS st (rdI (s.drop k)).1.op acc.length).2.2 ≠ 0 then ([], 0, (nextS st (rdI (s.drop k)).1.op acc.length).2.2)
    else rdG f s (k + (rdI (s.drop k)).2.1) (acc ++ [(rdI (s.drop k)).1]) (nextS st (rdI (s.drop k)).1.op acc.length).1
def rdB (s : List UInt8) : List InsD × Nat × Int := rdG 201 s 0 [] ns0
/-- What is so far read of s. -/
structure RdI (s : List UInt8) (acc : List InsD) (k : Nat) (st : NS) : Prop where
  eq : rdB s = rdG (201 - acc.length) s k acc st
  le : acc.length ≤ 200
  ks : k ≤ s.length
  st : st = stB acc acc.length
  far : SoFar acc acc.length
  tx : (txtL acc).length ≤ k
  ops : ∀ x ∈ acc, (0 ≤ x.op ∧ x.op ≤ 255) ∧ (-9223372036854775808 ≤ x.a ∧ x.a ≤ 9223372036854775807) ∧ -9223372036854775808 ≤ x.b ∧ x.b ≤ 9223372036854775807
theorem RdI.zero (s : List UInt8) : RdI s [] 0 ns0 := ⟨rfl, Nat.zero_le _, Nat.zero_le _, rfl, SoFar.zero _, Nat.zero_le _, nofun⟩
theorem stB_app (l r : List InsD) : ∀ k, k ≤ l.length → stB (l ++ r) k = stB l k
  | 0, _ => rfl
  | k + 1, h => by
    have hx : l[k]? = some l[k] := List.getElem?_eq_getElem h
    rw [stB_succ hx, stB_succ (by rw [List.getElem?_append_left h]; exact hx), stB_app l r k (by omega)]
theorem SoFar.app {l : List InsD} {k : Nat} (h : SoFar l k) (hk : k ≤ l.length) (r : List InsD) : SoFar (l ++ r) k := fun i x hi hx => by
  rw [List.getElem?_append_left (by omega)] at hx
  rw [stB_app _ _ _ (by omega)]
  exact h i x hi hx
theorem RdI.step {s : List UInt8} {acc : List InsD} {k n : Nat} {st st' : NS} {x : InsD} {is : Int} (h : RdI s acc k st) (ho : st.over = false) (hr : rdI (s.drop k) = (x, n, 0)) (hl : acc.length ≠ 200) (hn : nextS st x.op acc.length = (st', is, 0)) : RdI s (acc ++ [x]) (k + n) st' := by
  obtain ⟨h1, h2, h3, h4, h5, h6, h7⟩ := h
  obtain ⟨t1, t2, t3, t4, t5, t6, t7⟩ := rdI_told hr
  rw [List.length_drop] at t1
  have hlen : (acc ++ [x]).length = acc.length + 1 := by simp
  have hst : nextS (stB (acc ++ [x]) acc.length) x.op acc.length = (st', is, 0) := by rw [stB_app _ _ _ (Nat.le_refl _), ← h4]; exact hn
  have hx : (acc ++ [x])[acc.length]? = some x := by rw [List.getElem?_append_right (Nat.le_refl _)]; simp
  refine ⟨?_, by omega, by omega, ?_, ?_, ?_, fun y hy => ?_⟩
  · rw [h1, show 201 - acc.length = (201 - (acc ++ [x]).length) + 1 by omega, rdG, if_neg (by rw [ho]; simp), hr]
    simp only [hn]
    rw [if_neg (by simp), if_neg hl, if_neg (by simp)]
  · rw [hlen, stB_succ hx, hst]
  · rw [hlen]
    exact (h5.app (Nat.le_refl _) [x]).succ hx t4 (by rw [hst])
  · unfold txtL at *
    rw [List.flatMap_append, List.length_append, List.flatMap_cons, List.flatMap_nil, List.append_nil]; omega
  · rcases List.mem_append.1 hy with hy | hy
    · exact h7 y hy
    · rw [List.mem_singleton.1 hy]; exact ⟨⟨t2, t3⟩, t6, t7⟩
theorem RdI.bad {s : List UInt8} {acc : List InsD} {k n : Nat} {st : NS} {x : InsD} {e : Int} (h : RdI s acc k st) (ho : st.over = false) (hr : rdI (s.drop k) = (x, n, e)) (he : e ≠ 0) : rdB s = ([], 0, e) := by
  rw [h.eq, show 201 - acc.length = (200 - acc.length) + 1 by have := h.le; omega, rdG, if_neg (by rw [ho]; simp), hr]
  simp only
  rw [if_pos he]
theorem RdI.no {s : List UInt8} {acc : List InsD} {k n : Nat} {st st' : NS} {x : InsD} {is e : Int} (h : RdI s acc k st) (ho : st.over = false) (hr : rdI (s.drop k) = (x, n, 0)) (hl : acc.length ≠ 200) (hn : nextS st x.op acc.length = (st', is, e)) (he : e ≠ 0) : rdB s = ([], 0, e) := by
  rw [h.eq, show 201 - acc.length = (200 - acc.length) + 1 by have := h.le; omega, rdG, if_neg (by rw [ho]; simp), hr]
  simp only [hn]
  rw [if_neg (by simp), if_neg hl, if_pos he]
theorem RdI.over {s : List UInt8} {acc : List InsD} {k : Nat} {st : NS} (h : RdI s acc k st) (ho : st.over = true) : rdB s = (acc, k, 0) := by
  rw [h.eq, show 201 - acc.length = (200 - acc.length) + 1 by have := h.le; omega, rdG, if_pos ho]
/-- What was read is a body, and can be written with no more bytes. -/
theorem RdI.told {s : List UInt8} {acc : List InsD} {k : Nat} {st : NS} (h : RdI s acc k st) (ho : st.over = true) : chkB acc = 0 ∧ (txtL acc).length ≤ k ∧ k ≤ s.length := by
  refine ⟨?_, h.tx, h.ks⟩
  rw [chkB_end h.le h.far rfl, ← h.st, if_pos ho]
theorem over_no {st : NS} (h : st.over = true) (o k : Int) : (nextS st o k).2.2 = 4 := by unfold nextS; rw [if_pos h]
theorem chkB_ne {l : List InsD} (h : chkB l = 0) : l ≠ [] := by
  rintro rfl
  exact absurd h (by decide)
end Go.Proofs.YtndhikahjmgamaaGreatDoor.Nest
/- Package nest: Check alone. -/
set_option maxRecDepth 100000
set_option maxHeartbeats 4000000
set_option linter.unusedVariables false
set_option linter.unusedSimpArgs false
namespace Go.Proofs.YtndhikahjmgamaaGreatDoor.Nest
open Go Go.Proofs.YtndhikahjmgamaaGreatDoor.Eng Go.RowKit
open Ins
section
variable {g : Glob} {w : World} {l : List As}
theorem map_get {xs : List InsV} {k : Nat} {x : InsV} (h : xs[k]? = some x) : (xs.map InsV.d)[k]? = some x.d := by rw [List.getElem?_map, h]; rfl
theorem dd (x : InsV) : (⟨x.op, x.a, x.b, x.to⟩ : InsD) = x.d := rfl
section
variable {xs : List InsV} {k : Nat} {x : InsV} {r is e : Int} {st st' : NS}
theorem ck1 (hl : xs.length ≤ 200) (hF : SoFar (xs.map InsV.d) k) (hx : xs[k]? = some x) (h : r = chk ⟨x.op, x.a, x.b, x.to⟩) (hr : r ≠ 0) : r = chkB (xs.map InsV.d) := by
  rw [dd] at h
  rw [chkB_chk (by simpa using hl) hF (map_get hx) (h ▸ hr), h]
theorem ck2 (hl : xs.length ≤ 200) (hF : SoFar (xs.map InsV.d) k) (hx : xs[k]? = some x) (h : r = chk ⟨x.op, x.a, x.b, x.to⟩) (hr : r = 0) (hst : stB (xs.map InsV.d) k = st) (hn : nextS st x.op k = (st', is, e)) (he : e ≠ 0) : e = chkB (xs.map InsV.d) := by
  rw [dd, hr] at h
  have hn' : nextS (stB (xs.map InsV.d) k) x.d.op k = (st', is, e) := by rw [hst]; exact hn
  rw [chkB_next (by simpa using hl) hF (map_get hx) h.symm (by rw [hn']; exact he), hn']
theorem ck3 (hx : xs[k]? = some x) (hst : stB (xs.map InsV.d) k = st) (hn : nextS st x.op k = (st', is, e)) : stB (xs.map InsV.d) (k + 1) = st' := by
  rw [stB_succ (map_get hx), hst]; show (nextS st x.op k).1 = _; rw [hn]
theorem ck4 (hF : SoFar (xs.map InsV.d) k) (hx : xs[k]? = some x) (h : r = chk ⟨x.op, x.a, x.b, x.to⟩) (hr : r = 0) (hst : stB (xs.map InsV.d) k = st) (hn : nextS st x.op k = (st', is, e)) (he : e = 0) : SoFar (xs.map InsV.d) (k + 1) := by
  rw [dd, hr] at h
  exact hF.succ (map_get hx) h.symm (by rw [hst]; show (nextS st x.op k).2.2 = 0; rw [hn]; exact he)
theorem ck5 {op last : List Int} {ov : Bool} (hl : xs.length ≤ 200) (hF : SoFar (xs.map InsV.d) k) (hk : k = xs.length) (hst : stB (xs.map InsV.d) k = ⟨op, last, ov⟩) (ho : ov = false) : 3 = chkB (xs.map InsV.d) := by
  rw [chkB_end (by simpa using hl) hF (by simpa using hk), hst, ho]; rfl
theorem ck6 {op last : List Int} {ov : Bool} (hl : xs.length ≤ 200) (hF : SoFar (xs.map InsV.d) k) (hk : k = xs.length) (hst : stB (xs.map InsV.d) k = ⟨op, last, ov⟩) (ho : ov = true) : 0 = chkB (xs.map InsV.d) := by
  rw [chkB_end (by simpa using hl) hF (by simpa using hk), hst, ho]; rfl
end
theorem check (H : Sat g w l) (v : Value) (xs : List InsV) (hx : FSl g enV (okV g) 4 v xs) : Fc Tryz.prog 19 #[v] w (fun r w' => (∃ e, r = .int .i64 e ∧ e = chkB (xs.map InsV.d)) ∧ Sat g w' l) := by
  refine Fc.of Tryz.func19 rfl (by kernel_rfl) ?_
  have hml : (xs.map InsV.d).length = xs.length := List.length_map ..
  refine rLenF hx rfl ?_
  refine cI (fun c1 => ?_) (fun c1 => ?_)
  · replace c1 := vLt_t (c1)
    refine Done.mk ?_
    refine ⟨?_, ?_⟩
    · refine ⟨2, ?_⟩
      refine ⟨?_, ?_⟩
      · refine int_eq ?_
        omega
      exact (chkB_large (by omega)).symm
    exact H
  replace c1 := vLt_f (c1)
  refine CallP.mk (Fc.imp (Go.Proofs.YtndhikahjmgamaaGreatDoor.Nest.begin_ _) ?_)
  rintro _ w1 ⟨p1, ⟨vo1, ⟨vl1, ⟨rfl, H'⟩⟩⟩⟩
  refine H.mergeK H' ?_
  clear H H'
  intro H
  refine rLenF hx rfl ?_
  refine LoopP.rule (α := Nat × List Int × List Int × Bool × Value × Value) (0, ns0.op, ns0.last, ns0.over, vo1, vl1) (fun x_ => [(15, .int .i64 x_.1)]) (fun x_ w_ => (x_.1 ≤ xs.length) ∧ (stB (xs.map InsV.d) x_.1 = ⟨x_.2.1, x_.2.2.1, x_.2.2.2.1⟩) ∧ (SoFar (xs.map InsV.d) x_.1) ∧ Sat g w_ ((Pt p1 [x_.2.2.2.2.1, x_.2.2.2.2.2, .bool x_.2.2.2.1] 118 :: Sl 3 1 enI x_.2.2.2.2.1 x_.2.1 :: Sl 5 1 enK x_.2.2.2.2.2 x_.2.2.1 :: l))) (fun x_ => xs.length - x_.1) ?_ ?_ ?_
  · repeat first | exact mt_nil | refine mt_cons rfl ?_ | refine mt_i rfl (by first | omega | (simp only; omega) | (simp; omega) | (simp; done)) ?_
  · try simp only
    refine ⟨?_, ?_⟩
    · omega
    refine ⟨?_, ?_⟩
    · rfl
    refine ⟨?_, ?_⟩
    · exact SoFar.zero _
    exact H
  clear H
  rintro ⟨k, op, last, ov, vo, vl⟩ f_ w_ ⟨hk, hst, hF, H⟩
  try simp only at hk hst hF H ⊢
  have hok := stB_ok (xs.map InsV.d) k
  rw [hst] at hok
  refine cI (fun c2 => ?_) (fun c2 => ?_)
  · replace c2 := vLt_t (c2)
    refine bk ?_
    obtain ⟨x1, hx1⟩ : ∃ x, (xs)[(k)]? = some x := ⟨_, List.getElem?_eq_getElem (by omega)⟩
    obtain ⟨b1, o1, E1, F1, hok1⟩ := FSl.elt hx hx1
    have hok1_op := hok1.op
    have hok1_a := hok1.a
    have hok1_b := hok1.b
    have hok1_to := hok1.to
    refine rIxE E1 rfl rfl rfl ?_
    refine rLdA (H.fat F1) 0 rfl rfl rfl ?_
    refine rAllocS H rfl ?_
    clear H
    intro p2 w2 H
    clear w_
    refine rStAS H 0 rfl rfl rfl (by simp only [List.all_cons, List.all_nil, H.one 2 rfl, H.one 3 rfl, FSl.one hok1_to, FSl.one hx]; rfl) ?_
    clear H
    intro w3 H
    clear w2
    refine rLdA (H.at 0 rfl) 0 rfl rfl rfl ?_
    refine CallP.mk (Fc.imp (Go.Proofs.YtndhikahjmgamaaGreatDoor.Ins.check _ _ _ _ _ _ ?_ (H.rd hok1_to)) ?_)
    · assumption
    rintro _ w2 ⟨⟨r1, ⟨rfl, h1⟩⟩, H'⟩
    refine H.mergeK H' ?_
    clear H H'
    intro H
    refine cI (fun c3 => ?_) (fun c3 => ?_)
    · replace c3 := vNe_t (c3)
      refine Done.mk ?_
      refine ⟨?_, ?_⟩
      · refine ⟨r1, ?_⟩
        refine ⟨?_, ?_⟩
        · refine int_eq ?_
          omega
        exact ck1 (by omega) hF hx1 h1 (by assumption)
      refine H.drop 3 ?_
      clear H
      intro H
      refine H.drop 2 ?_
      clear H
      intro H
      refine H.drop 1 ?_
      clear H
      intro H
      refine H.drop 0 ?_
      clear H
      intro H
      exact H
    replace c3 := vNe_f (c3)
    refine rLdA (H.at 0 rfl) 0 rfl rfl rfl ?_
    refine H.fronts [3, 3, 3] ?_
    clear H
    intro H
    refine CallP.mk (Fc.imp (Go.Proofs.YtndhikahjmgamaaGreatDoor.Nest.next _ hok H _ _ _ _ _) ?_)
    clear H
    rintro _ w4 ⟨op'1, ⟨last'1, ⟨ov'1, ⟨vo'1, ⟨vl'1, ⟨is1, ⟨e1, ⟨rfl, ⟨h2, H⟩⟩⟩⟩⟩⟩⟩⟩⟩
    refine cI (fun c4 => ?_) (fun c4 => ?_)
    · replace c4 := vNe_t (c4)
      refine Done.mk ?_
      refine ⟨?_, ?_⟩
      · refine ⟨e1, ?_⟩
        refine ⟨?_, ?_⟩
        · refine int_eq ?_
          omega
        exact ck2 (by omega) hF hx1 h1 (by assumption) hst h2 (by assumption)
      refine H.drop 3 ?_
      clear H
      intro H
      refine H.drop 2 ?_
      clear H
      intro H
      refine H.drop 1 ?_
      clear H
      intro H
      refine H.drop 0 ?_
      clear H
      intro H
      exact H
    replace c4 := vNe_f (c4)
    refine eqI64 (by omega) ?_
    refine Nxt.mk ((k + 1, op'1, last'1, ov'1, vo'1, vl'1)) (mt_i rfl (by first | omega | (simp only; omega) | (simp; omega)) (mt_nil)) ?_ ?_
    · refine ⟨?_, ?_⟩
      · omega
      refine ⟨?_, ?_⟩
      · exact ck3 hx1 hst h2
      refine ⟨?_, ?_⟩
      · exact ck4 hF hx1 h1 (by assumption) hst h2 (by assumption)
      refine H.drop 3 ?_
      clear H
      intro H
      exact H
    omega
  replace c2 := vLt_f (c2)
  refine rFieldAt rfl ?_
  refine rLd (H.at 0 rfl) 2 rfl rfl rfl ?_
  refine cI (fun c3 => ?_) (fun c3 => ?_)
  · replace c3 := not_t (c3)
    refine Done.mk ?_
    refine ⟨?_, ?_⟩
    · refine ⟨3, ?_⟩
      refine ⟨?_, ?_⟩
      · refine int_eq ?_
        omega
      exact ck5 (by omega) hF (by omega) hst (by assumption)
    refine H.drop 2 ?_
    clear H
    intro H
    refine H.drop 1 ?_
    clear H
    intro H
    refine H.drop 0 ?_
    clear H
    intro H
    exact H
  replace c3 := not_f (c3)
  refine Done.mk ?_
  refine ⟨?_, ?_⟩
  · refine ⟨0, ?_⟩
    refine ⟨?_, ?_⟩
    · refine int_eq ?_
      omega
    exact ck6 (by omega) hF (by omega) hst (by assumption)
  refine H.drop 2 ?_
  clear H
  intro H
  refine H.drop 1 ?_
  clear H
  intro H
  refine H.drop 0 ?_
  clear H
  intro H
  exact H
end
end Go.Proofs.YtndhikahjmgamaaGreatDoor.Nest
/- Package leb: writing. -/
set_option maxRecDepth 100000
set_option maxHeartbeats 4000000
set_option linter.unusedVariables false
set_option linter.unusedSimpArgs false
namespace Go.Proofs.YtndhikahjmgamaaGreatDoor.Leb
open Go Go.Proofs.YtndhikahjmgamaaGreatDoor.Eng Go.RowKit
end Go.Proofs.YtndhikahjmgamaaGreatDoor.Leb
/- Package ins: Write. -/
set_option maxRecDepth 100000
set_option maxHeartbeats 4000000
set_option linter.unusedVariables false
set_option linter.unusedSimpArgs false
namespace Go.Proofs.YtndhikahjmgamaaGreatDoor.Ins
open Go Go.Proofs.YtndhikahjmgamaaGreatDoor.Eng Go.RowKit
open Leb
end Go.Proofs.YtndhikahjmgamaaGreatDoor.Ins
/- Package nest: Write. -/
set_option maxRecDepth 100000
set_option maxHeartbeats 4000000
set_option linter.unusedVariables false
set_option linter.unusedSimpArgs false
namespace Go.Proofs.YtndhikahjmgamaaGreatDoor.Nest
open Go Go.Proofs.YtndhikahjmgamaaGreatDoor.Eng Go.RowKit
open Ins
section
variable {g : Glob} {w : World} {l : List As}
end
end Go.Proofs.YtndhikahjmgamaaGreatDoor.Nest
/- Bodies as words: what is well nested, blocks as pieces, how deep and how many. -/
set_option maxRecDepth 100000
set_option maxHeartbeats 4000000
set_option linter.unusedVariables false
set_option linter.unusedSimpArgs false
namespace Go.Proofs.YtndhikahjmgamaaGreatDoor.Fold
open Go.Proofs.YtndhikahjmgamaaGreatDoor.Leb Go.Proofs.YtndhikahjmgamaaGreatDoor.Txt Go.Proofs.YtndhikahjmgamaaGreatDoor.Ins Go.Proofs.YtndhikahjmgamaaGreatDoor.Nest
def Opn (x : InsD) : Prop := x.op = 2 ∨ x.op = 3 ∨ x.op = 4
instance (x : InsD) : Decidable (Opn x) := by unfold Opn; infer_instance
/-- One instruction on the stack of what is open (innermost first). -/
def stp (x : InsD) : List Int → Option (List Int)
  | [] => none
  | z :: r => if chk x ≠ 0 then none else if Opn x then (if 12 ≤ r.length then none else some (x.op :: z :: r)) else if x.op = 5 then (if z = 4 then some (5 :: r) else none) else if x.op = 11 then some r else some (z :: r)
theorem stp_cons (x : InsD) (z : Int) (r : List Int) : stp x (z :: r) = if chk x ≠ 0 then none else if Opn x then (if 12 ≤ r.length then none else some (x.op :: z :: r)) else if x.op = 5 then (if z = 4 then some (5 :: r) else none) else if x.op = 11 then some r else some (z :: r) := rfl
def run : List InsD → List Int → Option (List Int)
  | [], s => some s
  | x :: l, s => (stp x s).bind (run l)
theorem run_app : ∀ (a b : List InsD) (s : List Int), run (a ++ b) s = (run a s).bind (run b)
  | [], _, _ => rfl
  | x :: a, b, s => by
    rw [List.cons_append, run, run]
    cases stp x s with
    | none => rfl
    | some t => exact run_app a b t
theorem goB_run : ∀ (l : List InsD) (k : Nat) (st : NS), NOk st → (st.over = true ↔ st.op.length = 0) → (goB l k st = 0 ↔ run l st.last.reverse = some [])
  | [], k, st, hN, ho => by
    rw [goB, run]
    have hl := hN.len
    by_cases h : st.over = true
    · rw [if_pos h]
      have : st.last = [] := List.eq_nil_of_length_eq_zero (by rw [hl]; exact ho.1 h)
      rw [this]; simp
    · rw [if_neg h]
      refine ⟨fun h2 => (by cases h2), fun h2 => absurd (ho.2 ?_) h⟩
      have h2 : st.last.reverse = [] := Option.some.inj h2
      have := congrArg List.length h2
      simp at this
      rw [← hl, this]; rfl
  | x :: l, k, st, hN, ho => by
    have hl := hN.len
    rw [goB, run]
    by_cases hov : st.over = true
    · have hla : st.last = [] := List.eq_nil_of_length_eq_zero (by rw [hl]; exact ho.1 hov)
      rw [hla]
      show _ ↔ (none : Option (List Int)) = some []
      refine ⟨fun h => ?_, fun h => by cases h⟩
      exfalso
      by_cases hc : chk x ≠ 0
      · rw [if_pos hc] at h; exact hc h
      · rw [if_neg hc, over_no hov, if_pos (by decide)] at h; cases h
    · have hof : st.over = false := by simpa using hov
      have hp := hN.pos hof
      have hN2 := nextS_ok hN x.op k
      obtain ⟨op, last, over⟩ := st
      simp only at hl hp hof ho hN hN2
      subst hof
      rcases List.eq_nil_or_concat last with rfl | ⟨p, z, rfl⟩
      · simp at hl; omega
      rw [List.concat_eq_append] at *
      have hpl : op.length - 1 = p.length := by simp at hl; omega
      have hgz : (p ++ [z]).getD (op.length - 1) 0 = z := by rw [hpl, List.getD_eq_getElem?_getD]; simp
      simp only [List.reverse_append, List.reverse_cons, List.reverse_nil, List.nil_append, List.cons_append]
      rw [stp_cons]
      by_cases hc : chk x ≠ 0
      · rw [if_pos hc, if_pos hc]
        exact ⟨fun h => absurd h hc, fun h => by cases h⟩
      · rw [if_neg hc, if_neg hc]
        have e : nextS ⟨op, p ++ [z], false⟩ x.op k = if x.op = 2 ∨ x.op = 3 ∨ x.op = 4 then if 12 ≤ op.length - 1 then (⟨op, p ++ [z], false⟩, -2, 7) else (⟨op ++ [(k : Int)], p ++ [z] ++ [x.op], false⟩, -2, 0)
            else if x.op = 5 then if (p ++ [z]).getD (op.length - 1) 0 ≠ 4 then (⟨op, p ++ [z], false⟩, -2, 4) else (⟨op, (p ++ [z]).set (op.length - 1) 5, false⟩, op.getD (op.length - 1) 0, 0)
            else if x.op = 11 then (⟨op.take (op.length - 1), (p ++ [z]).take (op.length - 1), decide (op.length - 1 = 0)⟩, op.getD (op.length - 1) 0, 0) else (⟨op, p ++ [z], false⟩, -2, 0) := rfl
        rw [e] at hN2 ⊢
        clear e
        by_cases h2 : x.op = 2 ∨ x.op = 3 ∨ x.op = 4
        · rw [if_pos h2] at hN2 ⊢
          rw [if_pos (show Opn x from h2), List.length_reverse, ← hpl]
          by_cases h12 : 12 ≤ op.length - 1
          · rw [if_pos h12, if_pos h12, if_pos (show (7 : Int) ≠ 0 by decide)]
            exact ⟨fun h => (by cases h), fun h => by cases h⟩
          · rw [if_neg h12] at hN2 ⊢
            rw [if_neg h12, if_neg (show ¬ (0 : Int) ≠ 0 by decide)]
            have := goB_run l (k + 1) _ hN2 ⟨fun h => (by cases h), fun h => by simp at h⟩
            simp only [List.reverse_append, List.reverse_cons, List.reverse_nil, List.nil_append, List.cons_append] at this
            exact this
        · rw [if_neg h2] at hN2 ⊢
          rw [if_neg (show ¬ Opn x from h2)]
          by_cases h5 : x.op = 5
          · rw [if_pos h5] at hN2 ⊢
            rw [if_pos h5]
            rw [hgz] at hN2 ⊢
            by_cases h4 : z = 4
            · rw [if_neg (show ¬ z ≠ 4 by simpa using h4)] at hN2 ⊢
              rw [if_pos h4, if_neg (show ¬ (0 : Int) ≠ 0 by decide)]
              have := goB_run l (k + 1) _ hN2 ⟨fun h => (by cases h), fun h => by simp only at h; omega⟩
              have e : (p ++ [z]).set (op.length - 1) 5 = p ++ [5] := by rw [hpl]; simp
              simp only [e, List.reverse_append, List.reverse_cons, List.reverse_nil, List.nil_append, List.cons_append] at this
              simp only [e]
              exact this
            · rw [if_pos (show z ≠ 4 from h4), if_neg h4, if_pos (show (4 : Int) ≠ 0 by decide)]
              exact ⟨fun h => (by cases h), fun h => by cases h⟩
          · rw [if_neg h5] at hN2 ⊢
            rw [if_neg h5]
            by_cases h11 : x.op = 11
            · rw [if_pos h11] at hN2 ⊢
              rw [if_pos h11, if_neg (show ¬ (0 : Int) ≠ 0 by decide)]
              have e : (p ++ [z]).take (op.length - 1) = p := by rw [hpl]; simp
              have := goB_run l (k + 1) _ hN2 ⟨fun h => by simp at h ⊢; omega, fun h => by simp at h ⊢; omega⟩
              simp only [e] at this ⊢
              exact this
            · rw [if_neg h11] at hN2 ⊢
              rw [if_neg h11, if_neg (show ¬ (0 : Int) ≠ 0 by decide)]
              have := goB_run l (k + 1) _ hN2 ⟨fun h => (by cases h), fun h => by simp only at h; omega⟩
              simp only [List.reverse_append, List.reverse_cons, List.reverse_nil, List.nil_append, List.cons_append] at this
              exact this
theorem chk_iff {l : List InsD} : chkB l = 0 ↔ l.length ≤ 200 ∧ run l [2] = some [] := by
  unfold chkB
  by_cases h : 200 < l.length
  · rw [if_pos h]; exact ⟨fun h2 => (by cases h2), fun h2 => by omega⟩
  · rw [if_neg h, goB_run l 0 ns0 ns0_ok ⟨fun h => (by cases h), fun h => by cases h⟩]
    exact ⟨fun h2 => ⟨by omega, h2⟩, fun h2 => h2.2⟩
/-- Nothing is opened or shut. -/
structure FlatI (x : InsD) : Prop where
  chk : chk x = 0
  no : ¬ Opn x ∧ x.op ≠ 5 ∧ x.op ≠ 11
theorem stp_flat {x : InsD} (h : FlatI x) {s : List Int} (hs : s ≠ []) : stp x s = some s := by
  cases s with
  | nil => exact absurd rfl hs
  | cons z r => rw [stp_cons, if_neg (by rw [h.chk]; decide), if_neg h.no.1, if_neg h.no.2.1, if_neg h.no.2.2]
theorem run_flat {x : InsD} (h : FlatI x) {l : List InsD} {s : List Int} (hs : s ≠ []) : run (x :: l) s = run l s := by
  rw [run, stp_flat h hs]; rfl
theorem stp_some {x : InsD} {s t : List Int} (h : stp x s = some t) : chk x = 0 ∧ ∃ z r, s = z :: r ∧ ((Opn x ∧ r.length < 12 ∧ t = x.op :: z :: r) ∨ (x.op = 5 ∧ z = 4 ∧ t = 5 :: r) ∨ (x.op = 11 ∧ t = r) ∨ (FlatI x ∧ t = z :: r)) := by
  cases s with
  | nil => cases h
  | cons z r =>
    rw [stp_cons] at h
    by_cases hc : chk x ≠ 0
    · rw [if_pos hc] at h; cases h
    · rw [if_neg hc] at h
      have hc := Decidable.of_not_not hc
      refine ⟨hc, z, r, rfl, ?_⟩
      by_cases ho : Opn x
      · rw [if_pos ho] at h
        by_cases h12 : 12 ≤ r.length
        · rw [if_pos h12] at h; cases h
        · rw [if_neg h12] at h; exact .inl ⟨ho, by omega, (Option.some.inj h).symm⟩
      · rw [if_neg ho] at h
        by_cases h5 : x.op = 5
        · rw [if_pos h5] at h
          by_cases h4 : z = 4
          · rw [if_pos h4] at h; exact .inr (.inl ⟨h5, h4, (Option.some.inj h).symm⟩)
          · rw [if_neg h4] at h; cases h
        · rw [if_neg h5] at h
          by_cases h11 : x.op = 11
          · rw [if_pos h11] at h; exact .inr (.inr (.inl ⟨h11, (Option.some.inj h).symm⟩))
          · rw [if_neg h11] at h; exact .inr (.inr (.inr ⟨⟨hc, ho, h5, h11⟩, (Option.some.inj h).symm⟩))
theorem run_cons {x : InsD} {l : List InsD} {s w : List Int} (h : run (x :: l) s = some w) : ∃ t, stp x s = some t ∧ run l t = some w := by
  rw [run] at h; exact Option.bind_eq_some_iff.1 h
/-! ### pieces within one block -/
/-- The same, above a floor. -/
def lst (x : InsD) (u : List Int) : Option (List Int) :=
  if Opn x then some (x.op :: u) else if x.op = 5 then (match u with | [] => none | q :: r => if q = 4 then some (5 :: r) else none) else if x.op = 11 then (match u with | [] => none | _ :: r => some r) else some u
def lrun : List InsD → List Int → Option (List Int)
  | [], u => some u
  | x :: l, u => (lst x u).bind (lrun l)
def dd (x : InsD) : Int := if Opn x then 1 else if x.op = 11 then -1 else 0
def net : List InsD → Int
  | [] => 0
  | x :: l => dd x + net l
theorem lst_dd {x : InsD} {u v : List Int} (h : lst x u = some v) : (v.length : Int) = u.length + dd x := by
  unfold lst at h
  unfold dd
  by_cases ho : Opn x
  · rw [if_pos ho] at h ⊢; rw [← Option.some.inj h]; simp
  · rw [if_neg ho] at h ⊢
    by_cases h5 : x.op = 5
    · rw [if_pos h5] at h
      rw [if_neg (by omega)]
      cases u with
      | nil => cases h
      | cons q r =>
        simp only at h
        split at h
        · rw [← Option.some.inj h]; simp
        · cases h
    · rw [if_neg h5] at h
      by_cases h11 : x.op = 11
      · rw [if_pos h11] at h ⊢
        cases u with
        | nil => cases h
        | cons q r =>
          have h : some r = some v := h
          rw [← Option.some.inj h]; simp
          omega
      · rw [if_neg h11] at h ⊢; rw [← Option.some.inj h]; simp
theorem lrun_cons {x : InsD} {l : List InsD} {s w : List Int} (h : lrun (x :: l) s = some w) : ∃ t, lst x s = some t ∧ lrun l t = some w := by
  rw [lrun] at h; exact Option.bind_eq_some_iff.1 h
theorem lrun_net : ∀ (l : List InsD) (u v : List Int), lrun l u = some v → (v.length : Int) = u.length + net l
  | [], u, v, h => by rw [← Option.some.inj h]; simp [net]
  | x :: l, u, v, h => by
    obtain ⟨t, h1, h2⟩ := lrun_cons h
    have := lrun_net l t v h2
    have := lst_dd h1
    rw [net]; omega
/-- What a piece does above one floor it does above another. -/
theorem lst_run {x : InsD} {u v : List Int} {a : Int} {t st : List Int} (h : lst x u = some v) (hr : stp x (u ++ a :: t) = some st) (b : Int) : st = v ++ a :: t ∧ stp x (u ++ b :: t) = some (v ++ b :: t) := by
  obtain ⟨hc, z, r, e, hw⟩ := stp_some hr
  unfold lst at h
  have hne : ∀ b : Int, u ++ b :: t ≠ [] := fun b => by simp
  rcases hw with ⟨ho, h12, rfl⟩ | ⟨h5, h4, rfl⟩ | ⟨h11, rfl⟩ | ⟨hf, rfl⟩
  · rw [if_pos ho] at h
    obtain rfl := Option.some.inj h
    refine ⟨by rw [← e]; rfl, ?_⟩
    have hl : (u ++ b :: t).length = r.length + 1 := by
      have := congrArg List.length e
      simp at this ⊢; omega
    cases hu : u ++ b :: t with
    | nil => exact absurd hu (hne b)
    | cons z' r' =>
      rw [hu] at hl
      rw [stp_cons, if_neg (by rw [hc]; decide), if_pos ho, if_neg (by simp at hl; omega), List.cons_append, hu]
  · rw [if_neg (by unfold Opn; omega), if_pos h5] at h
    cases u with
    | nil => cases h
    | cons q u' =>
      simp only at h
      rw [List.cons_append] at e
      injection e with e1 e2
      subst e1
      rw [if_pos h4] at h
      obtain rfl := Option.some.inj h
      refine ⟨by rw [← e2]; rfl, ?_⟩
      rw [List.cons_append]
      rw [stp_cons, if_neg (by rw [hc]; decide), if_neg (by unfold Opn; omega), if_pos h5, if_pos h4]; rfl
  · rw [if_neg (by unfold Opn; omega), if_neg (by omega), if_pos h11] at h
    cases u with
    | nil => cases h
    | cons q u' =>
      obtain rfl := Option.some.inj h
      rw [List.cons_append] at e
      injection e with e1 e2
      refine ⟨e2.symm, ?_⟩
      rw [List.cons_append]
      rw [stp_cons, if_neg (by rw [hc]; decide), if_neg (by unfold Opn; omega), if_neg (by omega), if_pos h11]
  · rw [if_neg hf.no.1, if_neg hf.no.2.1, if_neg hf.no.2.2] at h
    obtain rfl := Option.some.inj h
    exact ⟨e.symm, stp_flat hf (hne b)⟩
theorem lrun_run : ∀ (A : List InsD) (u v : List Int) (a : Int) (t st : List Int), lrun A u = some v → run A (u ++ a :: t) = some st → ∀ b : Int, st = v ++ a :: t ∧ run A (u ++ b :: t) = some (v ++ b :: t)
  | [], u, v, a, t, st, h, hr, b => by
    obtain rfl := Option.some.inj h
    exact ⟨(Option.some.inj hr).symm, rfl⟩
  | x :: A, u, v, a, t, st, h, hr, b => by
    obtain ⟨u1, h1, h2⟩ := lrun_cons h
    obtain ⟨t1, r1, r2⟩ := run_cons hr
    obtain ⟨e1, e2⟩ := lst_run h1 r1 b
    subst e1
    obtain ⟨f1, f2⟩ := lrun_run A u1 v a t st h2 r2 b
    exact ⟨f1, by rw [run, e2]; exact f2⟩
/-- The first instruction that ends, or halves, the block. -/
theorem piece : ∀ (l : List InsD) (u : List Int) (q : Int) (t : List Int), run l (u ++ q :: t) = some [] → ∃ A y R, l = A ++ y :: R ∧ lrun A u = some [] ∧ (y.op = 11 ∨ (y.op = 5 ∧ q = 4)) ∧ chk y = 0
  | [], u, q, t, h => by
    have := Option.some.inj h
    simp at this
  | x :: l, u, q, t, h => by
    obtain ⟨t1, r1, r2⟩ := run_cons h
    obtain ⟨hc, z, r, e, hw⟩ := stp_some r1
    cases u with
    | nil =>
      injection e with e1 e2
      subst e1; subst e2
      rcases hw with ⟨ho, h12, rfl⟩ | ⟨h5, h4, rfl⟩ | ⟨h11, rfl⟩ | ⟨hf, rfl⟩
      · obtain ⟨A, y, R, e1, e2, e3⟩ := piece l [x.op] q t r2
        exact ⟨x :: A, y, R, by rw [e1]; rfl, by rw [lrun, lst, if_pos ho]; exact e2, e3⟩
      · exact ⟨[], x, l, rfl, rfl, .inr ⟨h5, h4⟩, hc⟩
      · exact ⟨[], x, l, rfl, rfl, .inl h11, hc⟩
      · obtain ⟨A, y, R, e1, e2, e3⟩ := piece l [] q t r2
        exact ⟨x :: A, y, R, by rw [e1]; rfl, by rw [lrun, lst, if_neg hf.no.1, if_neg hf.no.2.1, if_neg hf.no.2.2]; exact e2, e3⟩
    | cons a u' =>
      rw [List.cons_append] at e
      injection e with e1 e2
      subst e1; subst e2
      rcases hw with ⟨ho, h12, rfl⟩ | ⟨h5, h4, rfl⟩ | ⟨h11, rfl⟩ | ⟨hf, rfl⟩
      · obtain ⟨A, y, R, e1, e2, e3⟩ := piece l (x.op :: a :: u') q t r2
        exact ⟨x :: A, y, R, by rw [e1]; rfl, by rw [lrun, lst, if_pos ho]; exact e2, e3⟩
      · obtain ⟨A, y, R, e1, e2, e3⟩ := piece l (5 :: u') q t r2
        refine ⟨x :: A, y, R, by rw [e1]; rfl, ?_, e3⟩
        rw [lrun, lst, if_neg (by unfold Opn; omega), if_pos h5]
        show ((if a = 4 then some (5 :: u') else none).bind (lrun A)) = _
        rw [if_pos h4]; exact e2
      · obtain ⟨A, y, R, e1, e2, e3⟩ := piece l u' q t r2
        refine ⟨x :: A, y, R, by rw [e1]; rfl, ?_, e3⟩
        rw [lrun, lst, if_neg (by unfold Opn; omega), if_neg (by omega), if_pos h11]; exact e2
      · obtain ⟨A, y, R, e1, e2, e3⟩ := piece l (a :: u') q t r2
        exact ⟨x :: A, y, R, by rw [e1]; rfl, by rw [lrun, lst, if_neg hf.no.1, if_neg hf.no.2.1, if_neg hf.no.2.2]; exact e2, e3⟩
/-! ### span and other -/
/-- How many instructions belong to the first one. -/
def spn : Int → List InsD → Nat
  | _, [] => 0
  | d, x :: r => if d + dd x = 0 then 1 else 1 + spn (d + dd x) r
/-- Where the else stands, or the end. -/
def oth : Int → List InsD → Nat
  | _, [] => 0
  | d, x :: r => if (x.op = 5 ∧ d = 1) ∨ (x.op = 11 ∧ d = 1) then 0 else 1 + oth (d + dd x) r
theorem spn_piece : ∀ (A : List InsD) (u v : List Int) (R : List InsD), lrun A u = some v → spn (u.length + 1) (A ++ R) = A.length + spn (v.length + 1) R
  | [], u, v, R, h => by obtain rfl := Option.some.inj h; simp
  | x :: A, u, v, R, h => by
    obtain ⟨t, h1, h2⟩ := lrun_cons h
    have e := lst_dd h1
    rw [List.cons_append, spn, if_neg (by omega), show (u.length : Int) + 1 + dd x = t.length + 1 by omega, spn_piece A t v R h2, List.length_cons]
    omega
theorem oth_piece : ∀ (A : List InsD) (u v : List Int) (R : List InsD), lrun A u = some v → oth (u.length + 1) (A ++ R) = A.length + oth (v.length + 1) R
  | [], u, v, R, h => by obtain rfl := Option.some.inj h; simp
  | x :: A, u, v, R, h => by
    obtain ⟨t, h1, h2⟩ := lrun_cons h
    have e := lst_dd h1
    have hn : ¬ ((x.op = 5 ∧ (u.length : Int) + 1 = 1) ∨ (x.op = 11 ∧ (u.length : Int) + 1 = 1)) := by
      intro hh
      have hu : u = [] := by
        rcases hh with hh | hh
        · exact List.eq_nil_of_length_eq_zero (by omega)
        · exact List.eq_nil_of_length_eq_zero (by omega)
      subst hu
      unfold lst at h1
      rcases hh with hh | hh
      · rw [if_neg (by unfold Opn; omega), if_pos hh.1] at h1; cases h1
      · rw [if_neg (by unfold Opn; omega), if_neg (by omega), if_pos hh.1] at h1; cases h1
    rw [List.cons_append, oth, if_neg hn, show (u.length : Int) + 1 + dd x = t.length + 1 by omega, oth_piece A t v R h2, List.length_cons]
    omega
/-- A whole block: its opening, its body (or two), its end. -/
inductive Blk : List InsD → Prop
  | one {y e : InsD} {A : List InsD} : Opn y → lrun A [] = some [] → e.op = 11 → Blk (y :: (A ++ [e]))
  | two {y x e : InsD} {A B : List InsD} : y.op = 4 → lrun A [] = some [] → x.op = 5 → lrun B [] = some [] → e.op = 11 → Blk (y :: (A ++ x :: (B ++ [e])))
theorem net_app : ∀ a b : List InsD, net (a ++ b) = net a + net b
  | [], b => by simp [net]
  | x :: a, b => by rw [List.cons_append, net, net, net_app a b]; omega
theorem net_bal {A : List InsD} (h : lrun A [] = some []) : net A = 0 := by
  have := lrun_net A [] [] h
  simp at this; omega
/-- How a block that begins here goes on, and that span and other find it. -/
theorem block_at {y : InsD} {r : List InsD} {z : Int} {s : List Int} (ho : Opn y) (h : run (y :: r) (z :: s) = some []) :
    (∃ A e R, r = A ++ e :: R ∧ lrun A [] = some [] ∧ e.op = 11 ∧ chk e = 0 ∧ run A (y.op :: z :: s) = some (y.op :: z :: s) ∧ run R (z :: s) = some [] ∧ spn 1 r = A.length + 1 ∧ oth 1 r = A.length) ∨
    (∃ A x B e R, y.op = 4 ∧ r = A ++ x :: (B ++ e :: R) ∧ lrun A [] = some [] ∧ x.op = 5 ∧ lrun B [] = some [] ∧ e.op = 11 ∧ chk e = 0 ∧ run A (4 :: z :: s) = some (4 :: z :: s) ∧ run B (5 :: z :: s) = some (5 :: z :: s) ∧ run R (z :: s) = some [] ∧ spn 1 r = A.length + 1 + B.length + 1 ∧ oth 1 r = A.length) := by
  obtain ⟨t1, r1, r2⟩ := run_cons h
  obtain ⟨hc, z', r', e, hw⟩ := stp_some r1
  injection e with e1 e2
  subst e1; subst e2
  have ht : t1 = y.op :: z :: s := by
    rcases hw with ⟨_, _, rfl⟩ | ⟨h5, _⟩ | ⟨h11, _⟩ | ⟨hf, _⟩
    · rfl
    · unfold Opn at ho; omega
    · unfold Opn at ho; omega
    · exact absurd ho hf.no.1
  subst ht
  obtain ⟨A, x, R, e1, e2, e3, e4⟩ := piece r [] y.op (z :: s) r2
  subst e1
  have hA := r2
  rw [run_app] at hA
  obtain ⟨st, hA1, hA2⟩ := Option.bind_eq_some_iff.1 hA
  have hA3 := (lrun_run A [] [] y.op (z :: s) st e2 hA1 0).1
  simp only [List.nil_append] at hA3
  subst hA3
  have s1 := spn_piece A [] [] (x :: R) e2
  have o1 := oth_piece A [] [] (x :: R) e2
  simp only [List.length_nil, Int.natCast_zero, Int.zero_add] at s1 o1
  have hx : ¬ Opn x := by unfold Opn; omega
  rcases e3 with h11 | ⟨h5, h4⟩
  · left
    obtain ⟨t2, q1, q2⟩ := run_cons hA2
    obtain ⟨_, z2, r2', f1, f2⟩ := stp_some q1
    injection f1 with f3 f4
    subst f3; subst f4
    have ht2 : t2 = z :: s := by
      rcases f2 with ⟨h, _⟩ | ⟨h, _⟩ | ⟨_, h⟩ | ⟨h, _⟩
      · exact absurd h hx
      · omega
      · exact h
      · exact absurd h11 h.no.2.2
    subst ht2
    refine ⟨A, x, R, rfl, e2, h11, e4, hA1, q2, ?_, ?_⟩
    · rw [s1, spn, dd, if_neg hx, if_pos h11, if_pos (by decide)]
    · rw [o1, oth, if_pos (.inr ⟨h11, rfl⟩)]; rfl
  · right
    rw [h4] at hA1 hA2
    obtain ⟨t2, q1, q2⟩ := run_cons hA2
    obtain ⟨_, z2, r2', f1, f2⟩ := stp_some q1
    injection f1 with f3 f4
    subst f3; subst f4
    have ht2 : t2 = 5 :: z :: s := by
      rcases f2 with ⟨h, _⟩ | ⟨_, _, h⟩ | ⟨h, _⟩ | ⟨h, _⟩
      · exact absurd h hx
      · exact h
      · omega
      · exact absurd h5 h.no.2.1
    subst ht2
    obtain ⟨B, e, R2, g1, g2, g3, g4⟩ := piece R [] 5 (z :: s) q2
    have g3 : e.op = 11 := by
      rcases g3 with h | ⟨_, h⟩
      · exact h
      · cases h
    subst g1
    have hB := q2
    rw [run_app] at hB
    obtain ⟨st2, hB1, hB2⟩ := Option.bind_eq_some_iff.1 hB
    have hB3 := (lrun_run B [] [] 5 (z :: s) st2 g2 hB1 0).1
    simp only [List.nil_append] at hB3
    subst hB3
    have s2 := spn_piece B [] [] (e :: R2) g2
    simp only [List.length_nil, Int.natCast_zero, Int.zero_add] at s2
    have he : ¬ Opn e := by unfold Opn; omega
    obtain ⟨t3, k1, k2⟩ := run_cons hB2
    obtain ⟨_, z3, r3', f5, f6⟩ := stp_some k1
    injection f5 with f7 f8
    subst f7; subst f8
    have ht3 : t3 = z :: s := by
      rcases f6 with ⟨h, _⟩ | ⟨h, _⟩ | ⟨_, h⟩ | ⟨h, _⟩
      · exact absurd h he
      · omega
      · exact h
      · exact absurd g3 h.no.2.2
    subst ht3
    refine ⟨A, x, B, e, R2, h4, rfl, e2, h5, g2, g3, g4, hA1, hB1, k2, ?_, ?_⟩
    · rw [s1, spn, dd, if_neg hx, if_neg (show ¬ x.op = 11 by omega), if_neg (by decide), show (1 : Int) + 0 = 1 from rfl, s2, spn, dd, if_neg he, if_pos g3, if_pos (by decide)]
      omega
    · rw [o1, oth, if_pos (.inl ⟨h5, rfl⟩)]; rfl
end Go.Proofs.YtndhikahjmgamaaGreatDoor.Fold
/- What package num computes, in plain Lean. -/
set_option linter.unusedVariables false
namespace Go.Proofs.YtndhikahjmgamaaGreatDoor.Num
open Go Go.Proofs.YtndhikahjmgamaaGreatDoor.Eng
def rkS (u : IntKind) (M : Int) (which a b : Int) : Int :=
  if which = 0 then vWrap u (a + b) else if which = 1 then vWrap u (a - b) else if which = 2 then vWrap u (a * b)
  else if which = 7 then vAnd u a b else if which = 8 then vOr u a b else if which = 9 then vXor u a b
  else if which = 10 then vShl u a (b % M)
  else if which = 11 then if 0 < b % M ∧ vShr u a (M - 1) ≠ 0 then vOr u (vShr u a (b % M)) (vShl u u.max (M - b % M)) else vShr u a (b % M)
  else if which = 12 then vShr u a (b % M)
  else if which = 13 then vOr u (vShl u a (b % M)) (vShr u a (M - b % M))
  else vOr u (vShr u a (b % M)) (vShl u a (M - b % M))
def b2i (b : Bool) : Int := if b then 1 else 0
def cmpS (which a b ua ub : Int) : Int :=
  if which = 0 then b2i (decide (a = b)) else if which = 1 then b2i (!decide (a = b)) else if which = 2 then b2i (decide (a < b)) else if which = 3 then b2i (decide (ua < ub))
  else if which = 4 then b2i (decide (b < a)) else if which = 5 then b2i (decide (ub < ua)) else if which = 6 then b2i (decide (a ≤ b)) else if which = 7 then b2i (decide (ua ≤ ub))
  else if which = 8 then b2i (decide (b ≤ a)) else b2i (decide (ub ≤ ua))
/-- The signed kind k, as a quotient's value. -/
def divS (k : IntKind) (which a b ua ub : Int) : Int × Int :=
  if b = 0 then (0, 21)
  else if which = 0 then if b = -1 ∧ a ≠ 0 ∧ a = vWrap k (0 - a) then (0, 22) else (vWrap .i64 (vQuo k a b), 0)
  else if which = 1 then (vWrap .i64 (vQuo (if k = .i32 then .u32 else .u64) ua ub), 0)
  else if which = 2 then if b = -1 then (0, 0) else (vWrap .i64 (vRem a b), 0)
  else (vWrap .i64 (vRem ua ub), 0)
def twoS (op a b : Int) : Int × Int :=
  if 70 ≤ op ∧ op ≤ 79 then (cmpS (op - 70) (vWrap .i32 a) (vWrap .i32 b) (vWrap .u32 a) (vWrap .u32 b), 0)
  else if 81 ≤ op ∧ op ≤ 90 then (cmpS (op - 81) a b (vWrap .u64 a) (vWrap .u64 b), 0)
  else if 109 ≤ op ∧ op ≤ 112 then (vWrap .i64 (vWrap .i32 (divS .i32 (op - 109) (vWrap .i32 a) (vWrap .i32 b) (vWrap .u32 a) (vWrap .u32 b)).1), (divS .i32 (op - 109) (vWrap .i32 a) (vWrap .i32 b) (vWrap .u32 a) (vWrap .u32 b)).2)
  else if 127 ≤ op ∧ op ≤ 130 then divS .i64 (op - 127) a b (vWrap .u64 a) (vWrap .u64 b)
  else if 106 ≤ op ∧ op ≤ 120 then (vWrap .i64 (vWrap .i32 (rkS .u32 32 (op - 106) (vWrap .u32 a) (vWrap .u32 b))), 0)
  else if 124 ≤ op ∧ op ≤ 138 then (vWrap .i64 (rkS .u64 64 (op - 124) (vWrap .u64 a) (vWrap .u64 b)), 0)
  else (0, 6)
theorem wz32 {b : Int} (hb : -2147483648 ≤ b ∧ b ≤ 2147483647) (hz : b ≠ 0) : vWrap .u32 b ≠ 0 := by
  unfold vWrap; simp [IntKind.wrap, IntKind.bits, IntKind.signed]; omega
theorem wz64 {b : Int} (hb : -9223372036854775808 ≤ b ∧ b ≤ 9223372036854775807) (hz : b ≠ 0) : vWrap .u64 b ≠ 0 := by
  unfold vWrap; simp [IntKind.wrap, IntKind.bits, IntKind.signed]; omega
end Go.Proofs.YtndhikahjmgamaaGreatDoor.Num
/- Slices of frozen slices in a region. -/
set_option maxRecDepth 100000
set_option linter.unusedVariables false
namespace Go.Proofs.YtndhikahjmgamaaGreatDoor.Eng
open Go Go.RowKit
section
variable {P : Program} {g : Glob} {α : Type} {en : α → List Value} {ok : α → Prop} {s : Nat} {t e : TypeId} {v : Value} {xs : List α} {K : Value → Prop} {S : World → Prop}
theorem tkSlF {lo hi : Option Value} (hs : FSl g en ok s v xs) (a h : Nat) (ht : P.underlying t = some (.slice e)) (hsz : (P.info? e).map (fun i => i.size) = some s) (ha : a ≤ h) (hh : h ≤ xs.length)
    (hlo : lo = none ∧ a = 0 ∨ ∃ k, lo = some (.int k a)) (hhi : hi = none ∧ h = xs.length ∨ ∃ k, hi = some (.int k h)) (k : ∀ v', FSl g en ok s v' ((xs.take h).drop a) → K v') : TkP P S (Instr.sliceAt t v lo hi none) K := by
  obtain ⟨ad, cap, rfl, h2, h3, h4⟩ := hs
  refine TkP.of _ (fun w _ => ?_) (k _ (slr_part (sz := s) ⟨ad, cap, rfl, h2, h3, h4⟩ ha hh))
  refine rSlB (cap := cap) (l := a) (h := h) (m := cap) ht hsz ?_ ⟨rfl, rfl⟩
  unfold Instr.sliceBounds
  rcases hlo with ⟨rfl, rfl⟩ | ⟨kl, rfl⟩ <;> rcases hhi with ⟨rfl, rfl⟩ | ⟨kh, rfl⟩
  · simp
  · simp [run_sliceBound (P := P) w kh (h : Int) cap _ (by omega) (by omega)]
  · simp [run_sliceBound (P := P) w kl (a : Int) xs.length _ (by omega) (by omega)]
  · simp [run_sliceBound (P := P) w kh (h : Int) cap _ (by omega) (by omega), run_sliceBound (P := P) w kl (a : Int) h _ (by omega) (by omega)]
end
end Go.Proofs.YtndhikahjmgamaaGreatDoor.Eng
/- Package num: Two and what it calls, by the walker. -/
set_option maxRecDepth 100000
set_option maxHeartbeats 4000000
set_option linter.unusedVariables false
set_option linter.unusedSimpArgs false
namespace Go.Proofs.YtndhikahjmgamaaGreatDoor.Num
open Go Go.Proofs.YtndhikahjmgamaaGreatDoor.Eng Go.RowKit
theorem vQuo_w (k : IntKind) (x y : Int) : vQuo k x y = vWrap k (x.tdiv y) := by unfold vQuo vWrap; rfl
theorem quo64 (a b : Int) : -9223372036854775808 ≤ vQuo .i64 a b ∧ vQuo .i64 a b ≤ 9223372036854775807 := by
  rw [vQuo_w]; have := vWrap_range .i64 (a.tdiv b)
  rw [show IntKind.min .i64 = -9223372036854775808 from rfl, show IntKind.max .i64 = 9223372036854775807 from rfl] at this
  exact this
theorem rem64 {a b : Int} (ha : -9223372036854775808 ≤ a ∧ a ≤ 9223372036854775807) : -9223372036854775808 ≤ vRem a b ∧ vRem a b ≤ 9223372036854775807 := by
  unfold vRem
  have h : (a.tmod b).natAbs ≤ a.natAbs := by rw [Int.natAbs_tmod]; exact Nat.mod_le _ _
  by_cases hp : 0 ≤ a
  · have := Int.tmod_nonneg b hp; omega
  · have h2 : 0 ≤ (-a).tmod b := Int.tmod_nonneg b (by omega)
    rw [Int.neg_tmod] at h2
    omega
section
variable {g : Glob} {w : World} {l : List As}
theorem truthX (H : Sat g w l) (b : Bool) : Fc Tryz.prog 107 #[.bool b] w (fun v w' => ∃ r, v = .int .i64 r ∧ r = b2i b ∧ Sat g w' l) := by
  refine Fc.of Tryz.func107 rfl (by kernel_rfl) ?_
  refine cI (fun c1 => ?_) (fun c1 => ?_)
  · refine Done.mk ?_
    refine ⟨1, ?_⟩
    refine ⟨?_, ?_⟩
    · (subst_vars; rfl)
    refine ⟨?_, ?_⟩
    · (subst_vars; rfl)
    exact H
  refine Done.mk ?_
  refine ⟨0, ?_⟩
  refine ⟨?_, ?_⟩
  · (subst_vars; rfl)
  refine ⟨?_, ?_⟩
  · (subst_vars; rfl)
  exact H
theorem cmp32X (H : Sat g w l) (k a b c d : Int) : Fc Tryz.prog 115 #[.int .u8 k, .int .i32 a, .int .i32 b, .int .u32 c, .int .u32 d] w (fun v w' => ∃ r, v = .int .i64 r ∧ r = cmpS k a b c d ∧ Sat g w' l) := by
  refine Fc.of Tryz.func115 rfl (by kernel_rfl) ?_
  refine bk ?_
  refine cI (fun c1 => ?_) (fun c1 => ?_)
  · replace c1 := vEq_t (c1)
    refine CallP.mk (Fc.imp (Go.Proofs.YtndhikahjmgamaaGreatDoor.Num.truthX H _) ?_)
    clear H
    rintro _ w1 ⟨r1, ⟨rfl, ⟨h1, H⟩⟩⟩
    refine Done.mk ?_
    refine ⟨r1, ?_⟩
    refine ⟨?_, ?_⟩
    · refine int_eq ?_
      omega
    refine ⟨?_, ?_⟩
    · (subst_vars; unfold cmpS; (repeat first | rw [if_pos (by omega)] | rw [if_neg (by omega)]); (try simp only [vEq_iff, vNe_iff, vLt_iff, vLe_iff]); (try rfl))
    exact H
  replace c1 := vEq_f (c1)
  refine cI (fun c2 => ?_) (fun c2 => ?_)
  · replace c2 := vEq_t (c2)
    refine CallP.mk (Fc.imp (Go.Proofs.YtndhikahjmgamaaGreatDoor.Num.truthX H _) ?_)
    clear H
    rintro _ w1 ⟨r1, ⟨rfl, ⟨h1, H⟩⟩⟩
    refine Done.mk ?_
    refine ⟨r1, ?_⟩
    refine ⟨?_, ?_⟩
    · refine int_eq ?_
      omega
    refine ⟨?_, ?_⟩
    · (subst_vars; unfold cmpS; (repeat first | rw [if_pos (by omega)] | rw [if_neg (by omega)]); (try simp only [vEq_iff, vNe_iff, vLt_iff, vLe_iff]); (try rfl))
    exact H
  replace c2 := vEq_f (c2)
  refine cI (fun c3 => ?_) (fun c3 => ?_)
  · replace c3 := vEq_t (c3)
    refine CallP.mk (Fc.imp (Go.Proofs.YtndhikahjmgamaaGreatDoor.Num.truthX H _) ?_)
    clear H
    rintro _ w1 ⟨r1, ⟨rfl, ⟨h1, H⟩⟩⟩
    refine Done.mk ?_
    refine ⟨r1, ?_⟩
    refine ⟨?_, ?_⟩
    · refine int_eq ?_
      omega
    refine ⟨?_, ?_⟩
    · (subst_vars; unfold cmpS; (repeat first | rw [if_pos (by omega)] | rw [if_neg (by omega)]); (try simp only [vEq_iff, vNe_iff, vLt_iff, vLe_iff]); (try rfl))
    exact H
  replace c3 := vEq_f (c3)
  refine cI (fun c4 => ?_) (fun c4 => ?_)
  · replace c4 := vEq_t (c4)
    refine CallP.mk (Fc.imp (Go.Proofs.YtndhikahjmgamaaGreatDoor.Num.truthX H _) ?_)
    clear H
    rintro _ w1 ⟨r1, ⟨rfl, ⟨h1, H⟩⟩⟩
    refine Done.mk ?_
    refine ⟨r1, ?_⟩
    refine ⟨?_, ?_⟩
    · refine int_eq ?_
      omega
    refine ⟨?_, ?_⟩
    · (subst_vars; unfold cmpS; (repeat first | rw [if_pos (by omega)] | rw [if_neg (by omega)]); (try simp only [vEq_iff, vNe_iff, vLt_iff, vLe_iff]); (try rfl))
    exact H
  replace c4 := vEq_f (c4)
  refine cI (fun c5 => ?_) (fun c5 => ?_)
  · replace c5 := vEq_t (c5)
    refine CallP.mk (Fc.imp (Go.Proofs.YtndhikahjmgamaaGreatDoor.Num.truthX H _) ?_)
    clear H
    rintro _ w1 ⟨r1, ⟨rfl, ⟨h1, H⟩⟩⟩
    refine Done.mk ?_
    refine ⟨r1, ?_⟩
    refine ⟨?_, ?_⟩
    · refine int_eq ?_
      omega
    refine ⟨?_, ?_⟩
    · (subst_vars; unfold cmpS; (repeat first | rw [if_pos (by omega)] | rw [if_neg (by omega)]); (try simp only [vEq_iff, vNe_iff, vLt_iff, vLe_iff]); (try rfl))
    exact H
  replace c5 := vEq_f (c5)
  refine cI (fun c6 => ?_) (fun c6 => ?_)
  · replace c6 := vEq_t (c6)
    refine CallP.mk (Fc.imp (Go.Proofs.YtndhikahjmgamaaGreatDoor.Num.truthX H _) ?_)
    clear H
    rintro _ w1 ⟨r1, ⟨rfl, ⟨h1, H⟩⟩⟩
    refine Done.mk ?_
    refine ⟨r1, ?_⟩
    refine ⟨?_, ?_⟩
    · refine int_eq ?_
      omega
    refine ⟨?_, ?_⟩
    · (subst_vars; unfold cmpS; (repeat first | rw [if_pos (by omega)] | rw [if_neg (by omega)]); (try simp only [vEq_iff, vNe_iff, vLt_iff, vLe_iff]); (try rfl))
    exact H
  replace c6 := vEq_f (c6)
  refine cI (fun c7 => ?_) (fun c7 => ?_)
  · replace c7 := vEq_t (c7)
    refine CallP.mk (Fc.imp (Go.Proofs.YtndhikahjmgamaaGreatDoor.Num.truthX H _) ?_)
    clear H
    rintro _ w1 ⟨r1, ⟨rfl, ⟨h1, H⟩⟩⟩
    refine Done.mk ?_
    refine ⟨r1, ?_⟩
    refine ⟨?_, ?_⟩
    · refine int_eq ?_
      omega
    refine ⟨?_, ?_⟩
    · (subst_vars; unfold cmpS; (repeat first | rw [if_pos (by omega)] | rw [if_neg (by omega)]); (try simp only [vEq_iff, vNe_iff, vLt_iff, vLe_iff]); (try rfl))
    exact H
  replace c7 := vEq_f (c7)
  refine cI (fun c8 => ?_) (fun c8 => ?_)
  · replace c8 := vEq_t (c8)
    refine CallP.mk (Fc.imp (Go.Proofs.YtndhikahjmgamaaGreatDoor.Num.truthX H _) ?_)
    clear H
    rintro _ w1 ⟨r1, ⟨rfl, ⟨h1, H⟩⟩⟩
    refine Done.mk ?_
    refine ⟨r1, ?_⟩
    refine ⟨?_, ?_⟩
    · refine int_eq ?_
      omega
    refine ⟨?_, ?_⟩
    · (subst_vars; unfold cmpS; (repeat first | rw [if_pos (by omega)] | rw [if_neg (by omega)]); (try simp only [vEq_iff, vNe_iff, vLt_iff, vLe_iff]); (try rfl))
    exact H
  replace c8 := vEq_f (c8)
  refine cI (fun c9 => ?_) (fun c9 => ?_)
  · replace c9 := vEq_t (c9)
    refine CallP.mk (Fc.imp (Go.Proofs.YtndhikahjmgamaaGreatDoor.Num.truthX H _) ?_)
    clear H
    rintro _ w1 ⟨r1, ⟨rfl, ⟨h1, H⟩⟩⟩
    refine Done.mk ?_
    refine ⟨r1, ?_⟩
    refine ⟨?_, ?_⟩
    · refine int_eq ?_
      omega
    refine ⟨?_, ?_⟩
    · (subst_vars; unfold cmpS; (repeat first | rw [if_pos (by omega)] | rw [if_neg (by omega)]); (try simp only [vEq_iff, vNe_iff, vLt_iff, vLe_iff]); (try rfl))
    exact H
  replace c9 := vEq_f (c9)
  refine CallP.mk (Fc.imp (Go.Proofs.YtndhikahjmgamaaGreatDoor.Num.truthX H _) ?_)
  clear H
  rintro _ w1 ⟨r1, ⟨rfl, ⟨h1, H⟩⟩⟩
  refine Done.mk ?_
  refine ⟨r1, ?_⟩
  refine ⟨?_, ?_⟩
  · refine int_eq ?_
    omega
  refine ⟨?_, ?_⟩
  · (subst_vars; unfold cmpS; (repeat first | rw [if_pos (by omega)] | rw [if_neg (by omega)]); (try simp only [vEq_iff, vNe_iff, vLt_iff, vLe_iff]); (try rfl))
  exact H
theorem cmp64X (H : Sat g w l) (k a b c d : Int) : Fc Tryz.prog 116 #[.int .u8 k, .int .i64 a, .int .i64 b, .int .u64 c, .int .u64 d] w (fun v w' => ∃ r, v = .int .i64 r ∧ r = cmpS k a b c d ∧ Sat g w' l) := by
  refine Fc.of Tryz.func116 rfl (by kernel_rfl) ?_
  refine bk ?_
  refine cI (fun c1 => ?_) (fun c1 => ?_)
  · replace c1 := vEq_t (c1)
    refine CallP.mk (Fc.imp (Go.Proofs.YtndhikahjmgamaaGreatDoor.Num.truthX H _) ?_)
    clear H
    rintro _ w1 ⟨r1, ⟨rfl, ⟨h1, H⟩⟩⟩
    refine Done.mk ?_
    refine ⟨r1, ?_⟩
    refine ⟨?_, ?_⟩
    · refine int_eq ?_
      omega
    refine ⟨?_, ?_⟩
    · (subst_vars; unfold cmpS; (repeat first | rw [if_pos (by omega)] | rw [if_neg (by omega)]); (try simp only [vEq_iff, vNe_iff, vLt_iff, vLe_iff]); (try rfl))
    exact H
  replace c1 := vEq_f (c1)
  refine cI (fun c2 => ?_) (fun c2 => ?_)
  · replace c2 := vEq_t (c2)
    refine CallP.mk (Fc.imp (Go.Proofs.YtndhikahjmgamaaGreatDoor.Num.truthX H _) ?_)
    clear H
    rintro _ w1 ⟨r1, ⟨rfl, ⟨h1, H⟩⟩⟩
    refine Done.mk ?_
    refine ⟨r1, ?_⟩
    refine ⟨?_, ?_⟩
    · refine int_eq ?_
      omega
    refine ⟨?_, ?_⟩
    · (subst_vars; unfold cmpS; (repeat first | rw [if_pos (by omega)] | rw [if_neg (by omega)]); (try simp only [vEq_iff, vNe_iff, vLt_iff, vLe_iff]); (try rfl))
    exact H
  replace c2 := vEq_f (c2)
  refine cI (fun c3 => ?_) (fun c3 => ?_)
  · replace c3 := vEq_t (c3)
    refine CallP.mk (Fc.imp (Go.Proofs.YtndhikahjmgamaaGreatDoor.Num.truthX H _) ?_)
    clear H
    rintro _ w1 ⟨r1, ⟨rfl, ⟨h1, H⟩⟩⟩
    refine Done.mk ?_
    refine ⟨r1, ?_⟩
    refine ⟨?_, ?_⟩
    · refine int_eq ?_
      omega
    refine ⟨?_, ?_⟩
    · (subst_vars; unfold cmpS; (repeat first | rw [if_pos (by omega)] | rw [if_neg (by omega)]); (try simp only [vEq_iff, vNe_iff, vLt_iff, vLe_iff]); (try rfl))
    exact H
  replace c3 := vEq_f (c3)
  refine cI (fun c4 => ?_) (fun c4 => ?_)
  · replace c4 := vEq_t (c4)
    refine CallP.mk (Fc.imp (Go.Proofs.YtndhikahjmgamaaGreatDoor.Num.truthX H _) ?_)
    clear H
    rintro _ w1 ⟨r1, ⟨rfl, ⟨h1, H⟩⟩⟩
    refine Done.mk ?_
    refine ⟨r1, ?_⟩
    refine ⟨?_, ?_⟩
    · refine int_eq ?_
      omega
    refine ⟨?_, ?_⟩
    · (subst_vars; unfold cmpS; (repeat first | rw [if_pos (by omega)] | rw [if_neg (by omega)]); (try simp only [vEq_iff, vNe_iff, vLt_iff, vLe_iff]); (try rfl))
    exact H
  replace c4 := vEq_f (c4)
  refine cI (fun c5 => ?_) (fun c5 => ?_)
  · replace c5 := vEq_t (c5)
    refine CallP.mk (Fc.imp (Go.Proofs.YtndhikahjmgamaaGreatDoor.Num.truthX H _) ?_)
    clear H
    rintro _ w1 ⟨r1, ⟨rfl, ⟨h1, H⟩⟩⟩
    refine Done.mk ?_
    refine ⟨r1, ?_⟩
    refine ⟨?_, ?_⟩
    · refine int_eq ?_
      omega
    refine ⟨?_, ?_⟩
    · (subst_vars; unfold cmpS; (repeat first | rw [if_pos (by omega)] | rw [if_neg (by omega)]); (try simp only [vEq_iff, vNe_iff, vLt_iff, vLe_iff]); (try rfl))
    exact H
  replace c5 := vEq_f (c5)
  refine cI (fun c6 => ?_) (fun c6 => ?_)
  · replace c6 := vEq_t (c6)
    refine CallP.mk (Fc.imp (Go.Proofs.YtndhikahjmgamaaGreatDoor.Num.truthX H _) ?_)
    clear H
    rintro _ w1 ⟨r1, ⟨rfl, ⟨h1, H⟩⟩⟩
    refine Done.mk ?_
    refine ⟨r1, ?_⟩
    refine ⟨?_, ?_⟩
    · refine int_eq ?_
      omega
    refine ⟨?_, ?_⟩
    · (subst_vars; unfold cmpS; (repeat first | rw [if_pos (by omega)] | rw [if_neg (by omega)]); (try simp only [vEq_iff, vNe_iff, vLt_iff, vLe_iff]); (try rfl))
    exact H
  replace c6 := vEq_f (c6)
  refine cI (fun c7 => ?_) (fun c7 => ?_)
  · replace c7 := vEq_t (c7)
    refine CallP.mk (Fc.imp (Go.Proofs.YtndhikahjmgamaaGreatDoor.Num.truthX H _) ?_)
    clear H
    rintro _ w1 ⟨r1, ⟨rfl, ⟨h1, H⟩⟩⟩
    refine Done.mk ?_
    refine ⟨r1, ?_⟩
    refine ⟨?_, ?_⟩
    · refine int_eq ?_
      omega
    refine ⟨?_, ?_⟩
    · (subst_vars; unfold cmpS; (repeat first | rw [if_pos (by omega)] | rw [if_neg (by omega)]); (try simp only [vEq_iff, vNe_iff, vLt_iff, vLe_iff]); (try rfl))
    exact H
  replace c7 := vEq_f (c7)
  refine cI (fun c8 => ?_) (fun c8 => ?_)
  · replace c8 := vEq_t (c8)
    refine CallP.mk (Fc.imp (Go.Proofs.YtndhikahjmgamaaGreatDoor.Num.truthX H _) ?_)
    clear H
    rintro _ w1 ⟨r1, ⟨rfl, ⟨h1, H⟩⟩⟩
    refine Done.mk ?_
    refine ⟨r1, ?_⟩
    refine ⟨?_, ?_⟩
    · refine int_eq ?_
      omega
    refine ⟨?_, ?_⟩
    · (subst_vars; unfold cmpS; (repeat first | rw [if_pos (by omega)] | rw [if_neg (by omega)]); (try simp only [vEq_iff, vNe_iff, vLt_iff, vLe_iff]); (try rfl))
    exact H
  replace c8 := vEq_f (c8)
  refine cI (fun c9 => ?_) (fun c9 => ?_)
  · replace c9 := vEq_t (c9)
    refine CallP.mk (Fc.imp (Go.Proofs.YtndhikahjmgamaaGreatDoor.Num.truthX H _) ?_)
    clear H
    rintro _ w1 ⟨r1, ⟨rfl, ⟨h1, H⟩⟩⟩
    refine Done.mk ?_
    refine ⟨r1, ?_⟩
    refine ⟨?_, ?_⟩
    · refine int_eq ?_
      omega
    refine ⟨?_, ?_⟩
    · (subst_vars; unfold cmpS; (repeat first | rw [if_pos (by omega)] | rw [if_neg (by omega)]); (try simp only [vEq_iff, vNe_iff, vLt_iff, vLe_iff]); (try rfl))
    exact H
  replace c9 := vEq_f (c9)
  refine CallP.mk (Fc.imp (Go.Proofs.YtndhikahjmgamaaGreatDoor.Num.truthX H _) ?_)
  clear H
  rintro _ w1 ⟨r1, ⟨rfl, ⟨h1, H⟩⟩⟩
  refine Done.mk ?_
  refine ⟨r1, ?_⟩
  refine ⟨?_, ?_⟩
  · refine int_eq ?_
    omega
  refine ⟨?_, ?_⟩
  · (subst_vars; unfold cmpS; (repeat first | rw [if_pos (by omega)] | rw [if_neg (by omega)]); (try simp only [vEq_iff, vNe_iff, vLt_iff, vLe_iff]); (try rfl))
  exact H
theorem div32X (H : Sat g w l) (k a b c d : Int) (ha : -2147483648 ≤ a ∧ a ≤ 2147483647) (hb : -2147483648 ≤ b ∧ b ≤ 2147483647) (hd : d = vWrap .u32 b) : Fc Tryz.prog 117 #[.int .u8 k, .int .i32 a, .int .i32 b, .int .u32 c, .int .u32 d] w (fun v w' => ∃ q e, v = .tuple #[.int .i64 q, .int .i64 e] ∧ (q, e) = divS .i32 k a b c d ∧ Sat g w' l) := by
  have hz : b ≠ 0 → d ≠ 0 := fun h => by rw [hd]; exact wz32 hb h
  refine Fc.of Tryz.func117 rfl (by kernel_rfl) ?_
  refine cI (fun c1 => ?_) (fun c1 => ?_)
  · replace c1 := vEq_t (c1)
    refine Done.mk ?_
    refine ⟨0, 21, ?_⟩
    refine ⟨?_, ?_⟩
    · rfl
    refine ⟨?_, ?_⟩
    · (unfold divS; (repeat first | rw [if_pos (by first | omega | exact ⟨by assumption, by assumption, by assumption⟩)] | rw [if_neg (by first | omega | exact fun k => absurd k.2.2 (by assumption))]))
    exact H
  replace c1 := vEq_f (c1)
  refine bk ?_
  refine cI (fun c2 => ?_) (fun c2 => ?_)
  · replace c2 := vEq_t (c2)
    refine br (fun c3 => ?_) (fun c3 => ?_)
    · replace c3 := vEq_t (c3)
      refine br (fun c4 => ?_) (fun c4 => ?_)
      · replace c4 := vNe_t (c4)
        refine EqP.keep ?_
        refine cI (fun c5 => ?_) (fun c5 => ?_)
        · replace c5 := vEq_t (c5)
          refine Done.mk ?_
          refine ⟨0, 22, ?_⟩
          refine ⟨?_, ?_⟩
          · rfl
          refine ⟨?_, ?_⟩
          · (unfold divS; (repeat first | rw [if_pos (by first | omega | exact ⟨by assumption, by assumption, by assumption⟩)] | rw [if_neg (by first | omega | exact fun k => absurd k.2.2 (by assumption))]))
          exact H
        replace c5 := vEq_f (c5)
        refine DivP.mk (by omega) ?_
        refine EqP.keep ?_
        refine rConvInt rfl rfl ?_
        refine Done.mk ?_
        refine ⟨vWrap IntKind.i64 (vQuo IntKind.i32 a b), 0, ?_⟩
        refine ⟨?_, ?_⟩
        · rfl
        refine ⟨?_, ?_⟩
        · (unfold divS; (repeat first | rw [if_pos (by first | omega | exact ⟨by assumption, by assumption, by assumption⟩)] | rw [if_neg (by first | omega | exact fun k => absurd k.2.2 (by assumption))]))
        exact H
      replace c4 := vNe_f (c4)
      refine cF rfl ?_
      refine DivP.mk (by omega) ?_
      refine EqP.keep ?_
      refine rConvInt rfl rfl ?_
      refine Done.mk ?_
      refine ⟨vWrap IntKind.i64 (vQuo IntKind.i32 a b), 0, ?_⟩
      refine ⟨?_, ?_⟩
      · rfl
      refine ⟨?_, ?_⟩
      · (unfold divS; (repeat first | rw [if_pos (by first | omega | exact ⟨by assumption, by assumption, by assumption⟩)] | rw [if_neg (by first | omega | exact fun k => absurd k.2.2 (by assumption))]))
      exact H
    replace c3 := vEq_f (c3)
    refine cF rfl ?_
    refine DivP.mk (by omega) ?_
    refine EqP.keep ?_
    refine rConvInt rfl rfl ?_
    refine Done.mk ?_
    refine ⟨vWrap IntKind.i64 (vQuo IntKind.i32 a b), 0, ?_⟩
    refine ⟨?_, ?_⟩
    · rfl
    refine ⟨?_, ?_⟩
    · (unfold divS; (repeat first | rw [if_pos (by first | omega | exact ⟨by assumption, by assumption, by assumption⟩)] | rw [if_neg (by first | omega | exact fun k => absurd k.2.2 (by assumption))]))
    exact H
  replace c2 := vEq_f (c2)
  refine cI (fun c3 => ?_) (fun c3 => ?_)
  · replace c3 := vEq_t (c3)
    refine DivP.mk (by omega) ?_
    refine EqP.keep ?_
    refine rConvInt rfl rfl ?_
    refine Done.mk ?_
    refine ⟨vWrap IntKind.i64 (vQuo IntKind.u32 c d), 0, ?_⟩
    refine ⟨?_, ?_⟩
    · rfl
    refine ⟨?_, ?_⟩
    · (unfold divS; (repeat first | rw [if_pos (by first | omega | exact ⟨by assumption, by assumption, by assumption⟩)] | rw [if_neg (by first | omega | exact fun k => absurd k.2.2 (by assumption))]))
      rfl
    exact H
  replace c3 := vEq_f (c3)
  refine cI (fun c4 => ?_) (fun c4 => ?_)
  · replace c4 := vEq_t (c4)
    refine cI (fun c5 => ?_) (fun c5 => ?_)
    · replace c5 := vEq_t (c5)
      refine Done.mk ?_
      refine ⟨0, 0, ?_⟩
      refine ⟨?_, ?_⟩
      · rfl
      refine ⟨?_, ?_⟩
      · (unfold divS; (repeat first | rw [if_pos (by first | omega | exact ⟨by assumption, by assumption, by assumption⟩)] | rw [if_neg (by first | omega | exact fun k => absurd k.2.2 (by assumption))]))
      exact H
    replace c5 := vEq_f (c5)
    refine DivP.mk (by omega) ?_
    refine EqP.keep ?_
    refine rConvInt rfl rfl ?_
    refine Done.mk ?_
    refine ⟨vWrap IntKind.i64 (vRem a b), 0, ?_⟩
    refine ⟨?_, ?_⟩
    · rfl
    refine ⟨?_, ?_⟩
    · (unfold divS; (repeat first | rw [if_pos (by first | omega | exact ⟨by assumption, by assumption, by assumption⟩)] | rw [if_neg (by first | omega | exact fun k => absurd k.2.2 (by assumption))]))
    exact H
  replace c4 := vEq_f (c4)
  refine DivP.mk (by omega) ?_
  refine EqP.keep ?_
  refine rConvInt rfl rfl ?_
  refine Done.mk ?_
  refine ⟨vWrap IntKind.i64 (vRem c d), 0, ?_⟩
  refine ⟨?_, ?_⟩
  · rfl
  refine ⟨?_, ?_⟩
  · (unfold divS; (repeat first | rw [if_pos (by first | omega | exact ⟨by assumption, by assumption, by assumption⟩)] | rw [if_neg (by first | omega | exact fun k => absurd k.2.2 (by assumption))]))
  exact H
theorem div64X (H : Sat g w l) (k a b c d : Int) (ha : -9223372036854775808 ≤ a ∧ a ≤ 9223372036854775807) (hb : -9223372036854775808 ≤ b ∧ b ≤ 9223372036854775807) (hd : d = vWrap .u64 b) : Fc Tryz.prog 118 #[.int .u8 k, .int .i64 a, .int .i64 b, .int .u64 c, .int .u64 d] w (fun v w' => ∃ q e, v = .tuple #[.int .i64 q, .int .i64 e] ∧ (q, e) = divS .i64 k a b c d ∧ Sat g w' l) := by
  have hz : b ≠ 0 → d ≠ 0 := fun h => by rw [hd]; exact wz64 hb h
  refine Fc.of Tryz.func118 rfl (by kernel_rfl) ?_
  refine cI (fun c1 => ?_) (fun c1 => ?_)
  · replace c1 := vEq_t (c1)
    refine Done.mk ?_
    refine ⟨0, 21, ?_⟩
    refine ⟨?_, ?_⟩
    · rfl
    refine ⟨?_, ?_⟩
    · (unfold divS; (repeat first | rw [if_pos (by first | omega | exact ⟨by assumption, by assumption, by assumption⟩)] | rw [if_neg (by first | omega | exact fun k => absurd k.2.2 (by assumption))]))
    exact H
  replace c1 := vEq_f (c1)
  refine bk ?_
  refine cI (fun c2 => ?_) (fun c2 => ?_)
  · replace c2 := vEq_t (c2)
    refine br (fun c3 => ?_) (fun c3 => ?_)
    · replace c3 := vEq_t (c3)
      refine br (fun c4 => ?_) (fun c4 => ?_)
      · replace c4 := vNe_t (c4)
        refine EqP.keep ?_
        refine cI (fun c5 => ?_) (fun c5 => ?_)
        · replace c5 := vEq_t (c5)
          refine Done.mk ?_
          refine ⟨0, 22, ?_⟩
          refine ⟨?_, ?_⟩
          · rfl
          refine ⟨?_, ?_⟩
          · (unfold divS; (repeat first | rw [if_pos (by first | omega | exact ⟨by assumption, by assumption, by assumption⟩)] | rw [if_neg (by first | omega | exact fun k => absurd k.2.2 (by assumption))]))
          exact H
        replace c5 := vEq_f (c5)
        refine DivP.mk (by omega) ?_
        refine EqP.keep ?_
        refine Done.mk ?_
        refine ⟨vQuo IntKind.i64 a b, 0, ?_⟩
        refine ⟨?_, ?_⟩
        · rfl
        refine ⟨?_, ?_⟩
        · (unfold divS; (repeat first | rw [if_pos (by first | omega | exact ⟨by assumption, by assumption, by assumption⟩)] | rw [if_neg (by first | omega | exact fun k => absurd k.2.2 (by assumption))]))
          exact congrArg (fun z => (z, (0 : Int))) (wi64 (quo64 _ _)).symm
        exact H
      replace c4 := vNe_f (c4)
      refine cF rfl ?_
      refine DivP.mk (by omega) ?_
      refine EqP.keep ?_
      refine Done.mk ?_
      refine ⟨vQuo IntKind.i64 a b, 0, ?_⟩
      refine ⟨?_, ?_⟩
      · rfl
      refine ⟨?_, ?_⟩
      · (unfold divS; (repeat first | rw [if_pos (by first | omega | exact ⟨by assumption, by assumption, by assumption⟩)] | rw [if_neg (by first | omega | exact fun k => absurd k.2.2 (by assumption))]))
        exact congrArg (fun z => (z, (0 : Int))) (wi64 (quo64 _ _)).symm
      exact H
    replace c3 := vEq_f (c3)
    refine cF rfl ?_
    refine DivP.mk (by omega) ?_
    refine EqP.keep ?_
    refine Done.mk ?_
    refine ⟨vQuo IntKind.i64 a b, 0, ?_⟩
    refine ⟨?_, ?_⟩
    · rfl
    refine ⟨?_, ?_⟩
    · (unfold divS; (repeat first | rw [if_pos (by first | omega | exact ⟨by assumption, by assumption, by assumption⟩)] | rw [if_neg (by first | omega | exact fun k => absurd k.2.2 (by assumption))]))
      exact congrArg (fun z => (z, (0 : Int))) (wi64 (quo64 _ _)).symm
    exact H
  replace c2 := vEq_f (c2)
  refine cI (fun c3 => ?_) (fun c3 => ?_)
  · replace c3 := vEq_t (c3)
    refine DivP.mk (by omega) ?_
    refine EqP.keep ?_
    refine rConvInt rfl rfl ?_
    refine Done.mk ?_
    refine ⟨vWrap IntKind.i64 (vQuo IntKind.u64 c d), 0, ?_⟩
    refine ⟨?_, ?_⟩
    · rfl
    refine ⟨?_, ?_⟩
    · (unfold divS; (repeat first | rw [if_pos (by first | omega | exact ⟨by assumption, by assumption, by assumption⟩)] | rw [if_neg (by first | omega | exact fun k => absurd k.2.2 (by assumption))]))
      rfl
    exact H
  replace c3 := vEq_f (c3)
  refine cI (fun c4 => ?_) (fun c4 => ?_)
  · replace c4 := vEq_t (c4)
    refine cI (fun c5 => ?_) (fun c5 => ?_)
    · replace c5 := vEq_t (c5)
      refine Done.mk ?_
      refine ⟨0, 0, ?_⟩
      refine ⟨?_, ?_⟩
      · rfl
      refine ⟨?_, ?_⟩
      · (unfold divS; (repeat first | rw [if_pos (by first | omega | exact ⟨by assumption, by assumption, by assumption⟩)] | rw [if_neg (by first | omega | exact fun k => absurd k.2.2 (by assumption))]))
      exact H
    replace c5 := vEq_f (c5)
    refine DivP.mk (by omega) ?_
    refine EqP.keep ?_
    refine Done.mk ?_
    refine ⟨vRem a b, 0, ?_⟩
    refine ⟨?_, ?_⟩
    · rfl
    refine ⟨?_, ?_⟩
    · (unfold divS; (repeat first | rw [if_pos (by first | omega | exact ⟨by assumption, by assumption, by assumption⟩)] | rw [if_neg (by first | omega | exact fun k => absurd k.2.2 (by assumption))]))
      exact congrArg (fun z => (z, (0 : Int))) (wi64 (rem64 (by omega))).symm
    exact H
  replace c4 := vEq_f (c4)
  refine DivP.mk (by omega) ?_
  refine EqP.keep ?_
  refine rConvInt rfl rfl ?_
  refine Done.mk ?_
  refine ⟨vWrap IntKind.i64 (vRem c d), 0, ?_⟩
  refine ⟨?_, ?_⟩
  · rfl
  refine ⟨?_, ?_⟩
  · (unfold divS; (repeat first | rw [if_pos (by first | omega | exact ⟨by assumption, by assumption, by assumption⟩)] | rw [if_neg (by first | omega | exact fun k => absurd k.2.2 (by assumption))]))
  exact H
theorem rk32X (H : Sat g w l) (k a b : Int) (hb : 0 ≤ b ∧ b ≤ 4294967295) : Fc Tryz.prog 119 #[.int .u8 k, .int .u32 a, .int .u32 b, .int .i64 32] w (fun v w' => ∃ r, v = .int .u32 r ∧ Sat g w' l) := by
  refine Fc.of Tryz.func119 rfl (by kernel_rfl) ?_
  refine eqI64 (by omega) ?_
  refine rConvU32 (by omega) rfl rfl ?_
  (refine eqAndU32 ((b).toNat) ((32 - 1)) (by omega) (by omega) (by omega) (by omega) ?_; intro hA1 hA2)
  refine rConvI64 (by omega) rfl rfl ?_
  refine bk ?_
  refine cI (fun c1 => ?_) (fun c1 => ?_)
  · replace c1 := vEq_t (c1)
    refine eqWrapMU32 ?_
    refine Done.mk ?_
    refine ⟨(a + b) % 4294967296, ?_⟩
    refine ⟨?_, ?_⟩
    · refine int_eq ?_
      omega
    exact H
  replace c1 := vEq_f (c1)
  refine cI (fun c2 => ?_) (fun c2 => ?_)
  · replace c2 := vEq_t (c2)
    refine eqWrapMU32 ?_
    refine Done.mk ?_
    refine ⟨(a - b) % 4294967296, ?_⟩
    refine ⟨?_, ?_⟩
    · refine int_eq ?_
      omega
    exact H
  replace c2 := vEq_f (c2)
  refine cI (fun c3 => ?_) (fun c3 => ?_)
  · replace c3 := vEq_t (c3)
    refine eqWrapMU32 ?_
    refine Done.mk ?_
    refine ⟨a * b % 4294967296, ?_⟩
    refine ⟨?_, ?_⟩
    · refine int_eq ?_
      omega
    exact H
  replace c3 := vEq_f (c3)
  refine cI (fun c4 => ?_) (fun c4 => ?_)
  · replace c4 := vEq_t (c4)
    refine EqP.keep ?_
    refine Done.mk ?_
    refine ⟨vAnd IntKind.u32 a b, ?_⟩
    refine ⟨?_, ?_⟩
    · refine int_eq ?_
      omega
    exact H
  replace c4 := vEq_f (c4)
  refine cI (fun c5 => ?_) (fun c5 => ?_)
  · replace c5 := vEq_t (c5)
    refine EqP.keep ?_
    refine Done.mk ?_
    refine ⟨vOr IntKind.u32 a b, ?_⟩
    refine ⟨?_, ?_⟩
    · refine int_eq ?_
      omega
    exact H
  replace c5 := vEq_f (c5)
  refine cI (fun c6 => ?_) (fun c6 => ?_)
  · replace c6 := vEq_t (c6)
    refine EqP.keep ?_
    refine Done.mk ?_
    refine ⟨vXor IntKind.u32 a b, ?_⟩
    refine ⟨?_, ?_⟩
    · refine int_eq ?_
      omega
    exact H
  replace c6 := vEq_f (c6)
  refine cI (fun c7 => ?_) (fun c7 => ?_)
  · replace c7 := vEq_t (c7)
    refine ShiftP.mk (by omega) ?_
    refine EqP.keep ?_
    refine Done.mk ?_
    refine ⟨vShl IntKind.u32 a (↑(b.toNat &&& 32 - 1) : Int), ?_⟩
    refine ⟨?_, ?_⟩
    · refine int_eq ?_
      omega
    exact H
  replace c7 := vEq_f (c7)
  refine cI (fun c8 => ?_) (fun c8 => ?_)
  · replace c8 := vEq_t (c8)
    refine ShiftP.mk (by omega) ?_
    refine EqP.keep ?_
    refine br (fun c9 => ?_) (fun c9 => ?_)
    · replace c9 := vLt_t (c9)
      refine eqI64 (by omega) ?_
      refine ShiftP.mk (by decide) ?_
      refine EqP.keep ?_
      refine cI (fun c10 => ?_) (fun c10 => ?_)
      · replace c10 := vNe_t (c10)
        refine rConvU32 (by omega) rfl rfl ?_
        refine rNotU32 (by omega) (by omega) ?_
        refine eqI64 (by omega) ?_
        refine ShiftP.mk (by omega) ?_
        refine EqP.keep ?_
        refine EqP.keep ?_
        refine Done.mk ?_
        refine ⟨vOr IntKind.u32 (vShr IntKind.u32 a (↑(b.toNat &&& 32 - 1) : Int)) (vShl IntKind.u32 (4294967295 - 0) (32 - (↑(b.toNat &&& 32 - 1) : Int))), ?_⟩
        refine ⟨?_, ?_⟩
        · refine int_eq ?_
          omega
        exact H
      replace c10 := vNe_f (c10)
      refine Done.mk ?_
      refine ⟨vShr IntKind.u32 a (↑(b.toNat &&& 32 - 1) : Int), ?_⟩
      refine ⟨?_, ?_⟩
      · refine int_eq ?_
        omega
      exact H
    replace c9 := vLt_f (c9)
    refine cF rfl ?_
    refine Done.mk ?_
    refine ⟨vShr IntKind.u32 a (↑(b.toNat &&& 32 - 1) : Int), ?_⟩
    refine ⟨?_, ?_⟩
    · refine int_eq ?_
      omega
    exact H
  replace c8 := vEq_f (c8)
  refine cI (fun c9 => ?_) (fun c9 => ?_)
  · replace c9 := vEq_t (c9)
    refine ShiftP.mk (by omega) ?_
    refine EqP.keep ?_
    refine Done.mk ?_
    refine ⟨vShr IntKind.u32 a (↑(b.toNat &&& 32 - 1) : Int), ?_⟩
    refine ⟨?_, ?_⟩
    · refine int_eq ?_
      omega
    exact H
  replace c9 := vEq_f (c9)
  refine cI (fun c10 => ?_) (fun c10 => ?_)
  · replace c10 := vEq_t (c10)
    refine drawzS H [] [(0, .pure), (1, .pure), (2, .pure), (3, .pure), (4, .pure), (5, .pure), (6, .pure), (7, .pure), (8, .pure), (9, .pure)] mixed (by kernel_rfl) (by kernel_rfl) ?_
    clear H
    intro w1 H
    refine ShiftP.mk (by omega) ?_
    refine EqP.keep ?_
    refine eqI64 (by omega) ?_
    refine ShiftP.mk (by omega) ?_
    refine EqP.keep ?_
    refine EqP.keep ?_
    refine Done.mk ?_
    refine ⟨vOr IntKind.u32 (vShl IntKind.u32 a (↑(b.toNat &&& 32 - 1) : Int)) (vShr IntKind.u32 a (32 - (↑(b.toNat &&& 32 - 1) : Int))), ?_⟩
    refine ⟨?_, ?_⟩
    · refine int_eq ?_
      omega
    exact H
  replace c10 := vEq_f (c10)
  refine drawzS H [] [(0, .pure), (1, .pure), (2, .pure), (3, .pure), (4, .pure), (5, .pure), (6, .pure), (7, .pure), (8, .pure), (9, .pure)] mixed (by kernel_rfl) (by kernel_rfl) ?_
  clear H
  intro w1 H
  refine ShiftP.mk (by omega) ?_
  refine EqP.keep ?_
  refine eqI64 (by omega) ?_
  refine ShiftP.mk (by omega) ?_
  refine EqP.keep ?_
  refine EqP.keep ?_
  refine Done.mk ?_
  refine ⟨vOr IntKind.u32 (vShr IntKind.u32 a (↑(b.toNat &&& 32 - 1) : Int)) (vShl IntKind.u32 a (32 - (↑(b.toNat &&& 32 - 1) : Int))), ?_⟩
  refine ⟨?_, ?_⟩
  · refine int_eq ?_
    omega
  exact H
theorem rk64X (H : Sat g w l) (k a b : Int) (hb : 0 ≤ b ∧ b ≤ 18446744073709551615) : Fc Tryz.prog 120 #[.int .u8 k, .int .u64 a, .int .u64 b, .int .i64 64] w (fun v w' => ∃ r, v = .int .u64 r ∧ Sat g w' l) := by
  refine Fc.of Tryz.func120 rfl (by kernel_rfl) ?_
  refine eqI64 (by omega) ?_
  refine rConvU64 (by omega) rfl rfl ?_
  (refine eqAndU64 ((b).toNat) ((64 - 1)) (by omega) (by omega) (by omega) (by omega) ?_; intro hA1 hA2)
  refine rConvI64 (by omega) rfl rfl ?_
  refine bk ?_
  refine cI (fun c1 => ?_) (fun c1 => ?_)
  · replace c1 := vEq_t (c1)
    refine eqWrapMU64 ?_
    refine Done.mk ?_
    refine ⟨(a + b) % 18446744073709551616, ?_⟩
    refine ⟨?_, ?_⟩
    · refine int_eq ?_
      omega
    exact H
  replace c1 := vEq_f (c1)
  refine cI (fun c2 => ?_) (fun c2 => ?_)
  · replace c2 := vEq_t (c2)
    refine eqWrapMU64 ?_
    refine Done.mk ?_
    refine ⟨(a - b) % 18446744073709551616, ?_⟩
    refine ⟨?_, ?_⟩
    · refine int_eq ?_
      omega
    exact H
  replace c2 := vEq_f (c2)
  refine cI (fun c3 => ?_) (fun c3 => ?_)
  · replace c3 := vEq_t (c3)
    refine eqWrapMU64 ?_
    refine Done.mk ?_
    refine ⟨a * b % 18446744073709551616, ?_⟩
    refine ⟨?_, ?_⟩
    · refine int_eq ?_
      omega
    exact H
  replace c3 := vEq_f (c3)
  refine cI (fun c4 => ?_) (fun c4 => ?_)
  · replace c4 := vEq_t (c4)
    refine EqP.keep ?_
    refine Done.mk ?_
    refine ⟨vAnd IntKind.u64 a b, ?_⟩
    refine ⟨?_, ?_⟩
    · refine int_eq ?_
      omega
    exact H
  replace c4 := vEq_f (c4)
  refine cI (fun c5 => ?_) (fun c5 => ?_)
  · replace c5 := vEq_t (c5)
    refine EqP.keep ?_
    refine Done.mk ?_
    refine ⟨vOr IntKind.u64 a b, ?_⟩
    refine ⟨?_, ?_⟩
    · refine int_eq ?_
      omega
    exact H
  replace c5 := vEq_f (c5)
  refine cI (fun c6 => ?_) (fun c6 => ?_)
  · replace c6 := vEq_t (c6)
    refine EqP.keep ?_
    refine Done.mk ?_
    refine ⟨vXor IntKind.u64 a b, ?_⟩
    refine ⟨?_, ?_⟩
    · refine int_eq ?_
      omega
    exact H
  replace c6 := vEq_f (c6)
  refine cI (fun c7 => ?_) (fun c7 => ?_)
  · replace c7 := vEq_t (c7)
    refine ShiftP.mk (by omega) ?_
    refine EqP.keep ?_
    refine Done.mk ?_
    refine ⟨vShl IntKind.u64 a (↑(b.toNat &&& 64 - 1) : Int), ?_⟩
    refine ⟨?_, ?_⟩
    · refine int_eq ?_
      omega
    exact H
  replace c7 := vEq_f (c7)
  refine cI (fun c8 => ?_) (fun c8 => ?_)
  · replace c8 := vEq_t (c8)
    refine ShiftP.mk (by omega) ?_
    refine EqP.keep ?_
    refine br (fun c9 => ?_) (fun c9 => ?_)
    · replace c9 := vLt_t (c9)
      refine eqI64 (by omega) ?_
      refine ShiftP.mk (by decide) ?_
      refine EqP.keep ?_
      refine cI (fun c10 => ?_) (fun c10 => ?_)
      · replace c10 := vNe_t (c10)
        refine rConvU64 (by omega) rfl rfl ?_
        refine rNotU64 (by omega) (by omega) ?_
        refine eqI64 (by omega) ?_
        refine ShiftP.mk (by omega) ?_
        refine EqP.keep ?_
        refine EqP.keep ?_
        refine Done.mk ?_
        refine ⟨vOr IntKind.u64 (vShr IntKind.u64 a (↑(b.toNat &&& 64 - 1) : Int)) (vShl IntKind.u64 (18446744073709551615 - 0) (64 - (↑(b.toNat &&& 64 - 1) : Int))), ?_⟩
        refine ⟨?_, ?_⟩
        · refine int_eq ?_
          omega
        exact H
      replace c10 := vNe_f (c10)
      refine Done.mk ?_
      refine ⟨vShr IntKind.u64 a (↑(b.toNat &&& 64 - 1) : Int), ?_⟩
      refine ⟨?_, ?_⟩
      · refine int_eq ?_
        omega
      exact H
    replace c9 := vLt_f (c9)
    refine cF rfl ?_
    refine Done.mk ?_
    refine ⟨vShr IntKind.u64 a (↑(b.toNat &&& 64 - 1) : Int), ?_⟩
    refine ⟨?_, ?_⟩
    · refine int_eq ?_
      omega
    exact H
  replace c8 := vEq_f (c8)
  refine cI (fun c9 => ?_) (fun c9 => ?_)
  · replace c9 := vEq_t (c9)
    refine ShiftP.mk (by omega) ?_
    refine EqP.keep ?_
    refine Done.mk ?_
    refine ⟨vShr IntKind.u64 a (↑(b.toNat &&& 64 - 1) : Int), ?_⟩
    refine ⟨?_, ?_⟩
    · refine int_eq ?_
      omega
    exact H
  replace c9 := vEq_f (c9)
  refine cI (fun c10 => ?_) (fun c10 => ?_)
  · replace c10 := vEq_t (c10)
    refine drawzS H [] [(0, .pure), (1, .pure), (2, .pure), (3, .pure), (4, .pure), (5, .pure), (6, .pure), (7, .pure), (8, .pure), (9, .pure)] mixed (by kernel_rfl) (by kernel_rfl) ?_
    clear H
    intro w1 H
    refine ShiftP.mk (by omega) ?_
    refine EqP.keep ?_
    refine eqI64 (by omega) ?_
    refine ShiftP.mk (by omega) ?_
    refine EqP.keep ?_
    refine EqP.keep ?_
    refine Done.mk ?_
    refine ⟨vOr IntKind.u64 (vShl IntKind.u64 a (↑(b.toNat &&& 64 - 1) : Int)) (vShr IntKind.u64 a (64 - (↑(b.toNat &&& 64 - 1) : Int))), ?_⟩
    refine ⟨?_, ?_⟩
    · refine int_eq ?_
      omega
    exact H
  replace c10 := vEq_f (c10)
  refine drawzS H [] [(0, .pure), (1, .pure), (2, .pure), (3, .pure), (4, .pure), (5, .pure), (6, .pure), (7, .pure), (8, .pure), (9, .pure)] mixed (by kernel_rfl) (by kernel_rfl) ?_
  clear H
  intro w1 H
  refine ShiftP.mk (by omega) ?_
  refine EqP.keep ?_
  refine eqI64 (by omega) ?_
  refine ShiftP.mk (by omega) ?_
  refine EqP.keep ?_
  refine EqP.keep ?_
  refine Done.mk ?_
  refine ⟨vOr IntKind.u64 (vShr IntKind.u64 a (↑(b.toNat &&& 64 - 1) : Int)) (vShl IntKind.u64 a (64 - (↑(b.toNat &&& 64 - 1) : Int))), ?_⟩
  refine ⟨?_, ?_⟩
  · refine int_eq ?_
    omega
  exact H
end
end Go.Proofs.YtndhikahjmgamaaGreatDoor.Num
/- Package num: Two: its fault, and how far its number goes. -/
set_option maxRecDepth 100000
set_option maxHeartbeats 4000000
set_option linter.unusedVariables false
set_option linter.unusedSimpArgs false
namespace Go.Proofs.YtndhikahjmgamaaGreatDoor.Num
open Go Go.Proofs.YtndhikahjmgamaaGreatDoor.Eng Go.RowKit
structure TwoR (op a b r e : Int) : Prop where
  e : e = (twoS op a b).2
  rng : I64 r
  r32 : op ≤ 90 ∨ (106 ≤ op ∧ op ≤ 120) → -2147483648 ≤ r ∧ r ≤ 2147483647
theorem b2i_01 (b : Bool) : 0 ≤ b2i b ∧ b2i b ≤ 1 := by cases b <;> decide
theorem cmp_01 (k a b c d : Int) : 0 ≤ cmpS k a b c d ∧ cmpS k a b c d ≤ 1 := by
  unfold cmpS
  repeat' split
  all_goals exact b2i_01 _
theorem wrap32 (a : Int) : -2147483648 ≤ vWrap .i32 a ∧ vWrap .i32 a ≤ 2147483647 := vWrap_range .i32 a
theorem wrap64 (a : Int) : I64 (vWrap .i64 a) := vWrap_range .i64 a
theorem mod32 (b : Int) : b % 4294967296 = vWrap .u32 (vWrap .i32 b) := by
  unfold vWrap; simp [IntKind.wrap, IntKind.bits, IntKind.signed]; omega
theorem mod32' (b : Int) : b % 4294967296 = vWrap .u32 b := by
  unfold vWrap; simp [IntKind.wrap, IntKind.bits, IntKind.signed]
theorem mod64 (b : Int) : b % 18446744073709551616 = vWrap .u64 b := by
  unfold vWrap; simp [IntKind.wrap, IntKind.bits, IntKind.signed]
section
variable {op a b r e k a' b' c d : Int}
theorem two1 (h : 70 ≤ op ∧ op ≤ 79 ∨ 81 ≤ op ∧ op ≤ 90) (hr : r = cmpS k a' b' c d) : TwoR op a b r 0 := by
  have := cmp_01 k a' b' c d
  rw [← hr] at this
  refine ⟨?_, ⟨by omega, by omega⟩, fun _ => by omega⟩
  rcases h with h | h
  · rw [twoS, if_pos h]
  · rw [twoS, if_neg (by omega), if_pos h]
theorem two3 (h : 109 ≤ op ∧ op ≤ 112) {q : Int} (hq : (q, e) = divS .i32 (op - 109) (vWrap .i32 a) (vWrap .i32 b) (a % 4294967296) (b % 4294967296)) : TwoR op a b (vWrap .i64 (vWrap .i32 q)) e := by
  rw [mod32', mod32'] at hq
  rw [wi64 (by have := wrap32 q; omega)]
  have := wrap32 q
  refine ⟨?_, ⟨by omega, by omega⟩, fun _ => this⟩
  rw [twoS, if_neg (by omega), if_neg (by omega), if_pos h, ← hq]
theorem div_rng (w : IntKind) (k a b c d : Int) : I64 (divS w k a b c d).1 := by
  have h0 : I64 0 := ⟨by omega, by omega⟩
  unfold divS
  repeat' split
  all_goals first | exact h0 | exact wrap64 _
theorem two4 (h : 127 ≤ op ∧ op ≤ 130) {q : Int} (hq : (q, e) = divS .i64 (op - 127) a b (a % 18446744073709551616) (b % 18446744073709551616)) : TwoR op a b q e := by
  rw [mod64, mod64] at hq
  refine ⟨?_, ?_, fun h2 => by omega⟩
  · rw [twoS, if_neg (by omega), if_neg (by omega), if_neg (by omega), if_pos h, ← hq]
  · have := div_rng .i64 (op - 127) a b (vWrap .u64 a) (vWrap .u64 b)
    rw [← hq] at this; exact this
theorem two5 (h : 106 ≤ op ∧ op ≤ 120) (h2 : ¬ (109 ≤ op ∧ op ≤ 112)) {q : Int} : TwoR op a b (vWrap .i64 (vWrap .i32 q)) 0 := by
  rw [wi64 (by have := wrap32 q; omega)]
  have := wrap32 q
  refine ⟨?_, ⟨by omega, by omega⟩, fun _ => this⟩
  rw [twoS, if_neg (by omega), if_neg (by omega), if_neg h2, if_neg (by omega), if_pos h]
theorem two6 (h : 124 ≤ op ∧ op ≤ 138) (h2 : ¬ (127 ≤ op ∧ op ≤ 130)) {q : Int} : TwoR op a b (vWrap .i64 q) 0 := by
  refine ⟨?_, wrap64 q, fun h3 => by omega⟩
  rw [twoS, if_neg (by omega), if_neg (by omega), if_neg (by omega), if_neg h2, if_neg (by omega), if_pos h]
theorem two7 (h : ¬ (70 ≤ op ∧ op ≤ 79 ∨ 81 ≤ op ∧ op ≤ 90 ∨ 106 ≤ op ∧ op ≤ 120 ∨ 124 ≤ op ∧ op ≤ 138)) : TwoR op a b 0 6 := by
  refine ⟨?_, ⟨by omega, by omega⟩, fun _ => by omega⟩
  rw [twoS, if_neg (by omega), if_neg (by omega), if_neg (by omega), if_neg (by omega), if_neg (by omega), if_neg (by omega)]
end
section
variable {g : Glob} {w : World} {l : List As}
theorem TwoX (H : Sat g w l) (op a b : Int) (hop : 0 ≤ op ∧ op ≤ 255) (ha : I64 a) (hb : I64 b) : Fc Tryz.prog 73 #[.int .u8 op, .int .i64 a, .int .i64 b] w (fun v w' => ∃ r e, v = .tuple #[.int .i64 r, .int .i64 e] ∧ TwoR op a b r e ∧ Sat g w' l) := by
  refine Fc.of Tryz.func73 rfl (by kernel_rfl) ?_
  refine bk ?_
  refine br (fun c1 => ?_) (fun c1 => ?_)
  · replace c1 := vLe_t (c1)
    refine cI (fun c2 => ?_) (fun c2 => ?_)
    · replace c2 := vLe_t (c2)
      refine eqU8 (by omega) ?_
      refine rConvInt rfl rfl ?_
      refine rConvInt rfl rfl ?_
      refine rConvU32M rfl rfl ?_
      refine rConvU32M rfl rfl ?_
      refine CallP.mk (Fc.imp (Go.Proofs.YtndhikahjmgamaaGreatDoor.Num.cmp32X H _ _ _ _ _) ?_)
      clear H
      rintro _ w1 ⟨r1, ⟨rfl, ⟨h1, H⟩⟩⟩
      refine Done.mk ?_
      refine ⟨r1, 0, ?_⟩
      refine ⟨?_, ?_⟩
      · rfl
      refine ⟨?_, ?_⟩
      · exact two1 (by omega) (by assumption)
      exact H
    replace c2 := vLe_f (c2)
    refine br (fun c3 => ?_) (fun c3 => ?_)
    · replace c3 := vLe_t (c3)
      refine cI (fun c4 => ?_) (fun c4 => ?_)
      · replace c4 := vLe_t (c4)
        refine eqU8 (by omega) ?_
        refine rConvU64M rfl rfl ?_
        refine rConvU64M rfl rfl ?_
        refine CallP.mk (Fc.imp (Go.Proofs.YtndhikahjmgamaaGreatDoor.Num.cmp64X H _ _ _ _ _) ?_)
        clear H
        rintro _ w1 ⟨r1, ⟨rfl, ⟨h1, H⟩⟩⟩
        refine Done.mk ?_
        refine ⟨r1, 0, ?_⟩
        refine ⟨?_, ?_⟩
        · rfl
        refine ⟨?_, ?_⟩
        · exact two1 (by omega) (by assumption)
        exact H
      replace c4 := vLe_f (c4)
      refine br (fun c5 => ?_) (fun c5 => ?_)
      · replace c5 := vLe_t (c5)
        refine cI (fun c6 => ?_) (fun c6 => ?_)
        · replace c6 := vLe_t (c6)
          refine eqU8 (by omega) ?_
          refine rConvInt rfl rfl ?_
          refine rConvInt rfl rfl ?_
          refine rConvU32M rfl rfl ?_
          refine rConvU32M rfl rfl ?_
          refine CallP.mk (Fc.imp (Go.Proofs.YtndhikahjmgamaaGreatDoor.Num.div32X H _ _ _ _ _ ?_ ?_ ?_) ?_)
          · exact wrap32 _
          · exact wrap32 _
          · exact mod32 _
          clear H
          rintro _ w1 ⟨q1, ⟨e1, ⟨rfl, ⟨h1, H⟩⟩⟩⟩
          refine rConvInt rfl rfl ?_
          refine rConvInt rfl rfl ?_
          refine Done.mk ?_
          refine ⟨vWrap IntKind.i64 (vWrap IntKind.i32 q1), e1, ?_⟩
          refine ⟨?_, ?_⟩
          · rfl
          refine ⟨?_, ?_⟩
          · exact two3 (by omega) (by assumption)
          exact H
        replace c6 := vLe_f (c6)
        refine br (fun c7 => ?_) (fun c7 => ?_)
        · replace c7 := vLe_t (c7)
          refine cI (fun c8 => ?_) (fun c8 => ?_)
          · replace c8 := vLe_t (c8)
            refine eqU8 (by omega) ?_
            refine rConvU64M rfl rfl ?_
            refine rConvU64M rfl rfl ?_
            refine CallP.mk (Fc.imp (Go.Proofs.YtndhikahjmgamaaGreatDoor.Num.div64X H _ _ _ _ _ ?_ ?_ ?_) ?_)
            · assumption
            · assumption
            · exact mod64 _
            clear H
            rintro _ w1 ⟨q1, ⟨e1, ⟨rfl, ⟨h1, H⟩⟩⟩⟩
            refine Done.mk ?_
            refine ⟨q1, e1, ?_⟩
            refine ⟨?_, ?_⟩
            · rfl
            refine ⟨?_, ?_⟩
            · exact two4 (by omega) (by assumption)
            exact H
          replace c8 := vLe_f (c8)
          refine br_t (vLe_T (by omega)) ?_
          refine cF (vLe_F (by omega)) ?_
          refine br_t (vLe_T (by omega)) ?_
          refine cI (fun c9 => ?_) (fun c9 => ?_)
          · replace c9 := vLe_t (c9)
            refine eqU8 (by omega) ?_
            refine rConvU64M rfl rfl ?_
            refine rConvU64M rfl rfl ?_
            refine CallP.mk (Fc.imp (Go.Proofs.YtndhikahjmgamaaGreatDoor.Num.rk64X H _ _ _ ?_) ?_)
            · omega
            clear H
            rintro _ w1 ⟨r1, ⟨rfl, H⟩⟩
            refine rConvInt rfl rfl ?_
            refine Done.mk ?_
            refine ⟨vWrap IntKind.i64 r1, 0, ?_⟩
            refine ⟨?_, ?_⟩
            · rfl
            refine ⟨?_, ?_⟩
            · exact two6 (by omega) (by omega)
            exact H
          replace c9 := vLe_f (c9)
          refine Done.mk ?_
          refine ⟨0, 6, ?_⟩
          refine ⟨?_, ?_⟩
          · rfl
          refine ⟨?_, ?_⟩
          · exact two7 (by omega)
          exact H
        replace c7 := vLe_f (c7)
        refine cF rfl ?_
        refine br_t (vLe_T (by omega)) ?_
        refine cI (fun c8 => ?_) (fun c8 => ?_)
        · replace c8 := vLe_t (c8)
          refine eqU8 (by omega) ?_
          refine rConvU32M rfl rfl ?_
          refine rConvU32M rfl rfl ?_
          refine CallP.mk (Fc.imp (Go.Proofs.YtndhikahjmgamaaGreatDoor.Num.rk32X H _ _ _ ?_) ?_)
          · omega
          clear H
          rintro _ w1 ⟨r1, ⟨rfl, H⟩⟩
          refine rConvInt rfl rfl ?_
          refine rConvInt rfl rfl ?_
          refine Done.mk ?_
          refine ⟨vWrap IntKind.i64 (vWrap IntKind.i32 r1), 0, ?_⟩
          refine ⟨?_, ?_⟩
          · rfl
          refine ⟨?_, ?_⟩
          · exact two5 (by omega) (by omega)
          exact H
        replace c8 := vLe_f (c8)
        refine br (fun c9 => ?_) (fun c9 => ?_)
        · replace c9 := vLe_t (c9)
          refine cT (vLe_T (by omega)) ?_
          refine eqU8 (by omega) ?_
          refine rConvU64M rfl rfl ?_
          refine rConvU64M rfl rfl ?_
          refine CallP.mk (Fc.imp (Go.Proofs.YtndhikahjmgamaaGreatDoor.Num.rk64X H _ _ _ ?_) ?_)
          · omega
          clear H
          rintro _ w1 ⟨r1, ⟨rfl, H⟩⟩
          refine rConvInt rfl rfl ?_
          refine Done.mk ?_
          refine ⟨vWrap IntKind.i64 r1, 0, ?_⟩
          refine ⟨?_, ?_⟩
          · rfl
          refine ⟨?_, ?_⟩
          · exact two6 (by omega) (by omega)
          exact H
        replace c9 := vLe_f (c9)
        refine cF rfl ?_
        refine Done.mk ?_
        refine ⟨0, 6, ?_⟩
        refine ⟨?_, ?_⟩
        · rfl
        refine ⟨?_, ?_⟩
        · exact two7 (by omega)
        exact H
      replace c5 := vLe_f (c5)
      refine cF rfl ?_
      refine br_f (vLe_F (by omega)) ?_
      refine cF rfl ?_
      refine br (fun c6 => ?_) (fun c6 => ?_)
      · replace c6 := vLe_t (c6)
        refine cT (vLe_T (by omega)) ?_
        refine eqU8 (by omega) ?_
        refine rConvU32M rfl rfl ?_
        refine rConvU32M rfl rfl ?_
        refine CallP.mk (Fc.imp (Go.Proofs.YtndhikahjmgamaaGreatDoor.Num.rk32X H _ _ _ ?_) ?_)
        · omega
        clear H
        rintro _ w1 ⟨r1, ⟨rfl, H⟩⟩
        refine rConvInt rfl rfl ?_
        refine rConvInt rfl rfl ?_
        refine Done.mk ?_
        refine ⟨vWrap IntKind.i64 (vWrap IntKind.i32 r1), 0, ?_⟩
        refine ⟨?_, ?_⟩
        · rfl
        refine ⟨?_, ?_⟩
        · exact two5 (by omega) (by omega)
        exact H
      replace c6 := vLe_f (c6)
      refine cF rfl ?_
      refine br_f (vLe_F (by omega)) ?_
      refine cF rfl ?_
      refine Done.mk ?_
      refine ⟨0, 6, ?_⟩
      refine ⟨?_, ?_⟩
      · rfl
      refine ⟨?_, ?_⟩
      · exact two7 (by omega)
      exact H
    replace c3 := vLe_f (c3)
    refine cF rfl ?_
    refine br_f (vLe_F (by omega)) ?_
    refine cF rfl ?_
    refine br_f (vLe_F (by omega)) ?_
    refine cF rfl ?_
    refine br_f (vLe_F (by omega)) ?_
    refine cF rfl ?_
    refine br_f (vLe_F (by omega)) ?_
    refine cF rfl ?_
    refine Done.mk ?_
    refine ⟨0, 6, ?_⟩
    refine ⟨?_, ?_⟩
    · rfl
    refine ⟨?_, ?_⟩
    · exact two7 (by omega)
    exact H
  replace c1 := vLe_f (c1)
  refine cF rfl ?_
  refine br_f (vLe_F (by omega)) ?_
  refine cF rfl ?_
  refine br_f (vLe_F (by omega)) ?_
  refine cF rfl ?_
  refine br_f (vLe_F (by omega)) ?_
  refine cF rfl ?_
  refine br_f (vLe_F (by omega)) ?_
  refine cF rfl ?_
  refine br_f (vLe_F (by omega)) ?_
  refine cF rfl ?_
  refine Done.mk ?_
  refine ⟨0, 6, ?_⟩
  refine ⟨?_, ?_⟩
  · rfl
  refine ⟨?_, ?_⟩
  · exact two7 (by omega)
  exact H
end
end Go.Proofs.YtndhikahjmgamaaGreatDoor.Num
/- Plain facts on the bits of numbers: how many there are, how many ones, how many zeros at the end. -/
set_option linter.unusedVariables false
namespace Go.Proofs.YtndhikahjmgamaaGreatDoor.Bm
open Go Go.Proofs.YtndhikahjmgamaaGreatDoor.Eng
/-! ## Ones, counted side by side -/
def f1 (b : Nat) : Nat := (b / 2 &&& 85) + (b &&& 85)
def f2 (b : Nat) : Nat := (b / 4 &&& 51) + (b &&& 51)
theorem s1 : ∀ b < 256, ∀ c < 2, (b / 2 + 128 * c) &&& 85 = b / 2 &&& 85 := by decide +kernel
theorem s2 : ∀ b < 256, ∀ c < 4, (b / 4 + 64 * c) &&& 51 = b / 4 &&& 51 := by decide +kernel
/-! ## Tables and the machine's words -/
def tab32 : List Nat := [0, 1, 28, 2, 29, 14, 24, 3, 30, 22, 20, 15, 25, 17, 4, 8, 31, 27, 13, 23, 21, 19, 16, 7, 26, 12, 18, 6, 11, 5, 10, 9]
def tab64 : List Nat := [0, 1, 56, 2, 57, 49, 28, 3, 61, 58, 42, 50, 38, 29, 17, 4, 62, 47, 59, 36, 45, 43, 51, 22, 53, 39, 33, 30, 24, 18, 12, 5, 63, 55, 48, 27, 60, 41, 37, 16, 46, 35, 44, 21, 52, 32, 23, 11, 54, 26, 40, 15, 34, 20, 31, 10, 25, 14, 19, 9, 13, 8, 7, 6]
def tabV (l : List Nat) : List Value := l.map fun (n : Nat) => Value.int .u8 (n : Int)
end Go.Proofs.YtndhikahjmgamaaGreatDoor.Bm
/- Maps from texts to numbers, as functions with a size. -/
set_option maxRecDepth 100000
set_option linter.unusedVariables false
set_option linter.unusedSimpArgs false
namespace Go.Proofs.YtndhikahjmgamaaGreatDoor.Eng
open Go Go.RowKit
/-- What a list of pairs holds at a key. -/
def lk (m : List (List UInt8 × Int)) (k : List UInt8) : Option Int := match m with
  | [] => none
  | p :: r => if p.1 = k then some p.2 else lk r k
abbrev MF := List UInt8 → Option Int
def upd (f : List UInt8 → Option Int) (k : List UInt8) (o : Option Int) : List UInt8 → Option Int := fun x => if x = k then o else f x
def enM (p : List UInt8 × Int) : Value × Value := (.string (bs p.1), .int .i64 p.2)
def kv (e : MapEntry) : Value × Value := (e.key, e.val)
theorem lk_none {m : List (List UInt8 × Int)} {k : List UInt8} : lk m k = none ↔ ∀ p ∈ m, p.1 ≠ k := by
  induction m with
  | nil => simp [lk]
  | cons p r ih =>
    rw [lk]
    split
    · rename_i h; simp [h]
    · rename_i h; rw [ih]; simp [h]
/-- The entry of a key: its place, with nothing of that key ahead of it. -/
theorem lk_at {m : List (List UInt8 × Int)} {k : List UInt8} {v : Int} (h : lk m k = some v) : ∃ j, m[j]? = some (k, v) ∧ ∀ (i : Nat) (p : List UInt8 × Int), i < j → m[i]? = some p → p.1 ≠ k := by
  induction m with
  | nil => cases h
  | cons p r ih =>
    rw [lk] at h
    split at h
    · rename_i e
      obtain rfl := Option.some.inj h
      exact ⟨0, by subst e; rfl, fun i p hi => absurd hi (Nat.not_lt_zero i)⟩
    · rename_i e
      obtain ⟨j, h1, h2⟩ := ih h
      refine ⟨j + 1, h1, fun i q hi hq => ?_⟩
      cases i with
      | zero => obtain rfl := Option.some.inj hq; exact e
      | succ i => exact h2 i q (by omega) hq
theorem findNow_none {k : List UInt8} : ∀ (es : List MapEntry) (m : List (List UInt8 × Int)) (i : Nat), es.map kv = m.map enM → lk m k = none → Instr.findNow .string (.string (bs k)) es i = some none := by
  intro es
  induction es with
  | nil => intro m i _ _; rfl
  | cons e r ih =>
    intro m i he hl
    cases m with
    | nil => cases he
    | cons p m =>
      rw [List.map_cons, List.map_cons] at he
      injection he with h1 h2
      rw [lk] at hl
      split at hl
      · cases hl
      · rename_i hp
        have hk : e.key = .string (bs p.1) := congrArg Prod.fst h1
        have hs : Instr.sameNow .string (.string (bs k)) e.key = some false := by
          rw [hk]
          obtain ⟨r, h1, h2⟩ := MapKept.sameNow_of_keys (d := .string) (a := .string (bs k)) (b := .string (bs p.1)) trivial trivial
          rw [h1]
          cases r with
          | false => rfl
          | true =>
            have := h2.1 rfl
            simp only [Value.string.injEq] at this
            exact absurd (bs_inj this).symm hp
        rw [Instr.findNow, hs]
        exact ih m (i + 1) h2 hl
theorem findNow_some {k : List UInt8} {v : Int} : ∀ (es : List MapEntry) (m : List (List UInt8 × Int)) (i j : Nat), es.map kv = m.map enM → m[j]? = some (k, v) → (∀ (i' : Nat) (p : List UInt8 × Int), i' < j → m[i']? = some p → p.1 ≠ k) → Instr.findNow .string (.string (bs k)) es i = some (some (i + j, .int .i64 v)) := by
  intro es
  induction es with
  | nil =>
    intro m i j he hj _
    cases m with
    | nil => cases hj
    | cons p m => cases he
  | cons e r ih =>
    intro m i j he hj hb
    cases m with
    | nil => cases hj
    | cons p m =>
      rw [List.map_cons, List.map_cons] at he
      injection he with h1 h2
      have hk : e.key = .string (bs p.1) := congrArg Prod.fst h1
      have hv : e.val = .int .i64 p.2 := congrArg Prod.snd h1
      have hs : ∀ b, (k == p.1) = b → Instr.sameNow .string (.string (bs k)) e.key = some b := fun b hb => by
        rw [hk]
        obtain ⟨r, h1, h2⟩ := MapKept.sameNow_of_keys (d := .string) (a := .string (bs k)) (b := .string (bs p.1)) trivial trivial
        rw [h1, ← hb]
        congr 1
        rw [Bool.eq_iff_iff, h2, beq_iff_eq]
        simp only [Value.string.injEq]
        exact ⟨bs_inj, congrArg bs⟩
      cases j with
      | zero =>
        obtain rfl := Option.some.inj hj
        rw [Instr.findNow, hs true (by simp), hv]
        rfl
      | succ j =>
        have hne := hb 0 p (by omega) rfl
        rw [Instr.findNow, hs false (by simpa using fun h => hne h.symm)]
        have := ih m (i + 1) j h2 hj (fun i' q hi hq => hb (i' + 1) q (by omega) hq)
        rw [show i + (j + 1) = i + 1 + j by omega]
        exact this
structure MapOk (es : Array MapEntry) (clock : Nat) (f : List UInt8 → Option Int) (m : List (List UInt8 × Int)) : Prop where
  row : es.toList.map kv = m.map enM
  keys : (m.map (·.1)).Nodup
  lk : ∀ k, lk m k = f k
  born : ∀ e ∈ es.toList, e.born < clock
  apart : (es.toList.map (·.born)).Nodup
/-- A map in block b: what it holds, and how much. -/
def Mp (b : Nat) (f : List UInt8 → Option Int) (n : Nat) : As := fun h => ∃ es clock m, h b = some (.map es clock) ∧ MapOk es clock f m ∧ m.length = n
section
variable {P : Program} {g : Glob} {w w' : World} {l : List As} {f : List UInt8 → Option Int} {n n0 j b p : Nat} {t kt et ty : TypeId} {k : List UInt8} {v : Int}
theorem keyInt : MapKept.IsKey .string (.string (bs k)) := by trivial
theorem Sat.mp (H : Sat g w l) (j : Nat) (hj : l[j]? = some (Mp b f n)) : ∃ es clock m, w.heap[b]? = some (.map es clock) ∧ MapOk es clock f m ∧ m.length = n := by
  obtain ⟨a, ⟨es, clock, m, h1, h2, h3⟩, hs⟩ := H.part hj
  exact ⟨es, clock, m, hs b _ h1, h2, h3⟩
theorem rMakeMap {K : Value → World → Prop} (H : Sat g w l) (h : ∀ b w', Sat g w' (Mp b (fun _ => none) 0 :: l) → K (.map (some b)) w') : RunP P (Instr.makeMap t none) w K := by
  refine ⟨_, w.alloc (.map #[] 0), rfl, h _ _ (H.more ((Below.refl _ _).alloc (Nat.le_refl _) _) (a := fun k => if k = w.heap.size then some (.map #[] 0) else none) ⟨#[], 0, [], if_pos rfl, ⟨rfl, List.nodup_nil, fun _ => rfl, nofun, List.nodup_nil⟩, rfl⟩ (fun k o hk => ?_) fun k hk => if_neg (by omega))⟩
  dsimp only at hk
  split at hk
  · rename_i e; subst e; obtain rfl := Option.some.inj hk; exact heap_alloc_new w _
  · cases hk
theorem Sat.setMp {o : Obj} {A' : As} {es : Array MapEntry} {clock : Nat} {m : List (List UInt8 × Int)} (H : Sat g w l) (j : Nat) (hj : l[j]? = some (Mp b f n)) (hb : w.heap[b]? = some (.map es clock)) (hA : ∀ h : Hp, h b = some o → A' h) : Sat g { w with heap := w.heap.setIfInBounds b o } (l.set j A') := by
  obtain ⟨h1, h2⟩ := MapKept.heap_set (o' := o) hb
  refine H.step hj rfl rfl rfl fun a ha sa => ⟨fun k => if k = b then some o else none, hA _ (if_pos rfl), fun k o' hk => ?_, fun k hk hn => ?_⟩
  · dsimp only at hk
    split at hk
    · rename_i e; subst e; obtain rfl := Option.some.inj hk; exact h1
    · cases hk
  · obtain ⟨es', clock', m', h3, _⟩ := ha
    have hne : k ≠ b := fun e => by subst e; rw [h3] at hn; cases hn
    exact ⟨if_neg hne, h2 k hne⟩
theorem run_zero {z : Value} (w : World) (hz : (P.info? et).bind (fun i => i.zero) = some z) : (zeroValue et).run P w = .ok z w := by
  cases hi : P.info? et with
  | none => rw [hi] at hz; cases hz
  | some i =>
    rw [hi] at hz
    simp only [Option.bind_some] at hz
    simp [zeroValue, typeInfo, hi, hz]
theorem rMapGet {K : Value → World → Prop} (H : Sat g w l) (j : Nat) (hj : l[j]? = some (Mp b f n)) (ht : P.underlying t = some (.map kt et)) (hk : P.underlying kt = some .string) (hz : (P.info? et).bind (fun i => i.zero) = some (.int .i64 0))
    (h : ∀ x c, ((c = true ∧ f k = some x) ∨ (c = false ∧ f k = none ∧ x = 0)) → K (.tuple #[.int .i64 x, .bool c]) w) : RunP P (Instr.lookup t (.map (some b)) (.string (bs k)) true) w K := by
  obtain ⟨es, clock, m, hb, ok, hn⟩ := H.mp j hj
  have hl := ok.lk k
  cases hf : f k with
  | none =>
    rw [hf] at hl
    have h1 := findNow_none es.toList m 0 ok.row hl
    exact ⟨_, w, by simp [Instr.lookup, run_underlying ht, MapKept.run_getObj_map hb, MapKept.run_checkKey hk keyInt, MapKept.run_findKey hk h1, run_zero w hz, Result.andThen], h 0 false (.inr ⟨rfl, hf, rfl⟩)⟩
  | some x =>
    rw [hf] at hl
    obtain ⟨i, h2, h3⟩ := lk_at hl
    have h1 := findNow_some es.toList m 0 i ok.row h2 h3
    exact ⟨_, w, by simp [Instr.lookup, run_underlying ht, MapKept.run_getObj_map hb, MapKept.run_checkKey hk keyInt, MapKept.run_findKey hk h1, Result.andThen], h x true (.inl ⟨rfl, hf⟩)⟩
theorem lk_snoc {m : List (List UInt8 × Int)} {k : List UInt8} {v : Int} (h : lk m k = none) (x : List UInt8) : lk (m ++ [(k, v)]) x = if x = k then some v else lk m x := by
  induction m with
  | nil =>
    show (if k = x then some v else none) = _
    by_cases e : x = k
    · rw [if_pos e, if_pos e.symm]
    · rw [if_neg e, if_neg (Ne.symm e)]; rfl
  | cons p r ih =>
    rw [lk] at h
    split at h
    · cases h
    rename_i hp
    rw [List.cons_append, lk, lk]
    by_cases e : p.1 = x
    · rw [if_pos e, if_pos e, if_neg (fun e2 => hp (e.trans e2))]
    · rw [if_neg e, if_neg e]; exact ih h
theorem lk_set {m : List (List UInt8 × Int)} {k : List UInt8} {v v' : Int} {i : Nat} (hn : (m.map (·.1)).Nodup) (h : m[i]? = some (k, v)) (x : List UInt8) : lk (m.set i (k, v')) x = if x = k then some v' else lk m x := by
  induction m generalizing i with
  | nil => cases h
  | cons p r ih =>
    rw [List.map_cons, List.nodup_cons] at hn
    cases i with
    | zero =>
      obtain rfl := Option.some.inj h
      rw [List.set_cons_zero, lk, lk]
      by_cases e : x = k
      · rw [if_pos e, if_pos e.symm]
      · rw [if_neg e, if_neg (fun e2 => e e2.symm), if_neg (fun e2 => e e2.symm)]
    | succ i =>
      rw [List.set_cons_succ, lk, lk]
      have hpk : p.1 ≠ k := fun e => hn.1 (e ▸ List.mem_map.2 ⟨_, List.mem_of_getElem? h, rfl⟩)
      by_cases e : p.1 = x
      · rw [if_pos e, if_pos e, if_neg (fun e2 => hpk (e.trans e2))]
      · rw [if_neg e, if_neg e]; exact ih hn.2 h
theorem rMapPut {K : World → Prop} (H : Sat g w l) (j : Nat) (hj : l[j]? = some (Mp b f n)) (ht : P.underlying t = some (.map kt et)) (hk : P.underlying kt = some .string)
    (h : ∀ n', n' = (if f k = none then n + 1 else n) → setA l j (Mp b (upd f k (some v)) n') fun l' => ∀ w', Sat g w' l' → K w') : DoP P (Instr.mapUpdate t (.map (some b)) (.string (bs k)) (.int .i64 v)) w K := by
  obtain ⟨es, clock, m, hb, ok, hn⟩ := H.mp j hj
  have hl := ok.lk k
  have h := h _ rfl
  rw [setA_eq] at h
  cases hf : f k with
  | none =>
    rw [hf] at hl
    have h1 := findNow_none es.toList m 0 ok.row hl
    refine ⟨_, by simp [Instr.mapUpdate, run_underlying ht, MapKept.run_getObj_map hb, MapKept.run_checkKey hk keyInt, MapKept.run_findKey hk h1, MapKept.run_setObj_map _ hb, Result.andThen]; rfl, h _ (H.setMp (m := m) j hj hb fun hp e => ⟨_, _, m ++ [(k, v)], e, ⟨?_, ?_, fun x => ?_, ?_, ?_⟩, ?_⟩)⟩
    · rw [Array.toList_push, List.map_append, List.map_append, ok.row]; rfl
    · rw [List.map_append, List.nodup_append]
      refine ⟨ok.keys, by simp, fun a ha c hc e => ?_⟩
      obtain ⟨q, hq, rfl⟩ := List.mem_map.1 ha
      have hc : c = k := by simpa using hc
      exact lk_none.1 hl q hq (e.trans hc)
    · rw [lk_snoc hl]; unfold upd; rw [ok.lk]
    · intro e he
      rw [Array.toList_push] at he
      rcases List.mem_append.1 he with he | he
      · have := ok.born e he; omega
      · obtain rfl : e = _ := by simpa using he
        exact Nat.lt_succ_self _
    · rw [Array.toList_push, List.map_append, List.nodup_append]
      refine ⟨ok.apart, by simp, fun a ha c hc e => ?_⟩
      obtain ⟨q, hq, rfl⟩ := List.mem_map.1 ha
      have hc : c = clock := by simpa using hc
      have := ok.born q hq
      omega
    · rw [List.length_append, hn, if_pos hf]; rfl
  | some x =>
    rw [hf] at hl
    obtain ⟨i, h2, h3⟩ := lk_at hl
    have h1 := findNow_some es.toList m 0 i ok.row h2 h3
    rw [Nat.zero_add] at h1
    have hil : i < es.size := by
      have := congrArg List.length ok.row
      have := (List.getElem?_eq_some_iff.1 h2).1
      simp at *; omega
    have hei : kv es[i] = enM (k, x) := by
      have := congrArg (·[i]?) ok.row
      simp only [List.getElem?_map, h2, Option.map_some, Array.getElem?_toList, Array.getElem?_eq_getElem hil] at this
      exact Option.some.inj this
    have hke : es[i].key = .string (bs k) := congrArg Prod.fst hei
    have hmod : (es.modify i fun e => { e with key := .string (bs k), val := .int .i64 v }).toList = es.toList.set i { es[i] with key := .string (bs k), val := .int .i64 v } := by
      rw [Array.toList_modify]
      apply List.ext_getElem?
      intro q
      rw [List.getElem?_modify, List.getElem?_set]
      split
      · rename_i e
        subst e
        simp [hil]
      · simp
    refine ⟨_, by simp [Instr.mapUpdate, run_underlying ht, MapKept.run_getObj_map hb, MapKept.run_checkKey hk keyInt, MapKept.run_findKey hk h1, hil, hke, MapKept.run_keyThatStays (d := .string) keyInt, MapKept.run_setObj_map _ hb, Result.andThen]; rfl, h _ (H.setMp (m := m) j hj hb fun hp e => ⟨_, _, m.set i (k, v), e, ⟨?_, ?_, fun y => ?_, ?_, ?_⟩, ?_⟩)⟩
    · rw [hmod, List.map_set, List.map_set, ok.row]; rfl
    · rw [List.map_set]
      have : (m.map (·.1)).set i k = m.map (·.1) := by
        apply List.ext_getElem?
        intro q
        rw [List.getElem?_set]
        split
        · rename_i e
          subst e
          rw [if_pos (by simpa using (List.getElem?_eq_some_iff.1 h2).1), List.getElem?_map, h2]; rfl
        · rfl
      rw [this]; exact ok.keys
    · rw [lk_set ok.keys h2]; unfold upd; rw [ok.lk]
    · intro e he
      rw [hmod] at he
      rcases List.mem_or_eq_of_mem_set he with he | he
      · exact ok.born e he
      · rw [he]; exact ok.born es[i] (by simp)
    · rw [hmod, List.map_set]
      have : (es.toList.map (·.born)).set i es[i].born = es.toList.map (·.born) := by
        apply List.ext_getElem?
        intro q
        rw [List.getElem?_set]
        split
        · rename_i e
          subst e
          simp [hil]
        · rfl
      show ((es.toList.map (·.born)).set i es[i].born).Nodup
      rw [this]; exact ok.apart
    · rw [List.length_set, hn, if_neg (by rw [hf]; nofun)]
end
end Go.Proofs.YtndhikahjmgamaaGreatDoor.Eng
/- The document's Rest. -/
set_option maxRecDepth 100000
set_option maxHeartbeats 4000000
set_option linter.unusedVariables false
set_option linter.unusedSimpArgs false
namespace Go.Proofs.YtndhikahjmgamaaGreatDoor.Ref
open Go Go.Proofs.YtndhikahjmgamaaGreatDoor.Eng Go.RowKit
def enI (n : Int) : List Value := [.int .i64 n]
theorem rem_ways {a b : Int} (hb : 0 < b) (h : a < 0) : (vRem a b = 0 ∧ a % b = 0) ∨ (vRem a b < 0 ∧ a % b = vRem a b + b) := by
  unfold vRem
  rw [Int.tmod_eq_emod]
  have h1 := Int.emod_nonneg a (Int.ne_of_gt hb)
  have h2 := Int.emod_lt_of_pos a hb
  by_cases hd : b ∣ a
  · left
    have := Int.emod_eq_zero_of_dvd hd
    rw [if_pos (.inr hd)]
    omega
  · right
    rw [if_neg (by rintro (h' | h'); omega; exact hd h')]
    have : (b.natAbs : Int) = b := by omega
    rw [this]
    omega
theorem rest (n m : Int) (hn : -9223372036854775808 ≤ n ∧ n ≤ 9223372036854775807) (hm : 0 < m ∧ m ≤ 9223372036854775807) (w : World) : Fc Tryz.prog 12 #[.int .i64 n, .int .i64 m] w (fun v w' => v = .int .i64 (n % m) ∧ w = w') := by
  refine Fc.of Tryz.func12 rfl (by kernel_rfl) ?_
  have H := Sat.start w
  have h1 := Int.emod_nonneg n (Int.ne_of_gt hm.1)
  have h2 := Int.emod_lt_of_pos n hm.1
  rcases Int.lt_or_le n 0 with hlt | hge
  · have hw := rem_ways hm.1 hlt
    refine DivP.mk (by omega) ?_
    refine EqP.keep ?_
    refine cI (fun c1 => ?_) (fun c1 => ?_)
    · replace c1 := vLt_t (c1)
      refine eqI64 (by omega) ?_
      refine Done.mk ?_
      refine ⟨?_, ?_⟩
      · refine int_eq ?_
        omega
      rfl
    replace c1 := vLt_f (c1)
    refine Done.mk ?_
    refine ⟨?_, ?_⟩
    · refine int_eq ?_
      omega
    rfl
  · refine DivP.mk (by omega) ?_
    refine eqRem (by omega) ?_
    refine cF (vLt_F (by assumption)) ?_
    refine Done.mk ?_
    exact ⟨rfl, rfl⟩
end Go.Proofs.YtndhikahjmgamaaGreatDoor.Ref
