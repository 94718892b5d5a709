/- Texts of this claim, one behind the other. -/
import Derived.Test.YtbbdfhgcmkljeaaGreatDoorP2
import Derived.Test.YtbbdfhgcmkljeaaGreatDoorP1
import Derived.Defers
import Derived.Recover
import Derived.Lib.SlBytesConst
/- Package ins: Check. -/
set_option maxRecDepth 100000
set_option maxHeartbeats 4000000
set_option linter.unusedVariables false
set_option linter.unusedSimpArgs false
namespace Go.Proofs.YtbbdfhgcmkljeaaGreatDoor.Ins
open Go Go.Proofs.YtbbdfhgcmkljeaaGreatDoor.Eng Go.RowKit
def enI (n : Int) : List Value := [.int .i64 n]
def okI (n : Int) : Prop := I64 n
theorem chk_0 {x : InsD} (h : bsd x.op = 0) : chk x = 6 := by unfold chk; rw [if_pos h]
theorem chk_2 {x : InsD} (h : bsd x.op ≠ 0) (h2 : 16 < x.to.length) : chk x = 2 := by unfold chk; rw [if_neg h, if_pos h2]
theorem chk_1 {x : InsD} (h : bsd x.op ≠ 0) (h2 : x.to.length ≤ 16) (h3 : (bsd x.op ≠ 4 ∧ 0 < x.to.length) ∨ (bsd x.op ≠ 6 ∧ x.b ≠ 0)) : chk x = 1 := by unfold chk; rw [if_neg h, if_neg (by omega), if_pos h3]
theorem chk_g {x : InsD} {q : Bool} (h : bsd x.op ≠ 0) (h2 : x.to.length ≤ 16) (h3 : bsd x.op = 4 ∨ x.to.length = 0) (h4 : bsd x.op = 6 ∨ x.b = 0) (hq : q = true ↔ goodK (bsd x.op) x.a x.b ∧ ∀ n ∈ x.to, isIdx n) : chk x = if q then 0 else 1 := by
  unfold chk
  rw [if_neg h, if_neg (by omega), if_neg (by omega)]
  by_cases hg : goodK (bsd x.op) x.a x.b ∧ ∀ n ∈ x.to, isIdx n
  · rw [if_pos hg, if_pos (hq.2 hg)]
  · rw [if_neg hg, if_neg (fun h => hg (hq.1 h))]
theorem all_take {p : Int → Prop} {l : List Int} {k : Nat} {x : Int} (hx : l[k]? = some x) : (∀ n ∈ l.take (k + 1), p n) ↔ (∀ n ∈ l.take k, p n) ∧ p x := by
  rw [List.take_add_one, hx]
  simp only [Option.toList_some, List.mem_append, List.mem_singleton]
  exact ⟨fun h => ⟨fun n hn => h n (.inl hn), h x (.inr rfl)⟩, fun h n hn => hn.elim (h.1 n) (fun e => e ▸ h.2)⟩
theorem allT {P : Prop} {p : Int → Prop} {l : List Int} {k : Nat} {x : Int} {b : Bool} (hx : l[k]? = some x) (h : P ∧ ∀ n ∈ l.take k, p n) (hb : b = true ↔ p x) : b = true ↔ P ∧ ∀ n ∈ l.take (k + 1), p n := by
  rw [all_take hx, hb]
  exact ⟨fun q => ⟨h.1, h.2, q⟩, fun q => q.2.2⟩
theorem allF {P : Prop} {p : Int → Prop} {l : List Int} {k : Nat} {x : Int} (hx : l[k]? = some x) (h : ¬ (P ∧ ∀ n ∈ l.take k, p n)) : false = true ↔ P ∧ ∀ n ∈ l.take (k + 1), p n := by
  rw [all_take hx]
  exact ⟨nofun, fun q => absurd ⟨q.1, q.2.1⟩ h⟩
theorem chk_y {x : InsD} {k : Nat} (h : bsd x.op ≠ 0) (h2 : x.to.length ≤ 16) (h3 : bsd x.op = 4 ∨ x.to.length = 0) (h4 : bsd x.op = 6 ∨ x.b = 0) (hq : goodK (bsd x.op) x.a x.b ∧ ∀ n ∈ x.to.take k, isIdx n) (hk : x.to.length ≤ k) : chk x = 0 := by
  rw [List.take_of_length_le hk] at hq
  rw [chk_g h h2 h3 h4 (q := true) ⟨fun _ => hq, fun _ => rfl⟩]; rfl
theorem chk_n {x : InsD} {k : Nat} (h : bsd x.op ≠ 0) (h2 : x.to.length ≤ 16) (h3 : bsd x.op = 4 ∨ x.to.length = 0) (h4 : bsd x.op = 6 ∨ x.b = 0) (hq : ¬ (goodK (bsd x.op) x.a x.b ∧ ∀ n ∈ x.to.take k, isIdx n)) (hk : x.to.length ≤ k) : chk x = 1 := by
  rw [List.take_of_length_le hk] at hq
  rw [chk_g h h2 h3 h4 (q := false) ⟨nofun, fun h => absurd h hq⟩]; rfl
theorem goodK_17 {k a b : Int} (h : k = 1 ∨ k = 7) : goodK k a b ↔ a = 0 := by unfold goodK; rw [if_pos h]
theorem goodK_2 {k a b : Int} (h : k = 2) : goodK k a b ↔ a = 64 ∨ a = 127 ∨ a = 126 := by subst h; unfold goodK; simp
theorem goodK_8 {k a b : Int} (h : k = 8) : goodK k a b ↔ -2147483648 ≤ a ∧ a ≤ 2147483647 := by subst h; unfold goodK; simp
theorem goodK_6 {k a b : Int} (h : k = 6) : goodK k a b ↔ isIdx a ∧ isIdx b := by subst h; unfold goodK; simp
theorem goodK_345 {k a b : Int} (h : k = 3 ∨ k = 4 ∨ k = 5) : goodK k a b ↔ isIdx a := by unfold goodK; rw [if_neg (by omega), if_neg (by omega), if_neg (by omega), if_neg (by omega), if_pos h]
theorem goodK_9 {k a b : Int} (h : k ≠ 1) (h7 : k ≠ 7) (h2 : k ≠ 2) (h8 : k ≠ 8) (h6 : k ≠ 6) (h3 : k ≠ 3) (h4 : k ≠ 4) (h5 : k ≠ 5) : goodK k a b ↔ True := by unfold goodK; rw [if_neg (by omega), if_neg (by omega), if_neg (by omega), if_neg (by omega), if_neg (by omega)]
theorem fits32 {a : Int} (ha : I64 a) : vEq a (vWrap .i64 (vWrap .i32 a)) = true ↔ -2147483648 ≤ a ∧ a ≤ 2147483647 := by
  have h : -2147483648 ≤ vWrap .i32 a ∧ vWrap .i32 a ≤ 2147483647 ∧ (a = vWrap .i32 a ↔ -2147483648 ≤ a ∧ a ≤ 2147483647) := by
    unfold vWrap IntKind.wrap
    simp [IntKind.bits, IntKind.signed]
    split <;> omega
  rw [wi64 (by omega), vEq_iff]
  simp only [decide_eq_true_eq]
  exact h.2.2
theorem check (o a b : Int) (tv : Value) (to : List Int) (w : World) (ha : I64 a) (hx : Rd enI okI 1 w tv to) : Fc Tryz.prog 96 #[.agg #[.int .u8 o, .int .i64 a, .int .i64 b, tv]] w (fun v w' => (∃ r, v = .int .i64 r ∧ r = chk ⟨o, a, b, to⟩) ∧ Sat (froz w) w' []) := by
  refine Fc.of Tryz.func96 rfl (by kernel_rfl) ?_
  have H := Sat.start w
  have hx := hx.fz
  refine rBoxS H ?_
  clear H
  intro p1 w1 H
  refine rFieldAt rfl ?_
  refine rLd (H.at 0 rfl) 0 rfl rfl rfl ?_
  refine CallP.mk (Fc.imp (Go.Proofs.YtbbdfhgcmkljeaaGreatDoor.Ins.besides _ _) ?_)
  rintro _ w2 ⟨⟨r1, ⟨rfl, h1⟩⟩, H'⟩
  refine H.mergeK H' ?_
  clear H H'
  intro H
  refine block_join (α := Unit) (fun x_ => []) (fun x_ w_ => (bsd o ≠ 0) ∧ (to.length ≤ 16) ∧ (bsd o = 4 ∨ to.length = 0) ∧ (bsd o = 6 ∨ b = 0) ∧ Sat (froz w) w_ ([Pt p1 [.int .u8 o, .int .i64 a, .int .i64 b, tv] 149])) ?_ ?_
  · refine cI (fun c1 => ?_) (fun c1 => ?_)
    · replace c1 := vEq_t (c1)
      refine Done.mk ?_
      refine ⟨?_, ?_⟩
      · refine ⟨6, ?_⟩
        refine ⟨?_, ?_⟩
        · refine int_eq ?_
          omega
        exact (chk_0 (by simp only; omega)).symm
      refine H.firsts 0 ?_
      clear H
      intro H
      exact H
    replace c1 := vEq_f (c1)
    refine rFieldAt rfl ?_
    refine rLd (H.at 0 rfl) 3 rfl rfl rfl ?_
    refine rLenF hx rfl ?_
    refine cI (fun c2 => ?_) (fun c2 => ?_)
    · replace c2 := vLt_t (c2)
      refine Done.mk ?_
      refine ⟨?_, ?_⟩
      · refine ⟨2, ?_⟩
        refine ⟨?_, ?_⟩
        · refine int_eq ?_
          omega
        exact (chk_2 (by simp only; omega) (by simp only; omega)).symm
      refine H.firsts 0 ?_
      clear H
      intro H
      exact H
    replace c2 := vLt_f (c2)
    refine br (fun c3 => ?_) (fun c3 => ?_)
    · replace c3 := vNe_t (c3)
      refine rFieldAt rfl ?_
      refine rLd (H.at 0 rfl) 3 rfl rfl rfl ?_
      refine rLenF hx rfl ?_
      refine cI (fun c4 => ?_) (fun c4 => ?_)
      · replace c4 := vLt_t (c4)
        refine cT (vLt_T (by assumption)) ?_
        refine Done.mk ?_
        refine ⟨?_, ?_⟩
        · refine ⟨1, ?_⟩
          refine ⟨?_, ?_⟩
          · refine int_eq ?_
            omega
          exact (chk_1 (by simp only; omega) (by simp only; omega) (by simp only; omega)).symm
        refine H.firsts 0 ?_
        clear H
        intro H
        exact H
      replace c4 := vLt_f (c4)
      refine br (fun c5 => ?_) (fun c5 => ?_)
      · replace c5 := vNe_t (c5)
        refine rFieldAt rfl ?_
        refine rLd (H.at 0 rfl) 2 rfl rfl rfl ?_
        refine cI (fun c6 => ?_) (fun c6 => ?_)
        · replace c6 := vNe_t (c6)
          refine Done.mk ?_
          refine ⟨?_, ?_⟩
          · refine ⟨1, ?_⟩
            refine ⟨?_, ?_⟩
            · refine int_eq ?_
              omega
            exact (chk_1 (by simp only; omega) (by simp only; omega) (by simp only; omega)).symm
          refine H.firsts 0 ?_
          clear H
          intro H
          exact H
        replace c6 := vNe_f (c6)
        refine Jn.mk (()) (mt_nil) ?_
        refine ⟨?_, ?_⟩
        · intro x1
          omega
        refine ⟨?_, ?_⟩
        · omega
        refine ⟨?_, ?_⟩
        · refine (Or.inr ?_)
          omega
        refine ⟨?_, ?_⟩
        · refine (Or.inr ?_)
          assumption
        exact H
      replace c5 := vNe_f (c5)
      refine cF rfl ?_
      refine Jn.mk (()) (mt_nil) ?_
      refine ⟨?_, ?_⟩
      · intro x1
        omega
      refine ⟨?_, ?_⟩
      · omega
      refine ⟨?_, ?_⟩
      · refine (Or.inr ?_)
        omega
      refine ⟨?_, ?_⟩
      · refine (Or.inl ?_)
        omega
      exact H
    replace c3 := vNe_f (c3)
    refine cF rfl ?_
    refine br_t (vNe_T (by omega)) ?_
    refine rFieldAt rfl ?_
    refine rLd (H.at 0 rfl) 2 rfl rfl rfl ?_
    refine cI (fun c4 => ?_) (fun c4 => ?_)
    · replace c4 := vNe_t (c4)
      refine Done.mk ?_
      refine ⟨?_, ?_⟩
      · refine ⟨1, ?_⟩
        refine ⟨?_, ?_⟩
        · refine int_eq ?_
          omega
        exact (chk_1 (by simp only; omega) (by simp only; omega) (by simp only; omega)).symm
      refine H.firsts 0 ?_
      clear H
      intro H
      exact H
    replace c4 := vNe_f (c4)
    refine Jn.mk (()) (mt_nil) ?_
    refine ⟨?_, ?_⟩
    · intro x1
      omega
    refine ⟨?_, ?_⟩
    · omega
    refine ⟨?_, ?_⟩
    · refine (Or.inl ?_)
      omega
    refine ⟨?_, ?_⟩
    · refine (Or.inr ?_)
      assumption
    exact H
  clear H
  rintro _ f_ w_ ⟨h0, h2, h3, h4, H⟩
  try simp only at h0 h2 h3 h4 H ⊢
  
  refine block_join (α := Bool) (fun x_ => [(4, .bool x_)]) (fun x_ w_ => (x_ = true ↔ goodK (bsd o) a b) ∧ Sat (froz w) w_ ([Pt p1 [.int .u8 o, .int .i64 a, .int .i64 b, tv] 149])) ?_ ?_
  · refine cI (fun c1 => ?_) (fun c1 => ?_)
    · replace c1 := vEq_t (c1)
      refine cT (vEq_T (by assumption)) ?_
      refine rFieldAt rfl ?_
      refine rLd (H.at 0 rfl) 1 rfl rfl rfl ?_
      refine Jn.mk (vEq a 0) (mt_cons rfl (mt_nil)) ?_
      refine ⟨?_, ?_⟩
      · exact Iff.trans (by simp [vEq_iff]) (goodK_17 (by omega)).symm
      exact H
    replace c1 := vEq_f (c1)
    refine cI (fun c2 => ?_) (fun c2 => ?_)
    · replace c2 := vEq_t (c2)
      refine rFieldAt rfl ?_
      refine rLd (H.at 0 rfl) 1 rfl rfl rfl ?_
      refine Jn.mk (vEq a 0) (mt_cons rfl (mt_nil)) ?_
      refine ⟨?_, ?_⟩
      · exact Iff.trans (by simp [vEq_iff]) (goodK_17 (by omega)).symm
      exact H
    replace c2 := vEq_f (c2)
    refine cI (fun c3 => ?_) (fun c3 => ?_)
    · replace c3 := vEq_t (c3)
      refine rFieldAt rfl ?_
      refine rLd (H.at 0 rfl) 1 rfl rfl rfl ?_
      refine br (fun c4 => ?_) (fun c4 => ?_)
      · replace c4 := vEq_t (c4)
        refine Jn.mk (true) (mt_cons rfl (mt_nil)) ?_
        refine ⟨?_, ?_⟩
        · exact Iff.trans (by simp; omega) (goodK_2 (by omega)).symm
        exact H
      replace c4 := vEq_f (c4)
      refine rFieldAt rfl ?_
      refine rLd (H.at 0 rfl) 1 rfl rfl rfl ?_
      refine br (fun c5 => ?_) (fun c5 => ?_)
      · replace c5 := vEq_t (c5)
        refine Jn.mk (true) (mt_cons rfl (mt_nil)) ?_
        refine ⟨?_, ?_⟩
        · exact Iff.trans (by simp; omega) (goodK_2 (by omega)).symm
        exact H
      replace c5 := vEq_f (c5)
      refine rFieldAt rfl ?_
      refine rLd (H.at 0 rfl) 1 rfl rfl rfl ?_
      refine Jn.mk (vEq a 126) (mt_cons rfl (mt_nil)) ?_
      refine ⟨?_, ?_⟩
      · exact Iff.trans (by simp [vEq_iff]; omega) (goodK_2 (by omega)).symm
      exact H
    replace c3 := vEq_f (c3)
    refine cI (fun c4 => ?_) (fun c4 => ?_)
    · replace c4 := vEq_t (c4)
      refine rFieldAt rfl ?_
      refine rLd (H.at 0 rfl) 1 rfl rfl rfl ?_
      refine rFieldAt rfl ?_
      refine rLd (H.at 0 rfl) 1 rfl rfl rfl ?_
      refine rConvInt rfl rfl ?_
      refine rConvInt rfl rfl ?_
      refine Jn.mk (vEq a (vWrap IntKind.i64 (vWrap IntKind.i32 a))) (mt_cons rfl (mt_nil)) ?_
      refine ⟨?_, ?_⟩
      · exact Iff.trans (fits32 ha) (goodK_8 (by omega)).symm
      exact H
    replace c4 := vEq_f (c4)
    refine cI (fun c5 => ?_) (fun c5 => ?_)
    · replace c5 := vEq_t (c5)
      refine rFieldAt rfl ?_
      refine rLd (H.at 0 rfl) 1 rfl rfl rfl ?_
      refine CallP.mk (Fc.imp (Go.Proofs.YtbbdfhgcmkljeaaGreatDoor.Ins.isIndex _ _) ?_)
      rintro _ _ ⟨⟨b1, ⟨rfl, h5⟩⟩, rfl⟩
      refine br (fun c6 => ?_) (fun c6 => ?_)
      · replace c6 := h5.1 (c6)
        refine rFieldAt rfl ?_
        refine rLd (H.at 0 rfl) 2 rfl rfl rfl ?_
        refine CallP.mk (Fc.imp (Go.Proofs.YtbbdfhgcmkljeaaGreatDoor.Ins.isIndex _ _) ?_)
        rintro _ _ ⟨⟨b2, ⟨rfl, h6⟩⟩, rfl⟩
        refine Jn.mk (b2) (mt_cons rfl (mt_nil)) ?_
        refine ⟨?_, ?_⟩
        · exact Iff.trans (by simp [*]) (goodK_6 (by omega)).symm
        exact H
      replace c6 := iff_f h5 (c6)
      refine Jn.mk (false) (mt_cons rfl (mt_nil)) ?_
      refine ⟨?_, ?_⟩
      · exact Iff.trans (by simp [*]) (goodK_6 (by omega)).symm
      exact H
    replace c5 := vEq_f (c5)
    refine cI (fun c6 => ?_) (fun c6 => ?_)
    · replace c6 := vEq_t (c6)
      refine cT (vEq_T (by assumption)) ?_
      refine rFieldAt rfl ?_
      refine rLd (H.at 0 rfl) 1 rfl rfl rfl ?_
      refine CallP.mk (Fc.imp (Go.Proofs.YtbbdfhgcmkljeaaGreatDoor.Ins.isIndex _ _) ?_)
      rintro _ _ ⟨⟨b1, ⟨rfl, h5⟩⟩, rfl⟩
      refine Jn.mk (b1) (mt_cons rfl (mt_nil)) ?_
      refine ⟨?_, ?_⟩
      · exact Iff.trans (by assumption) (goodK_345 (by omega)).symm
      exact H
    replace c6 := vEq_f (c6)
    refine cI (fun c7 => ?_) (fun c7 => ?_)
    · replace c7 := vEq_t (c7)
      refine cT (vEq_T (by assumption)) ?_
      refine rFieldAt rfl ?_
      refine rLd (H.at 0 rfl) 1 rfl rfl rfl ?_
      refine CallP.mk (Fc.imp (Go.Proofs.YtbbdfhgcmkljeaaGreatDoor.Ins.isIndex _ _) ?_)
      rintro _ _ ⟨⟨b1, ⟨rfl, h5⟩⟩, rfl⟩
      refine Jn.mk (b1) (mt_cons rfl (mt_nil)) ?_
      refine ⟨?_, ?_⟩
      · exact Iff.trans (by assumption) (goodK_345 (by omega)).symm
      exact H
    replace c7 := vEq_f (c7)
    refine cI (fun c8 => ?_) (fun c8 => ?_)
    · replace c8 := vEq_t (c8)
      refine rFieldAt rfl ?_
      refine rLd (H.at 0 rfl) 1 rfl rfl rfl ?_
      refine CallP.mk (Fc.imp (Go.Proofs.YtbbdfhgcmkljeaaGreatDoor.Ins.isIndex _ _) ?_)
      rintro _ _ ⟨⟨b1, ⟨rfl, h5⟩⟩, rfl⟩
      refine Jn.mk (b1) (mt_cons rfl (mt_nil)) ?_
      refine ⟨?_, ?_⟩
      · exact Iff.trans (by assumption) (goodK_345 (by omega)).symm
      exact H
    replace c8 := vEq_f (c8)
    refine Jn.mk (true) (mt_cons rfl (mt_nil)) ?_
    refine ⟨?_, ?_⟩
    · exact Iff.trans (by simp) (goodK_9 (by omega) (by omega) (by omega) (by omega) (by omega) (by omega) (by omega) (by omega)).symm
    exact H
  clear H
  rintro q f_ w_ ⟨hq, H⟩
  try simp only at hq H ⊢
  refine rFieldAt rfl ?_
  refine rLd (H.at 0 rfl) 3 rfl rfl rfl ?_
  refine rLenF hx rfl ?_
  refine LoopP.rule (α := Nat × Bool) (0, q) (fun x_ => [(85, .int .i64 x_.1), (4, .bool x_.2)]) (fun x_ w_ => (x_.1 ≤ to.length) ∧ (x_.2 = true ↔ goodK (bsd o) a b ∧ ∀ n ∈ to.take x_.1, isIdx n) ∧ Sat (froz w) w_ ([Pt p1 [.int .u8 o, .int .i64 a, .int .i64 b, tv] 149])) (fun x_ => to.length - x_.1) ?_ ?_ ?_
  · repeat first | exact mt_nil | refine mt_cons rfl ?_ | refine mt_i rfl (by first | omega | (simp only; omega) | (simp; omega) | (simp; done)) ?_
  · try simp only
    refine ⟨?_, ?_⟩
    · omega
    refine ⟨?_, ?_⟩
    · (rw [hq]; simp)
    exact H
  clear H
  rintro ⟨k, u⟩ f_ w_ ⟨hk, hu, H⟩
  try simp only at hk hu H ⊢
  refine cI (fun c1 => ?_) (fun c1 => ?_)
  · replace c1 := vLt_t (c1)
    refine bk ?_
    obtain ⟨x1, hx1⟩ : ∃ x, (to)[(k)]? = some x := ⟨_, List.getElem?_eq_getElem (by omega)⟩
    obtain ⟨b1, o1, E1, F1, hok1⟩ := FSl.elt hx hx1
    refine rIxE E1 rfl rfl rfl ?_
    refine rLd (H.fat F1) 0 rfl rfl rfl ?_
    refine br (fun c2 => ?_) (fun c2 => ?_)
    · replace c2 := hu.1 (c2)
      refine CallP.mk (Fc.imp (Go.Proofs.YtbbdfhgcmkljeaaGreatDoor.Ins.isIndex _ _) ?_)
      rintro _ _ ⟨⟨b2, ⟨rfl, h5⟩⟩, rfl⟩
      refine eqI64 (by omega) ?_
      refine Nxt.mk ((k + 1, b2)) (mt_i rfl (by first | omega | (simp only; omega) | (simp; omega)) (mt_cons rfl (mt_nil))) ?_ ?_
      · refine ⟨?_, ?_⟩
        · omega
        refine ⟨?_, ?_⟩
        · exact allT hx1 (by assumption) (by assumption)
        exact H
      omega
    replace c2 := iff_f hu (c2)
    refine eqI64 (by omega) ?_
    refine Nxt.mk ((k + 1, false)) (mt_i rfl (by first | omega | (simp only; omega) | (simp; omega)) (mt_cons rfl (mt_nil))) ?_ ?_
    · refine ⟨?_, ?_⟩
      · omega
      refine ⟨?_, ?_⟩
      · exact allF hx1 (by assumption)
      exact H
    omega
  replace c1 := vLt_f (c1)
  refine cI (fun c2 => ?_) (fun c2 => ?_)
  · replace c2 := iff_f hu (not_t (c2))
    refine Done.mk ?_
    refine ⟨?_, ?_⟩
    · refine ⟨1, ?_⟩
      refine ⟨?_, ?_⟩
      · refine int_eq ?_
        omega
      exact (chk_n (k := k) (by simp only; omega) (by simp only; omega) (by simp only; omega) (by simp only; omega) (by assumption) (by simp only; omega)).symm
    refine H.firsts 0 ?_
    clear H
    intro H
    exact H
  replace c2 := hu.1 (not_f (c2))
  refine Done.mk ?_
  refine ⟨?_, ?_⟩
  · refine ⟨0, ?_⟩
    refine ⟨?_, ?_⟩
    · refine int_eq ?_
      omega
    exact (chk_y (k := k) (by simp only; omega) (by simp only; omega) (by simp only; omega) (by simp only; omega) (by assumption) (by simp only; omega)).symm
  refine H.firsts 0 ?_
  clear H
  intro H
  exact H
end Go.Proofs.YtbbdfhgcmkljeaaGreatDoor.Ins
/- Arguments that are instructions, opened. -/
set_option maxRecDepth 100000
set_option linter.unusedVariables false
namespace Go.Proofs.YtbbdfhgcmkljeaaGreatDoor.Ins
open Go Go.RowKit Go.Proofs.YtbbdfhgcmkljeaaGreatDoor.Eng
/-- An instruction as it lies: its list is told by its slice. -/
structure InsV where
  op : Int
  a : Int
  b : Int
  tv : Value
  to : List Int
def InsV.d (x : InsV) : InsD := ⟨x.op, x.a, x.b, x.to⟩
def enV (x : InsV) : List Value := [.int .u8 x.op, .int .i64 x.a, .int .i64 x.b, x.tv]
def okH (H : Hv) (x : InsV) : Prop := U8 x.op ∧ I64 x.a ∧ I64 x.b ∧ SlR (RE enI okI) 1 H x.tv x.to
/-- An instruction whose list is frozen. -/
structure okV (g : Glob) (x : InsV) : Prop where
  op : U8 x.op
  a : I64 x.a
  b : I64 x.b
  to : FSl g enI okI 1 x.tv x.to
theorem okV.ext {g g' : Glob} {x : InsV} (h : okV g x) (E : Ext g g') : okV g' x := ⟨h.op, h.a, h.b, h.to.ext E⟩
theorem okV.of {g : Glob} {H : Hv} {x : InsV} (h : okH H x) (hh : Hle H (Gh g)) : okV g x := ⟨h.1, h.2.1, h.2.2.1, h.2.2.2.mono (RE.mono' enI okI) hh⟩
section
variable {H : Type} {enc : TypeId × Value → H} {w : World} {sp : Nat → Bool} {held : Bool}
theorem fitsI1 (cs : List Value) (h : fitsL [.int .i64] cs) : ∃ x, cs = enI x ∧ okI x := by
  obtain ⟨_, _, rfl, ⟨a, rfl, ha⟩, rfl⟩ := h
  exact ⟨a, rfl, ha⟩
theorem fitsB1 (cs : List Value) (h : fitsL [.int .u8] cs) : ∃ x, cs = enK x ∧ U8 x := by
  obtain ⟨_, _, rfl, ⟨a, rfl, ha⟩, rfl⟩ := h
  exact ⟨a, rfl, ha⟩
theorem open_i64s : OpT enc Tryz.prog w sp held 147 (fun H cs xs => ∃ v, cs = [v] ∧ SlR (RE enI okI) 1 H v xs) (fun xs => (xs.map (fun x => cellsSz (enI x) + 1)).sum + 1 + 0 * xs.length) :=
  opSl 1 rfl (by decide) Tryz.underlying147 (opFlat 6 rfl fitsI1)
theorem sum_len {α : Type} (f : α → Nat) (xs : List α) : xs.length ≤ (xs.map (fun x => f x + 1)).sum := by
  induction xs with
  | nil => exact Nat.zero_le _
  | cons a r ih => simp only [List.length_cons, List.map_cons, List.sum_cons]; omega
theorem open_ins : OpT enc Tryz.prog w sp held 149 (fun H cs x => cs = enV x ∧ okH H x) (fun x => x.to.length) := by
  refine (open_structN 4 Tryz.underlying149 rfl (openFs_cons rfl (opFlat (en := enK) (ok := U8) 6 rfl fitsB1) (openFs_cons rfl (opFlat (en := enI) (ok := okI) 6 rfl fitsI1) (openFs_cons rfl (opFlat (en := enI) (ok := okI) 6 rfl fitsI1) (openFs_cons rfl open_i64s openFs_nil))))).map ?_
  rintro H cs ⟨o, a, b, to, _⟩ ⟨hl, ⟨h1, h1'⟩, ⟨h2, h2'⟩, ⟨h3, h3'⟩, ⟨v, h4, h5⟩, _⟩
  refine ⟨⟨o, a, b, v, to⟩, ⟨?_, h1', h2', h3', h5⟩, by have := sum_len (fun x => cellsSz (enI x)) to; show to.length ≤ _; dsimp only; omega⟩
  match cs, hl with
  | [c0, c1, c2, c3], _ =>
    have e1 : [c0] = enK o := h1
    have e2 : [c1] = enI a := h2
    have e3 : [c2] = enI b := h3
    have e4 : [c3] = [v] := h4
    simp only [enK, enI, List.cons.injEq, and_true] at e1 e2 e3 e4
    show _ = [_, _, _, _]
    rw [e1, e2, e3, e4]
end
end Go.Proofs.YtbbdfhgcmkljeaaGreatDoor.Ins
/- Are two instructions the same? -/
set_option maxRecDepth 100000
set_option maxHeartbeats 4000000
set_option linter.unusedVariables false
set_option linter.unusedSimpArgs false
namespace Go.Proofs.YtbbdfhgcmkljeaaGreatDoor.Ins
open Go Go.Proofs.YtbbdfhgcmkljeaaGreatDoor.Eng Go.RowKit
theorem eq_step {α : Type} {xs ys : List α} {i : Nat} (h : ∀ q, q < i → xs[q]? = ys[q]?) (h1 : xs[i]? = ys[i]?) : ∀ q, q < i + 1 → xs[q]? = ys[q]? := fun q hq => by
  rcases Nat.lt_or_ge q i with h2 | h2
  · exact h q h2
  · rw [show q = i by omega]; exact h1
theorem eq_all {α : Type} {xs ys : List α} {i : Nat} (h1 : xs.length ≤ i) (h2 : ys.length ≤ i) (h : ∀ q, q < i → xs[q]? = ys[q]?) : xs = ys := by
  apply List.ext_getElem?
  intro q
  rcases Nat.lt_or_ge q i with h3 | h3
  · exact h q h3
  · rw [List.getElem?_eq_none (by omega), List.getElem?_eq_none (by omega)]
theorem eq64 (w : World) (u v : Value) (xs ys : List Int) (hx : Rd enI (fun _ => True) 1 w u xs) (hy : Rd enI (fun _ => True) 1 w v ys) :
    Fc Tryz.prog 104 #[u, v] w (fun r w' => ∃ b, r = .bool b ∧ (b = true ↔ xs = ys) ∧ Sat (froz w) w' []) := by
  refine Fc.of Tryz.func104 rfl (by kernel_rfl) ?_
  have H := Sat.start w
  have hx := hx.fz
  have hy := hy.fz
  have hlx := hx.len
  refine rLenF hx rfl ?_
  refine rLenF hy rfl ?_
  refine cI (fun c1 => ?_) (fun c1 => ?_)
  · replace c1 := vNe_t (c1)
    refine Done.mk ?_
    exact ⟨false, rfl, ⟨nofun, fun h => absurd (congrArg List.length h) (by omega)⟩, H⟩
  replace c1 := vNe_f (c1)
  refine rLenF hx rfl ?_
  refine LoopP.rule (α := Nat) (0) (fun x_ => [(14, .int .i64 x_)]) (fun x_ w_ => (x_ ≤ xs.length) ∧ (∀ q, q < x_ → xs[q]? = ys[q]?) ∧ Sat (froz w) w_ ([])) (fun x_ => xs.length - x_) ?_ ?_ ?_
  · repeat first | exact mt_nil | refine mt_cons rfl ?_ | refine mt_i rfl (by first | omega | (simp only; omega) | (simp; omega) | (simp; done)) ?_
  · try simp only
    refine ⟨?_, ?_⟩
    · omega
    refine ⟨?_, ?_⟩
    · (intro q hq; exact absurd hq (Nat.not_lt_zero q))
    exact H
  clear H
  rintro i f_ w_ ⟨hi, he, H⟩
  try simp only at hi he H ⊢
  refine cI (fun c2 => ?_) (fun c2 => ?_)
  · replace c2 := vLt_t (c2)
    refine bk ?_
    obtain ⟨x1, hx1⟩ : ∃ x, (xs)[(i)]? = some x := ⟨_, List.getElem?_eq_getElem (by omega)⟩
    obtain ⟨b1, o1, E1, F1, hok1⟩ := FSl.elt hx hx1
    refine rIxE E1 rfl rfl rfl ?_
    refine rLd (H.fat F1) 0 rfl rfl rfl ?_
    obtain ⟨x2, hx2⟩ : ∃ x, (ys)[(i)]? = some x := ⟨_, List.getElem?_eq_getElem (by omega)⟩
    obtain ⟨b2, o2, E2, F2, hok2⟩ := FSl.elt hy hx2
    refine rIxE E2 rfl rfl rfl ?_
    refine rLd (H.fat F2) 0 rfl rfl rfl ?_
    refine cI (fun c3 => ?_) (fun c3 => ?_)
    · replace c3 := vNe_t (c3)
      refine Done.mk ?_
      refine ⟨false, ?_⟩
      refine ⟨?_, ?_⟩
      · exact congrArg Value.bool (rfl)
      refine ⟨?_, ?_⟩
      · exact ⟨nofun, fun h => absurd (by subst h; exact Option.some.inj (hx1.symm.trans hx2)) (by assumption)⟩
      exact H
    replace c3 := vNe_f (c3)
    refine eqI64 (by omega) ?_
    refine Nxt.mk (i + 1) (mt_i rfl (by first | omega | (simp only; omega) | (simp; omega)) (mt_nil)) ?_ ?_
    · refine ⟨?_, ?_⟩
      · omega
      refine ⟨?_, ?_⟩
      · exact eq_step (by assumption) (by rw [hx1, hx2]; exact congrArg some (by assumption))
      exact H
    omega
  replace c2 := vLt_f (c2)
  refine Done.mk ?_
  exact ⟨true, rfl, ⟨fun _ => eq_all (by omega) (by omega) he, fun _ => rfl⟩, H⟩
theorem sameIns (w : World) (o a b : Int) (tv : Value) (to : List Int) (o' a' b' : Int) (tv' : Value) (to' : List Int) (hx : Rd enI (fun _ => True) 1 w tv to) (hy : Rd enI (fun _ => True) 1 w tv' to') :
    Fc Tryz.prog 92 #[.agg #[.int .u8 o, .int .i64 a, .int .i64 b, tv], .agg #[.int .u8 o', .int .i64 a', .int .i64 b', tv']] w (fun r w' => ∃ q, r = .bool q ∧ (q = true ↔ (⟨o, a, b, to⟩ : InsD) = ⟨o', a', b', to'⟩) ∧ Sat (froz w) w' []) := by
  refine Fc.of Tryz.func92 rfl (by kernel_rfl) ?_
  have H := Sat.start w
  have hx := hx.fz
  have hy := hy.fz
  refine rBoxS H ?_
  clear H
  intro p1 w1 H
  refine rBoxS H ?_
  clear H
  intro p2 w2 H
  clear w1
  refine rFieldAt rfl ?_
  refine rLd (H.at 1 rfl) 0 rfl rfl rfl ?_
  refine rFieldAt rfl ?_
  refine rLd (H.at 0 rfl) 0 rfl rfl rfl ?_
  refine br (fun c1 => ?_) (fun c1 => ?_)
  · replace c1 := vEq_t (c1)
    refine rFieldAt rfl ?_
    refine rLd (H.at 1 rfl) 1 rfl rfl rfl ?_
    refine rFieldAt rfl ?_
    refine rLd (H.at 0 rfl) 1 rfl rfl rfl ?_
    refine br (fun c2 => ?_) (fun c2 => ?_)
    · replace c2 := vEq_t (c2)
      refine rFieldAt rfl ?_
      refine rLd (H.at 1 rfl) 2 rfl rfl rfl ?_
      refine rFieldAt rfl ?_
      refine rLd (H.at 0 rfl) 2 rfl rfl rfl ?_
      refine br (fun c3 => ?_) (fun c3 => ?_)
      · replace c3 := vEq_t (c3)
        refine rFieldAt rfl ?_
        refine rLd (H.at 1 rfl) 3 rfl rfl rfl ?_
        refine rFieldAt rfl ?_
        refine rLd (H.at 0 rfl) 3 rfl rfl rfl ?_
        refine CallP.mk (Fc.imp (Go.Proofs.YtbbdfhgcmkljeaaGreatDoor.Ins.eq64 _ _ _ _ _ (H.rd hx) (H.rd hy)) ?_)
        rintro _ w1 ⟨b1, ⟨rfl, ⟨h1, H'⟩⟩⟩
        refine H.mergeK H' ?_
        clear H H'
        intro H
        refine Done.mk ?_
        refine ⟨b1, ?_⟩
        refine ⟨?_, ?_⟩
        · rfl
        refine ⟨?_, ?_⟩
        · (rw [InsD.mk.injEq]; simp [*]; done)
        refine H.firsts 0 ?_
        clear H
        intro H
        exact H
      replace c3 := vEq_f (c3)
      refine Done.mk ?_
      refine ⟨false, ?_⟩
      refine ⟨?_, ?_⟩
      · exact congrArg Value.bool (rfl)
      refine ⟨?_, ?_⟩
      · (rw [InsD.mk.injEq]; simp [*]; done)
      refine H.firsts 0 ?_
      clear H
      intro H
      exact H
    replace c2 := vEq_f (c2)
    refine Done.mk ?_
    refine ⟨false, ?_⟩
    refine ⟨?_, ?_⟩
    · exact congrArg Value.bool (rfl)
    refine ⟨?_, ?_⟩
    · (rw [InsD.mk.injEq]; simp [*]; done)
    refine H.firsts 0 ?_
    clear H
    intro H
    exact H
  replace c1 := vEq_f (c1)
  refine Done.mk ?_
  refine ⟨false, ?_⟩
  refine ⟨?_, ?_⟩
  · exact congrArg Value.bool (rfl)
  refine ⟨?_, ?_⟩
  · (rw [InsD.mk.injEq]; simp [*]; done)
  refine H.firsts 0 ?_
  clear H
  intro H
  exact H
end Go.Proofs.YtbbdfhgcmkljeaaGreatDoor.Ins
/- Package nest: the walker. -/
set_option maxRecDepth 100000
set_option maxHeartbeats 4000000
set_option linter.unusedVariables false
set_option linter.unusedSimpArgs false
namespace Go.Proofs.YtbbdfhgcmkljeaaGreatDoor.Nest
open Go Go.Proofs.YtbbdfhgcmkljeaaGreatDoor.Eng Go.RowKit
open Ins
section
variable {g : Glob} {w : World} {l : List As} {e : TypeId} {s j h : Nat} {α : Type} {en : α → List Value} {v v' : Value} {xs : List α}
/-- A row of which a beginning is kept. -/
theorem _root_.Go.Proofs.YtbbdfhgcmkljeaaGreatDoor.Eng.Sat.ofVw (H : Sat g w l) (j : Nat) (hj : l[j]? = some (Sl e s en v xs)) (V : Vw v s xs.length 0 h v') : Sat g w (l.set j (Sl e s en v' (xs.take h))) := by
  obtain ⟨ad, cap, hv, hh, hnc, hcm, ha, rfl⟩ := V
  have ho := H.off j hj
  refine H.slSet (lo := 0) hj ?_ (Gr.same w ?_)
  · rcases ho.1 with ⟨h1, h2⟩ | ⟨gb, o, cap', cur, h1, h2, h3, h4, h5, h6, h7⟩
    · subst h2
      rw [h1] at hv
      injection hv with e1 e2 e3
      subst e1; subst e3
      have : h = 0 := by simpa using hh
      subst this
      exact ⟨.inl ⟨rfl, by simp⟩, ho.2⟩
    · rw [h1] at hv
      injection hv with e1 e2 e3
      subst e1; subst e3
      refine ⟨.inr ⟨gb, o, cap', cur, ?_, h2, h3, h4, by rw [List.length_take]; omega, h6, ?_⟩, ho.2⟩
      · rw [List.length_take, Nat.min_eq_left hh]
        simp [Addr.add_zero']
      · rw [List.length_take, Nat.min_eq_left hh, ← flat_take ho.2 xs h hh, ← h7, List.take_take]
        congr 1
        have := Nat.mul_le_mul_right s hh
        omega
  · rcases ho.1 with ⟨h1, h2⟩ | ⟨gb, o, cap', cur, h1, h2, h3, h4, h5, h6, h7⟩
    · rw [h1] at hv
      injection hv with e1 e2 e3
      subst e1; subst e3
      left; rw [h1]; simp [Value.ownBlock]
    · rw [h1] at hv
      injection hv with e1 e2 e3
      subst e1; subst e3
      left; rw [h1]; simp [Value.ownBlock, Addr.add_zero']
end
theorem begin_ (w : World) : Fc Tryz.prog 95 #[] w (fun v w' => ∃ p vo vl, v = .pointer (some ⟨p, 0, none⟩) ∧ Sat (froz w) w' [Pt p [vo, vl, .bool false] 159, Sl 3 1 enI vo ns0.op, Sl 5 1 enK vl ns0.last]) := by
  refine Fc.of Tryz.func95 rfl (by kernel_rfl) ?_
  have H := Sat.start w
  refine rBuildSliceS H rfl rfl rfl rfl ?_
  clear H
  intro p1 w1 H
  refine rBuildSliceS H rfl rfl rfl rfl ?_
  clear H
  intro p2 w2 H
  clear w1
  refine rBuild rfl rfl rfl ?_
  refine rBoxS H ?_
  clear H
  intro p3 w1 H
  clear w2
  refine H.ptSl (n := 1) (en := enK) (s := 1) 1 rfl [_] rfl rfl (fun _ => rfl) rfl ?_
  clear H
  intro H
  refine H.ptSl (n := 1) (en := enI) (s := 1) 2 rfl [_] rfl rfl (fun _ => rfl) rfl ?_
  clear H
  intro H
  refine Done.mk ?_
  refine ⟨p3, Value.slice (some { block := p1, off := 0 }) 1 1, Value.slice (some { block := p2, off := 0 }) 1 1, ?_⟩
  refine ⟨?_, ?_⟩
  · rfl
  refine H.fronts [1, 2, 2] ?_
  clear H
  intro H
  exact H
section
variable {g : Glob} {w : World} {l : List As}
theorem nx_deep {op last : List Int} {o k : Int} (ho : o = 2 ∨ o = 3 ∨ o = 4) (h : 12 ≤ op.length - 1) : nextS ⟨op, last, false⟩ o k = (⟨op, last, false⟩, -2, 7) := by
  unfold nextS; rw [if_neg (by simp), if_pos ho, if_pos h]
theorem nx_open {op last : List Int} {o k : Int} (ho : o = 2 ∨ o = 3 ∨ o = 4) (h : op.length - 1 < 12) : nextS ⟨op, last, false⟩ o k = (⟨op ++ [k], last ++ [o], false⟩, -2, 0) := by
  unfold nextS; rw [if_neg (by simp), if_pos ho, if_neg (by simp only; omega)]
theorem nx_else_no {op last : List Int} {o k x : Int} (ho : o = 5) (hx : last[op.length - 1]? = some x) (h : x ≠ 4) : nextS ⟨op, last, false⟩ o k = (⟨op, last, false⟩, -2, 4) := by
  unfold nextS; rw [if_neg (by simp), if_neg (by omega), if_pos ho, if_pos (by simp only [List.getD_eq_getElem?_getD, hx]; exact h)]
theorem nx_else {op last : List Int} {o k x y : Int} (ho : o = 5) (hx : last[op.length - 1]? = some x) (h : x = 4) (hy : op[op.length - 1]? = some y) : nextS ⟨op, last, false⟩ o k = (⟨op, last.set (op.length - 1) 5, false⟩, y, 0) := by
  unfold nextS; rw [if_neg (by simp), if_neg (by omega), if_pos ho, if_neg (by simp only [List.getD_eq_getElem?_getD, hx]; simpa using h)]
  simp only [List.getD_eq_getElem?_getD, hy]; rfl
theorem nx_end {op last : List Int} {o k y : Int} (ho : o = 11) (hy : op[op.length - 1]? = some y) : nextS ⟨op, last, false⟩ o k = (⟨op.take (op.length - 1), last.take (op.length - 1), decide (op.length - 1 = 0)⟩, y, 0) := by
  unfold nextS; rw [if_neg (by simp), if_neg (by omega), if_neg (by omega), if_pos ho]
  simp only [List.getD_eq_getElem?_getD, hy]; rfl
theorem nx_end' {op last : List Int} {o k y : Int} (ho : o = 11) (hy : op[op.length - 1]? = some y) (hp : 0 < op.length) : nextS ⟨op, last, false⟩ o k = (⟨op.take (op.length - 1), last.take (op.length - 1), vEq ((op.length : Int) - 1) 0⟩, y, 0) := by
  rw [nx_end ho hy, vEq_iff, show decide ((op.length : Int) - 1 = 0) = decide (op.length - 1 = 0) from decide_eq_decide.2 (by omega)]
theorem nx_else_ {op last : List Int} {o k : Int} (h2 : o ≠ 2) (h3 : o ≠ 3) (h4 : o ≠ 4) (h5 : o ≠ 5) (h11 : o ≠ 11) : nextS ⟨op, last, false⟩ o k = (⟨op, last, false⟩, -2, 0) := by
  unfold nextS; rw [if_neg (by simp), if_neg (by omega), if_neg h5, if_neg h11]
theorem next {p : Nat} {vo vl : Value} (st : NS) (hst : NOk st) (H : Sat g w (Pt p [vo, vl, .bool st.over] 159 :: Sl 3 1 enI vo st.op :: Sl 5 1 enK vl st.last :: l)) (o a b k : Int) (tv : Value) :
    Fc Tryz.prog 97 #[.pointer (some ⟨p, 0, none⟩), .agg #[.int .u8 o, .int .i64 a, .int .i64 b, tv], .int .i64 k] w
    (fun v w' => ∃ (op' last' : List Int) (ov' : Bool) (vo' vl' : Value) (is e : Int), v = .tuple #[.int .i64 is, .int .i64 e] ∧ nextS st o k = (⟨op', last', ov'⟩, is, e) ∧ Sat g w' (Pt p [vo', vl', .bool ov'] 159 :: Sl 3 1 enI vo' op' :: Sl 5 1 enK vl' last' :: l)) := by
  refine Fc.of Tryz.func97 rfl (by kernel_rfl) ?_
  obtain ⟨hs1, hs2, hs3⟩ := hst
  obtain ⟨op, last, ov⟩ := st
  simp only at hs1 hs2 hs3 H
  cases ov
  · have hs4 := hs2 rfl
    clear hs2
    refine rBoxS H ?_
    clear H
    intro p1 w1 H
    refine rFieldAt rfl ?_
    refine rLd (H.at 1 rfl) 0 rfl rfl rfl ?_
    refine rLenS H 2 rfl rfl ?_
    refine eqI64 (by omega) ?_
    refine bk ?_
    refine rFieldAt rfl ?_
    refine rLd (H.at 1 rfl) 2 rfl rfl rfl ?_
    refine cF rfl ?_
    refine rFieldAt rfl ?_
    refine rLd (H.at 0 rfl) 0 rfl rfl rfl ?_
    refine cI (fun c1 => ?_) (fun c1 => ?_)
    · replace c1 := vEq_t (c1)
      refine cT (vEq_T (by assumption)) ?_
      refine cI (fun c2 => ?_) (fun c2 => ?_)
      · replace c2 := vLe_t (c2)
        refine Done.mk ?_
        refine ⟨op, last, false, vo, vl, -2, 7, ?_⟩
        refine ⟨?_, ?_⟩
        · rfl
        refine ⟨?_, ?_⟩
        · exact nx_deep (by omega) (by omega)
        refine H.fronts [3, 3, 3] ?_
        clear H
        intro H
        refine H.drop 3 ?_
        clear H
        intro H
        exact H
      replace c2 := vLe_f (c2)
      refine rFieldAt rfl ?_
      refine rLd (H.at 1 rfl) 0 rfl rfl rfl ?_
      refine rBuildSliceS H rfl rfl rfl rfl ?_
      clear H
      intro p2 w2 H
      clear w1
      refine rApS (ys := [_]) 8 H 3 rfl (H.at 0 rfl) rfl (fun y _ => rfl) rfl rfl rfl (by omega) (by omega) ?_
      intro v1
      clear H
      intro w1 H
      clear w2
      refine rFieldAt rfl ?_
      refine rStS H 2 rfl rfl rfl (H.one 3 rfl) ?_
      clear H
      intro w2 H
      clear w1
      refine drawzS H [] [(0, .pure), (1, .pure), (2, .pure), (3, .pure), (4, .held), (5, .pure), (6, .held), (7, .forced), (8, .free), (9, .pure), (10, .pure), (11, .free)] mixed (by kernel_rfl) (by kernel_rfl) ?_
      clear H
      intro w1 H
      clear w2
      refine tk (fun wx HS => rFieldAt rfl ⟨rfl, rfl⟩) ?_
      refine tk (fun wx HS => rLd (HS.at 2 rfl) 1 rfl rfl rfl ⟨rfl, rfl⟩) ?_
      refine tk (fun wx HS => rFieldAt rfl ⟨rfl, rfl⟩) ?_
      refine tk (fun wx HS => rLd (HS.at 1 rfl) 0 rfl rfl rfl ⟨rfl, rfl⟩) ?_
      refine rBuildSliceS H rfl rfl rfl rfl ?_
      clear H
      intro p3 w2 H
      clear w1
      refine KeepP.mk (H.drop 0 (fun H => H)) ?_
      refine rApS (ys := [_]) 1 H 5 rfl (H.at 0 rfl) rfl (fun y _ => rfl) rfl rfl rfl (by omega) (by omega) ?_
      intro v2
      clear H
      intro w1 H
      clear w2
      refine tk (fun wx HS => rFieldAt rfl ⟨rfl, rfl⟩) ?_
      refine rStS H 3 rfl rfl rfl (H.one 5 rfl) ?_
      clear H
      intro w2 H
      clear w1
      refine Done.mk ?_
      refine ⟨op ++ [k], last ++ [o], false, v1, v2, -2, 0, ?_⟩
      refine ⟨?_, ?_⟩
      · rfl
      refine ⟨?_, ?_⟩
      · exact nx_open (by omega) (by omega)
      refine H.fronts [5, 5, 5] ?_
      clear H
      intro H
      refine H.drop 5 ?_
      clear H
      intro H
      refine H.drop 4 ?_
      clear H
      intro H
      refine H.drop 3 ?_
      clear H
      intro H
      exact H
    replace c1 := vEq_f (c1)
    refine rFieldAt rfl ?_
    refine rLd (H.at 0 rfl) 0 rfl rfl rfl ?_
    refine cI (fun c2 => ?_) (fun c2 => ?_)
    · replace c2 := vEq_t (c2)
      refine cT (vEq_T (by assumption)) ?_
      refine cI (fun c3 => ?_) (fun c3 => ?_)
      · replace c3 := vLe_t (c3)
        refine Done.mk ?_
        refine ⟨op, last, false, vo, vl, -2, 7, ?_⟩
        refine ⟨?_, ?_⟩
        · rfl
        refine ⟨?_, ?_⟩
        · exact nx_deep (by omega) (by omega)
        refine H.fronts [3, 3, 3] ?_
        clear H
        intro H
        refine H.drop 3 ?_
        clear H
        intro H
        exact H
      replace c3 := vLe_f (c3)
      refine rFieldAt rfl ?_
      refine rLd (H.at 1 rfl) 0 rfl rfl rfl ?_
      refine rBuildSliceS H rfl rfl rfl rfl ?_
      clear H
      intro p2 w2 H
      clear w1
      refine rApS (ys := [_]) 8 H 3 rfl (H.at 0 rfl) rfl (fun y _ => rfl) rfl rfl rfl (by omega) (by omega) ?_
      intro v1
      clear H
      intro w1 H
      clear w2
      refine rFieldAt rfl ?_
      refine rStS H 2 rfl rfl rfl (H.one 3 rfl) ?_
      clear H
      intro w2 H
      clear w1
      refine drawzS H [] [(0, .pure), (1, .pure), (2, .pure), (3, .pure), (4, .held), (5, .pure), (6, .held), (7, .forced), (8, .free), (9, .pure), (10, .pure), (11, .free)] mixed (by kernel_rfl) (by kernel_rfl) ?_
      clear H
      intro w1 H
      clear w2
      refine tk (fun wx HS => rFieldAt rfl ⟨rfl, rfl⟩) ?_
      refine tk (fun wx HS => rLd (HS.at 2 rfl) 1 rfl rfl rfl ⟨rfl, rfl⟩) ?_
      refine tk (fun wx HS => rFieldAt rfl ⟨rfl, rfl⟩) ?_
      refine tk (fun wx HS => rLd (HS.at 1 rfl) 0 rfl rfl rfl ⟨rfl, rfl⟩) ?_
      refine rBuildSliceS H rfl rfl rfl rfl ?_
      clear H
      intro p3 w2 H
      clear w1
      refine KeepP.mk (H.drop 0 (fun H => H)) ?_
      refine rApS (ys := [_]) 1 H 5 rfl (H.at 0 rfl) rfl (fun y _ => rfl) rfl rfl rfl (by omega) (by omega) ?_
      intro v2
      clear H
      intro w1 H
      clear w2
      refine tk (fun wx HS => rFieldAt rfl ⟨rfl, rfl⟩) ?_
      refine rStS H 3 rfl rfl rfl (H.one 5 rfl) ?_
      clear H
      intro w2 H
      clear w1
      refine Done.mk ?_
      refine ⟨op ++ [k], last ++ [o], false, v1, v2, -2, 0, ?_⟩
      refine ⟨?_, ?_⟩
      · rfl
      refine ⟨?_, ?_⟩
      · exact nx_open (by omega) (by omega)
      refine H.fronts [5, 5, 5] ?_
      clear H
      intro H
      refine H.drop 5 ?_
      clear H
      intro H
      refine H.drop 4 ?_
      clear H
      intro H
      refine H.drop 3 ?_
      clear H
      intro H
      exact H
    replace c2 := vEq_f (c2)
    refine rFieldAt rfl ?_
    refine rLd (H.at 0 rfl) 0 rfl rfl rfl ?_
    refine cI (fun c3 => ?_) (fun c3 => ?_)
    · replace c3 := vEq_t (c3)
      refine cI (fun c4 => ?_) (fun c4 => ?_)
      · replace c4 := vLe_t (c4)
        refine Done.mk ?_
        refine ⟨op, last, false, vo, vl, -2, 7, ?_⟩
        refine ⟨?_, ?_⟩
        · rfl
        refine ⟨?_, ?_⟩
        · exact nx_deep (by omega) (by omega)
        refine H.fronts [3, 3, 3] ?_
        clear H
        intro H
        refine H.drop 3 ?_
        clear H
        intro H
        exact H
      replace c4 := vLe_f (c4)
      refine rFieldAt rfl ?_
      refine rLd (H.at 1 rfl) 0 rfl rfl rfl ?_
      refine rBuildSliceS H rfl rfl rfl rfl ?_
      clear H
      intro p2 w2 H
      clear w1
      refine rApS (ys := [_]) 8 H 3 rfl (H.at 0 rfl) rfl (fun y _ => rfl) rfl rfl rfl (by omega) (by omega) ?_
      intro v1
      clear H
      intro w1 H
      clear w2
      refine rFieldAt rfl ?_
      refine rStS H 2 rfl rfl rfl (H.one 3 rfl) ?_
      clear H
      intro w2 H
      clear w1
      refine drawzS H [] [(0, .pure), (1, .pure), (2, .pure), (3, .pure), (4, .held), (5, .pure), (6, .held), (7, .forced), (8, .free), (9, .pure), (10, .pure), (11, .free)] mixed (by kernel_rfl) (by kernel_rfl) ?_
      clear H
      intro w1 H
      clear w2
      refine tk (fun wx HS => rFieldAt rfl ⟨rfl, rfl⟩) ?_
      refine tk (fun wx HS => rLd (HS.at 2 rfl) 1 rfl rfl rfl ⟨rfl, rfl⟩) ?_
      refine tk (fun wx HS => rFieldAt rfl ⟨rfl, rfl⟩) ?_
      refine tk (fun wx HS => rLd (HS.at 1 rfl) 0 rfl rfl rfl ⟨rfl, rfl⟩) ?_
      refine rBuildSliceS H rfl rfl rfl rfl ?_
      clear H
      intro p3 w2 H
      clear w1
      refine KeepP.mk (H.drop 0 (fun H => H)) ?_
      refine rApS (ys := [_]) 1 H 5 rfl (H.at 0 rfl) rfl (fun y _ => rfl) rfl rfl rfl (by omega) (by omega) ?_
      intro v2
      clear H
      intro w1 H
      clear w2
      refine tk (fun wx HS => rFieldAt rfl ⟨rfl, rfl⟩) ?_
      refine rStS H 3 rfl rfl rfl (H.one 5 rfl) ?_
      clear H
      intro w2 H
      clear w1
      refine Done.mk ?_
      refine ⟨op ++ [k], last ++ [o], false, v1, v2, -2, 0, ?_⟩
      refine ⟨?_, ?_⟩
      · rfl
      refine ⟨?_, ?_⟩
      · exact nx_open (by omega) (by omega)
      refine H.fronts [5, 5, 5] ?_
      clear H
      intro H
      refine H.drop 5 ?_
      clear H
      intro H
      refine H.drop 4 ?_
      clear H
      intro H
      refine H.drop 3 ?_
      clear H
      intro H
      exact H
    replace c3 := vEq_f (c3)
    refine rFieldAt rfl ?_
    refine rLd (H.at 0 rfl) 0 rfl rfl rfl ?_
    refine cI (fun c4 => ?_) (fun c4 => ?_)
    · replace c4 := vEq_t (c4)
      refine rFieldAt rfl ?_
      refine rLd (H.at 1 rfl) 1 rfl rfl rfl ?_
      obtain ⟨x1, hx1⟩ : ∃ x, (last)[((op.length) - 1)]? = some x := ⟨_, List.getElem?_eq_getElem (by omega)⟩
      obtain ⟨b1, o1, E1⟩ := H.elt 3 rfl ((op.length) - 1) (by omega)
      refine rIxE E1 (by omega) rfl rfl ?_
      refine rLd (H.el 3 rfl E1 hx1) 0 rfl rfl rfl ?_
      refine cI (fun c5 => ?_) (fun c5 => ?_)
      · replace c5 := vNe_t (c5)
        refine Done.mk ?_
        refine ⟨op, last, false, vo, vl, -2, 4, ?_⟩
        refine ⟨?_, ?_⟩
        · rfl
        refine ⟨?_, ?_⟩
        · exact nx_else_no (by omega) hx1 (by assumption)
        refine H.fronts [3, 3, 3] ?_
        clear H
        intro H
        refine H.drop 3 ?_
        clear H
        intro H
        exact H
      replace c5 := vNe_f (c5)
      refine rFieldAt rfl ?_
      refine rLd (H.at 1 rfl) 1 rfl rfl rfl ?_
      refine rIxE E1 (by omega) rfl rfl ?_
      refine rStE H 3 rfl E1 hx1 0 (5) rfl rfl rfl rfl ?_
      clear H
      intro w2 H
      clear w1
      refine rFieldAt rfl ?_
      refine rLd (H.at 1 rfl) 0 rfl rfl rfl ?_
      obtain ⟨x2, hx2⟩ : ∃ x, (op)[((op.length) - 1)]? = some x := ⟨_, List.getElem?_eq_getElem (by omega)⟩
      obtain ⟨b2, o2, E2⟩ := H.elt 2 rfl ((op.length) - 1) (by omega)
      refine rIxE E2 (by omega) rfl rfl ?_
      refine rLd (H.el 2 rfl E2 hx2) 0 rfl rfl rfl ?_
      refine Done.mk ?_
      refine ⟨op, last.set (op.length - 1) 5, false, vo, vl, x2, 0, ?_⟩
      refine ⟨?_, ?_⟩
      · rfl
      refine ⟨?_, ?_⟩
      · exact nx_else (by omega) hx1 (by assumption) (by assumption)
      refine H.fronts [3, 3, 3] ?_
      clear H
      intro H
      refine H.drop 3 ?_
      clear H
      intro H
      exact H
    replace c4 := vEq_f (c4)
    refine rFieldAt rfl ?_
    refine rLd (H.at 0 rfl) 0 rfl rfl rfl ?_
    refine cI (fun c5 => ?_) (fun c5 => ?_)
    · replace c5 := vEq_t (c5)
      refine rFieldAt rfl ?_
      refine rLd (H.at 1 rfl) 0 rfl rfl rfl ?_
      obtain ⟨x1, hx1⟩ : ∃ x, (op)[((op.length) - 1)]? = some x := ⟨_, List.getElem?_eq_getElem (by omega)⟩
      obtain ⟨b1, o1, E1⟩ := H.elt 2 rfl ((op.length) - 1) (by omega)
      refine rIxE E1 (by omega) rfl rfl ?_
      refine rLd (H.el 2 rfl E1 hx1) 0 rfl rfl rfl ?_
      refine drawzS H [] [(0, .pure), (1, .pure), (2, .pure), (3, .pure), (4, .pure), (5, .held), (6, .pure), (7, .pure), (8, .pure), (9, .pure), (10, .pure), (11, .held), (12, .pure), (13, .pure), (14, .pure), (15, .pure), (16, .free), (17, .pure), (18, .pure), (19, .free)] mixed (by kernel_rfl) (by kernel_rfl) ?_
      clear H
      intro w2 H
      clear w1
      refine tk (fun wx HS => rFieldAt rfl ⟨rfl, rfl⟩) ?_
      refine tk (fun wx HS => rLd (HS.at 1 rfl) 0 rfl rfl rfl ⟨rfl, rfl⟩) ?_
      obtain ⟨v1, V1⟩ := H.vw 2 rfl (0) (((op.length) - 1)) (by omega) (by omega)
      refine tk (fun wx HS => rSlVw V1 rfl rfl (.inl ⟨rfl, rfl⟩) (.inr ⟨_, by first | rfl | (congr 2; omega)⟩) ⟨rfl, rfl⟩) ?_
      refine tk (fun wx HS => rFieldAt rfl ⟨rfl, rfl⟩) ?_
      refine tk (fun wx HS => rLd (HS.at 1 rfl) 1 rfl rfl rfl ⟨rfl, rfl⟩) ?_
      obtain ⟨v2, V2⟩ := H.vw 3 rfl (0) (((op.length) - 1)) (by omega) (by omega)
      refine tk (fun wx HS => rSlVw V2 rfl rfl (.inl ⟨rfl, rfl⟩) (.inr ⟨_, by first | rfl | (congr 2; omega)⟩) ⟨rfl, rfl⟩) ?_
      refine tk (fun wx HS => rFieldAt rfl ⟨rfl, rfl⟩) ?_
      refine rStS H 1 rfl rfl rfl (by simp only [Bool.and_true, H.one 2 rfl, H.one 3 rfl, Vw.one V2, Vw.one V1]) ?_
      clear H
      intro w1 H
      clear w2
      refine tk (fun wx HS => rFieldAt rfl ⟨rfl, rfl⟩) ?_
      refine rStS H 1 rfl rfl rfl (by simp only [Bool.and_true, H.one 2 rfl, H.one 3 rfl, Vw.one V2, Vw.one V1]) ?_
      clear H
      intro w2 H
      clear w1
      refine rFieldAt rfl ?_
      refine rStS H 1 rfl rfl rfl rfl ?_
      clear H
      intro w1 H
      clear w2
      refine Done.mk ?_
      exact ⟨_, _, _, v1, v2, _, _, rfl, nx_end' (by omega) hx1 hs4, ((H.ofVw 2 rfl V1).ofVw 3 rfl V2).del 0⟩
    replace c5 := vEq_f (c5)
    refine Done.mk ?_
    refine ⟨op, last, false, vo, vl, -2, 0, ?_⟩
    refine ⟨?_, ?_⟩
    · rfl
    refine ⟨?_, ?_⟩
    · exact nx_else_ (by omega) (by omega) (by omega) (by omega) (by omega)
    refine H.fronts [3, 3, 3] ?_
    clear H
    intro H
    refine H.drop 3 ?_
    clear H
    intro H
    exact H
  · refine rBoxS H ?_
    clear H
    intro p1 w1 H
    refine rFieldAt rfl ?_
    refine rLd (H.at 1 rfl) 0 rfl rfl rfl ?_
    refine rLenS H 2 rfl rfl ?_
    refine eqI64 (by omega) ?_
    refine bk ?_
    refine rFieldAt rfl ?_
    refine rLd (H.at 1 rfl) 2 rfl rfl rfl ?_
    refine cT rfl ?_
    refine Done.mk ?_
    refine ⟨op, last, true, vo, vl, -2, 4, ?_⟩
    refine ⟨?_, ?_⟩
    · rfl
    refine ⟨?_, ?_⟩
    · rfl
    refine H.fronts [3, 3, 3] ?_
    clear H
    intro H
    refine H.drop 3 ?_
    clear H
    intro H
    exact H
end
end Go.Proofs.YtbbdfhgcmkljeaaGreatDoor.Nest
/- Bodies that are written and read. -/
set_option maxRecDepth 100000
set_option linter.unusedVariables false
set_option linter.unusedSimpArgs false
namespace Go.Proofs.YtbbdfhgcmkljeaaGreatDoor.Nest
open Go.Proofs.YtbbdfhgcmkljeaaGreatDoor.Leb Go.Proofs.YtbbdfhgcmkljeaaGreatDoor.Txt Go.Proofs.YtbbdfhgcmkljeaaGreatDoor.Ins
def txtL (l : List InsD) : List UInt8 := l.flatMap txt
/-- What is read of a body, from byte k on, with what was read before. -/
def rdG : Nat → List UInt8 → Nat → List InsD → NS → List InsD × Nat × Int
  | 0, _, _, _, _ => ([], 0, 2)
  | f + 1, s, k, acc, st =>
    if st.over = true then (acc, k, 0)
    else if (rdI (s.drop k)).2.2 ≠ 0 then ([], 0, (rdI (s.drop k)).2.2)
    else if acc.length = 200 then ([], 0, 2)
    else if (nextS st (rdI (s.drop k)).1.op acc.length).2.2 ≠ 0 then ([], 0, (nextS st (rdI (s.drop k)).1.op acc.length).2.2)
    else rdG f s (k + (rdI (s.drop k)).2.1) (acc ++ [(rdI (s.drop k)).1]) (nextS st (rdI (s.drop k)).1.op acc.length).1
def rdB (s : List UInt8) : List InsD × Nat × Int := rdG 201 s 0 [] ns0
/-- What is so far read of s. -/
structure RdI (s : List UInt8) (acc : List InsD) (k : Nat) (st : NS) : Prop where
  eq : rdB s = rdG (201 - acc.length) s k acc st
  le : acc.length ≤ 200
  ks : k ≤ s.length
  st : st = stB acc acc.length
  far : SoFar acc acc.length
  tx : (txtL acc).length ≤ k
  ops : ∀ x ∈ acc, (0 ≤ x.op ∧ x.op ≤ 255) ∧ (-9223372036854775808 ≤ x.a ∧ x.a ≤ 9223372036854775807) ∧ -9223372036854775808 ≤ x.b ∧ x.b ≤ 9223372036854775807
theorem RdI.zero (s : List UInt8) : RdI s [] 0 ns0 := ⟨rfl, Nat.zero_le _, Nat.zero_le _, rfl, SoFar.zero _, Nat.zero_le _, nofun⟩
theorem stB_app (l r : List InsD) : ∀ k, k ≤ l.length → stB (l ++ r) k = stB l k
  | 0, _ => rfl
  | k + 1, h => by
    have hx : l[k]? = some l[k] := List.getElem?_eq_getElem h
    rw [stB_succ hx, stB_succ (by rw [List.getElem?_append_left h]; exact hx), stB_app l r k (by omega)]
theorem SoFar.app {l : List InsD} {k : Nat} (h : SoFar l k) (hk : k ≤ l.length) (r : List InsD) : SoFar (l ++ r) k := fun i x hi hx => by
  rw [List.getElem?_append_left (by omega)] at hx
  rw [stB_app _ _ _ (by omega)]
  exact h i x hi hx
theorem RdI.step {s : List UInt8} {acc : List InsD} {k n : Nat} {st st' : NS} {x : InsD} {is : Int} (h : RdI s acc k st) (ho : st.over = false) (hr : rdI (s.drop k) = (x, n, 0)) (hl : acc.length ≠ 200) (hn : nextS st x.op acc.length = (st', is, 0)) : RdI s (acc ++ [x]) (k + n) st' := by
  obtain ⟨h1, h2, h3, h4, h5, h6, h7⟩ := h
  obtain ⟨t1, t2, t3, t4, t5, t6, t7⟩ := rdI_told hr
  rw [List.length_drop] at t1
  have hlen : (acc ++ [x]).length = acc.length + 1 := by simp
  have hst : nextS (stB (acc ++ [x]) acc.length) x.op acc.length = (st', is, 0) := by rw [stB_app _ _ _ (Nat.le_refl _), ← h4]; exact hn
  have hx : (acc ++ [x])[acc.length]? = some x := by rw [List.getElem?_append_right (Nat.le_refl _)]; simp
  refine ⟨?_, by omega, by omega, ?_, ?_, ?_, fun y hy => ?_⟩
  · rw [h1, show 201 - acc.length = (201 - (acc ++ [x]).length) + 1 by omega, rdG, if_neg (by rw [ho]; simp), hr]
    simp only [hn]
    rw [if_neg (by simp), if_neg hl, if_neg (by simp)]
  · rw [hlen, stB_succ hx, hst]
  · rw [hlen]
    exact (h5.app (Nat.le_refl _) [x]).succ hx t4 (by rw [hst])
  · unfold txtL at *
    rw [List.flatMap_append, List.length_append, List.flatMap_cons, List.flatMap_nil, List.append_nil]; omega
  · rcases List.mem_append.1 hy with hy | hy
    · exact h7 y hy
    · rw [List.mem_singleton.1 hy]; exact ⟨⟨t2, t3⟩, t6, t7⟩
theorem RdI.bad {s : List UInt8} {acc : List InsD} {k n : Nat} {st : NS} {x : InsD} {e : Int} (h : RdI s acc k st) (ho : st.over = false) (hr : rdI (s.drop k) = (x, n, e)) (he : e ≠ 0) : rdB s = ([], 0, e) := by
  rw [h.eq, show 201 - acc.length = (200 - acc.length) + 1 by have := h.le; omega, rdG, if_neg (by rw [ho]; simp), hr]
  simp only
  rw [if_pos he]
theorem RdI.full {s : List UInt8} {acc : List InsD} {k n : Nat} {st : NS} {x : InsD} (h : RdI s acc k st) (ho : st.over = false) (hr : rdI (s.drop k) = (x, n, 0)) (hl : acc.length = 200) : rdB s = ([], 0, 2) := by
  rw [h.eq, show 201 - acc.length = (200 - acc.length) + 1 by have := h.le; omega, rdG, if_neg (by rw [ho]; simp), hr]
  simp only
  rw [if_neg (by simp), if_pos hl]
theorem RdI.no {s : List UInt8} {acc : List InsD} {k n : Nat} {st st' : NS} {x : InsD} {is e : Int} (h : RdI s acc k st) (ho : st.over = false) (hr : rdI (s.drop k) = (x, n, 0)) (hl : acc.length ≠ 200) (hn : nextS st x.op acc.length = (st', is, e)) (he : e ≠ 0) : rdB s = ([], 0, e) := by
  rw [h.eq, show 201 - acc.length = (200 - acc.length) + 1 by have := h.le; omega, rdG, if_neg (by rw [ho]; simp), hr]
  simp only [hn]
  rw [if_neg (by simp), if_neg hl, if_pos he]
theorem RdI.over {s : List UInt8} {acc : List InsD} {k : Nat} {st : NS} (h : RdI s acc k st) (ho : st.over = true) : rdB s = (acc, k, 0) := by
  rw [h.eq, show 201 - acc.length = (200 - acc.length) + 1 by have := h.le; omega, rdG, if_pos ho]
/-- What was read is a body, and can be written with no more bytes. -/
theorem RdI.told {s : List UInt8} {acc : List InsD} {k : Nat} {st : NS} (h : RdI s acc k st) (ho : st.over = true) : chkB acc = 0 ∧ (txtL acc).length ≤ k ∧ k ≤ s.length := by
  refine ⟨?_, h.tx, h.ks⟩
  rw [chkB_end h.le h.far rfl, ← h.st, if_pos ho]
theorem over_no {st : NS} (h : st.over = true) (o k : Int) : (nextS st o k).2.2 = 4 := by unfold nextS; rw [if_pos h]
theorem txtL_take {l : List InsD} {k : Nat} {x : InsD} (h : l[k]? = some x) : txtL (l.take (k + 1)) = txtL (l.take k) ++ txt x := by
  unfold txtL
  rw [List.take_add_one, h, List.flatMap_append]; simp
def opsOk (l : List InsD) : Prop := ∀ x ∈ l, (0 ≤ x.op ∧ x.op ≤ 255) ∧ (-9223372036854775808 ≤ x.a ∧ x.a ≤ 9223372036854775807)
/-- The first k instructions of a body are read from any text that begins with theirs. -/
theorem rd_first {l : List InsD} (h : chkB l = 0) (ho : opsOk l) {s rest : List UInt8} : ∀ k, k ≤ l.length → s = txtL (l.take k) ++ rest → RdI s (l.take k) (txtL (l.take k)).length (stB l k) := by
  obtain ⟨h1, h2, h3⟩ := chkB_ok h
  intro k
  induction k generalizing rest with
  | zero => intro _ _; exact RdI.zero s
  | succ k ih =>
    intro hk hs
    have hx : l[k]? = some l[k] := List.getElem?_eq_getElem hk
    obtain ⟨c1, c2⟩ := h2 k _ hk hx
    rw [txtL_take hx, List.append_assoc] at hs
    have hI := ih (by omega) hs
    have hlen : (l.take k).length = k := by rw [List.length_take]; omega
    have hmem := ho _ (List.mem_of_getElem? hx)
    have hr : rdI (s.drop (txtL (l.take k)).length) = (l[k], (txt l[k]).length, 0) := by
      rw [hs, List.drop_left]; exact rdI_txt c1 hmem.1 hmem.2 rest
    have hov : (stB l k).over = false := by
      cases hov : (stB l k).over with
      | false => rfl
      | true => rw [over_no hov] at c2; cases c2
    have hn : nextS (stB l k) l[k].op (l.take k).length = ((nextS (stB l k) l[k].op k).1, (nextS (stB l k) l[k].op k).2.1, 0) := by rw [hlen, ← c2]
    have := hI.step hov hr (by omega) hn
    rw [show l.take k ++ [l[k]] = l.take (k + 1) by rw [List.take_add_one, hx]; rfl, ← List.length_append, ← txtL_take hx, ← stB_succ hx] at this
    exact this
theorem rdB_txt {l : List InsD} (h : chkB l = 0) (ho : opsOk l) (more : List UInt8) : rdB (txtL l ++ more) = (l, (txtL l).length, 0) := by
  obtain ⟨h1, h2, h3⟩ := chkB_ok h
  have := rd_first h ho (s := txtL l ++ more) (rest := more) l.length (Nat.le_refl _) (by rw [List.take_length])
  rw [List.take_length] at this
  exact this.over h3
end Go.Proofs.YtbbdfhgcmkljeaaGreatDoor.Nest
/- Package leb: writing. -/
set_option maxRecDepth 100000
set_option maxHeartbeats 4000000
set_option linter.unusedVariables false
set_option linter.unusedSimpArgs false
namespace Go.Proofs.YtbbdfhgcmkljeaaGreatDoor.Leb
open Go Go.Proofs.YtbbdfhgcmkljeaaGreatDoor.Eng Go.RowKit
theorem S1 (n : Int) (w : World) : Fc Tryz.prog 75 #[.int .i64 n] w (fun v w' => (∃ b, v = .bool b ∧ (b = true ↔ -64 ≤ n ∧ n < 64)) ∧ w = w') := by
  refine Fc.of Tryz.func75 rfl (by kernel_rfl) ?_
  have H := Sat.start w
  refine br (fun c1 => ?_) (fun c1 => ?_)
  · replace c1 := vLe_t (c1)
    refine Done.mk ?_
    exact ⟨⟨_, rfl, by simp [vLt_iff]; omega⟩, rfl⟩
  replace c1 := vLe_f (c1)
  refine Done.mk ?_
  exact ⟨⟨_, rfl, by simp [vLt_iff]; omega⟩, rfl⟩
theorem write_s (n : Int) (hn : -9223372036854775808 ≤ n ∧ n ≤ 9223372036854775807) (w : World) : Fc Tryz.prog 74 #[.int .i64 n, .func (.func 75) #[] #[]] w
    (fun v w' => ∃ l, v = .string (bs l) ∧ l = sleb n ∧ Sat (froz w) w' []) := by
  have hlen : (sleb n).length ≤ 10 := sleb_len 9 n (by omega) (by omega)
  refine Fc.of Tryz.func74 rfl (by kernel_rfl) ?_
  have H := Sat.start w
  
  refine LoopP.rule (α := Int × Value × List UInt8) (n, .slice none 0 0, []) (fun x_ => [(0, .int .i64 x_.1), (5, x_.2.1)]) (fun x_ w_ => (x_.2.2 ++ sleb x_.1 = sleb n) ∧ (-9223372036854775808 ≤ x_.1 ∧ x_.1 ≤ 9223372036854775807) ∧ Sat (froz w) w_ ((Sl 5 1 enY x_.2.1 x_.2.2 :: []))) (fun x_ => x_.1.natAbs) ?_ ?_ ?_
  · repeat first | exact mt_nil | refine mt_cons rfl ?_ | refine mt_i rfl (by first | omega | (simp only; omega) | (simp; omega) | (simp; done)) ?_
  · try simp only
    refine ⟨?_, ?_⟩
    · rfl
    refine ⟨?_, ?_⟩
    · assumption
    replace H := H.sl0 (en := enY) (s := 1) (5) (fun _ => rfl)
    exact H
  clear H
  rintro ⟨m, vo, l⟩ f_ w_ ⟨hl, hm, H⟩
  try simp only at hl hm H ⊢
  have hll : l.length + (sleb m).length ≤ 10 := by rw [← List.length_append, hl]; exact hlen
  have hpos := sleb_pos m
  by_cases h : -64 ≤ m ∧ m < 64
  · have hu := sleb_in h
    rw [hu] at hl
    have e0 : vAnd .i64 m 127 = (((UInt8.ofNat (m % 128).toNat).toNat : Nat) : Int) := by rw [vAnd127, byte_toNat (by omega)]; omega
    have hb0 := (UInt8.ofNat (m % 128).toNat).toNat_lt
    refine CallP.mk (Fc.imp (Go.Proofs.YtbbdfhgcmkljeaaGreatDoor.Leb.S1 _ _) ?_)
    rintro _ _ ⟨⟨b1, ⟨rfl, h1⟩⟩, rfl⟩
    refine cF (not_F (h1.2 (by assumption))) ?_
    refine EqP.mk _ e0 ?_
    refine rConvU8 (by omega) rfl rfl ?_
    refine rBuildSliceS H rfl rfl rfl rfl ?_
    clear H
    intro p1 w1 H
    clear w_
    refine rApS (ys := [_]) 1 H 1 rfl (H.at 0 rfl) rfl (fun y _ => rfl) rfl rfl rfl (by omega) (by omega) ?_
    intro v1
    clear H
    intro w2 H
    clear w1
    refine rBytesStrS H 1 rfl rfl rfl rfl ?_
    refine Done.mk ?_
    refine ⟨l ++ [UInt8.ofNat (m % 128).toNat], ?_⟩
    refine ⟨?_, ?_⟩
    · rfl
    refine ⟨?_, ?_⟩
    · assumption
    refine H.firsts 0 ?_
    clear H
    intro H
    exact H
  · have hu := sleb_out h
    rw [hu] at hl
    have e0 : vAnd .i64 m 127 = (((m % 128).toNat : Nat) : Int) := by rw [vAnd127]; omega
    have ho : (m % 128).toNat ||| 128 = (m % 128).toNat + 128 := by
      exact or128 (by omega)
    refine CallP.mk (Fc.imp (Go.Proofs.YtbbdfhgcmkljeaaGreatDoor.Leb.S1 _ _) ?_)
    rintro _ _ ⟨⟨b1, ⟨rfl, h1⟩⟩, rfl⟩
    refine cT (not_T (iff_F h1 (by assumption))) ?_
    refine bk ?_
    refine EqP.mk _ e0 ?_
    refine rConvU8 (by omega) rfl rfl ?_
    (refine eqOrU8 (((m % 128).toNat)) (128) (by omega) (by omega) (by omega) (by omega) ?_; intro hB)
    refine rBuildSliceS H rfl rfl rfl rfl ?_
    clear H
    intro p1 w1 H
    clear w_
    have hbk1 := byteIs (x := (↑((m % 128).toNat ||| 128) : Int)) (n := ((m % 128).toNat ||| 128)) (by omega)
    rw [hbk1] at H
    clear hbk1
    refine rApS (ys := [_]) 1 H 1 rfl (H.at 0 rfl) rfl (fun y _ => rfl) rfl rfl rfl (by omega) (by omega) ?_
    intro v1
    clear H
    intro w2 H
    clear w1
    refine ShiftP.mk (by decide) ?_
    refine eqShrL 7 128 rfl rfl (by decide) ?_
    refine Nxt.mk ((m / 128, v1, l ++ [UInt8.ofNat ((m % 128).toNat ||| 128)])) (mt_cons rfl (mt_cons rfl (mt_nil))) ?_ ?_
    · refine ⟨?_, ?_⟩
      · (rw [ho, List.append_assoc]; exact hl)
      refine ⟨?_, ?_⟩
      · refine ⟨?_, ?_⟩
        · omega
        omega
      refine H.fronts [1] ?_
      clear H
      intro H
      refine H.firsts 1 ?_
      clear H
      intro H
      exact H
    omega
theorem S (n : Int) (hn : -9223372036854775808 ≤ n ∧ n ≤ 9223372036854775807) (w : World) : Fc Tryz.prog 28 #[.int .i64 n] w (fun v w' => ∃ l, v = .string (bs l) ∧ l = sleb n ∧ l.length ≤ 10 ∧ Sat (froz w) w' []) := by
  have hlen : (sleb n).length ≤ 10 := sleb_len 9 n (by omega) (by omega)
  refine Fc.of Tryz.func28 rfl (by kernel_rfl) ?_
  have H := Sat.start w
  refine CallP.mk (Fc.imp (Go.Proofs.YtbbdfhgcmkljeaaGreatDoor.Leb.write_s _ ?_ _) ?_)
  · assumption
  rintro _ w1 ⟨l1, ⟨rfl, ⟨h1, H'⟩⟩⟩
  refine H.mergeK H' ?_
  clear H H'
  intro H
  refine Done.mk ?_
  refine ⟨l1, ?_⟩
  refine ⟨?_, ?_⟩
  · rfl
  refine ⟨?_, ?_⟩
  · assumption
  refine ⟨?_, ?_⟩
  · (rw [h1]; exact hlen)
  exact H
end Go.Proofs.YtbbdfhgcmkljeaaGreatDoor.Leb
/- Package ins: Write. -/
set_option maxRecDepth 100000
set_option maxHeartbeats 4000000
set_option linter.unusedVariables false
set_option linter.unusedSimpArgs false
namespace Go.Proofs.YtbbdfhgcmkljeaaGreatDoor.Ins
open Go Go.Proofs.YtbbdfhgcmkljeaaGreatDoor.Eng Go.RowKit
open Leb
theorem chk_facts {o a b : Int} {to : List Int} (h : chk ⟨o, a, b, to⟩ = 0) : bsd o ≠ 0 ∧ to.length ≤ 16 ∧ (bsd o ≠ 4 → to = []) ∧ (bsd o ≠ 6 → b = 0) ∧ (bsd o = 1 ∨ bsd o = 7 → a = 0) ∧ (bsd o = 2 → a = 64 ∨ a = 127 ∨ a = 126) ∧ (bsd o = 8 → I32 a) ∧ (bsd o = 6 → (0 ≤ a ∧ a ≤ 4294967295) ∧ 0 ≤ b ∧ b ≤ 4294967295) ∧ (bsd o = 3 ∨ bsd o = 4 ∨ bsd o = 5 → 0 ≤ a ∧ a ≤ 4294967295) ∧ ∀ n ∈ to, 0 ≤ n ∧ n ≤ 4294967295 := by
  obtain ⟨h0, h1, h2, h3, h4, h5⟩ := chk_ok h
  simp only at h0 h1 h2 h3 h4 h5
  exact ⟨h0, h1, h2, h3, fun k => (goodK_17 k).1 h4, fun k => (goodK_2 k).1 h4, fun k => (goodK_8 k).1 h4, fun k => (goodK_6 k).1 h4, fun k => (goodK_345 k).1 h4, h5⟩
theorem txt_of {o a b : Int} {to : List Int} {c : UInt8} {t : List UInt8} (hc : byt o = c) (h : txtB (bsd o) ⟨o, a, b, to⟩ = t) : [c] ++ t = txt ⟨o, a, b, to⟩ := by unfold txt; rw [hc, h]; rfl
theorem txt_of0 {o a b : Int} {to : List Int} {c : UInt8} (hc : byt o = c) (h : txtB (bsd o) ⟨o, a, b, to⟩ = []) : [c] = txt ⟨o, a, b, to⟩ := by unfold txt; rw [hc, h]
theorem txtB_2 {k : Int} {x : InsD} (h : k = 2) : txtB k x = [byt x.a] := by subst h; rfl
theorem txtB_3 {k : Int} {x : InsD} (h : k = 3) : txtB k x = uleb x.a.toNat := by subst h; rfl
theorem txtB_4 {k : Int} {x : InsD} (h : k = 4) : txtB k x = uleb x.to.length ++ (x.to.flatMap (fun n => uleb n.toNat) ++ uleb x.a.toNat) := by subst h; rfl
theorem txtB_5 {k : Int} {x : InsD} (h : k = 5) : txtB k x = uleb x.a.toNat ++ [0] := by subst h; rfl
theorem txtB_6 {k : Int} {x : InsD} (h : k = 6) : txtB k x = uleb x.a.toNat ++ uleb x.b.toNat := by subst h; rfl
theorem txtB_7 {k : Int} {x : InsD} (h : k = 7) : txtB k x = [0] := by subst h; rfl
theorem txtB_89 {k : Int} {x : InsD} (h : k = 8 ∨ k = 9) : txtB k x = sleb x.a := by rcases h with rfl | rfl <;> rfl
theorem txtB_n {k : Int} {x : InsD} (h2 : k ≠ 2) (h3 : k ≠ 3) (h4 : k ≠ 4) (h5 : k ≠ 5) (h6 : k ≠ 6) (h7 : k ≠ 7) (h8 : k ≠ 8) (h9 : k ≠ 9) : txtB k x = [] := by
  unfold txtB
  rw [if_neg h2, if_neg h3, if_neg h4, if_neg h5, if_neg h6, if_neg h7, if_neg (by omega)]
theorem flat_takeS {f : Int → List UInt8} {l : List Int} {k : Nat} {x : Int} (hx : l[k]? = some x) : (l.take (k + 1)).flatMap f = (l.take k).flatMap f ++ f x := by
  rw [List.take_add_one, hx, List.flatMap_append]; simp
theorem write (o a b : Int) (tv : Value) (to : List Int) (w : World) (ho : U8 o) (ha : I64 a) (hx : Rd enI okI 1 w tv to) : Fc Tryz.prog 94 #[.agg #[.int .u8 o, .int .i64 a, .int .i64 b, tv]] w
    (fun v w' => ∃ t e, v = .tuple #[.string (bs t), .int .i64 e] ∧ e = chk ⟨o, a, b, to⟩ ∧ t = (if chk ⟨o, a, b, to⟩ = 0 then txt ⟨o, a, b, to⟩ else []) ∧ t.length ≤ 400 ∧ Sat (froz w) w' []) := by
  refine Fc.of Tryz.func94 rfl (by kernel_rfl) ?_
  have H := Sat.start w
  have hx := hx.fz
  obtain ⟨c, rfl⟩ : ∃ c : UInt8, o = (c.toNat : Int) := ⟨UInt8.ofNat o.toNat, by rw [byte_toNat (by omega)]; omega⟩
  have hcl := c.toNat_lt
  have hbc : byt (c.toNat : Int) = c := by rw [byt_of (by omega)]; simp
  by_cases hc : chk ⟨(c.toNat : Int), a, b, to⟩ = 0
  · rw [if_pos hc]
    obtain ⟨h0, h16, h4, h6, g1, g2, g8, g6, g3, gt⟩ := chk_facts hc
    refine rBoxS H ?_
    clear H
    intro p1 w1 H
    refine rLdA (H.at 0 rfl) 0 rfl rfl rfl ?_
    refine CallP.mk (Fc.imp (Go.Proofs.YtbbdfhgcmkljeaaGreatDoor.Ins.check _ _ _ _ _ _ ?_ (H.rd hx)) ?_)
    · assumption
    rintro _ w2 ⟨⟨r1, ⟨rfl, h1⟩⟩, H'⟩
    refine H.mergeK H' ?_
    clear H H'
    intro H
    refine cF (vNe_F (by omega)) ?_
    refine rFieldAt rfl ?_
    refine rLd (H.at 0 rfl) 0 rfl rfl rfl ?_
    refine rBuildSliceS H rfl rfl rfl rfl ?_
    clear H
    intro p2 w3 H
    clear w2
    refine H.ptSl (n := 1) (en := enY) (s := 1) 0 rfl [_] rfl rfl (fun _ => rfl) rfl ?_
    clear H
    intro H
    refine rBytesStrS H 0 rfl rfl rfl rfl ?_
    refine rFieldAt rfl ?_
    refine rLd (H.at 1 rfl) 0 rfl rfl rfl ?_
    refine CallP.mk (Fc.imp (Go.Proofs.YtbbdfhgcmkljeaaGreatDoor.Ins.besides _ _) ?_)
    rintro _ w2 ⟨⟨r2, ⟨rfl, h2⟩⟩, H'⟩
    refine H.mergeK H' ?_
    clear H H'
    intro H
    refine bk ?_
    refine cI (fun c1 => ?_) (fun c1 => ?_)
    · replace c1 := vEq_t (c1)
      refine rFieldAt rfl ?_
      refine rLd (H.at 1 rfl) 1 rfl rfl rfl ?_
      refine rConvU8 (by omega) rfl rfl ?_
      refine rBuildSliceS H rfl rfl rfl rfl ?_
      clear H
      intro p3 w4 H
      clear w2
      have hbk1 := byteIs (x := a) (n := (a).toNat) (by omega)
      rw [hbk1] at H
      clear hbk1
      refine H.ptSl (n := 1) (en := enY) (s := 1) 0 rfl [_] rfl rfl (fun _ => rfl) rfl ?_
      clear H
      intro H
      refine rBytesStrS H 0 rfl rfl rfl rfl ?_
      refine rCat (by (simp only [List.length_append, List.length_set, List.length_cons, List.length_nil]; omega)) ?_
      refine Done.mk ?_
      refine ⟨[c] ++ [UInt8.ofNat a.toNat], 0, ?_⟩
      refine ⟨?_, ?_⟩
      · rfl
      refine ⟨?_, ?_⟩
      · omega
      refine ⟨?_, ?_⟩
      · exact txt_of hbc ((txtB_2 (by omega)).trans (by rw [byt_of (by simp only; omega)]))
      refine ⟨?_, ?_⟩
      · (simp only [List.length_append, List.length_set, List.length_cons, List.length_nil]; omega)
      refine H.firsts 0 ?_
      clear H
      intro H
      exact H
    replace c1 := vEq_f (c1)
    refine cI (fun c2 => ?_) (fun c2 => ?_)
    · replace c2 := vEq_t (c2)
      refine rFieldAt rfl ?_
      refine rLd (H.at 1 rfl) 1 rfl rfl rfl ?_
      refine rConvU64 (by omega) rfl rfl ?_
      refine CallP.mk (Fc.imp (Go.Proofs.YtbbdfhgcmkljeaaGreatDoor.Leb.U _ (a.toNat) ?_ ?_ _) ?_)
      · omega
      · omega
      rintro _ w4 ⟨l1, ⟨rfl, ⟨h3, ⟨h5, H'⟩⟩⟩⟩
      refine H.mergeK H' ?_
      clear H H'
      intro H
      refine rCat (by (simp only [List.length_append, List.length_set, List.length_cons, List.length_nil]; omega)) ?_
      refine Done.mk ?_
      refine ⟨[c] ++ l1, 0, ?_⟩
      refine ⟨?_, ?_⟩
      · rfl
      refine ⟨?_, ?_⟩
      · omega
      refine ⟨?_, ?_⟩
      · exact txt_of hbc ((txtB_3 (by omega)).trans h3.symm)
      refine ⟨?_, ?_⟩
      · (simp only [List.length_append, List.length_set, List.length_cons, List.length_nil]; omega)
      refine H.firsts 0 ?_
      clear H
      intro H
      exact H
    replace c2 := vEq_f (c2)
    refine cI (fun c3 => ?_) (fun c3 => ?_)
    rotate_left
    · replace c3 := vEq_f (c3)
      refine cI (fun c4 => ?_) (fun c4 => ?_)
      · replace c4 := vEq_t (c4)
        refine rFieldAt rfl ?_
        refine rLd (H.at 1 rfl) 1 rfl rfl rfl ?_
        refine rConvU64 (by omega) rfl rfl ?_
        refine CallP.mk (Fc.imp (Go.Proofs.YtbbdfhgcmkljeaaGreatDoor.Leb.U _ (a.toNat) ?_ ?_ _) ?_)
        · omega
        · omega
        rintro _ w4 ⟨l1, ⟨rfl, ⟨h3, ⟨h5, H'⟩⟩⟩⟩
        refine H.mergeK H' ?_
        clear H H'
        intro H
        refine rCat (by (simp only [List.length_append, List.length_set, List.length_cons, List.length_nil]; omega)) ?_
        refine rCat (by (simp only [List.length_append, List.length_set, List.length_cons, List.length_nil]; omega)) ?_
        refine Done.mk ?_
        refine ⟨[c] ++ (l1 ++ [0]), 0, ?_⟩
        refine ⟨?_, ?_⟩
        · rfl
        refine ⟨?_, ?_⟩
        · omega
        refine ⟨?_, ?_⟩
        · exact txt_of hbc ((txtB_5 (by omega)).trans (by rw [h3]))
        refine ⟨?_, ?_⟩
        · (simp only [List.length_append, List.length_set, List.length_cons, List.length_nil]; omega)
        refine H.firsts 0 ?_
        clear H
        intro H
        exact H
      replace c4 := vEq_f (c4)
      refine cI (fun c5 => ?_) (fun c5 => ?_)
      · replace c5 := vEq_t (c5)
        refine drawzS H [] [(0, .pure), (1, .pure), (2, .held), (3, .pure), (5, .pure), (6, .held), (7, .pure), (4, .forced), (8, .free), (9, .pure), (10, .pure), (11, .pure)] mixed (by kernel_rfl) (by kernel_rfl) ?_
        clear H
        intro w4 H
        clear w2
        refine tk (fun wx HS => rFieldAt rfl ⟨rfl, rfl⟩) ?_
        refine tk (fun wx HS => rLd (HS.at 1 rfl) 1 rfl rfl rfl ⟨rfl, rfl⟩) ?_
        refine tk (fun wx HS => rConvU64 (by omega) rfl rfl ⟨rfl, rfl⟩) ?_
        refine tk (fun wx HS => rFieldAt rfl ⟨rfl, rfl⟩) ?_
        refine tk (fun wx HS => rLd (HS.at 1 rfl) 2 rfl rfl rfl ⟨rfl, rfl⟩) ?_
        refine tk (fun wx HS => rConvU64 (by omega) rfl rfl ⟨rfl, rfl⟩) ?_
        refine CallP.mk (Fc.imp (Go.Proofs.YtbbdfhgcmkljeaaGreatDoor.Leb.U _ (a.toNat) ?_ ?_ _) ?_)
        · omega
        · omega
        rintro _ w2 ⟨l1, ⟨rfl, ⟨h3, ⟨h5, H'⟩⟩⟩⟩
        refine H.mergeK H' ?_
        clear H H'
        intro H
        refine KeepP.mk (H) ?_
        refine CallP.mk (Fc.imp (Go.Proofs.YtbbdfhgcmkljeaaGreatDoor.Leb.U _ (b.toNat) ?_ ?_ _) ?_)
        · omega
        · omega
        rintro _ w5 ⟨l2, ⟨rfl, ⟨h7, ⟨h8, H'⟩⟩⟩⟩
        refine H.mergeK H' ?_
        clear H H'
        intro H
        refine tk (fun wx HS => rCat (by omega) ⟨rfl, rfl⟩) ?_
        refine tk (fun wx HS => rCat (by (simp only [List.length_append, List.length_set, List.length_cons, List.length_nil]; omega)) ⟨rfl, rfl⟩) ?_
        refine Done.mk ?_
        refine ⟨[c] ++ (l1 ++ l2), 0, ?_⟩
        refine ⟨?_, ?_⟩
        · rfl
        refine ⟨?_, ?_⟩
        · omega
        refine ⟨?_, ?_⟩
        · exact txt_of hbc ((txtB_6 (by omega)).trans (by rw [h3, h7]))
        refine ⟨?_, ?_⟩
        · (simp only [List.length_append, List.length_set, List.length_cons, List.length_nil]; omega)
        refine H.firsts 0 ?_
        clear H
        intro H
        exact H
      replace c5 := vEq_f (c5)
      refine cI (fun c6 => ?_) (fun c6 => ?_)
      · replace c6 := vEq_t (c6)
        refine rCat (by (simp only [List.length_append, List.length_set, List.length_cons, List.length_nil]; omega)) ?_
        refine Done.mk ?_
        refine ⟨[c] ++ [0], 0, ?_⟩
        refine ⟨?_, ?_⟩
        · rfl
        refine ⟨?_, ?_⟩
        · omega
        refine ⟨?_, ?_⟩
        · exact txt_of hbc (txtB_7 (by omega))
        refine ⟨?_, ?_⟩
        · (simp only [List.length_append, List.length_set, List.length_cons, List.length_nil]; omega)
        refine H.firsts 0 ?_
        clear H
        intro H
        exact H
      replace c6 := vEq_f (c6)
      refine cI (fun c7 => ?_) (fun c7 => ?_)
      · replace c7 := vEq_t (c7)
        refine cT (vEq_T (by assumption)) ?_
        refine rFieldAt rfl ?_
        refine rLd (H.at 1 rfl) 1 rfl rfl rfl ?_
        refine CallP.mk (Fc.imp (Go.Proofs.YtbbdfhgcmkljeaaGreatDoor.Leb.S _ ?_ _) ?_)
        · assumption
        rintro _ w4 ⟨l1, ⟨rfl, ⟨h3, ⟨h5, H'⟩⟩⟩⟩
        refine H.mergeK H' ?_
        clear H H'
        intro H
        refine rCat (by (simp only [List.length_append, List.length_set, List.length_cons, List.length_nil]; omega)) ?_
        refine Done.mk ?_
        refine ⟨[c] ++ l1, 0, ?_⟩
        refine ⟨?_, ?_⟩
        · rfl
        refine ⟨?_, ?_⟩
        · omega
        refine ⟨?_, ?_⟩
        · exact txt_of hbc ((txtB_89 (by omega)).trans h3.symm)
        refine ⟨?_, ?_⟩
        · (simp only [List.length_append, List.length_set, List.length_cons, List.length_nil]; omega)
        refine H.firsts 0 ?_
        clear H
        intro H
        exact H
      replace c7 := vEq_f (c7)
      refine cI (fun c8 => ?_) (fun c8 => ?_)
      · replace c8 := vEq_t (c8)
        refine rFieldAt rfl ?_
        refine rLd (H.at 1 rfl) 1 rfl rfl rfl ?_
        refine CallP.mk (Fc.imp (Go.Proofs.YtbbdfhgcmkljeaaGreatDoor.Leb.S _ ?_ _) ?_)
        · assumption
        rintro _ w4 ⟨l1, ⟨rfl, ⟨h3, ⟨h5, H'⟩⟩⟩⟩
        refine H.mergeK H' ?_
        clear H H'
        intro H
        refine rCat (by (simp only [List.length_append, List.length_set, List.length_cons, List.length_nil]; omega)) ?_
        refine Done.mk ?_
        refine ⟨[c] ++ l1, 0, ?_⟩
        refine ⟨?_, ?_⟩
        · rfl
        refine ⟨?_, ?_⟩
        · omega
        refine ⟨?_, ?_⟩
        · exact txt_of hbc ((txtB_89 (by omega)).trans h3.symm)
        refine ⟨?_, ?_⟩
        · (simp only [List.length_append, List.length_set, List.length_cons, List.length_nil]; omega)
        refine H.firsts 0 ?_
        clear H
        intro H
        exact H
      replace c8 := vEq_f (c8)
      refine Done.mk ?_
      refine ⟨[c], 0, ?_⟩
      refine ⟨?_, ?_⟩
      · rfl
      refine ⟨?_, ?_⟩
      · omega
      refine ⟨?_, ?_⟩
      · exact txt_of0 hbc (txtB_n (by omega) (by omega) (by omega) (by omega) (by omega) (by omega) (by omega) (by omega))
      refine ⟨?_, ?_⟩
      · (simp only [List.length_append, List.length_set, List.length_cons, List.length_nil]; omega)
      refine H.firsts 0 ?_
      clear H
      intro H
      exact H
    replace c3 := vEq_t (c3)
    refine rFieldAt rfl ?_
    refine rLd (H.at 1 rfl) 3 rfl rfl rfl ?_
    refine rLenF hx rfl ?_
    refine rConvU64 (by omega) rfl rfl ?_
    refine CallP.mk (Fc.imp (Go.Proofs.YtbbdfhgcmkljeaaGreatDoor.Leb.U _ (to.length) ?_ ?_ _) ?_)
    · omega
    · omega
    rintro _ w4 ⟨l1, ⟨rfl, ⟨h3, ⟨h5, H'⟩⟩⟩⟩
    refine H.mergeK H' ?_
    clear H H'
    intro H
    refine rCat (by (simp only [List.length_append, List.length_set, List.length_cons, List.length_nil]; omega)) ?_
    refine rFieldAt rfl ?_
    refine rLd (H.at 1 rfl) 3 rfl rfl rfl ?_
    refine rLenF hx rfl ?_
    refine LoopP.rule (α := Nat × List UInt8) (0, [c] ++ l1) (fun x_ => [(49, .int .i64 x_.1), (5, .string (bs x_.2))]) (fun x_ w_ => (x_.1 ≤ to.length) ∧ (x_.2 = [c] ++ (uleb to.length ++ (to.take x_.1).flatMap fun n => uleb n.toNat)) ∧ (x_.2.length ≤ 20 + 10 * x_.1) ∧ Sat (froz w) w_ ([Sl 5 1 enY (Value.slice (some ⟨p2, 0, none⟩) 1 1) [c], Pt p1 [.int .u8 (c.toNat : Int), .int .i64 a, .int .i64 b, tv] 149])) (fun x_ => to.length - x_.1) ?_ ?_ ?_
    · repeat first | exact mt_nil | refine mt_cons rfl ?_ | refine mt_i rfl (by first | omega | (simp only; omega) | (simp; omega) | (simp; done)) ?_
    · try simp only
      refine ⟨?_, ?_⟩
      · omega
      refine ⟨?_, ?_⟩
      · exact congrArg (fun q => [c] ++ q) (by rw [h3]; simp)
      refine ⟨?_, ?_⟩
      · (simp only [List.length_append, List.length_set, List.length_cons, List.length_nil]; omega)
      exact H
    clear H
    rintro ⟨k, ot⟩ f_ w_ ⟨hk, htk, hlen, H⟩
    try simp only at hk htk hlen H ⊢
    rcases Nat.lt_or_ge k to.length with hlt | hge
    · obtain ⟨n, hn⟩ : ∃ n, to[k]? = some n := ⟨_, List.getElem?_eq_getElem hlt⟩
      have hnb := gt n (List.mem_of_getElem? hn)
      refine cT (vLt_T (by omega)) ?_
      refine bk ?_
      obtain ⟨b1, o1, E1, F1, hok1⟩ := FSl.elt hx hn
      refine rIxE E1 rfl rfl rfl ?_
      refine rLd (H.fat F1) 0 rfl rfl rfl ?_
      refine rConvU64 (by omega) rfl rfl ?_
      refine CallP.mk (Fc.imp (Go.Proofs.YtbbdfhgcmkljeaaGreatDoor.Leb.U _ (n.toNat) ?_ ?_ _) ?_)
      · omega
      · omega
      rintro _ w5 ⟨l2, ⟨rfl, ⟨h7, ⟨h8, H'⟩⟩⟩⟩
      refine H.mergeK H' ?_
      clear H H'
      intro H
      refine rCat (by omega) ?_
      refine eqI64 (by omega) ?_
      refine Nxt.mk ((k + 1, ot ++ l2)) (mt_i rfl (by first | omega | (simp only; omega) | (simp; omega)) (mt_cons rfl (mt_nil))) ?_ ?_
      · refine ⟨?_, ?_⟩
        · assumption
        refine ⟨?_, ?_⟩
        · (rw [flat_takeS hn, htk]; simp [*])
        refine ⟨?_, ?_⟩
        · (simp only [List.length_append, List.length_set, List.length_cons, List.length_nil]; omega)
        exact H
      omega
    · rw [List.take_of_length_le hge] at htk
      refine cF (vLt_F (by omega)) ?_
      refine rFieldAt rfl ?_
      refine rLd (H.at 1 rfl) 1 rfl rfl rfl ?_
      refine rConvU64 (by omega) rfl rfl ?_
      refine CallP.mk (Fc.imp (Go.Proofs.YtbbdfhgcmkljeaaGreatDoor.Leb.U _ (a.toNat) ?_ ?_ _) ?_)
      · omega
      · omega
      rintro _ w5 ⟨l2, ⟨rfl, ⟨h7, ⟨h8, H'⟩⟩⟩⟩
      refine H.mergeK H' ?_
      clear H H'
      intro H
      refine rCat (by omega) ?_
      refine Done.mk ?_
      refine ⟨ot ++ l2, 0, ?_⟩
      refine ⟨?_, ?_⟩
      · rfl
      refine ⟨?_, ?_⟩
      · omega
      refine ⟨?_, ?_⟩
      · (rw [htk, List.append_assoc]; exact txt_of hbc ((txtB_4 (by omega)).trans (by simp [*])))
      refine ⟨?_, ?_⟩
      · (simp only [List.length_append, List.length_set, List.length_cons, List.length_nil]; omega)
      refine H.firsts 0 ?_
      clear H
      intro H
      exact H
  · rw [if_neg hc]
    refine rBoxS H ?_
    clear H
    intro p1 w1 H
    refine rLdA (H.at 0 rfl) 0 rfl rfl rfl ?_
    refine CallP.mk (Fc.imp (Go.Proofs.YtbbdfhgcmkljeaaGreatDoor.Ins.check _ _ _ _ _ _ ?_ (H.rd hx)) ?_)
    · assumption
    rintro _ w2 ⟨⟨r1, ⟨rfl, h1⟩⟩, H'⟩
    refine H.mergeK H' ?_
    clear H H'
    intro H
    refine cT (vNe_T (by omega)) ?_
    refine Done.mk ?_
    refine ⟨[], r1, ?_⟩
    refine ⟨?_, ?_⟩
    · rfl
    refine ⟨?_, ?_⟩
    · assumption
    refine ⟨?_, ?_⟩
    · rfl
    refine ⟨?_, ?_⟩
    · (simp only [List.length_append, List.length_set, List.length_cons, List.length_nil]; omega)
    refine H.firsts 0 ?_
    clear H
    intro H
    exact H
end Go.Proofs.YtbbdfhgcmkljeaaGreatDoor.Ins
/- Package leb: reading. -/
set_option maxRecDepth 100000
set_option maxHeartbeats 4000000
set_option linter.unusedVariables false
set_option linter.unusedSimpArgs false
namespace Go.Proofs.YtbbdfhgcmkljeaaGreatDoor.Leb
open Go Go.Proofs.YtbbdfhgcmkljeaaGreatDoor.Eng Go.RowKit
theorem shl_eq (c k bits acc : Nat) (h7 : 7 * k < bits) (hb : bits ≤ 64) (hbd : acc + c % 128 * 2 ^ (7 * k) < 2 ^ bits) : vShl .u64 ((c : Int) % 128) (7 * (k : Int)) = ((c % 128 * 2 ^ (7 * k) : Nat) : Int) := by
  have h64 : (2 : Nat) ^ bits ≤ 2 ^ 64 := Nat.pow_le_pow_right (by decide) hb
  have e2 : ((c % 128 : Nat) : Int) * 2 ^ (7 * k) = ((c % 128 * 2 ^ (7 * k) : Nat) : Int) := by
    rw [Int.natCast_mul]; norm_cast
  rw [show ((c : Int) % 128) = ((c % 128 : Nat) : Int) by omega, show (7 * (k : Int)) = ((7 * k : Nat) : Int) by omega, vShl_eq _ _ _ (by simp [IntKind.bits]; omega), e2, wu64 (by omega)]
theorem or_eq (c k bits acc : Nat) (h7 : 7 * k < bits) (hb : bits ≤ 64) (hacc : acc < 2 ^ (7 * k)) (hbd : acc + c % 128 * 2 ^ (7 * k) < 2 ^ bits) : vOr .u64 (acc : Int) ((c % 128 * 2 ^ (7 * k) : Nat) : Int) = ((acc + c % 128 * 2 ^ (7 * k) : Nat) : Int) := by
  have h64 : (2 : Nat) ^ bits ≤ 2 ^ 64 := Nat.pow_le_pow_right (by decide) hb
  refine acc_or .u64 acc (c % 128) k bits (.inl rfl) hb hacc ?_
  generalize c % 128 * 2 ^ (7 * k) = t at *
  simp [IntKind.max, IntKind.bits, IntKind.signed]; omega
theorem left_no {c k bits : Nat} (h7 : 7 * k < bits) (hb : bits ≤ 64) (h : ¬ (bits < 7 * k + 7 ∧ c / 2 ^ (bits - 7 * k) ≠ 0)) (h2 : bits < 7 * k + 7) : vShr .u8 (c : Int) ((bits : Int) - 7 * (k : Int)) = 0 := by
  rw [show ((bits : Int) - 7 * (k : Int)) = ((bits - 7 * k : Nat) : Int) by omega, vShr_eq _ _ _ (by simp [IntKind.bits]; omega)]
  have hpow : (2 : Int) ^ (bits - 7 * k) = ((2 ^ (bits - 7 * k) : Nat) : Int) := by norm_cast
  rw [hpow, ← Int.natCast_ediv]
  have : c / 2 ^ (bits - 7 * k) = 0 := Decidable.byContradiction fun h3 => h ⟨h2, h3⟩
  rw [this]; rfl
theorem left_yes {c k bits : Nat} (h7 : 7 * k < bits) (hb : bits ≤ 64) (h : bits < 7 * k + 7 ∧ c / 2 ^ (bits - 7 * k) ≠ 0) : vShr .u8 (c : Int) ((bits : Int) - 7 * (k : Int)) ≠ 0 := by
  rw [show ((bits : Int) - 7 * (k : Int)) = ((bits - 7 * k : Nat) : Int) by omega, vShr_eq _ _ _ (by simp [IntKind.bits]; omega)]
  have hpow : (2 : Int) ^ (bits - 7 * k) = ((2 ^ (bits - 7 * k) : Nat) : Int) := by norm_cast
  rw [hpow, ← Int.natCast_ediv]
  intro e
  exact h.2 (by omega)
theorem readU (s : List UInt8) (b : Int) (bits : Nat) (hbi : b = (bits : Int)) (w : World) (hb : bits = 32 ∨ bits = 64) (hs : s.length ≤ 9223372036854775807) : Fc Tryz.prog 98 #[.string (bs s), .int .i64 b] w
    (fun v w' => ∃ n k e : Nat, v = .tuple #[.int .u64 n, .int .i64 k, .int .i64 e] ∧ rdU bits s 0 0 = (n, k, e) ∧ Sat (froz w) w' []) := by
  subst hbi
  refine Fc.of Tryz.func98 rfl (by kernel_rfl) ?_
  have H := Sat.start w
  have hbb : bits ≤ 64 := by omega
  refine br (fun c1 => ?_) (fun c1 => ?_)
  focus
    replace c1 := vNe_t (c1)
    refine cF (vNe_F (by omega)) ?_
    refine rLenStr rfl ?_
  rotate_left 1
  focus
    replace c1 := vNe_f (c1)
    refine cF rfl ?_
    refine rLenStr rfl ?_
  rotate_left 1
  · refine LoopP.rule (α := Nat × Nat) (0, 0) (fun x_ => [(7, .int .u64 x_.2), (19, .int .i64 x_.1)]) (fun x_ w_ => (x_.1 ≤ s.length) ∧ (7 * x_.1 < bits) ∧ (x_.2 < 2 ^ (7 * x_.1)) ∧ (rdU bits (s.drop x_.1) x_.1 x_.2 = rdU bits s 0 0) ∧ Sat (froz w) w_ ([])) (fun x_ => s.length - x_.1) ?_ ?_ ?_
    · repeat first | exact mt_nil | refine mt_cons rfl ?_ | refine mt_i rfl (by first | omega | (simp only; omega) | (simp; omega) | (simp; done)) ?_
    · try simp only
      refine ⟨?_, ?_⟩
      · omega
      refine ⟨?_, ?_⟩
      · (simp; omega)
      (simp; omega)
    clear H
    rintro ⟨k, acc⟩ f_ w_ ⟨hk, h7, hacc, hrd, H⟩
    try simp only at hk h7 hacc hrd H ⊢
    rcases Nat.lt_or_ge k s.length with hlt | hge
    · obtain ⟨c, hc⟩ : ∃ c, s[k]? = some c := ⟨_, List.getElem?_eq_getElem hlt⟩
      have hdrop : s.drop k = c :: s.drop (k + 1) := by rw [List.drop_eq_getElem_cons hlt]; congr 1; exact Option.some.inj ((List.getElem?_eq_getElem hlt).symm.trans hc)
      rw [hdrop, rdU] at hrd
      have hcl := c.toNat_lt
      by_cases hno : bits < 7 * k + 7 ∧ c.toNat / 2 ^ (bits - 7 * k) ≠ 0
      · rw [if_pos hno] at hrd
        have e1 := left_yes h7 hbb hno
        refine cT (vLt_T (by omega)) ?_
        refine bk ?_
        refine rIdxStrX rfl (k) hc rfl ?_
        refine eqI64 (by omega) ?_
        refine eqI64 (by omega) ?_
        refine br_t (vLt_T (by omega)) ?_
        refine ShiftP.mk (by omega) ?_
        refine eqShrN ((c.toNat)) (((bits) - (7 * (k)))) (by omega) (by omega) (by show _ ≤ 8; omega) ?_
        refine cT (vNe_T (by omega)) ?_
        refine Done.mk ?_
        exact ⟨0, 0, 4, rfl, hrd.symm, H⟩
      · rw [if_neg hno] at hrd
        have hbd := acc_bd hacc h7 hno
        have e1 := left_no h7 hbb hno
        have e2 := shl_eq c.toNat k bits acc h7 hbb hbd
        have e3 := or_eq c.toNat k bits acc h7 hbb hacc hbd
        have hnx := acc_next (c := c.toNat) hacc
        by_cases h128 : c.toNat < 128
        · rw [if_pos h128] at hrd
          refine cT (vLt_T (by omega)) ?_
          refine bk ?_
          refine rIdxStrX rfl (k) hc rfl ?_
          refine eqI64 (by omega) ?_
          refine eqI64 (by omega) ?_
          refine br (fun c2 => ?_) (fun c2 => ?_)
          · replace c2 := vLt_t (c2)
            refine ShiftP.mk (by omega) ?_
            refine eqShrN ((c.toNat)) (((bits) - (7 * (k)))) (by omega) (by omega) (by show _ ≤ 8; omega) ?_
            refine cF (vNe_F (by omega)) ?_
            refine eqAndMask 7 128 rfl rfl (by decide) ?_
            refine rConvU64 (by omega) rfl rfl ?_
            refine eqI64 (by omega) ?_
            refine ShiftP.mk (by omega) ?_
            refine EqP.mk _ e2 ?_
            refine EqP.mk _ e3 ?_
            refine cT (vLt_T (by omega)) ?_
            refine eqI64 (by omega) ?_
            refine Done.mk ?_
            exact ⟨_, _, 0, rfl, hrd.symm, H⟩
          replace c2 := vLt_f (c2)
          refine cF rfl ?_
          refine eqAndMask 7 128 rfl rfl (by decide) ?_
          refine rConvU64 (by omega) rfl rfl ?_
          refine eqI64 (by omega) ?_
          refine ShiftP.mk (by omega) ?_
          refine EqP.mk _ e2 ?_
          refine EqP.mk _ e3 ?_
          refine cT (vLt_T (by omega)) ?_
          refine eqI64 (by omega) ?_
          refine Done.mk ?_
          exact ⟨_, _, 0, rfl, hrd.symm, H⟩
        · rw [if_neg h128] at hrd
          have hcb := cont_bd hb h7 (by omega) hno
          refine cT (vLt_T (by omega)) ?_
          refine bk ?_
          refine rIdxStrX rfl (k) hc rfl ?_
          refine eqI64 (by omega) ?_
          refine eqI64 (by omega) ?_
          refine br_f (vLt_F (by omega)) ?_
          refine cF rfl ?_
          refine eqAndMask 7 128 rfl rfl (by decide) ?_
          refine rConvU64 (by omega) rfl rfl ?_
          refine eqI64 (by omega) ?_
          refine ShiftP.mk (by omega) ?_
          refine EqP.mk _ e2 ?_
          refine EqP.mk _ e3 ?_
          refine cF (vLt_F (by omega)) ?_
          refine eqI64 (by omega) ?_
          refine Nxt.mk ((k + 1, acc + c.toNat % 128 * 2 ^ (7 * k))) (mt_cons rfl (mt_i rfl (by first | omega | (simp only; omega) | (simp; omega)) (mt_nil))) ?_ ?_
          · refine ⟨?_, ?_⟩
            · assumption
            refine ⟨?_, ?_⟩
            · assumption
            refine ⟨?_, ?_⟩
            · assumption
            refine ⟨?_, ?_⟩
            · assumption
            exact H
          omega
    · rw [List.drop_eq_nil_of_le hge] at hrd
      refine cF (vLt_F (by omega)) ?_
      refine Done.mk ?_
      exact ⟨0, 0, 3, rfl, hrd.symm, H⟩
  · refine LoopP.rule (α := Nat × Nat) (0, 0) (fun x_ => [(7, .int .u64 x_.2), (19, .int .i64 x_.1)]) (fun x_ w_ => (x_.1 ≤ s.length) ∧ (7 * x_.1 < bits) ∧ (x_.2 < 2 ^ (7 * x_.1)) ∧ (rdU bits (s.drop x_.1) x_.1 x_.2 = rdU bits s 0 0) ∧ Sat (froz w) w_ ([])) (fun x_ => s.length - x_.1) ?_ ?_ ?_
    · repeat first | exact mt_nil | refine mt_cons rfl ?_ | refine mt_i rfl (by first | omega | (simp only; omega) | (simp; omega) | (simp; done)) ?_
    · try simp only
      refine ⟨?_, ?_⟩
      · omega
      refine ⟨?_, ?_⟩
      · (simp; omega)
      (simp; omega)
    clear H
    rintro ⟨k, acc⟩ f_ w_ ⟨hk, h7, hacc, hrd, H⟩
    try simp only at hk h7 hacc hrd H ⊢
    rcases Nat.lt_or_ge k s.length with hlt | hge
    · obtain ⟨c, hc⟩ : ∃ c, s[k]? = some c := ⟨_, List.getElem?_eq_getElem hlt⟩
      have hdrop : s.drop k = c :: s.drop (k + 1) := by rw [List.drop_eq_getElem_cons hlt]; congr 1; exact Option.some.inj ((List.getElem?_eq_getElem hlt).symm.trans hc)
      rw [hdrop, rdU] at hrd
      have hcl := c.toNat_lt
      by_cases hno : bits < 7 * k + 7 ∧ c.toNat / 2 ^ (bits - 7 * k) ≠ 0
      · rw [if_pos hno] at hrd
        have e1 := left_yes h7 hbb hno
        refine cT (vLt_T (by omega)) ?_
        refine bk ?_
        refine rIdxStrX rfl (k) hc rfl ?_
        refine eqI64 (by omega) ?_
        refine eqI64 (by omega) ?_
        refine br_t (vLt_T (by omega)) ?_
        refine ShiftP.mk (by omega) ?_
        refine eqShrN ((c.toNat)) (((bits) - (7 * (k)))) (by omega) (by omega) (by show _ ≤ 8; omega) ?_
        refine cT (vNe_T (by omega)) ?_
        refine Done.mk ?_
        exact ⟨0, 0, 4, rfl, hrd.symm, H⟩
      · rw [if_neg hno] at hrd
        have hbd := acc_bd hacc h7 hno
        have e1 := left_no h7 hbb hno
        have e2 := shl_eq c.toNat k bits acc h7 hbb hbd
        have e3 := or_eq c.toNat k bits acc h7 hbb hacc hbd
        have hnx := acc_next (c := c.toNat) hacc
        by_cases h128 : c.toNat < 128
        · rw [if_pos h128] at hrd
          refine cT (vLt_T (by omega)) ?_
          refine bk ?_
          refine rIdxStrX rfl (k) hc rfl ?_
          refine eqI64 (by omega) ?_
          refine eqI64 (by omega) ?_
          refine br (fun c2 => ?_) (fun c2 => ?_)
          · replace c2 := vLt_t (c2)
            refine ShiftP.mk (by omega) ?_
            refine eqShrN ((c.toNat)) (((bits) - (7 * (k)))) (by omega) (by omega) (by show _ ≤ 8; omega) ?_
            refine cF (vNe_F (by omega)) ?_
            refine eqAndMask 7 128 rfl rfl (by decide) ?_
            refine rConvU64 (by omega) rfl rfl ?_
            refine eqI64 (by omega) ?_
            refine ShiftP.mk (by omega) ?_
            refine EqP.mk _ e2 ?_
            refine EqP.mk _ e3 ?_
            refine cT (vLt_T (by omega)) ?_
            refine eqI64 (by omega) ?_
            refine Done.mk ?_
            exact ⟨_, _, 0, rfl, hrd.symm, H⟩
          replace c2 := vLt_f (c2)
          refine cF rfl ?_
          refine eqAndMask 7 128 rfl rfl (by decide) ?_
          refine rConvU64 (by omega) rfl rfl ?_
          refine eqI64 (by omega) ?_
          refine ShiftP.mk (by omega) ?_
          refine EqP.mk _ e2 ?_
          refine EqP.mk _ e3 ?_
          refine cT (vLt_T (by omega)) ?_
          refine eqI64 (by omega) ?_
          refine Done.mk ?_
          exact ⟨_, _, 0, rfl, hrd.symm, H⟩
        · rw [if_neg h128] at hrd
          have hcb := cont_bd hb h7 (by omega) hno
          refine cT (vLt_T (by omega)) ?_
          refine bk ?_
          refine rIdxStrX rfl (k) hc rfl ?_
          refine eqI64 (by omega) ?_
          refine eqI64 (by omega) ?_
          refine br_f (vLt_F (by omega)) ?_
          refine cF rfl ?_
          refine eqAndMask 7 128 rfl rfl (by decide) ?_
          refine rConvU64 (by omega) rfl rfl ?_
          refine eqI64 (by omega) ?_
          refine ShiftP.mk (by omega) ?_
          refine EqP.mk _ e2 ?_
          refine EqP.mk _ e3 ?_
          refine cF (vLt_F (by omega)) ?_
          refine eqI64 (by omega) ?_
          refine Nxt.mk ((k + 1, acc + c.toNat % 128 * 2 ^ (7 * k))) (mt_cons rfl (mt_i rfl (by first | omega | (simp only; omega) | (simp; omega)) (mt_nil))) ?_ ?_
          · refine ⟨?_, ?_⟩
            · assumption
            refine ⟨?_, ?_⟩
            · assumption
            refine ⟨?_, ?_⟩
            · assumption
            refine ⟨?_, ?_⟩
            · assumption
            exact H
          omega
    · rw [List.drop_eq_nil_of_le hge] at hrd
      refine cF (vLt_F (by omega)) ?_
      refine Done.mk ?_
      exact ⟨0, 0, 3, rfl, hrd.symm, H⟩
end Go.Proofs.YtbbdfhgcmkljeaaGreatDoor.Leb
/- Package leb: reading numbers with signs. -/
set_option maxRecDepth 100000
set_option maxHeartbeats 4000000
set_option linter.unusedVariables false
set_option linter.unusedSimpArgs false
namespace Go.Proofs.YtbbdfhgcmkljeaaGreatDoor.Leb
open Go Go.Proofs.YtbbdfhgcmkljeaaGreatDoor.Eng Go.RowKit
theorem shlS_eq (c k acc : Nat) (hk : 7 * k < 63) (h63 : acc + c % 128 * 2 ^ (7 * k) < 2 ^ 63) : vShl .i64 ((c : Int) % 128) (7 * (k : Int)) = ((c % 128 * 2 ^ (7 * k) : Nat) : Int) := by
  have e2 : ((c % 128 : Nat) : Int) * 2 ^ (7 * k) = ((c % 128 * 2 ^ (7 * k) : Nat) : Int) := by
    rw [Int.natCast_mul]; norm_cast
  rw [show ((c : Int) % 128) = ((c % 128 : Nat) : Int) by omega, show (7 * (k : Int)) = ((7 * k : Nat) : Int) by omega, vShl_eq _ _ _ (by simp [IntKind.bits]; omega), e2, wi64 (by omega)]
theorem orS_eq (c k acc : Nat) (hk : 7 * k < 63) (hacc : acc < 2 ^ (7 * k)) (h63 : acc + c % 128 * 2 ^ (7 * k) < 2 ^ 63) : vOr .i64 (acc : Int) ((c % 128 * 2 ^ (7 * k) : Nat) : Int) = ((acc + c % 128 * 2 ^ (7 * k) : Nat) : Int) := by
  refine acc_or .i64 acc (c % 128) k 64 (.inr rfl) (by decide) hacc ?_
  generalize c % 128 * 2 ^ (7 * k) = t at *
  simp [IntKind.max, IntKind.bits, IntKind.signed]; omega
theorem sev_bd (c : Nat) : -64 ≤ sev c ∧ sev c < 64 := by unfold sev; split <;> omega
theorem most_eq {bits k : Nat} (h7 : 7 * k < bits) (hb : bits ≤ 64) (h : bits < 7 * k + 7) : vShl .i64 1 ((bits : Int) - 7 * (k : Int) - 1) = ((2 ^ (bits - 7 * k - 1) : Nat) : Int) := by
  have hm6 : (2 : Nat) ^ (bits - 7 * k - 1) ≤ 2 ^ 6 := Nat.pow_le_pow_right (by decide) (by omega)
  rw [show ((bits : Int) - 7 * (k : Int) - 1) = ((bits - 7 * k - 1 : Nat) : Int) by omega, vShl_eq _ _ _ (by simp [IntKind.bits]; omega), Int.one_mul]
  have e : (2 : Int) ^ (bits - 7 * k - 1) = ((2 ^ (bits - 7 * k - 1) : Nat) : Int) := by norm_cast
  rw [e]
  generalize 2 ^ (bits - 7 * k - 1) = M at *
  rw [wi64 (by omega)]
theorem sevP {bits k c : Nat} (h7 : 7 * k < bits) (hb : bits = 32 ∨ bits = 64) (h : ¬ badS bits k c) : -((2 ^ 63 : Nat) : Int) ≤ sev c * 2 ^ (7 * k) ∧ sev c * 2 ^ (7 * k) < ((2 ^ 63 : Nat) : Int) := by
  have hsb := sev_bd c
  have hpe : (2 : Int) ^ (7 * k) = ((2 ^ (7 * k) : Nat) : Int) := by norm_cast
  rw [hpe]
  by_cases h3 : bits < 7 * k + 7
  · have hm6 : (2 : Nat) ^ (bits - 7 * k - 1) ≤ 2 ^ 6 := Nat.pow_le_pow_right (by decide) (by omega)
    have hm0 := Nat.two_pow_pos (bits - 7 * k - 1)
    have hbb : (2 : Nat) ^ (bits - 7 * k - 1) * 2 ^ (7 * k) = 2 ^ (bits - 1) := by rw [← Nat.pow_add]; congr 1; omega
    have hb63 : (2 : Nat) ^ (bits - 1) ≤ 2 ^ 63 := Nat.pow_le_pow_right (by decide) (by omega)
    have h1 : -((2 ^ (bits - 7 * k - 1) : Nat) : Int) ≤ sev c ∧ sev c + 1 ≤ ((2 ^ (bits - 7 * k - 1) : Nat) : Int) := by
      constructor
      · apply Decidable.byContradiction; intro hh; exact h ⟨h3, .inr (.inl (by omega))⟩
      · apply Decidable.byContradiction; intro hh; exact h ⟨h3, .inr (.inr (by omega))⟩
    generalize 2 ^ (bits - 7 * k - 1) = M at *
    have hp := Nat.two_pow_pos (7 * k)
    generalize 2 ^ (7 * k) = p at *
    have a1 : -(M : Int) * p ≤ sev c * p := Int.mul_le_mul_of_nonneg_right h1.1 (by omega)
    have a2 : (sev c + 1) * p ≤ (M : Int) * p := Int.mul_le_mul_of_nonneg_right h1.2 (by omega)
    rw [Int.neg_mul] at a1
    rw [Int.add_mul, Int.one_mul] at a2
    have e : (M : Int) * p = ((M * p : Nat) : Int) := by rw [Int.natCast_mul]
    rw [e] at a1 a2
    omega
  · have hp56 : (2 : Nat) ^ (7 * k) ≤ 2 ^ 57 := Nat.pow_le_pow_right (by decide) (by omega)
    constructor
    · have := Int.mul_le_mul_of_nonneg_right hsb.1 (Int.natCast_nonneg (2 ^ (7 * k)))
      omega
    · have := Int.mul_lt_mul_of_pos_right hsb.2 (show (0 : Int) < ((2 ^ (7 * k) : Nat) : Int) by have := Nat.two_pow_pos (7 * k); omega)
      omega
theorem sevShl {bits k c : Nat} (h7 : 7 * k < bits) (hb : bits = 32 ∨ bits = 64) (h : ¬ badS bits k c) : vShl .i64 (sev c) (7 * (k : Int)) = sev c * ((2 ^ (7 * k) : Nat) : Int) := by
  have := sevP h7 hb h
  have hpe : (2 : Int) ^ (7 * k) = ((2 ^ (7 * k) : Nat) : Int) := by norm_cast
  rw [← hpe]
  rw [show (7 * (k : Int)) = ((7 * k : Nat) : Int) by omega, vShl_eq _ _ _ (by simp [IntKind.bits]; omega), wi64 (by omega)]
theorem sevOr {bits k c acc : Nat} (h7 : 7 * k < bits) (hb : bits = 32 ∨ bits = 64) (h : ¬ badS bits k c) (hacc : acc < 2 ^ (7 * k)) : vOr .i64 (acc : Int) (sev c * ((2 ^ (7 * k) : Nat) : Int)) = acc + sev c * ((2 ^ (7 * k) : Nat) : Int) := by
  have := sevP h7 hb h
  have hpe : (2 : Int) ^ (7 * k) = ((2 ^ (7 * k) : Nat) : Int) := by norm_cast
  rw [← hpe]
  exact vOr_i64 acc _ (7 * k) hacc (by omega) ⟨_, Int.mul_comm _ _⟩ (by omega) (by omega)
theorem badS_ways {bits k c : Nat} (h : badS bits k c) : bits < 7 * k + 7 ∧ (128 ≤ c ∨ sev c < -((2 ^ (bits - 7 * k - 1) : Nat) : Int) ∨ ((2 ^ (bits - 7 * k - 1) : Nat) : Int) ≤ sev c) := h
theorem badS_not {bits k c : Nat} (h : ¬ badS bits k c) (h3 : bits < 7 * k + 7) : c < 128 ∧ -((2 ^ (bits - 7 * k - 1) : Nat) : Int) ≤ sev c ∧ sev c < ((2 ^ (bits - 7 * k - 1) : Nat) : Int) := by
  refine ⟨?_, ?_, ?_⟩
  · apply Decidable.byContradiction; intro hh; exact h ⟨h3, .inl (by omega)⟩
  · apply Decidable.byContradiction; intro hh; exact h ⟨h3, .inr (.inl (by omega))⟩
  · apply Decidable.byContradiction; intro hh; exact h ⟨h3, .inr (.inr (by omega))⟩
theorem shl8 (c : Nat) (hc : c < 256) : vShl .u8 (c : Int) 1 = ((2 * c % 256 : Nat) : Int) := by
  have := vShl_eq .u8 c 1 (by decide)
  rw [show ((1 : Nat) : Int) = 1 from rfl] at this
  rw [this]
  unfold vWrap
  simp [IntKind.wrap, IntKind.bits, IntKind.signed]; omega
theorem readS (s : List UInt8) (b : Int) (bits : Nat) (hbi : b = (bits : Int)) (w : World) (hb : bits = 32 ∨ bits = 64) (hs : s.length ≤ 9223372036854775807) : Fc Tryz.prog 108 #[.string (bs s), .int .i64 b] w
    (fun v w' => ∃ n : Int, ∃ k e : Nat, v = .tuple #[.int .i64 n, .int .i64 k, .int .i64 e] ∧ rdS bits s 0 0 = (n, k, e) ∧ Sat (froz w) w' []) := by
  subst hbi
  refine Fc.of Tryz.func108 rfl (by kernel_rfl) ?_
  have H := Sat.start w
  have hbb : bits ≤ 64 := by omega
  refine br (fun c1 => ?_) (fun c1 => ?_)
  focus
    replace c1 := vNe_t (c1)
    refine cF (vNe_F (by omega)) ?_
    refine rLenStr rfl ?_
  rotate_left 1
  focus
    replace c1 := vNe_f (c1)
    refine cF rfl ?_
    refine rLenStr rfl ?_
  rotate_left 1
  · refine LoopP.rule (α := Nat × Nat) (0, 0) (fun x_ => [(7, .int .i64 x_.2), (21, .int .i64 x_.1)]) (fun x_ w_ => (x_.1 ≤ s.length) ∧ (7 * x_.1 < bits) ∧ (x_.2 < 2 ^ (7 * x_.1)) ∧ (rdS bits (s.drop x_.1) x_.1 x_.2 = rdS bits s 0 0) ∧ Sat (froz w) w_ ([])) (fun x_ => s.length - x_.1) ?_ ?_ ?_
    · repeat first | exact mt_nil | refine mt_cons rfl ?_ | refine mt_i rfl (by first | omega | (simp only; omega) | (simp; omega) | (simp; done)) ?_
    · try simp only
      refine ⟨?_, ?_⟩
      · omega
      refine ⟨?_, ?_⟩
      · (simp; omega)
      (simp; omega)
    clear H
    rintro ⟨k, acc⟩ f_ w_ ⟨hk, h7, hacc, hrd, H⟩
    try simp only at hk h7 hacc hrd H ⊢
    rcases Nat.lt_or_ge k s.length with hlt | hge
    · obtain ⟨c, hc⟩ : ∃ c, s[k]? = some c := ⟨_, List.getElem?_eq_getElem hlt⟩
      have hdrop : s.drop k = c :: s.drop (k + 1) := by rw [List.drop_eq_getElem_cons hlt]; congr 1; exact Option.some.inj ((List.getElem?_eq_getElem hlt).symm.trans hc)
      rw [hdrop, rdS] at hrd
      have hcl := c.toNat_lt
      have hsv := sev_walk c.toNat hcl
      have hs8 := shl8 c.toNat hcl
      rw [hs8] at hsv
      have hsb := sev_bd c.toNat
      by_cases hno : badS bits k c.toNat
      · rw [if_pos hno] at hrd
        obtain ⟨hno1, hno2⟩ := badS_ways hno
        have hmo := most_eq h7 hbb hno1
        have hm6 : (2 : Nat) ^ (bits - 7 * k - 1) ≤ 2 ^ 6 := Nat.pow_le_pow_right (by decide) (by omega)
        clear hno
        generalize 2 ^ (bits - 7 * k - 1) = M at *
        refine cT (vLt_T (by omega)) ?_
        refine bk ?_
        refine rIdxStrX rfl (k) hc rfl ?_
        refine eqI64 (by omega) ?_
        refine eqI64 (by omega) ?_
        refine ShiftP.mk (by decide) ?_
        refine EqP.mk _ hs8 ?_
        refine rConvInt rfl rfl ?_
        refine rConvInt rfl rfl ?_
        refine ShiftP.mk (by decide) ?_
        refine EqP.mk _ hsv ?_
        refine cT (vLt_T (by omega)) ?_
        refine eqI64 (by omega) ?_
        refine ShiftP.mk (by omega) ?_
        refine EqP.mk _ hmo ?_
        refine br (fun c2 => ?_) (fun c2 => ?_)
        · replace c2 := vLe_t (c2)
          refine cT rfl ?_
          refine Done.mk ?_
          exact ⟨0, 0, 4, rfl, hrd.symm, H⟩
        replace c2 := vLe_f (c2)
        refine eqI64 (by omega) ?_
        refine br (fun c3 => ?_) (fun c3 => ?_)
        · replace c3 := vLt_t (c3)
          refine cT rfl ?_
          refine Done.mk ?_
          exact ⟨0, 0, 4, rfl, hrd.symm, H⟩
        replace c3 := vLt_f (c3)
        refine cT (vLe_T (by omega)) ?_
        refine Done.mk ?_
        exact ⟨0, 0, 4, rfl, hrd.symm, H⟩
      · rw [if_neg hno] at hrd
        have hshl := sevShl h7 hb hno
        have hor := sevOr h7 hb hno hacc
        have hbn := badS_not hno
        have hmo := fun h => most_eq h7 hbb h
        have hnx := acc_next (c := c.toNat) hacc
        rcases Nat.lt_or_ge bits (7 * k + 7) with hlf | hlf
        · obtain ⟨hc1, hc2, hc3⟩ := hbn hlf
          have hmo := hmo hlf
          have hm6 : (2 : Nat) ^ (bits - 7 * k - 1) ≤ 2 ^ 6 := Nat.pow_le_pow_right (by decide) (by omega)
          rw [if_pos hc1] at hrd
          clear hno hbn
          generalize 2 ^ (bits - 7 * k - 1) = M at *
          refine cT (vLt_T (by omega)) ?_
          refine bk ?_
          refine rIdxStrX rfl (k) hc rfl ?_
          refine eqI64 (by omega) ?_
          refine eqI64 (by omega) ?_
          refine ShiftP.mk (by decide) ?_
          refine EqP.mk _ hs8 ?_
          refine rConvInt rfl rfl ?_
          refine rConvInt rfl rfl ?_
          refine ShiftP.mk (by decide) ?_
          refine EqP.mk _ hsv ?_
          refine cT (vLt_T (by omega)) ?_
          refine eqI64 (by omega) ?_
          refine ShiftP.mk (by omega) ?_
          refine EqP.mk _ hmo ?_
          refine br_f (vLe_F (by omega)) ?_
          refine eqI64 (by omega) ?_
          refine br_f (vLt_F (by omega)) ?_
          refine cF (vLe_F (by assumption)) ?_
          refine cT (vLt_T (by omega)) ?_
          refine eqI64 (by omega) ?_
          refine ShiftP.mk (by omega) ?_
          refine EqP.mk _ hshl ?_
          refine EqP.mk _ hor ?_
          refine eqI64 (by omega) ?_
          refine Done.mk ?_
          exact ⟨_, _, 0, rfl, hrd.symm, H⟩
        · clear hbn hmo
          by_cases h128 : c.toNat < 128
          · rw [if_pos h128] at hrd
            refine cT (vLt_T (by omega)) ?_
            refine bk ?_
            refine rIdxStrX rfl (k) hc rfl ?_
            refine eqI64 (by omega) ?_
            refine eqI64 (by omega) ?_
            refine ShiftP.mk (by decide) ?_
            refine EqP.mk _ hs8 ?_
            refine rConvInt rfl rfl ?_
            refine rConvInt rfl rfl ?_
            refine ShiftP.mk (by decide) ?_
            refine EqP.mk _ hsv ?_
            refine cF (vLt_F (by omega)) ?_
            refine cT (vLt_T (by omega)) ?_
            refine eqI64 (by omega) ?_
            refine ShiftP.mk (by omega) ?_
            refine EqP.mk _ hshl ?_
            refine EqP.mk _ hor ?_
            refine eqI64 (by omega) ?_
            refine Done.mk ?_
            exact ⟨_, _, 0, rfl, hrd.symm, H⟩
          · rw [if_neg h128] at hrd
            have hp63 : (2 : Nat) ^ (7 * (k + 1)) ≤ 2 ^ 63 := Nat.pow_le_pow_right (by decide) (by omega)
            have e2 := shlS_eq c.toNat k acc (by omega) (by omega)
            have e3 := orS_eq c.toNat k acc (by omega) hacc (by omega)
            refine cT (vLt_T (by omega)) ?_
            refine bk ?_
            refine rIdxStrX rfl (k) hc rfl ?_
            refine eqI64 (by omega) ?_
            refine eqI64 (by omega) ?_
            refine ShiftP.mk (by decide) ?_
            refine EqP.mk _ hs8 ?_
            refine rConvInt rfl rfl ?_
            refine rConvInt rfl rfl ?_
            refine ShiftP.mk (by decide) ?_
            refine EqP.mk _ hsv ?_
            refine cF (vLt_F (by omega)) ?_
            refine cF (vLt_F (by omega)) ?_
            refine eqAndMask 7 128 rfl rfl (by decide) ?_
            refine rConvI64 (by omega) rfl rfl ?_
            refine eqI64 (by omega) ?_
            refine ShiftP.mk (by omega) ?_
            refine EqP.mk _ e2 ?_
            refine EqP.mk _ e3 ?_
            refine eqI64 (by omega) ?_
            refine Nxt.mk ((k + 1, acc + c.toNat % 128 * 2 ^ (7 * k))) (mt_cons rfl (mt_i rfl (by first | omega | (simp only; omega) | (simp; omega)) (mt_nil))) ?_ ?_
            · refine ⟨?_, ?_⟩
              · assumption
              refine ⟨?_, ?_⟩
              · omega
              refine ⟨?_, ?_⟩
              · assumption
              refine ⟨?_, ?_⟩
              · assumption
              exact H
            omega
    · rw [List.drop_eq_nil_of_le hge] at hrd
      refine cF (vLt_F (by omega)) ?_
      refine Done.mk ?_
      exact ⟨0, 0, 3, rfl, hrd.symm, H⟩
  · refine LoopP.rule (α := Nat × Nat) (0, 0) (fun x_ => [(7, .int .i64 x_.2), (21, .int .i64 x_.1)]) (fun x_ w_ => (x_.1 ≤ s.length) ∧ (7 * x_.1 < bits) ∧ (x_.2 < 2 ^ (7 * x_.1)) ∧ (rdS bits (s.drop x_.1) x_.1 x_.2 = rdS bits s 0 0) ∧ Sat (froz w) w_ ([])) (fun x_ => s.length - x_.1) ?_ ?_ ?_
    · repeat first | exact mt_nil | refine mt_cons rfl ?_ | refine mt_i rfl (by first | omega | (simp only; omega) | (simp; omega) | (simp; done)) ?_
    · try simp only
      refine ⟨?_, ?_⟩
      · omega
      refine ⟨?_, ?_⟩
      · (simp; omega)
      (simp; omega)
    clear H
    rintro ⟨k, acc⟩ f_ w_ ⟨hk, h7, hacc, hrd, H⟩
    try simp only at hk h7 hacc hrd H ⊢
    rcases Nat.lt_or_ge k s.length with hlt | hge
    · obtain ⟨c, hc⟩ : ∃ c, s[k]? = some c := ⟨_, List.getElem?_eq_getElem hlt⟩
      have hdrop : s.drop k = c :: s.drop (k + 1) := by rw [List.drop_eq_getElem_cons hlt]; congr 1; exact Option.some.inj ((List.getElem?_eq_getElem hlt).symm.trans hc)
      rw [hdrop, rdS] at hrd
      have hcl := c.toNat_lt
      have hsv := sev_walk c.toNat hcl
      have hs8 := shl8 c.toNat hcl
      rw [hs8] at hsv
      have hsb := sev_bd c.toNat
      by_cases hno : badS bits k c.toNat
      · rw [if_pos hno] at hrd
        obtain ⟨hno1, hno2⟩ := badS_ways hno
        have hmo := most_eq h7 hbb hno1
        have hm6 : (2 : Nat) ^ (bits - 7 * k - 1) ≤ 2 ^ 6 := Nat.pow_le_pow_right (by decide) (by omega)
        clear hno
        generalize 2 ^ (bits - 7 * k - 1) = M at *
        refine cT (vLt_T (by omega)) ?_
        refine bk ?_
        refine rIdxStrX rfl (k) hc rfl ?_
        refine eqI64 (by omega) ?_
        refine eqI64 (by omega) ?_
        refine ShiftP.mk (by decide) ?_
        refine EqP.mk _ hs8 ?_
        refine rConvInt rfl rfl ?_
        refine rConvInt rfl rfl ?_
        refine ShiftP.mk (by decide) ?_
        refine EqP.mk _ hsv ?_
        refine cT (vLt_T (by omega)) ?_
        refine eqI64 (by omega) ?_
        refine ShiftP.mk (by omega) ?_
        refine EqP.mk _ hmo ?_
        refine br (fun c2 => ?_) (fun c2 => ?_)
        · replace c2 := vLe_t (c2)
          refine cT rfl ?_
          refine Done.mk ?_
          exact ⟨0, 0, 4, rfl, hrd.symm, H⟩
        replace c2 := vLe_f (c2)
        refine eqI64 (by omega) ?_
        refine br (fun c3 => ?_) (fun c3 => ?_)
        · replace c3 := vLt_t (c3)
          refine cT rfl ?_
          refine Done.mk ?_
          exact ⟨0, 0, 4, rfl, hrd.symm, H⟩
        replace c3 := vLt_f (c3)
        refine cT (vLe_T (by omega)) ?_
        refine Done.mk ?_
        exact ⟨0, 0, 4, rfl, hrd.symm, H⟩
      · rw [if_neg hno] at hrd
        have hshl := sevShl h7 hb hno
        have hor := sevOr h7 hb hno hacc
        have hbn := badS_not hno
        have hmo := fun h => most_eq h7 hbb h
        have hnx := acc_next (c := c.toNat) hacc
        rcases Nat.lt_or_ge bits (7 * k + 7) with hlf | hlf
        · obtain ⟨hc1, hc2, hc3⟩ := hbn hlf
          have hmo := hmo hlf
          have hm6 : (2 : Nat) ^ (bits - 7 * k - 1) ≤ 2 ^ 6 := Nat.pow_le_pow_right (by decide) (by omega)
          rw [if_pos hc1] at hrd
          clear hno hbn
          generalize 2 ^ (bits - 7 * k - 1) = M at *
          refine cT (vLt_T (by omega)) ?_
          refine bk ?_
          refine rIdxStrX rfl (k) hc rfl ?_
          refine eqI64 (by omega) ?_
          refine eqI64 (by omega) ?_
          refine ShiftP.mk (by decide) ?_
          refine EqP.mk _ hs8 ?_
          refine rConvInt rfl rfl ?_
          refine rConvInt rfl rfl ?_
          refine ShiftP.mk (by decide) ?_
          refine EqP.mk _ hsv ?_
          refine cT (vLt_T (by omega)) ?_
          refine eqI64 (by omega) ?_
          refine ShiftP.mk (by omega) ?_
          refine EqP.mk _ hmo ?_
          refine br_f (vLe_F (by omega)) ?_
          refine eqI64 (by omega) ?_
          refine br_f (vLt_F (by omega)) ?_
          refine cF (vLe_F (by assumption)) ?_
          refine cT (vLt_T (by omega)) ?_
          refine eqI64 (by omega) ?_
          refine ShiftP.mk (by omega) ?_
          refine EqP.mk _ hshl ?_
          refine EqP.mk _ hor ?_
          refine eqI64 (by omega) ?_
          refine Done.mk ?_
          exact ⟨_, _, 0, rfl, hrd.symm, H⟩
        · clear hbn hmo
          by_cases h128 : c.toNat < 128
          · rw [if_pos h128] at hrd
            refine cT (vLt_T (by omega)) ?_
            refine bk ?_
            refine rIdxStrX rfl (k) hc rfl ?_
            refine eqI64 (by omega) ?_
            refine eqI64 (by omega) ?_
            refine ShiftP.mk (by decide) ?_
            refine EqP.mk _ hs8 ?_
            refine rConvInt rfl rfl ?_
            refine rConvInt rfl rfl ?_
            refine ShiftP.mk (by decide) ?_
            refine EqP.mk _ hsv ?_
            refine cF (vLt_F (by omega)) ?_
            refine cT (vLt_T (by omega)) ?_
            refine eqI64 (by omega) ?_
            refine ShiftP.mk (by omega) ?_
            refine EqP.mk _ hshl ?_
            refine EqP.mk _ hor ?_
            refine eqI64 (by omega) ?_
            refine Done.mk ?_
            exact ⟨_, _, 0, rfl, hrd.symm, H⟩
          · rw [if_neg h128] at hrd
            have hp63 : (2 : Nat) ^ (7 * (k + 1)) ≤ 2 ^ 63 := Nat.pow_le_pow_right (by decide) (by omega)
            have e2 := shlS_eq c.toNat k acc (by omega) (by omega)
            have e3 := orS_eq c.toNat k acc (by omega) hacc (by omega)
            refine cT (vLt_T (by omega)) ?_
            refine bk ?_
            refine rIdxStrX rfl (k) hc rfl ?_
            refine eqI64 (by omega) ?_
            refine eqI64 (by omega) ?_
            refine ShiftP.mk (by decide) ?_
            refine EqP.mk _ hs8 ?_
            refine rConvInt rfl rfl ?_
            refine rConvInt rfl rfl ?_
            refine ShiftP.mk (by decide) ?_
            refine EqP.mk _ hsv ?_
            refine cF (vLt_F (by omega)) ?_
            refine cF (vLt_F (by omega)) ?_
            refine eqAndMask 7 128 rfl rfl (by decide) ?_
            refine rConvI64 (by omega) rfl rfl ?_
            refine eqI64 (by omega) ?_
            refine ShiftP.mk (by omega) ?_
            refine EqP.mk _ e2 ?_
            refine EqP.mk _ e3 ?_
            refine eqI64 (by omega) ?_
            refine Nxt.mk ((k + 1, acc + c.toNat % 128 * 2 ^ (7 * k))) (mt_cons rfl (mt_i rfl (by first | omega | (simp only; omega) | (simp; omega)) (mt_nil))) ?_ ?_
            · refine ⟨?_, ?_⟩
              · assumption
              refine ⟨?_, ?_⟩
              · omega
              refine ⟨?_, ?_⟩
              · assumption
              refine ⟨?_, ?_⟩
              · assumption
              exact H
            omega
    · rw [List.drop_eq_nil_of_le hge] at hrd
      refine cF (vLt_F (by omega)) ?_
      refine Done.mk ?_
      exact ⟨0, 0, 3, rfl, hrd.symm, H⟩
end Go.Proofs.YtbbdfhgcmkljeaaGreatDoor.Leb
/- Package ins: the reader. -/
set_option maxRecDepth 100000
set_option maxHeartbeats 4000000
set_option linter.unusedVariables false
set_option linter.unusedSimpArgs false
namespace Go.Proofs.YtbbdfhgcmkljeaaGreatDoor.Ins
open Go Go.Proofs.YtbbdfhgcmkljeaaGreatDoor.Eng Go.RowKit
open Leb Txt
theorem rdU_at (bits : Nat) : ∀ (s : List UInt8) (i acc : Nat), (rdU bits s i acc).2.1 ≤ i + s.length ∧ ((rdU bits s i acc).2.2 = 0 ∨ (rdU bits s i acc).2.2 = 3 ∨ (rdU bits s i acc).2.2 = 4) := by
  intro s
  induction s with
  | nil => intro i acc; exact ⟨Nat.zero_le _, .inr (.inl rfl)⟩
  | cons c r ih =>
    intro i acc
    rw [rdU]
    split
    · exact ⟨Nat.zero_le _, .inr (.inr rfl)⟩
    · split
      · exact ⟨by simp, .inl rfl⟩
      · obtain ⟨h1, h2⟩ := ih (i + 1) (acc + c.toNat % 128 * 2 ^ (7 * i))
        exact ⟨by simp only [List.length_cons]; omega, h2⟩
theorem rdS_at (bits : Nat) : ∀ (s : List UInt8) (i acc : Nat), (rdS bits s i acc).2.1 ≤ i + s.length ∧ ((rdS bits s i acc).2.2 = 0 ∨ (rdS bits s i acc).2.2 = 3 ∨ (rdS bits s i acc).2.2 = 4) := by
  intro s
  induction s with
  | nil => intro i acc; exact ⟨Nat.zero_le _, .inr (.inl rfl)⟩
  | cons c r ih =>
    intro i acc
    rw [rdS]
    split
    · exact ⟨Nat.zero_le _, .inr (.inr rfl)⟩
    · split
      · exact ⟨by simp, .inl rfl⟩
      · obtain ⟨h1, h2⟩ := ih (i + 1) (acc + c.toNat % 128 * 2 ^ (7 * i))
        exact ⟨by simp only [List.length_cons]; omega, h2⟩
theorem rdU_facts {bits : Nat} {s : List UInt8} {n k e : Nat} (hb : bits = 32 ∨ bits = 64) (h : rdU bits s 0 0 = (n, k, e)) : k ≤ s.length ∧ n < 2 ^ bits ∧ e ≤ 4 := by
  have h1 := rdU_at bits s 0 0
  have h2 := rdU_bd bits s 0 0 (by omega) hb (by decide)
  rw [h] at h1 h2
  exact ⟨by have := h1.1; simpa using this, h2, by have := h1.2; simp only at this; omega⟩
theorem rdS_facts {bits : Nat} {s : List UInt8} {n : Int} {k e : Nat} (hb : bits = 32 ∨ bits = 64) (h : rdS bits s 0 0 = (n, k, e)) : k ≤ s.length ∧ I64 n ∧ e ≤ 4 := by
  have h1 := rdS_at bits s 0 0
  have h2 := rdS_bd bits s 0 0 (by omega) hb (by decide)
  rw [h] at h1 h2
  refine ⟨by have := h1.1; simpa using this, ?_, by have := h1.2; simp only at this; omega⟩
  rcases hb with rfl | rfl
  · simp at h2; constructor <;> omega
  · simp at h2; constructor <;> omega
/-- The reader's cells. -/
abbrev rdC (s : List UInt8) (k : Nat) (b : Int) : List Value := [.string (bs s), .int .i64 k, .int .i64 b]
theorem octetR_bad {s : List UInt8} {k : Nat} {b : Int} (h : b ≠ 0) : octetR s ⟨k, b⟩ = (0, ⟨k, b⟩) := by unfold octetR; rw [if_pos h]
theorem octetR_end {s : List UInt8} {k : Nat} (h : s.length ≤ k) : octetR s ⟨k, 0⟩ = (0, ⟨k, 3⟩) := by unfold octetR; rw [if_neg (by simp)]; simp only [List.getElem?_eq_none h]
theorem octetR_get {s : List UInt8} {k : Nat} {c : UInt8} (h : s[k]? = some c) : octetR s ⟨k, 0⟩ = ((c.toNat : Int), ⟨k + 1, 0⟩) := by unfold octetR; rw [if_neg (by simp)]; simp only [h]
theorem plainR_bad {s : List UInt8} {k : Nat} {b : Int} (h : b ≠ 0) : plainR s ⟨k, b⟩ = (0, ⟨k, b⟩) := by unfold plainR; rw [if_pos h]
theorem plainR_get {s : List UInt8} {k n m e : Nat} (h : rdU 32 (s.drop k) 0 0 = (n, m, e)) : plainR s ⟨k, 0⟩ = ((n : Int), ⟨k + m, (e : Int)⟩) := by unfold plainR; rw [if_neg (by simp)]; simp only [h]
theorem signedR_get {bits : Nat} {s : List UInt8} {k m e : Nat} {n : Int} (h : rdS bits (s.drop k) 0 0 = (n, m, e)) : signedR bits s ⟨k, 0⟩ = (n, ⟨k + m, (e : Int)⟩) := by unfold signedR; rw [if_neg (by simp)]; simp only [h]
section
variable {g : Glob} {w : World} {l : List As} {p k : Nat} {s : List UInt8} {b : Int}
theorem fail (H : Sat g w (Pt p (rdC s k b) 185 :: l)) (e : Int) : Fc Tryz.prog 113 #[.pointer (some ⟨p, 0, none⟩), .int .i64 e] w (fun _ w' => ∃ c, c = (if b = 0 then e else b) ∧ Sat g w' (Pt p (rdC s k c) 185 :: l)) := by
  refine Fc.of Tryz.func113 rfl (by kernel_rfl) ?_
  refine rFieldAt rfl ?_
  refine rLd (H.at 0 rfl) 2 rfl rfl rfl ?_
  refine cI (fun c1 => ?_) (fun c1 => ?_)
  · replace c1 := vEq_t (c1)
    refine rFieldAt rfl ?_
    refine rStS H 0 rfl rfl rfl rfl ?_
    clear H
    intro w1 H
    refine Done.mk ?_
    refine ⟨if b = 0 then e else b, ?_⟩
    refine ⟨?_, ?_⟩
    · (rw [if_pos (by assumption)])
    refine H.cg (cgC (cgPt ?_) (rfl))
    (rw [if_pos (by assumption)])
  replace c1 := vEq_f (c1)
  refine Done.mk ?_
  refine ⟨if b = 0 then e else b, ?_⟩
  refine ⟨?_, ?_⟩
  · (rw [if_neg (by assumption)])
  refine H.cg (cgC (cgPt ?_) (rfl))
  (rw [if_neg (by assumption)])
theorem octet (H : Sat g w (Pt p (rdC s k b) 185 :: l)) (hk : k ≤ s.length) (hs : s.length ≤ 9223372036854775807) : Fc Tryz.prog 112 #[.pointer (some ⟨p, 0, none⟩)] w
    (fun v w' => ∃ (c : UInt8) (k' : Nat) (b' : Int), v = .int .u8 (c.toNat : Int) ∧ octetR s ⟨k, b⟩ = ((c.toNat : Int), ⟨k', b'⟩) ∧ k' ≤ s.length ∧ Sat g w' (Pt p (rdC s k' b') 185 :: l)) := by
  refine Fc.of Tryz.func112 rfl (by kernel_rfl) ?_
  by_cases hb : b = 0
  · subst hb
    rcases Nat.lt_or_ge k s.length with hlt | hge
    · refine rFieldAt rfl ?_
      refine rLd (H.at 0 rfl) 2 rfl rfl rfl ?_
      refine cF (vNe_F (by omega)) ?_
      refine drawzS H [] [(0, .pure), (1, .pure), (2, .pure), (3, .held), (4, .pure), (5, .pure), (6, .pure), (7, .held), (8, .pure), (9, .pure)] mixed (by kernel_rfl) (by kernel_rfl) ?_
      clear H
      intro w1 H
      refine tk (fun wx HS => rFieldAt rfl ⟨rfl, rfl⟩) ?_
      refine tk (fun wx HS => rLd (HS.at 0 rfl) 1 rfl rfl rfl ⟨rfl, rfl⟩) ?_
      refine tk (fun wx HS => rFieldAt rfl ⟨rfl, rfl⟩) ?_
      refine tk (fun wx HS => rLd (HS.at 0 rfl) 0 rfl rfl rfl ⟨rfl, rfl⟩) ?_
      refine tk (fun wx HS => rLenStr rfl ⟨rfl, rfl⟩) ?_
      refine cF (vLe_F (by omega)) ?_
      refine rFieldAt rfl ?_
      refine rLd (H.at 0 rfl) 1 rfl rfl rfl ?_
      refine eqI64 (by omega) ?_
      refine rFieldAt rfl ?_
      refine rStS H 0 rfl rfl rfl rfl ?_
      clear H
      intro w2 H
      clear w1
      refine drawzS H [] [(0, .pure), (1, .pure), (2, .pure), (3, .held), (4, .pure), (5, .pure), (6, .pure), (7, .held), (8, .pure), (9, .pure), (10, .pure)] mixed (by kernel_rfl) (by kernel_rfl) ?_
      clear H
      intro w1 H
      clear w2
      refine tk (fun wx HS => rFieldAt rfl ⟨rfl, rfl⟩) ?_
      refine tk (fun wx HS => rLd (HS.at 0 rfl) 0 rfl rfl rfl ⟨rfl, rfl⟩) ?_
      refine tk (fun wx HS => rFieldAt rfl ⟨rfl, rfl⟩) ?_
      refine tk (fun wx HS => rLd (HS.at 0 rfl) 1 rfl rfl rfl ⟨rfl, rfl⟩) ?_
      refine eqI64 (by omega) ?_
      obtain ⟨x1, hx1⟩ : ∃ x, (s)[(((k) + 1) - 1)]? = some x := ⟨_, List.getElem?_eq_getElem (by omega)⟩
      have hb1 := byteLt hx1
      refine tk (fun wx HS => rIdxStrX rfl (((k) + 1) - 1) hx1 (by omega) ⟨rfl, rfl⟩) ?_
      refine Done.mk ?_
      refine ⟨x1, k + 1, 0, ?_⟩
      refine ⟨?_, ?_⟩
      · refine int_eq ?_
        omega
      refine ⟨?_, ?_⟩
      · exact octetR_get hx1
      refine ⟨?_, ?_⟩
      · assumption
      exact H
    · refine rFieldAt rfl ?_
      refine rLd (H.at 0 rfl) 2 rfl rfl rfl ?_
      refine cF (vNe_F (by omega)) ?_
      refine drawzS H [] [(0, .pure), (1, .pure), (2, .pure), (3, .held), (4, .pure), (5, .pure), (6, .pure), (7, .held), (8, .pure), (9, .pure)] mixed (by kernel_rfl) (by kernel_rfl) ?_
      clear H
      intro w1 H
      refine tk (fun wx HS => rFieldAt rfl ⟨rfl, rfl⟩) ?_
      refine tk (fun wx HS => rLd (HS.at 0 rfl) 1 rfl rfl rfl ⟨rfl, rfl⟩) ?_
      refine tk (fun wx HS => rFieldAt rfl ⟨rfl, rfl⟩) ?_
      refine tk (fun wx HS => rLd (HS.at 0 rfl) 0 rfl rfl rfl ⟨rfl, rfl⟩) ?_
      refine tk (fun wx HS => rLenStr rfl ⟨rfl, rfl⟩) ?_
      refine cT (vLe_T (by omega)) ?_
      refine CallP.mk (Fc.imp (Go.Proofs.YtbbdfhgcmkljeaaGreatDoor.Ins.fail H _) ?_)
      clear H
      rintro v' w2 ⟨c1, ⟨h1, H⟩⟩
      refine Done.mk ?_
      exact ⟨0, k, 3, rfl, octetR_end hge, hk, by rw [h1] at H; exact H⟩
  · refine rFieldAt rfl ?_
    refine rLd (H.at 0 rfl) 2 rfl rfl rfl ?_
    refine cT (vNe_T (by assumption)) ?_
    refine Done.mk ?_
    exact ⟨0, k, b, rfl, octetR_bad hb, hk, H⟩
theorem plain (H : Sat g w (Pt p (rdC s k b) 185 :: l)) (hk : k ≤ s.length) (hs : s.length ≤ 9223372036854775807) : Fc Tryz.prog 116 #[.pointer (some ⟨p, 0, none⟩)] w
    (fun v w' => ∃ (n : Nat) (k' : Nat) (b' : Int), v = .int .i64 (n : Int) ∧ plainR s ⟨k, b⟩ = ((n : Int), ⟨k', b'⟩) ∧ k' ≤ s.length ∧ n < 2 ^ 32 ∧ Sat g w' (Pt p (rdC s k' b') 185 :: l)) := by
  refine Fc.of Tryz.func116 rfl (by kernel_rfl) ?_
  by_cases hb : b = 0
  · subst hb
    refine rFieldAt rfl ?_
    refine rLd (H.at 0 rfl) 2 rfl rfl rfl ?_
    refine cF (vNe_F (by omega)) ?_
    refine drawzS H [] [(0, .pure), (1, .pure), (2, .pure), (3, .held), (4, .pure), (5, .pure), (6, .pure), (7, .held), (8, .pure), (9, .free), (10, .pure), (11, .pure), (12, .pure), (13, .pure), (14, .pure), (15, .pure), (16, .pure)] mixed (by kernel_rfl) (by kernel_rfl) ?_
    clear H
    intro w1 H
    refine tk (fun wx HS => rFieldAt rfl ⟨rfl, rfl⟩) ?_
    refine tk (fun wx HS => rLd (HS.at 0 rfl) 0 rfl rfl rfl ⟨rfl, rfl⟩) ?_
    refine tk (fun wx HS => rFieldAt rfl ⟨rfl, rfl⟩) ?_
    refine tk (fun wx HS => rLd (HS.at 0 rfl) 1 rfl rfl rfl ⟨rfl, rfl⟩) ?_
    refine tk (fun wx HS => rSubL rfl (k) (by omega) (by omega) ⟨rfl, rfl⟩) ?_
    refine CallP.mk (Fc.imp (Go.Proofs.YtbbdfhgcmkljeaaGreatDoor.Leb.readU _ _ (32) ?_ _ ?_ ?_) ?_)
    · omega
    · omega
    · (simp; omega)
    rintro _ w2 ⟨n1, ⟨k1, ⟨e1, ⟨rfl, ⟨h1, H'⟩⟩⟩⟩⟩
    refine H.mergeK H' ?_
    clear H H'
    intro H
    obtain ⟨hf1, hf2, hf3⟩ := rdU_facts (.inl rfl) (by assumption)
    rw [List.length_drop] at hf1
    refine CallP.mk (Fc.imp (Go.Proofs.YtbbdfhgcmkljeaaGreatDoor.Ins.fail H _) ?_)
    clear H
    rintro v' w3 ⟨c1, ⟨h2, H⟩⟩
    refine rFieldAt rfl ?_
    refine rLd (H.at 0 rfl) 1 rfl rfl rfl ?_
    refine eqI64 (by omega) ?_
    refine rFieldAt rfl ?_
    refine rStS H 0 rfl rfl rfl rfl ?_
    clear H
    intro w4 H
    clear w3
    refine rConvI64 (by omega) rfl rfl ?_
    refine Done.mk ?_
    exact ⟨_, _, _, rfl, plainR_get (by assumption), by omega, hf2, by rw [if_pos rfl] at h2; subst h2; exact H⟩
  · refine rFieldAt rfl ?_
    refine rLd (H.at 0 rfl) 2 rfl rfl rfl ?_
    refine cT (vNe_T (by assumption)) ?_
    refine Done.mk ?_
    exact ⟨0, k, b, rfl, plainR_bad hb, hk, by decide, H⟩
theorem signed (H : Sat g w (Pt p (rdC s k 0) 185 :: l)) (hk : k ≤ s.length) (hs : s.length ≤ 9223372036854775807) (z : Int) (bits : Nat) (hz : z = (bits : Int)) (hbits : bits = 32 ∨ bits = 64) : Fc Tryz.prog 118 #[.pointer (some ⟨p, 0, none⟩), .int .i64 z] w
    (fun v w' => ∃ (n : Int) (k' : Nat) (b' : Int), v = .int .i64 n ∧ signedR bits s ⟨k, 0⟩ = (n, ⟨k', b'⟩) ∧ k' ≤ s.length ∧ I64 n ∧ Sat g w' (Pt p (rdC s k' b') 185 :: l)) := by
  subst hz
  refine Fc.of Tryz.func118 rfl (by kernel_rfl) ?_
  refine drawzS H [] [(0, .pure), (1, .pure), (2, .pure), (3, .held), (4, .pure), (5, .pure), (6, .pure), (7, .held), (8, .pure), (9, .pure), (10, .free), (11, .pure), (12, .pure), (13, .pure), (14, .pure), (15, .pure), (16, .pure), (17, .pure)] mixed (by kernel_rfl) (by kernel_rfl) ?_
  clear H
  intro w1 H
  refine tk (fun wx HS => rFieldAt rfl ⟨rfl, rfl⟩) ?_
  refine tk (fun wx HS => rLd (HS.at 0 rfl) 0 rfl rfl rfl ⟨rfl, rfl⟩) ?_
  refine tk (fun wx HS => rFieldAt rfl ⟨rfl, rfl⟩) ?_
  refine tk (fun wx HS => rLd (HS.at 0 rfl) 1 rfl rfl rfl ⟨rfl, rfl⟩) ?_
  refine tk (fun wx HS => rSubL rfl (k) (by omega) (by omega) ⟨rfl, rfl⟩) ?_
  refine CallP.mk (Fc.imp (Go.Proofs.YtbbdfhgcmkljeaaGreatDoor.Leb.readS _ _ (bits) ?_ _ ?_ ?_) ?_)
  · omega
  · assumption
  · (simp; omega)
  rintro _ w2 ⟨n1, ⟨k1, ⟨e1, ⟨rfl, ⟨h1, H'⟩⟩⟩⟩⟩
  refine H.mergeK H' ?_
  clear H H'
  intro H
  obtain ⟨hf1, hf2, hf3⟩ := rdS_facts hbits (by assumption)
  rw [List.length_drop] at hf1
  refine CallP.mk (Fc.imp (Go.Proofs.YtbbdfhgcmkljeaaGreatDoor.Ins.fail H _) ?_)
  clear H
  rintro v' w3 ⟨c1, ⟨h2, H⟩⟩
  refine rFieldAt rfl ?_
  refine rLd (H.at 0 rfl) 1 rfl rfl rfl ?_
  refine eqI64 (by omega) ?_
  refine rFieldAt rfl ?_
  refine rStS H 0 rfl rfl rfl rfl ?_
  clear H
  intro w4 H
  clear w3
  refine Done.mk ?_
  exact ⟨_, _, _, rfl, signedR_get (by assumption), by omega, hf2, by rw [if_pos rfl] at h2; subst h2; exact H⟩
theorem failR_eq (e : Int) (k : Nat) (b : Int) : failR e ⟨k, b⟩ = ⟨k, if b = 0 then e else b⟩ := by unfold failR; split <;> rfl
theorem noughtR_y {r : RS} {v : Int} {k' : Nat} {b' : Int} (h : octetR s r = (v, ⟨k', b'⟩)) (hv : v ≠ 0) : noughtR s r = ((), ⟨k', if b' = 0 then 4 else b'⟩) := by
  unfold noughtR bindR; rw [h]; simp only [if_pos hv, failRd, failR_eq]
theorem noughtR_n {r : RS} {v : Int} {k' : Nat} {b' : Int} (h : octetR s r = (v, ⟨k', b'⟩)) (hv : v = 0) : noughtR s r = ((), ⟨k', b'⟩) := by
  unfold noughtR bindR; rw [h]; simp only [if_neg (show ¬ v ≠ 0 by omega), retR]
theorem nought (H : Sat g w (Pt p (rdC s k b) 185 :: l)) (hk : k ≤ s.length) (hs : s.length ≤ 9223372036854775807) : Fc Tryz.prog 117 #[.pointer (some ⟨p, 0, none⟩)] w
    (fun v w' => ∃ (k' : Nat) (b' : Int), noughtR s ⟨k, b⟩ = ((), ⟨k', b'⟩) ∧ k' ≤ s.length ∧ Sat g w' (Pt p (rdC s k' b') 185 :: l)) := by
  refine Fc.of Tryz.func117 rfl (by kernel_rfl) ?_
  refine CallP.mk (Fc.imp (Go.Proofs.YtbbdfhgcmkljeaaGreatDoor.Ins.octet H ?_ ?_) ?_)
  · assumption
  · assumption
  clear H
  rintro _ w1 ⟨c1, ⟨k'1, ⟨b'1, ⟨rfl, ⟨h1, ⟨h2, H⟩⟩⟩⟩⟩⟩
  refine cI (fun c2 => ?_) (fun c2 => ?_)
  · replace c2 := vNe_t (c2)
    refine CallP.mk (Fc.imp (Go.Proofs.YtbbdfhgcmkljeaaGreatDoor.Ins.fail H _) ?_)
    clear H
    rintro v' w2 ⟨c3, ⟨h3, H⟩⟩
    refine Done.mk ?_
    refine ⟨k'1, c3, ?_⟩
    refine ⟨?_, ?_⟩
    · (rw [h3]; exact noughtR_y h1 (by assumption))
    refine ⟨?_, ?_⟩
    · assumption
    exact H
  replace c2 := vNe_f (c2)
  refine Done.mk ?_
  refine ⟨k'1, b'1, ?_⟩
  refine ⟨?_, ?_⟩
  · exact noughtR_n h1 (by assumption)
  refine ⟨?_, ?_⟩
  · assumption
  exact H
theorem blockR_y {o v : Int} {r : RS} {k' : Nat} {b' : Int} (h : octetR s r = (v, ⟨k', b'⟩)) (hv : v ≠ 64 ∧ v ≠ 127 ∧ v ≠ 126) : blockR o s r = (⟨o, v, 0, []⟩, ⟨k', if b' = 0 then 6 else b'⟩) := by
  unfold blockR bindR; rw [h]; simp only [if_pos hv, failRd, failR_eq, bindR, retR]
theorem blockR_n {o v : Int} {r : RS} {k' : Nat} {b' : Int} (h : octetR s r = (v, ⟨k', b'⟩)) (hv : v = 64 ∨ v = 127 ∨ v = 126) : blockR o s r = (⟨o, v, 0, []⟩, ⟨k', b'⟩) := by
  unfold blockR bindR; rw [h]; simp only [if_neg (show ¬ (v ≠ 64 ∧ v ≠ 127 ∧ v ≠ 126) by omega), bindR, retR]
theorem bsd_2 {o k : Int} {r : RS} {x : InsD} {r' : RS} (hk : k = 2) (h : blockR o s r = (x, r')) : bsdR o k s r = (x, r') := by subst hk; exact h
theorem bsd_3 {o k a : Int} {r r' : RS} (hk : k = 3) (h : plainR s r = (a, r')) : bsdR o k s r = (⟨o, a, 0, []⟩, r') := by subst hk; show bindR plainR (fun a => retR (⟨o, a, 0, []⟩ : InsD)) s r = _; simp only [bindR, h, retR]
theorem bsd_5 {o k a : Int} {u : Unit} {r r' r2 : RS} (hk : k = 5) (h : plainR s r = (a, r')) (h2 : noughtR s r' = (u, r2)) : bsdR o k s r = (⟨o, a, 0, []⟩, r2) := by subst hk; show bindR plainR (fun a => bindR noughtR fun _ => retR (⟨o, a, 0, []⟩ : InsD)) s r = _; simp only [bindR, h, h2, retR]
theorem bsd_6 {o k a b : Int} {r r' r2 : RS} (hk : k = 6) (h : plainR s r = (a, r')) (h2 : plainR s r' = (b, r2)) : bsdR o k s r = (⟨o, a, b, []⟩, r2) := by subst hk; show bindR plainR (fun a => bindR plainR fun b => retR (⟨o, a, b, []⟩ : InsD)) s r = _; simp only [bindR, h, h2, retR]
theorem bsd_7 {o k : Int} {u : Unit} {r r' : RS} (hk : k = 7) (h : noughtR s r = (u, r')) : bsdR o k s r = (⟨o, 0, 0, []⟩, r') := by subst hk; show bindR noughtR (fun _ => retR (⟨o, 0, 0, []⟩ : InsD)) s r = _; simp only [bindR, h, retR]
theorem bsd_8 {o k a : Int} {r r' : RS} (hk : k = 8) (h : signedR 32 s r = (a, r')) : bsdR o k s r = (⟨o, a, 0, []⟩, r') := by subst hk; show bindR (signedR 32) (fun a => retR (⟨o, a, 0, []⟩ : InsD)) s r = _; simp only [bindR, h, retR]
theorem bsd_9 {o k a : Int} {r r' : RS} (hk : k = 9) (h : signedR 64 s r = (a, r')) : bsdR o k s r = (⟨o, a, 0, []⟩, r') := by subst hk; show bindR (signedR 64) (fun a => retR (⟨o, a, 0, []⟩ : InsD)) s r = _; simp only [bindR, h, retR]
theorem bsd_n {o k : Int} {r : RS} (h2 : k ≠ 2) (h3 : k ≠ 3) (h4 : k ≠ 4) (h5 : k ≠ 5) (h6 : k ≠ 6) (h7 : k ≠ 7) (h8 : k ≠ 8) (h9 : k ≠ 9) : bsdR o k s r = (⟨o, 0, 0, []⟩, r) := by
  unfold bsdR
  rw [if_neg h2, if_neg h3, if_neg h4, if_neg h5, if_neg h6, if_neg h7, if_neg h8, if_neg h9]; rfl
theorem ways_big {o k n : Int} {r : RS} {b' : Int} {k1 : Nat} (hk : k = 4) (h : plainR s r = (n, ⟨k1, b'⟩)) (hn : 16 < n) : (bsdR o k s r).2 = ⟨k1, if b' = 0 then 2 else b'⟩ := by
  subst hk
  show (waysR o s r).2 = _
  unfold waysR
  simp only [bindR, h, if_pos hn, failRd, failR_eq, manyR, retR]
  rw [plainR_bad]
  split <;> simp; assumption
/-- What is read so far, of n numbers. -/
structure ManyI (n : Nat) (s : List UInt8) (r0 : RS) (k : Nat) (l : List Int) (r : RS) : Prop where
  le : k ≤ n
  st : (manyR n s r0).2 = (manyR (n - k) s r).2
  val : r.bad = 0 → (manyR n s r0).1 = l ++ (manyR (n - k) s r).1
theorem ManyI.zero (n : Nat) (s : List UInt8) (r : RS) : ManyI n s r 0 [] r := ⟨Nat.zero_le _, rfl, fun _ => rfl⟩
theorem ManyI.step {n k : Nat} {s : List UInt8} {r0 r r' : RS} {l : List Int} {v : Int} (h : ManyI n s r0 k l r) (hk : k < n) (hb : r.bad = 0) (hv : plainR s r = (v, r')) : ManyI n s r0 (k + 1) (l ++ [v]) r' := by
  obtain ⟨m, hm⟩ : ∃ m, n - k = m + 1 := ⟨n - k - 1, by omega⟩
  have h1 := h.st
  have h2 := h.val hb
  rw [hm] at h1 h2
  have e : manyR (m + 1) s r = (v :: (manyR m s r').1, (manyR m s r').2) := by
    show bindR plainR _ s r = _
    simp only [bindR, hv, retR]
  rw [e] at h1 h2
  have hm2 : n - (k + 1) = m := by omega
  exact ⟨hk, by rw [hm2, h1], fun _ => by rw [hm2, h2]; simp⟩
theorem ManyI.bad {n k : Nat} {s : List UInt8} {r0 r : RS} {l : List Int} (h : ManyI n s r0 k l r) (hb : r.bad ≠ 0) : (manyR n s r0).2 = r := by
  rw [h.st, Strict.many _ s r hb]
theorem ManyI.done {n k : Nat} {s : List UInt8} {r0 r : RS} {l : List Int} (h : ManyI n s r0 k l r) (hk : n ≤ k) : (manyR n s r0).2 = r ∧ (r.bad = 0 → (manyR n s r0).1 = l) := by
  have : n - k = 0 := by omega
  have h1 := h.st
  have h2 := h.val
  rw [this] at h1 h2
  exact ⟨h1, fun hb => by rw [h2 hb]; simp [manyR, retR]⟩
theorem ways_end {o kk a : Int} {n k1 k2 k3 : Nat} {b1 b2 b3 : Int} {r : RS} {l : List Int} (hk : kk = 4) (h : plainR s r = ((n : Int), ⟨k1, b1⟩)) (hn : n ≤ 16) (h2 : (manyR n s ⟨k1, b1⟩).2 = ⟨k2, b2⟩) (hl : b2 = 0 → (manyR n s ⟨k1, b1⟩).1 = l) (h3 : plainR s ⟨k2, b2⟩ = (a, ⟨k3, b3⟩)) :
    (bsdR o kk s r).2 = ⟨k3, b3⟩ ∧ (b3 = 0 → (bsdR o kk s r).1 = ⟨o, a, 0, l⟩) := by
  subst hk
  have e : bsdR o 4 s r = (⟨o, a, 0, (manyR n s ⟨k1, b1⟩).1⟩, ⟨k3, b3⟩) := by
    show waysR o s r = _
    unfold waysR
    simp only [bindR, h, if_neg (show ¬ (16 : Int) < (n : Int) by omega), retR, Int.toNat_natCast, h2, h3]
  rw [e]
  refine ⟨rfl, fun hb => ?_⟩
  have hb2 : b2 = 0 := by
    apply Decidable.byContradiction
    intro hb2
    rw [plainR_bad hb2] at h3
    injection h3 with _ h3
    injection h3 with _ h3
    omega
  rw [hl hb2]
def Rdd (P : InsD × RS) (x : InsD) (k' : Nat) (b' : Int) : Prop := P.2 = ⟨k', b'⟩ ∧ (b' = 0 → P.1 = x)
def okTo (a b : Int) (to : List Int) : Prop := I64 a ∧ I64 b ∧ ∀ n ∈ to, I64 n
theorem of_eq {P : InsD × RS} {x : InsD} {k' : Nat} {b' : Int} (h : P = (x, ⟨k', b'⟩)) : Rdd P x k' b' := by rw [h]; exact ⟨rfl, fun _ => rfl⟩
theorem all_snoc {p : Int → Prop} {l : List Int} {x : Int} (h : ∀ n ∈ l, p n) (hx : p x) : ∀ n ∈ l ++ [x], p n := fun n hn => by
  rcases List.mem_append.1 hn with h1 | h1
  · exact h n h1
  · rw [List.mem_singleton.1 h1]; exact hx
theorem ways_bad_end {o k n a : Int} {r : RS} {b' c b2 : Int} {k1 k2 : Nat} {x : InsD} (hk : k = 4) (h : plainR s r = (n, ⟨k1, b'⟩)) (hn : 16 < n) (hc : c = if b' = 0 then 2 else b') (h2 : plainR s ⟨k1, c⟩ = (a, ⟨k2, b2⟩)) : Rdd (bsdR o k s r) x k2 b2 := by
  have h1 := ways_big (o := o) hk h hn
  rw [← hc] at h1
  have hc0 : c ≠ 0 := by rw [hc]; split <;> omega
  rw [plainR_bad hc0] at h2
  injection h2 with _ h2
  injection h2 with e1 e2
  subst e1; subst e2
  exact ⟨h1, fun h => absurd h hc0⟩
theorem ways_fin {o kk a : Int} {n i k1 k2 k3 : Nat} {b1 b2 b3 : Int} {r : RS} {l : List Int} (hk : kk = 4) (h : plainR s r = ((n : Int), ⟨k1, b1⟩)) (hn : n ≤ 16) (hI : ManyI n s ⟨k1, b1⟩ i l ⟨k2, b2⟩) (hx : n ≤ i ∨ b2 ≠ 0) (h3 : plainR s ⟨k2, b2⟩ = (a, ⟨k3, b3⟩)) : Rdd (bsdR o kk s r) ⟨o, a, 0, l⟩ k3 b3 := by
  rcases hx with hx | hx
  · obtain ⟨e1, e2⟩ := hI.done hx
    exact ways_end hk h hn e1 e2 h3
  · exact ways_end hk h hn (hI.bad hx) (fun h => absurd h hx) h3
theorem beside {q : Nat} (o kk : Int) (H : Sat g w (Pt p (rdC s k b) 185 :: Pt q [.int .u8 o, .int .i64 0, .int .i64 0, .slice none 0 0] 149 :: l)) (hb0 : b = 0) (hk : k ≤ s.length) (hs : s.length ≤ 9223372036854775807) : Fc Tryz.prog 114 #[.pointer (some ⟨p, 0, none⟩), .pointer (some ⟨q, 0, none⟩), .int .i64 kk] w
    (fun _ w' => ∃ (a b : Int) (tv : Value) (to : List Int) (k' : Nat) (b' : Int), Rdd (bsdR o kk s ⟨k, 0⟩) ⟨o, a, b, to⟩ k' b' ∧ k' ≤ s.length ∧ okTo a b to ∧ Sat g w' (Pt p (rdC s k' b') 185 :: Pt q [.int .u8 o, .int .i64 a, .int .i64 b, tv] 149 :: Sl 2 1 enI tv to :: l)) := by
  subst hb0
  refine Fc.of Tryz.func114 rfl (by kernel_rfl) ?_
  replace H := H.sl0 (en := enI) (s := 1) 2 (fun _ => rfl)
  refine bk ?_
  refine cI (fun c1 => ?_) (fun c1 => ?_)
  · replace c1 := vEq_t (c1)
    refine H.fronts [1] ?_
    clear H
    intro H
    refine CallP.mk (Fc.imp (Go.Proofs.YtbbdfhgcmkljeaaGreatDoor.Ins.octet H ?_ ?_) ?_)
    · assumption
    · assumption
    clear H
    rintro _ w1 ⟨c2, ⟨k'1, ⟨b'1, ⟨rfl, ⟨h1, ⟨h2, H⟩⟩⟩⟩⟩⟩
    have hcb := UInt8.toNat_lt ‹UInt8›
    refine rConvI64 (by omega) rfl rfl ?_
    refine rFieldAt rfl ?_
    refine rStS H 2 rfl rfl rfl rfl ?_
    clear H
    intro w2 H
    clear w1
    refine br (fun c3 => ?_) (fun c3 => ?_)
    · replace c3 := vNe_t (c3)
      refine br (fun c4 => ?_) (fun c4 => ?_)
      · replace c4 := vNe_t (c4)
        refine cI (fun c5 => ?_) (fun c5 => ?_)
        · replace c5 := vNe_t (c5)
          refine CallP.mk (Fc.imp (Go.Proofs.YtbbdfhgcmkljeaaGreatDoor.Ins.fail H _) ?_)
          clear H
          rintro v' w1 ⟨c6, ⟨h3, H⟩⟩
          refine Done.mk ?_
          refine ⟨(↑c2.toNat : Int), 0, Value.slice none 0 0, [], k'1, c6, ?_⟩
          refine ⟨?_, ?_⟩
          · exact of_eq (bsd_2 (by omega) (by rw [h3]; exact blockR_y h1 (by omega)))
          refine ⟨?_, ?_⟩
          · assumption
          refine ⟨?_, ?_⟩
          · exact ⟨by omega, by omega, nofun⟩
          refine H.fronts [1, 2, 2] ?_
          clear H
          intro H
          exact H
        replace c5 := vNe_f (c5)
        refine Done.mk ?_
        refine ⟨(↑c2.toNat : Int), 0, Value.slice none 0 0, [], k'1, b'1, ?_⟩
        refine ⟨?_, ?_⟩
        · exact of_eq (bsd_2 (by omega) (blockR_n h1 (by omega)))
        refine ⟨?_, ?_⟩
        · assumption
        refine ⟨?_, ?_⟩
        · exact ⟨by omega, by omega, nofun⟩
        refine H.fronts [1, 2, 2] ?_
        clear H
        intro H
        exact H
      replace c4 := vNe_f (c4)
      refine cF rfl ?_
      refine Done.mk ?_
      refine ⟨(↑c2.toNat : Int), 0, Value.slice none 0 0, [], k'1, b'1, ?_⟩
      refine ⟨?_, ?_⟩
      · exact of_eq (bsd_2 (by omega) (blockR_n h1 (by omega)))
      refine ⟨?_, ?_⟩
      · assumption
      refine ⟨?_, ?_⟩
      · exact ⟨by omega, by omega, nofun⟩
      refine H.fronts [1, 2, 2] ?_
      clear H
      intro H
      exact H
    replace c3 := vNe_f (c3)
    refine cF rfl ?_
    refine Done.mk ?_
    refine ⟨(↑c2.toNat : Int), 0, Value.slice none 0 0, [], k'1, b'1, ?_⟩
    refine ⟨?_, ?_⟩
    · exact of_eq (bsd_2 (by omega) (blockR_n h1 (by omega)))
    refine ⟨?_, ?_⟩
    · assumption
    refine ⟨?_, ?_⟩
    · exact ⟨by omega, by omega, nofun⟩
    refine H.fronts [1, 2, 2] ?_
    clear H
    intro H
    exact H
  replace c1 := vEq_f (c1)
  refine cI (fun c2 => ?_) (fun c2 => ?_)
  · replace c2 := vEq_t (c2)
    refine H.fronts [1] ?_
    clear H
    intro H
    refine CallP.mk (Fc.imp (Go.Proofs.YtbbdfhgcmkljeaaGreatDoor.Ins.plain H ?_ ?_) ?_)
    · assumption
    · assumption
    clear H
    rintro _ w1 ⟨n1, ⟨k'1, ⟨b'1, ⟨rfl, ⟨h1, ⟨h2, ⟨h3, H⟩⟩⟩⟩⟩⟩⟩
    refine rFieldAt rfl ?_
    refine rStS H 2 rfl rfl rfl rfl ?_
    clear H
    intro w2 H
    clear w1
    refine Done.mk ?_
    refine ⟨(↑n1 : Int), 0, Value.slice none 0 0, [], k'1, b'1, ?_⟩
    refine ⟨?_, ?_⟩
    · exact of_eq (bsd_3 (by omega) h1)
    refine ⟨?_, ?_⟩
    · assumption
    refine ⟨?_, ?_⟩
    · exact ⟨by omega, by omega, nofun⟩
    refine H.fronts [1, 2, 2] ?_
    clear H
    intro H
    exact H
  replace c2 := vEq_f (c2)
  refine cI (fun c3 => ?_) (fun c3 => ?_)
  rotate_left
  · replace c3 := vEq_f (c3)
    refine cI (fun c4 => ?_) (fun c4 => ?_)
    · replace c4 := vEq_t (c4)
      refine H.fronts [1] ?_
      clear H
      intro H
      refine CallP.mk (Fc.imp (Go.Proofs.YtbbdfhgcmkljeaaGreatDoor.Ins.plain H ?_ ?_) ?_)
      · assumption
      · assumption
      clear H
      rintro _ w1 ⟨n1, ⟨k'1, ⟨b'1, ⟨rfl, ⟨h1, ⟨h2, ⟨h3, H⟩⟩⟩⟩⟩⟩⟩
      refine rFieldAt rfl ?_
      refine rStS H 2 rfl rfl rfl rfl ?_
      clear H
      intro w2 H
      clear w1
      refine CallP.mk (Fc.imp (Go.Proofs.YtbbdfhgcmkljeaaGreatDoor.Ins.nought H ?_ ?_) ?_)
      · assumption
      · assumption
      clear H
      rintro v' w1 ⟨k'2, ⟨b'2, ⟨h4, ⟨h5, H⟩⟩⟩⟩
      refine Done.mk ?_
      refine ⟨(↑n1 : Int), 0, Value.slice none 0 0, [], k'2, b'2, ?_⟩
      refine ⟨?_, ?_⟩
      · exact of_eq (bsd_5 (by omega) h1 h4)
      refine ⟨?_, ?_⟩
      · assumption
      refine ⟨?_, ?_⟩
      · exact ⟨by omega, by omega, nofun⟩
      refine H.fronts [1, 2, 2] ?_
      clear H
      intro H
      exact H
    replace c4 := vEq_f (c4)
    refine cI (fun c5 => ?_) (fun c5 => ?_)
    · replace c5 := vEq_t (c5)
      refine H.fronts [1] ?_
      clear H
      intro H
      refine CallP.mk (Fc.imp (Go.Proofs.YtbbdfhgcmkljeaaGreatDoor.Ins.plain H ?_ ?_) ?_)
      · assumption
      · assumption
      clear H
      rintro _ w1 ⟨n1, ⟨k'1, ⟨b'1, ⟨rfl, ⟨h1, ⟨h2, ⟨h3, H⟩⟩⟩⟩⟩⟩⟩
      refine rFieldAt rfl ?_
      refine rStS H 2 rfl rfl rfl rfl ?_
      clear H
      intro w2 H
      clear w1
      refine CallP.mk (Fc.imp (Go.Proofs.YtbbdfhgcmkljeaaGreatDoor.Ins.plain H ?_ ?_) ?_)
      · assumption
      · assumption
      clear H
      rintro _ w1 ⟨n2, ⟨k'2, ⟨b'2, ⟨rfl, ⟨h4, ⟨h5, ⟨h6, H⟩⟩⟩⟩⟩⟩⟩
      refine rFieldAt rfl ?_
      refine rStS H 2 rfl rfl rfl rfl ?_
      clear H
      intro w3 H
      clear w1
      refine Done.mk ?_
      refine ⟨(↑n1 : Int), (↑n2 : Int), Value.slice none 0 0, [], k'2, b'2, ?_⟩
      refine ⟨?_, ?_⟩
      · exact of_eq (bsd_6 (by omega) h1 h4)
      refine ⟨?_, ?_⟩
      · assumption
      refine ⟨?_, ?_⟩
      · exact ⟨by omega, by omega, nofun⟩
      refine H.fronts [1, 2, 2] ?_
      clear H
      intro H
      exact H
    replace c5 := vEq_f (c5)
    refine cI (fun c6 => ?_) (fun c6 => ?_)
    · replace c6 := vEq_t (c6)
      refine H.fronts [1] ?_
      clear H
      intro H
      refine CallP.mk (Fc.imp (Go.Proofs.YtbbdfhgcmkljeaaGreatDoor.Ins.nought H ?_ ?_) ?_)
      · assumption
      · assumption
      clear H
      rintro v' w1 ⟨k'1, ⟨b'1, ⟨h1, ⟨h2, H⟩⟩⟩⟩
      refine Done.mk ?_
      refine ⟨0, 0, Value.slice none 0 0, [], k'1, b'1, ?_⟩
      refine ⟨?_, ?_⟩
      · exact of_eq (bsd_7 (by omega) h1)
      refine ⟨?_, ?_⟩
      · assumption
      refine ⟨?_, ?_⟩
      · exact ⟨by omega, by omega, nofun⟩
      refine H.fronts [1, 2, 2] ?_
      clear H
      intro H
      exact H
    replace c6 := vEq_f (c6)
    refine cI (fun c7 => ?_) (fun c7 => ?_)
    · replace c7 := vEq_t (c7)
      refine H.fronts [1] ?_
      clear H
      intro H
      refine CallP.mk (Fc.imp (Go.Proofs.YtbbdfhgcmkljeaaGreatDoor.Ins.signed H ?_ ?_ _ (32) ?_ ?_) ?_)
      · assumption
      · assumption
      · omega
      · omega
      clear H
      rintro _ w1 ⟨n1, ⟨k'1, ⟨b'1, ⟨rfl, ⟨h1, ⟨h2, ⟨h3, H⟩⟩⟩⟩⟩⟩⟩
      refine rFieldAt rfl ?_
      refine rStS H 2 rfl rfl rfl rfl ?_
      clear H
      intro w2 H
      clear w1
      refine Done.mk ?_
      refine ⟨n1, 0, Value.slice none 0 0, [], k'1, b'1, ?_⟩
      refine ⟨?_, ?_⟩
      · exact of_eq (bsd_8 (by omega) h1)
      refine ⟨?_, ?_⟩
      · assumption
      refine ⟨?_, ?_⟩
      · exact ⟨by omega, by omega, nofun⟩
      refine H.fronts [1, 2, 2] ?_
      clear H
      intro H
      exact H
    replace c7 := vEq_f (c7)
    refine cI (fun c8 => ?_) (fun c8 => ?_)
    · replace c8 := vEq_t (c8)
      refine H.fronts [1] ?_
      clear H
      intro H
      refine CallP.mk (Fc.imp (Go.Proofs.YtbbdfhgcmkljeaaGreatDoor.Ins.signed H ?_ ?_ _ (64) ?_ ?_) ?_)
      · assumption
      · assumption
      · omega
      · omega
      clear H
      rintro _ w1 ⟨n1, ⟨k'1, ⟨b'1, ⟨rfl, ⟨h1, ⟨h2, ⟨h3, H⟩⟩⟩⟩⟩⟩⟩
      refine rFieldAt rfl ?_
      refine rStS H 2 rfl rfl rfl rfl ?_
      clear H
      intro w2 H
      clear w1
      refine Done.mk ?_
      refine ⟨n1, 0, Value.slice none 0 0, [], k'1, b'1, ?_⟩
      refine ⟨?_, ?_⟩
      · exact of_eq (bsd_9 (by omega) h1)
      refine ⟨?_, ?_⟩
      · assumption
      refine ⟨?_, ?_⟩
      · exact ⟨by omega, by omega, nofun⟩
      refine H.fronts [1, 2, 2] ?_
      clear H
      intro H
      exact H
    replace c8 := vEq_f (c8)
    refine Done.mk ?_
    refine ⟨0, 0, Value.slice none 0 0, [], k, 0, ?_⟩
    refine ⟨?_, ?_⟩
    · exact of_eq (bsd_n (by omega) (by omega) (by omega) (by omega) (by omega) (by omega) (by omega) (by omega))
    refine ⟨?_, ?_⟩
    · assumption
    refine ⟨?_, ?_⟩
    · exact ⟨by omega, by omega, nofun⟩
    refine H.fronts [0, 2, 2] ?_
    clear H
    intro H
    exact H
  replace c3 := vEq_t (c3)
  refine H.fronts [1] ?_
  clear H
  intro H
  refine CallP.mk (Fc.imp (Go.Proofs.YtbbdfhgcmkljeaaGreatDoor.Ins.plain H ?_ ?_) ?_)
  · assumption
  · assumption
  clear H
  rintro _ w1 ⟨n1, ⟨k'1, ⟨b'1, ⟨rfl, ⟨h1, ⟨h2, ⟨h3, H⟩⟩⟩⟩⟩⟩⟩
  refine cI (fun c4 => ?_) (fun c4 => ?_)
  focus
    replace c4 := vLt_t (c4)
    refine CallP.mk (Fc.imp (Go.Proofs.YtbbdfhgcmkljeaaGreatDoor.Ins.fail H _) ?_)
    clear H
    rintro v' w2 ⟨c5, ⟨h4, H⟩⟩
  rotate_left 1
  focus
    replace c4 := vLt_f (c4)
  rotate_left 1
  · have hc5 : c5 ≠ 0 := by rw [h4]; split <;> omega
    refine LoopP.rule (α := Unit) () (fun x_ => [(8, .int .i64 0)]) (fun x_ w_ => Sat g w_ ((Pt p (rdC s k'1 c5) 185 :: Sl 2 1 enI (.slice none 0 0) [] :: Pt q [.int .u8 o, .int .i64 0, .int .i64 0, .slice none 0 0] 149 :: l))) (fun x_ => 0) ?_ ?_ ?_
    · repeat first | exact mt_nil | refine mt_cons rfl ?_ | refine mt_i rfl (by first | omega | (simp only; omega) | (simp; omega) | (simp; done)) ?_
    · try simp only
      exact H
    clear H
    rintro _ f_ w_ H
    try simp only at H ⊢
    refine br_t (vLt_T (by omega)) ?_
    refine rFieldAt rfl ?_
    refine rLd (H.at 0 rfl) 2 rfl rfl rfl ?_
    refine cF (vEq_F (by assumption)) ?_
    refine CallP.mk (Fc.imp (Go.Proofs.YtbbdfhgcmkljeaaGreatDoor.Ins.plain H ?_ ?_) ?_)
    · assumption
    · assumption
    clear H
    rintro _ w3 ⟨n2, ⟨k'2, ⟨b'2, ⟨rfl, ⟨h5, ⟨h6, ⟨h7, H⟩⟩⟩⟩⟩⟩⟩
    refine rFieldAt rfl ?_
    refine rStS H 2 rfl rfl rfl rfl ?_
    clear H
    intro w4 H
    clear w3
    refine Done.mk ?_
    refine ⟨(↑n2 : Int), 0, Value.slice none 0 0, [], k'2, b'2, ?_⟩
    refine ⟨?_, ?_⟩
    · exact ways_bad_end (by omega) h1 c4 h4 (by assumption)
    refine ⟨?_, ?_⟩
    · assumption
    refine ⟨?_, ?_⟩
    · exact ⟨by omega, by omega, nofun⟩
    refine H.fronts [1, 2, 2] ?_
    clear H
    intro H
    exact H
  · refine LoopP.rule (α := Nat × Value × List Int × Nat × Int) (0, .slice none 0 0, [], k'1, b'1) (fun x_ => [(8, .int .i64 x_.1)]) (fun x_ w_ => (ManyI n1 s ⟨k'1, b'1⟩ x_.1 x_.2.2.1 ⟨x_.2.2.2.1, x_.2.2.2.2⟩) ∧ (x_.2.2.2.1 ≤ s.length) ∧ (∀ n ∈ x_.2.2.1, I64 n) ∧ (x_.2.2.1.length = x_.1) ∧ Sat g w_ ((Pt p (rdC s x_.2.2.2.1 x_.2.2.2.2) 185 :: Sl 2 1 enI x_.2.1 x_.2.2.1 :: Pt q [.int .u8 o, .int .i64 0, .int .i64 0, x_.2.1] 149 :: l))) (fun x_ => n1 - x_.1) ?_ ?_ ?_
    · repeat first | exact mt_nil | refine mt_cons rfl ?_ | refine mt_i rfl (by first | omega | (simp only; omega) | (simp; omega) | (simp; done)) ?_
    · try simp only
      refine ⟨?_, ?_⟩
      · exact ManyI.zero _ _ _
      refine ⟨?_, ?_⟩
      · assumption
      refine ⟨?_, ?_⟩
      · nofun
      refine ⟨?_, ?_⟩
      · rfl
      exact H
    clear H
    rintro ⟨i, tv, to, k2, b2⟩ f_ w_ ⟨hI, hk2, hto, htl, H⟩
    try simp only at hI hk2 hto htl H ⊢
    refine br (fun c5 => ?_) (fun c5 => ?_)
    · replace c5 := vLt_t (c5)
      refine rFieldAt rfl ?_
      refine rLd (H.at 0 rfl) 2 rfl rfl rfl ?_
      refine cI (fun c6 => ?_) (fun c6 => ?_)
      · replace c6 := vEq_t (c6)
        refine bk ?_
        refine drawzS H [0] [(0, .pure), (1, .pure), (2, .pure), (3, .pure), (4, .held), (5, .pure), (6, .forced), (7, .forced), (8, .free), (9, .pure), (10, .pure), (11, .free)] mixed (by kernel_rfl) (by kernel_rfl) ?_
        clear H
        intro w2 H
        clear w_
        refine tk (fun wx HS => rFieldAt rfl ⟨rfl, rfl⟩) ?_
        refine tk (fun wx HS => rLd (HS.at 1 rfl) 3 rfl rfl rfl ⟨rfl, rfl⟩) ?_
        refine CallP.mk (Fc.imp (Go.Proofs.YtbbdfhgcmkljeaaGreatDoor.Ins.plain H ?_ ?_) ?_)
        · assumption
        · assumption
        clear H
        rintro _ w3 ⟨n2, ⟨k'2, ⟨b'2, ⟨rfl, ⟨h4, ⟨h5, ⟨h6, H⟩⟩⟩⟩⟩⟩⟩
        refine KeepP.mk (H.drop 0 (fun H => H)) ?_
        refine rBuildSliceS H rfl rfl rfl rfl ?_
        clear H
        intro p1 w4 H
        clear w3
        refine KeepP.mk (H.drop 1 (fun H => H.drop 0 (fun H => H))) ?_
        refine rApS (ys := [_]) 8 H 2 rfl (H.at 0 rfl) rfl (fun y _ => rfl) rfl rfl rfl (by omega) (by omega) ?_
        intro v1
        clear H
        intro w3 H
        clear w4
        refine tk (fun wx HS => rFieldAt rfl ⟨rfl, rfl⟩) ?_
        refine rStS H 3 rfl rfl rfl (H.one 2 rfl) ?_
        clear H
        intro w4 H
        clear w3
        refine eqI64 (by omega) ?_
        refine Nxt.mk ((i + 1, v1, to ++ [(↑n2 : Int)], k'2, b'2)) (mt_i rfl (by first | omega | (simp only; omega) | (simp; omega)) (mt_nil)) ?_ ?_
        · refine ⟨?_, ?_⟩
          · exact ManyI.step hI (by omega) (by assumption) h4
          refine ⟨?_, ?_⟩
          · assumption
          refine ⟨?_, ?_⟩
          · exact all_snoc hto (by constructor <;> omega)
          refine ⟨?_, ?_⟩
          · (simp only [List.length_append, List.length_set, List.length_cons, List.length_nil]; omega)
          refine H.fronts [3, 3, 3] ?_
          clear H
          intro H
          refine H.drop 3 ?_
          clear H
          intro H
          exact H
        omega
      replace c6 := vEq_f (c6)
      refine CallP.mk (Fc.imp (Go.Proofs.YtbbdfhgcmkljeaaGreatDoor.Ins.plain H ?_ ?_) ?_)
      · assumption
      · assumption
      clear H
      rintro _ w2 ⟨n2, ⟨k'2, ⟨b'2, ⟨rfl, ⟨h4, ⟨h5, ⟨h6, H⟩⟩⟩⟩⟩⟩⟩
      refine rFieldAt rfl ?_
      refine rStS H 2 rfl rfl rfl rfl ?_
      clear H
      intro w3 H
      clear w2
      refine Done.mk ?_
      refine ⟨(↑n2 : Int), 0, tv, to, k'2, b'2, ?_⟩
      refine ⟨?_, ?_⟩
      · exact ways_fin (by omega) h1 (by omega) hI (by omega) h4
      refine ⟨?_, ?_⟩
      · assumption
      refine ⟨?_, ?_⟩
      · exact ⟨by omega, by omega, hto⟩
      refine H.fronts [1, 2, 2] ?_
      clear H
      intro H
      exact H
    replace c5 := vLt_f (c5)
    refine cF rfl ?_
    refine CallP.mk (Fc.imp (Go.Proofs.YtbbdfhgcmkljeaaGreatDoor.Ins.plain H ?_ ?_) ?_)
    · assumption
    · assumption
    clear H
    rintro _ w2 ⟨n2, ⟨k'2, ⟨b'2, ⟨rfl, ⟨h4, ⟨h5, ⟨h6, H⟩⟩⟩⟩⟩⟩⟩
    refine rFieldAt rfl ?_
    refine rStS H 2 rfl rfl rfl rfl ?_
    clear H
    intro w3 H
    clear w2
    refine Done.mk ?_
    refine ⟨(↑n2 : Int), 0, tv, to, k'2, b'2, ?_⟩
    refine ⟨?_, ?_⟩
    · exact ways_fin (by omega) h1 (by omega) hI (by omega) h4
    refine ⟨?_, ?_⟩
    · assumption
    refine ⟨?_, ?_⟩
    · exact ⟨by omega, by omega, hto⟩
    refine H.fronts [1, 2, 2] ?_
    clear H
    intro H
    exact H
end
end Go.Proofs.YtbbdfhgcmkljeaaGreatDoor.Ins
/- Package ins: Read. -/
set_option maxRecDepth 100000
set_option maxHeartbeats 4000000
set_option linter.unusedVariables false
set_option linter.unusedSimpArgs false
namespace Go.Proofs.YtbbdfhgcmkljeaaGreatDoor.Ins
open Go Go.Proofs.YtbbdfhgcmkljeaaGreatDoor.Eng Go.RowKit
open Leb Txt
section
variable {s : List UInt8} {c : Int} {k1 k' : Nat} {b1 b' c2 : Int} {x : InsD}
theorem insR_of (h : octetR s ⟨0, 0⟩ = (c, ⟨k1, b1⟩)) (hz : bsd c ≠ 0) : insR s ⟨0, 0⟩ = bsdR c (bsd c) s ⟨k1, b1⟩ := by
  show bindR octetR _ s ⟨0, 0⟩ = _
  simp only [bindR, h, if_neg hz, retR]
theorem rdI_bad {b : Int} (h : (insR s ⟨0, 0⟩).2.bad = b) (hb : b ≠ 0) : rdI s = (zeroI, 0, b) := by
  unfold rdI; rw [if_neg (by rw [h]; exact hb), h]
theorem rdI_1 (h : octetR s ⟨0, 0⟩ = (c, ⟨k1, b1⟩)) (hz : bsd c = 0) (hc : c2 = if b1 = 0 then 6 else b1) : rdI s = (zeroI, 0, c2) := by
  have hc0 : c2 ≠ 0 := by rw [hc]; split <;> omega
  refine rdI_bad ?_ hc0
  show (bindR octetR _ s ⟨0, 0⟩).2.bad = _
  simp only [bindR, h, if_pos hz, failRd, failR_eq, ← hc]
  rw [Strict.bsd _ _ s _ hc0]
theorem rdI_2 (h : octetR s ⟨0, 0⟩ = (c, ⟨k1, b1⟩)) (hz : bsd c ≠ 0) (hb : b1 ≠ 0) : rdI s = (zeroI, 0, b1) := by
  refine rdI_bad ?_ hb
  rw [insR_of h hz, Strict.bsd _ _ s _ hb]
theorem rdI_3 (h : octetR s ⟨0, 0⟩ = (c, ⟨k1, b1⟩)) (hz : bsd c ≠ 0) (hb : b1 = 0) (hR : Rdd (bsdR c (bsd c) s ⟨k1, 0⟩) x k' b') (hb' : b' ≠ 0) : rdI s = (zeroI, 0, b') := by
  subst hb
  refine rdI_bad ?_ hb'
  rw [insR_of h hz, hR.1]
theorem rdI_4 (h : octetR s ⟨0, 0⟩ = (c, ⟨k1, b1⟩)) (hz : bsd c ≠ 0) (hb : b1 = 0) (hR : Rdd (bsdR c (bsd c) s ⟨k1, 0⟩) x k' b') (hb' : b' = 0) : rdI s = (x, k', 0) := by
  subst hb; subst hb'
  unfold rdI
  rw [insR_of h hz, hR.1, if_pos rfl, hR.2 rfl]
end
theorem read (s : List UInt8) (hs : s.length ≤ 9223372036854775807) (w : World) : Fc Tryz.prog 109 #[.string (bs s)] w
    (fun v w' => ∃ (o a b : Int) (tv : Value) (to : List Int) (n : Nat) (e : Int), v = .tuple #[.agg #[.int .u8 o, .int .i64 a, .int .i64 b, tv], .int .i64 n, .int .i64 e] ∧ rdI s = (⟨o, a, b, to⟩, n, e) ∧ okTo a b to ∧ (0 ≤ o ∧ o ≤ 255) ∧ Sat (froz w) w' [Sl 2 1 enI tv to]) := by
  refine Fc.of Tryz.func109 rfl (by kernel_rfl) ?_
  have H := Sat.start w
  refine rAllocS H rfl ?_
  clear H
  intro p1 w1 H
  refine rBuild rfl rfl rfl ?_
  refine rAllocS H rfl ?_
  clear H
  intro p2 w2 H
  clear w1
  refine rStAS H 0 rfl rfl rfl rfl ?_
  clear H
  intro w1 H
  clear w2
  replace H := H.cg (cgC (cgPt (show _ = rdC s 0 0 from rfl)) rfl)
  refine CallP.mk (Fc.imp (Go.Proofs.YtbbdfhgcmkljeaaGreatDoor.Ins.octet H ?_ ?_) ?_)
  · omega
  · assumption
  clear H
  rintro _ w2 ⟨c1, ⟨k'1, ⟨b'1, ⟨rfl, ⟨h1, ⟨h2, H⟩⟩⟩⟩⟩⟩
  have hcb := UInt8.toNat_lt ‹UInt8›
  refine rBuild rfl rfl rfl ?_
  refine rAllocS H rfl ?_
  clear H
  intro p3 w3 H
  clear w2
  refine rStAS H 0 rfl rfl rfl rfl ?_
  clear H
  intro w2 H
  clear w3
  refine rFieldAt rfl ?_
  refine rLd (H.at 0 rfl) 0 rfl rfl rfl ?_
  refine CallP.mk (Fc.imp (Go.Proofs.YtbbdfhgcmkljeaaGreatDoor.Ins.besides _ _) ?_)
  rintro _ w3 ⟨⟨r1, ⟨rfl, h3⟩⟩, H'⟩
  refine H.mergeK H' ?_
  clear H H'
  intro H
  refine cI (fun c2 => ?_) (fun c2 => ?_)
  · replace c2 := vEq_t (c2)
    refine H.fronts [1] ?_
    clear H
    intro H
    refine CallP.mk (Fc.imp (Go.Proofs.YtbbdfhgcmkljeaaGreatDoor.Ins.fail H _) ?_)
    clear H
    rintro v' w4 ⟨c3, ⟨h4, H⟩⟩
    refine rFieldAt rfl ?_
    refine rLd (H.at 0 rfl) 2 rfl rfl rfl ?_
    refine cF (vEq_F (by omega)) ?_
    refine rFieldAt rfl ?_
    refine rLd (H.at 0 rfl) 2 rfl rfl rfl ?_
    refine cT (vNe_T (by omega)) ?_
    refine drawzS H [] [(0, .pure), (1, .pure), (2, .held), (3, .forced), (4, .pure), (5, .pure)] mixed (by kernel_rfl) (by kernel_rfl) ?_
    clear H
    intro w5 H
    clear w4
    refine tk (fun wx HS => rBuild rfl rfl rfl ⟨rfl, rfl⟩) ?_
    refine tk (fun wx HS => rFieldAt rfl ⟨rfl, rfl⟩) ?_
    refine tk (fun wx HS => rLd (HS.at 0 rfl) 2 rfl rfl rfl ⟨rfl, rfl⟩) ?_
    refine rStAS H 2 rfl rfl rfl rfl ?_
    clear H
    intro w4 H
    clear w5
    refine KeepP.mk (H) ?_
    refine rdAN (H.at 2 rfl) 0 rfl rfl rfl ?_
    refine Done.mk ?_
    exact ⟨0, 0, 0, .slice none 0 0, [], 0, _, rfl, rdI_1 h1 (by omega) (by assumption), ⟨by omega, by omega, nofun⟩, by omega, H.nilS 2 (fun _ => rfl)⟩
  replace c2 := vEq_f (c2)
  refine rFieldAt rfl ?_
  refine rLd (H.at 1 rfl) 2 rfl rfl rfl ?_
  refine cI (fun c3 => ?_) (fun c3 => ?_)
  · replace c3 := vEq_t (c3)
    refine H.fronts [0, 1] ?_
    clear H
    intro H
    refine CallP.mk (Fc.imp (Go.Proofs.YtbbdfhgcmkljeaaGreatDoor.Ins.beside _ _ H ?_ ?_ ?_) ?_)
    · assumption
    · assumption
    · assumption
    clear H
    rintro v' w4 ⟨a1, ⟨b1, ⟨tv1, ⟨to1, ⟨k'2, ⟨b'2, ⟨h4, ⟨h5, ⟨h6, H⟩⟩⟩⟩⟩⟩⟩⟩⟩
    refine rFieldAt rfl ?_
    refine rLd (H.at 0 rfl) 2 rfl rfl rfl ?_
    refine cI (fun c4 => ?_) (fun c4 => ?_)
    · replace c4 := vNe_t (c4)
      refine drawzS H [] [(0, .pure), (1, .pure), (2, .held), (3, .forced), (4, .pure), (5, .pure)] mixed (by kernel_rfl) (by kernel_rfl) ?_
      clear H
      intro w5 H
      clear w4
      refine tk (fun wx HS => rBuild rfl rfl rfl ⟨rfl, rfl⟩) ?_
      refine tk (fun wx HS => rFieldAt rfl ⟨rfl, rfl⟩) ?_
      refine tk (fun wx HS => rLd (HS.at 0 rfl) 2 rfl rfl rfl ⟨rfl, rfl⟩) ?_
      refine rStAS H 3 rfl rfl rfl rfl ?_
      clear H
      intro w4 H
      clear w5
      refine KeepP.mk (H) ?_
      refine rdAN (H.at 3 rfl) 0 rfl rfl rfl ?_
      refine Done.mk ?_
      exact ⟨0, 0, 0, .slice none 0 0, [], 0, _, rfl, rdI_3 h1 (by omega) (by assumption) (by rw [← h3]; assumption) (by assumption), ⟨by omega, by omega, nofun⟩, by omega, H.nilS 2 (fun _ => rfl)⟩
    replace c4 := vNe_f (c4)
    refine drawzS H [3] [(0, .held), (1, .pure), (2, .held), (3, .forced), (4, .pure), (5, .pure)] mixed (by kernel_rfl) (by kernel_rfl) ?_
    clear H
    intro w5 H
    clear w4
    refine tk (fun wx HS => rLdA (HS.at 1 rfl) 0 rfl rfl rfl ⟨rfl, rfl⟩) ?_
    refine tk (fun wx HS => rFieldAt rfl ⟨rfl, rfl⟩) ?_
    refine tk (fun wx HS => rLd (HS.at 0 rfl) 1 rfl rfl rfl ⟨rfl, rfl⟩) ?_
    refine rStAS H 3 rfl rfl rfl (by simp only [List.all_cons, List.all_nil, H.one 2 rfl]; rfl) ?_
    clear H
    intro w4 H
    clear w5
    refine KeepP.mk (H.drop 3 (fun H => H)) ?_
    refine rdAN (H.at 3 rfl) 0 rfl rfl rfl ?_
    refine Done.mk ?_
    refine ⟨(↑c1.toNat : Int), a1, b1, tv1, to1, k'2, 0, ?_⟩
    refine ⟨?_, ?_⟩
    · rfl
    refine ⟨?_, ?_⟩
    · exact rdI_4 h1 (by omega) (by assumption) (by rw [← h3]; assumption) (by assumption)
    refine ⟨?_, ?_⟩
    · assumption
    refine ⟨?_, ?_⟩
    · refine ⟨?_, ?_⟩
      · omega
      omega
    refine H.fronts [2] ?_
    clear H
    intro H
    refine H.firsts 1 ?_
    clear H
    intro H
    exact H
  replace c3 := vEq_f (c3)
  refine rFieldAt rfl ?_
  refine rLd (H.at 1 rfl) 2 rfl rfl rfl ?_
  refine cT (vNe_T (by assumption)) ?_
  refine drawzS H [] [(0, .pure), (1, .pure), (2, .held), (3, .forced), (4, .pure), (5, .pure)] mixed (by kernel_rfl) (by kernel_rfl) ?_
  clear H
  intro w4 H
  clear w3
  refine tk (fun wx HS => rBuild rfl rfl rfl ⟨rfl, rfl⟩) ?_
  refine tk (fun wx HS => rFieldAt rfl ⟨rfl, rfl⟩) ?_
  refine tk (fun wx HS => rLd (HS.at 1 rfl) 2 rfl rfl rfl ⟨rfl, rfl⟩) ?_
  refine rStAS H 2 rfl rfl rfl rfl ?_
  clear H
  intro w3 H
  clear w4
  refine KeepP.mk (H) ?_
  refine rdAN (H.at 2 rfl) 0 rfl rfl rfl ?_
  refine Done.mk ?_
  exact ⟨0, 0, 0, .slice none 0 0, [], 0, _, rfl, rdI_2 h1 (by omega) (by assumption), ⟨by omega, by omega, nofun⟩, by omega, H.nilS 2 (fun _ => rfl)⟩
end Go.Proofs.YtbbdfhgcmkljeaaGreatDoor.Ins
/- Package nest: Check, Write, Read. -/
set_option maxRecDepth 100000
set_option maxHeartbeats 4000000
set_option linter.unusedVariables false
set_option linter.unusedSimpArgs false
namespace Go.Proofs.YtbbdfhgcmkljeaaGreatDoor.Nest
open Go Go.Proofs.YtbbdfhgcmkljeaaGreatDoor.Eng Go.RowKit
open Ins
section
variable {g : Glob} {w : World} {l : List As}
theorem map_get {xs : List InsV} {k : Nat} {x : InsV} (h : xs[k]? = some x) : (xs.map InsV.d)[k]? = some x.d := by rw [List.getElem?_map, h]; rfl
theorem dd (x : InsV) : (⟨x.op, x.a, x.b, x.to⟩ : InsD) = x.d := rfl
section
variable {xs : List InsV} {k : Nat} {x : InsV} {r is e : Int} {st st' : NS}
theorem ck1 (hl : xs.length ≤ 200) (hF : SoFar (xs.map InsV.d) k) (hx : xs[k]? = some x) (h : r = chk ⟨x.op, x.a, x.b, x.to⟩) (hr : r ≠ 0) : r = chkB (xs.map InsV.d) := by
  rw [dd] at h
  rw [chkB_chk (by simpa using hl) hF (map_get hx) (h ▸ hr), h]
theorem ck2 (hl : xs.length ≤ 200) (hF : SoFar (xs.map InsV.d) k) (hx : xs[k]? = some x) (h : r = chk ⟨x.op, x.a, x.b, x.to⟩) (hr : r = 0) (hst : stB (xs.map InsV.d) k = st) (hn : nextS st x.op k = (st', is, e)) (he : e ≠ 0) : e = chkB (xs.map InsV.d) := by
  rw [dd, hr] at h
  have hn' : nextS (stB (xs.map InsV.d) k) x.d.op k = (st', is, e) := by rw [hst]; exact hn
  rw [chkB_next (by simpa using hl) hF (map_get hx) h.symm (by rw [hn']; exact he), hn']
theorem ck3 (hx : xs[k]? = some x) (hst : stB (xs.map InsV.d) k = st) (hn : nextS st x.op k = (st', is, e)) : stB (xs.map InsV.d) (k + 1) = st' := by
  rw [stB_succ (map_get hx), hst]; show (nextS st x.op k).1 = _; rw [hn]
theorem ck4 (hF : SoFar (xs.map InsV.d) k) (hx : xs[k]? = some x) (h : r = chk ⟨x.op, x.a, x.b, x.to⟩) (hr : r = 0) (hst : stB (xs.map InsV.d) k = st) (hn : nextS st x.op k = (st', is, e)) (he : e = 0) : SoFar (xs.map InsV.d) (k + 1) := by
  rw [dd, hr] at h
  exact hF.succ (map_get hx) h.symm (by rw [hst]; show (nextS st x.op k).2.2 = 0; rw [hn]; exact he)
theorem ck5 {op last : List Int} {ov : Bool} (hl : xs.length ≤ 200) (hF : SoFar (xs.map InsV.d) k) (hk : k = xs.length) (hst : stB (xs.map InsV.d) k = ⟨op, last, ov⟩) (ho : ov = false) : 3 = chkB (xs.map InsV.d) := by
  rw [chkB_end (by simpa using hl) hF (by simpa using hk), hst, ho]; rfl
theorem ck6 {op last : List Int} {ov : Bool} (hl : xs.length ≤ 200) (hF : SoFar (xs.map InsV.d) k) (hk : k = xs.length) (hst : stB (xs.map InsV.d) k = ⟨op, last, ov⟩) (ho : ov = true) : 0 = chkB (xs.map InsV.d) := by
  rw [chkB_end (by simpa using hl) hF (by simpa using hk), hst, ho]; rfl
end
theorem wr1 {xs : List InsV} {k : Nat} {x : InsV} {ot t1 : List UInt8} (hot : ot = txtL ((xs.map InsV.d).take k)) (hF : SoFar (xs.map InsV.d) (xs.map InsV.d).length) (hx : xs[k]? = some x) (h : t1 = if chk ⟨x.op, x.a, x.b, x.to⟩ = 0 then txt ⟨x.op, x.a, x.b, x.to⟩ else []) : ot ++ t1 = txtL ((xs.map InsV.d).take (k + 1)) := by
  have hlt := (List.getElem?_eq_some_iff.1 hx).1
  obtain ⟨h1, _⟩ := hF k x.d (by simpa using hlt) (map_get hx)
  rw [dd, if_pos h1] at h
  rw [txtL_take (map_get hx), hot, h]
theorem allV_snoc {g : Glob} {ys : List InsV} {y : InsV} (h : ∀ x ∈ ys, okV g x) (hy : okV g y) : ∀ x ∈ ys ++ [y], okV g x := fun x hx => by
  rcases List.mem_append.1 hx with h1 | h1
  · exact h x h1
  · rw [List.mem_singleton.1 h1]; exact hy
theorem rdI_le {s : List UInt8} {x : InsD} {n : Nat} {e : Int} (h : rdI s = (x, n, e)) : n ≤ s.length ∧ (e ≠ 0 ∨ 0 < n) := by
  by_cases he : e = 0
  · subst he
    obtain ⟨h1, _, _, _, h2, _⟩ := rdI_told h
    refine ⟨h1, .inr ?_⟩
    have : 0 < (txt x).length := by unfold txt; simp
    omega
  · refine ⟨?_, .inl he⟩
    unfold rdI at h
    split at h
    · injection h with _ h; injection h with _ h; exact absurd h.symm he
    · injection h with _ h; injection h with h _; omega
theorem check (H : Sat g w l) (v : Value) (xs : List InsV) (hx : FSl g enV (okV g) 4 v xs) : Fc Tryz.prog 80 #[v] w (fun r w' => (∃ e, r = .int .i64 e ∧ e = chkB (xs.map InsV.d)) ∧ Sat g w' l) := by
  refine Fc.of Tryz.func80 rfl (by kernel_rfl) ?_
  have hml : (xs.map InsV.d).length = xs.length := List.length_map ..
  refine rLenF hx rfl ?_
  refine cI (fun c1 => ?_) (fun c1 => ?_)
  · replace c1 := vLt_t (c1)
    refine Done.mk ?_
    refine ⟨?_, ?_⟩
    · refine ⟨2, ?_⟩
      refine ⟨?_, ?_⟩
      · refine int_eq ?_
        omega
      exact (chkB_large (by omega)).symm
    exact H
  replace c1 := vLt_f (c1)
  refine CallP.mk (Fc.imp (Go.Proofs.YtbbdfhgcmkljeaaGreatDoor.Nest.begin_ _) ?_)
  rintro _ w1 ⟨p1, ⟨vo1, ⟨vl1, ⟨rfl, H'⟩⟩⟩⟩
  refine H.mergeK H' ?_
  clear H H'
  intro H
  refine rLenF hx rfl ?_
  refine LoopP.rule (α := Nat × List Int × List Int × Bool × Value × Value) (0, ns0.op, ns0.last, ns0.over, vo1, vl1) (fun x_ => [(15, .int .i64 x_.1)]) (fun x_ w_ => (x_.1 ≤ xs.length) ∧ (stB (xs.map InsV.d) x_.1 = ⟨x_.2.1, x_.2.2.1, x_.2.2.2.1⟩) ∧ (SoFar (xs.map InsV.d) x_.1) ∧ Sat g w_ ((Pt p1 [x_.2.2.2.2.1, x_.2.2.2.2.2, .bool x_.2.2.2.1] 159 :: Sl 3 1 enI x_.2.2.2.2.1 x_.2.1 :: Sl 5 1 enK x_.2.2.2.2.2 x_.2.2.1 :: l))) (fun x_ => xs.length - x_.1) ?_ ?_ ?_
  · repeat first | exact mt_nil | refine mt_cons rfl ?_ | refine mt_i rfl (by first | omega | (simp only; omega) | (simp; omega) | (simp; done)) ?_
  · try simp only
    refine ⟨?_, ?_⟩
    · omega
    refine ⟨?_, ?_⟩
    · rfl
    refine ⟨?_, ?_⟩
    · exact SoFar.zero _
    exact H
  clear H
  rintro ⟨k, op, last, ov, vo, vl⟩ f_ w_ ⟨hk, hst, hF, H⟩
  try simp only at hk hst hF H ⊢
  have hok := stB_ok (xs.map InsV.d) k
  rw [hst] at hok
  refine cI (fun c2 => ?_) (fun c2 => ?_)
  · replace c2 := vLt_t (c2)
    refine bk ?_
    obtain ⟨x1, hx1⟩ : ∃ x, (xs)[(k)]? = some x := ⟨_, List.getElem?_eq_getElem (by omega)⟩
    obtain ⟨b1, o1, E1, F1, hok1⟩ := FSl.elt hx hx1
    have hok1_op := hok1.op
    have hok1_a := hok1.a
    have hok1_b := hok1.b
    have hok1_to := hok1.to
    refine rIxE E1 rfl rfl rfl ?_
    refine rLdA (H.fat F1) 0 rfl rfl rfl ?_
    refine rAllocS H rfl ?_
    clear H
    intro p2 w2 H
    clear w_
    refine rStAS H 0 rfl rfl rfl (by simp only [List.all_cons, List.all_nil, H.one 2 rfl, H.one 3 rfl, FSl.one hok1_to, FSl.one hx]; rfl) ?_
    clear H
    intro w3 H
    clear w2
    refine rLdA (H.at 0 rfl) 0 rfl rfl rfl ?_
    refine CallP.mk (Fc.imp (Go.Proofs.YtbbdfhgcmkljeaaGreatDoor.Ins.check _ _ _ _ _ _ ?_ (H.rd hok1_to)) ?_)
    · assumption
    rintro _ w2 ⟨⟨r1, ⟨rfl, h1⟩⟩, H'⟩
    refine H.mergeK H' ?_
    clear H H'
    intro H
    refine cI (fun c3 => ?_) (fun c3 => ?_)
    · replace c3 := vNe_t (c3)
      refine Done.mk ?_
      refine ⟨?_, ?_⟩
      · refine ⟨r1, ?_⟩
        refine ⟨?_, ?_⟩
        · refine int_eq ?_
          omega
        exact ck1 (by omega) hF hx1 h1 (by assumption)
      refine H.drop 3 ?_
      clear H
      intro H
      refine H.drop 2 ?_
      clear H
      intro H
      refine H.drop 1 ?_
      clear H
      intro H
      refine H.drop 0 ?_
      clear H
      intro H
      exact H
    replace c3 := vNe_f (c3)
    refine rLdA (H.at 0 rfl) 0 rfl rfl rfl ?_
    refine H.fronts [3, 3, 3] ?_
    clear H
    intro H
    refine CallP.mk (Fc.imp (Go.Proofs.YtbbdfhgcmkljeaaGreatDoor.Nest.next _ hok H _ _ _ _ _) ?_)
    clear H
    rintro _ w4 ⟨op'1, ⟨last'1, ⟨ov'1, ⟨vo'1, ⟨vl'1, ⟨is1, ⟨e1, ⟨rfl, ⟨h2, H⟩⟩⟩⟩⟩⟩⟩⟩⟩
    refine cI (fun c4 => ?_) (fun c4 => ?_)
    · replace c4 := vNe_t (c4)
      refine Done.mk ?_
      refine ⟨?_, ?_⟩
      · refine ⟨e1, ?_⟩
        refine ⟨?_, ?_⟩
        · refine int_eq ?_
          omega
        exact ck2 (by omega) hF hx1 h1 (by assumption) hst h2 (by assumption)
      refine H.drop 3 ?_
      clear H
      intro H
      refine H.drop 2 ?_
      clear H
      intro H
      refine H.drop 1 ?_
      clear H
      intro H
      refine H.drop 0 ?_
      clear H
      intro H
      exact H
    replace c4 := vNe_f (c4)
    refine eqI64 (by omega) ?_
    refine Nxt.mk ((k + 1, op'1, last'1, ov'1, vo'1, vl'1)) (mt_i rfl (by first | omega | (simp only; omega) | (simp; omega)) (mt_nil)) ?_ ?_
    · refine ⟨?_, ?_⟩
      · omega
      refine ⟨?_, ?_⟩
      · exact ck3 hx1 hst h2
      refine ⟨?_, ?_⟩
      · exact ck4 hF hx1 h1 (by assumption) hst h2 (by assumption)
      refine H.drop 3 ?_
      clear H
      intro H
      exact H
    omega
  replace c2 := vLt_f (c2)
  refine rFieldAt rfl ?_
  refine rLd (H.at 0 rfl) 2 rfl rfl rfl ?_
  refine cI (fun c3 => ?_) (fun c3 => ?_)
  · replace c3 := not_t (c3)
    refine Done.mk ?_
    refine ⟨?_, ?_⟩
    · refine ⟨3, ?_⟩
      refine ⟨?_, ?_⟩
      · refine int_eq ?_
        omega
      exact ck5 (by omega) hF (by omega) hst (by assumption)
    refine H.drop 2 ?_
    clear H
    intro H
    refine H.drop 1 ?_
    clear H
    intro H
    refine H.drop 0 ?_
    clear H
    intro H
    exact H
  replace c3 := not_f (c3)
  refine Done.mk ?_
  refine ⟨?_, ?_⟩
  · refine ⟨0, ?_⟩
    refine ⟨?_, ?_⟩
    · refine int_eq ?_
      omega
    exact ck6 (by omega) hF (by omega) hst (by assumption)
  refine H.drop 2 ?_
  clear H
  intro H
  refine H.drop 1 ?_
  clear H
  intro H
  refine H.drop 0 ?_
  clear H
  intro H
  exact H
theorem write (H : Sat g w l) (v : Value) (xs : List InsV) (hx : FSl g enV (okV g) 4 v xs) : Fc Tryz.prog 76 #[v] w (fun r w' => ∃ ot e, r = .tuple #[.string (bs ot), .int .i64 e] ∧ e = chkB (xs.map InsV.d) ∧ ot = (if chkB (xs.map InsV.d) = 0 then txtL (xs.map InsV.d) else []) ∧ ot.length ≤ 80000 ∧ Sat g w' l) := by
  refine Fc.of Tryz.func76 rfl (by kernel_rfl) ?_
  have hml : (xs.map InsV.d).length = xs.length := List.length_map ..
  by_cases hc : chkB (xs.map InsV.d) = 0
  · rw [if_pos hc]
    obtain ⟨hl, hF, _⟩ := chkB_ok hc
    refine CallP.mk (Fc.imp (Go.Proofs.YtbbdfhgcmkljeaaGreatDoor.Nest.check H _ _ hx) ?_)
    clear H
    rintro _ w1 ⟨⟨e1, ⟨rfl, h1⟩⟩, H⟩
    refine cF (vNe_F (by omega)) ?_
    refine rLenF hx rfl ?_
    refine LoopP.rule (α := Nat × List UInt8) (0, []) (fun x_ => [(17, .int .i64 x_.1), (5, .string (bs x_.2))]) (fun x_ w_ => (x_.1 ≤ xs.length) ∧ (x_.2 = txtL ((xs.map InsV.d).take x_.1)) ∧ (x_.2.length ≤ 400 * x_.1) ∧ Sat g w_ (l)) (fun x_ => xs.length - x_.1) ?_ ?_ ?_
    · repeat first | exact mt_nil | refine mt_cons rfl ?_ | refine mt_i rfl (by first | omega | (simp only; omega) | (simp; omega) | (simp; done)) ?_
    · try simp only
      refine ⟨?_, ?_⟩
      · omega
      refine ⟨?_, ?_⟩
      · rfl
      refine ⟨?_, ?_⟩
      · (constructor <;> omega)
      exact H
    clear H
    rintro ⟨k, ot⟩ f_ w_ ⟨hk, hot, hln, H⟩
    try simp only at hk hot hln H ⊢
    refine cI (fun c1 => ?_) (fun c1 => ?_)
    · replace c1 := vLt_t (c1)
      refine bk ?_
      obtain ⟨x1, hx1⟩ : ∃ x, (xs)[(k)]? = some x := ⟨_, List.getElem?_eq_getElem (by omega)⟩
      obtain ⟨b1, o1, E1, F1, hok1⟩ := FSl.elt hx hx1
      have hok1_op := hok1.op
      have hok1_a := hok1.a
      have hok1_b := hok1.b
      have hok1_to := hok1.to
      refine rIxE E1 rfl rfl rfl ?_
      refine rLdA (H.fat F1) 0 rfl rfl rfl ?_
      refine rAllocS H rfl ?_
      clear H
      intro p1 w2 H
      clear w_
      refine rStAS H 0 rfl rfl rfl (by simp only [List.all_cons, List.all_nil, FSl.one hok1_to, FSl.one hx]; rfl) ?_
      clear H
      intro w3 H
      clear w2
      refine rLdA (H.at 0 rfl) 0 rfl rfl rfl ?_
      refine CallP.mk (Fc.imp (Go.Proofs.YtbbdfhgcmkljeaaGreatDoor.Ins.write _ _ _ _ _ _ ?_ ?_ (H.rd hok1_to)) ?_)
      · assumption
      · assumption
      rintro _ w2 ⟨t1, ⟨e2, ⟨rfl, ⟨h2, ⟨h3, ⟨h4, H'⟩⟩⟩⟩⟩⟩
      refine H.mergeK H' ?_
      clear H H'
      intro H
      refine rCat (by omega) ?_
      refine eqI64 (by omega) ?_
      refine Nxt.mk ((k + 1, ot ++ t1)) (mt_i rfl (by first | omega | (simp only; omega) | (simp; omega)) (mt_cons rfl (mt_nil))) ?_ ?_
      · refine ⟨?_, ?_⟩
        · omega
        refine ⟨?_, ?_⟩
        · exact wr1 hot hF hx1 h3
        refine ⟨?_, ?_⟩
        · (simp only [List.length_append, List.length_set, List.length_cons, List.length_nil]; omega)
        refine H.drop 0 ?_
        clear H
        intro H
        exact H
      omega
    replace c1 := vLt_f (c1)
    refine Done.mk ?_
    refine ⟨ot, 0, ?_⟩
    refine ⟨?_, ?_⟩
    · (rw [hot, List.take_of_length_le (by simp only [List.length_map]; omega)])
    refine ⟨?_, ?_⟩
    · omega
    refine ⟨?_, ?_⟩
    · (rw [hot, List.take_of_length_le (by simp only [List.length_map]; omega)])
    refine ⟨?_, ?_⟩
    · (rw [hot, List.take_of_length_le (by simp only [List.length_map]; omega)])
      (rw [List.take_of_length_le (by simp only [List.length_map]; omega)] at hot; rw [← hot]; omega)
    exact H
  · rw [if_neg hc]
    refine CallP.mk (Fc.imp (Go.Proofs.YtbbdfhgcmkljeaaGreatDoor.Nest.check H _ _ hx) ?_)
    clear H
    rintro _ w1 ⟨⟨e1, ⟨rfl, h1⟩⟩, H⟩
    refine cT (vNe_T (by omega)) ?_
    refine Done.mk ?_
    refine ⟨[], e1, ?_⟩
    refine ⟨?_, ?_⟩
    · rfl
    refine ⟨?_, ?_⟩
    · assumption
    refine ⟨?_, ?_⟩
    · rfl
    refine ⟨?_, ?_⟩
    · (simp only [List.length_append, List.length_set, List.length_cons, List.length_nil]; omega)
    exact H
theorem read (H : Sat g w l) (s : List UInt8) (hs : s.length ≤ 9223372036854775807) : Fc Tryz.prog 102 #[.string (bs s)] w
    (fun v w' => ∃ (g' : Glob) (u : Value) (ys : List InsV) (n : Nat) (e : Int), v = .tuple #[u, .int .i64 n, .int .i64 e] ∧ rdB s = (ys.map InsV.d, n, e) ∧ Ext g g' ∧ FSl g' enV (okV g') 4 u ys ∧ n ≤ s.length ∧ Sat g' w' l) := by
  refine Fc.of Tryz.func102 rfl (by kernel_rfl) ?_
  refine CallP.mk (Fc.imp (Go.Proofs.YtbbdfhgcmkljeaaGreatDoor.Nest.begin_ _) ?_)
  rintro _ w1 ⟨p1, ⟨vo1, ⟨vl1, ⟨rfl, H'⟩⟩⟩⟩
  refine H.mergeK H' ?_
  clear H H'
  intro H
  have E := Ext.refl g
  replace H := H.sl0 (en := enV) (s := 4) 149 (fun _ => rfl)
  refine LoopP.rule (α := Glob × Nat × List Int × List Int × Bool × Value × Value × Value × List InsV) (g, 0, ns0.op, ns0.last, ns0.over, vo1, vl1, .slice none 0 0, []) (fun x_ => [(5, x_.2.2.2.2.2.2.2.1), (6, .int .i64 x_.2.1)]) (fun x_ w_ => (Ext g x_.1) ∧ (RdI s (x_.2.2.2.2.2.2.2.2.map InsV.d) x_.2.1 ⟨x_.2.2.1, x_.2.2.2.1, x_.2.2.2.2.1⟩) ∧ (∀ y ∈ x_.2.2.2.2.2.2.2.2, okV x_.1 y) ∧ Sat x_.1 w_ ((Pt p1 [x_.2.2.2.2.2.1, x_.2.2.2.2.2.2.1, .bool x_.2.2.2.2.1] 159 :: Sl 3 1 enI x_.2.2.2.2.2.1 x_.2.2.1 :: Sl 5 1 enK x_.2.2.2.2.2.2.1 x_.2.2.2.1 :: Sl 149 4 enV x_.2.2.2.2.2.2.2.1 x_.2.2.2.2.2.2.2.2 :: l))) (fun x_ => s.length - x_.2.1) ?_ ?_ ?_
  · repeat first | exact mt_nil | refine mt_cons rfl ?_ | refine mt_i rfl (by first | omega | (simp only; omega) | (simp; omega) | (simp; done)) ?_
  · try simp only
    refine ⟨?_, ?_⟩
    · assumption
    refine ⟨?_, ?_⟩
    · exact RdI.zero s
    refine ⟨?_, ?_⟩
    · nofun
    refine H.fronts [0, 3, 3, 3] ?_
    clear H
    intro H
    exact H
  clear H
  rintro ⟨gg, k, op, last, ov, vo, vl, ve, ys⟩ f_ w_ ⟨E, hI, hys, H⟩
  try simp only at E hI hys H ⊢
  have hml : (ys.map InsV.d).length = ys.length := List.length_map ..
  have hks := hI.ks
  have hle := hI.le
  have hok := stB_ok (ys.map InsV.d) (ys.map InsV.d).length
  rw [← hI.st] at hok
  refine rFieldAt rfl ?_
  refine rLd (H.at 0 rfl) 2 rfl rfl rfl ?_
  refine cI (fun c1 => ?_) (fun c1 => ?_)
  · replace c1 := not_t (c1)
    refine bk ?_
    refine rSubL rfl (k) (by omega) (by omega) ?_
    refine CallP.mk (Fc.imp (Go.Proofs.YtbbdfhgcmkljeaaGreatDoor.Ins.read _ ?_ _) ?_)
    · (simp; omega)
    rintro _ w2 ⟨o1, ⟨a1, ⟨b1, ⟨tv1, ⟨to1, ⟨n1, ⟨e1, ⟨rfl, ⟨h1, ⟨h2, ⟨⟨h3, h4⟩, H'⟩⟩⟩⟩⟩⟩⟩⟩⟩⟩⟩
    refine H.mergeK H' ?_
    clear H H'
    intro H
    obtain ⟨hn1, hn2⟩ := rdI_le h1
    rw [List.length_drop] at hn1
    refine H.frz1 0 okI rfl h2.2.2 ?_
    intro g1 HE hf1
    clear H
    intro H
    replace hys := fun y hy => (hys y hy).ext HE
    replace E := E.trans HE
    clear HE
    refine rAllocS H rfl ?_
    clear H
    intro p2 w3 H
    clear w2
    refine rStAS H 0 rfl rfl rfl (by simp only [List.all_cons, List.all_nil, H.one 2 rfl, H.one 3 rfl, H.one 4 rfl, FSl.one hf1]; rfl) ?_
    clear H
    intro w2 H
    clear w3
    refine cI (fun c2 => ?_) (fun c2 => ?_)
    · replace c2 := vNe_t (c2)
      refine Done.mk ?_
      exact ⟨_, _, [], 0, e1, rfl, hI.bad c1 h1 (by assumption), E, FSl.nil0 _ _ _ _, Nat.zero_le _, H.tl.tl.tl.tl.tl⟩
    replace c2 := vNe_f (c2)
    refine rLenS H 4 rfl rfl ?_
    refine cI (fun c3 => ?_) (fun c3 => ?_)
    · replace c3 := vEq_t (c3)
      refine Done.mk ?_
      exact ⟨_, _, [], 0, 2, rfl, hI.full c1 (by subst_vars; exact h1) (by omega), E, FSl.nil0 _ _ _ _, Nat.zero_le _, H.tl.tl.tl.tl.tl⟩
    replace c3 := vEq_f (c3)
    refine rLdA (H.at 0 rfl) 0 rfl rfl rfl ?_
    refine rLenS H 4 rfl rfl ?_
    refine H.fronts [3, 3, 3] ?_
    clear H
    intro H
    refine CallP.mk (Fc.imp (Go.Proofs.YtbbdfhgcmkljeaaGreatDoor.Nest.next _ hok H _ _ _ _ _) ?_)
    clear H
    rintro _ w3 ⟨op'1, ⟨last'1, ⟨ov'1, ⟨vo'1, ⟨vl'1, ⟨is1, ⟨e2, ⟨rfl, ⟨h5, H⟩⟩⟩⟩⟩⟩⟩⟩⟩
    refine cI (fun c4 => ?_) (fun c4 => ?_)
    · replace c4 := vNe_t (c4)
      refine Done.mk ?_
      exact ⟨_, _, [], 0, e2, rfl, hI.no c1 (by subst_vars; exact h1) (by omega) (by rw [hml]; exact h5) (by assumption), E, FSl.nil0 _ _ _ _, Nat.zero_le _, H.tl.tl.tl.tl.tl⟩
    replace c4 := vNe_f (c4)
    refine rLdA (H.at 3 rfl) 0 rfl rfl rfl ?_
    refine rBuildSliceS H rfl rfl rfl rfl ?_
    clear H
    intro p3 w4 H
    clear w3
    refine rApS (ys := [⟨o1, a1, b1, tv1, to1⟩]) 48 H 5 rfl (H.at 0 rfl) rfl (fun y hy => by rw [List.mem_singleton.1 hy]; simp only [Go.Proofs.YtbbdfhgcmkljeaaGreatDoor.Ins.enV, List.all_cons, List.all_nil, H.one 2 rfl, H.one 3 rfl, H.one 5 rfl, FSl.one hf1]; rfl) rfl rfl rfl (by omega) (by omega) ?_
    intro v1
    clear H
    intro w3 H
    clear w4
    refine eqI64 (by omega) ?_
    refine Nxt.mk ((g1, k + n1, op'1, last'1, ov'1, vo'1, vl'1, v1, ys ++ [{ op := o1, a := a1, b := b1, tv := tv1, to := to1 }])) (mt_cons rfl (mt_i rfl (by first | omega | (simp only; omega) | (simp; omega)) (mt_nil))) ?_ ?_
    · refine ⟨?_, ?_⟩
      · assumption
      refine ⟨?_, ?_⟩
      · (rw [List.map_append]; exact hI.step c1 (by subst_vars; exact h1) (by omega) (by rw [hml]; subst_vars; exact h5))
      refine ⟨?_, ?_⟩
      · exact allV_snoc hys ⟨⟨h3, h4⟩, h2.1, h2.2.1, hf1⟩
      refine H.fronts [5, 4, 4, 4] ?_
      clear H
      intro H
      refine H.drop 5 ?_
      clear H
      intro H
      refine H.drop 4 ?_
      clear H
      intro H
      exact H
    (simp only [List.length_append, List.length_set, List.length_cons, List.length_nil]; omega)
  replace c1 := not_f (c1)
  refine Done.mk ?_
  (refine H.frz1 3 (okV gg) rfl hys ?_; intro g1 HE F H; exact ⟨g1, ve, ys, k, 0, rfl, hI.over (by assumption), E.trans HE, FSl.okm F (fun y hy h => h.ext HE), hks, H.tl.tl.tl⟩)
end
end Go.Proofs.YtbbdfhgcmkljeaaGreatDoor.Nest
/- Readers of counts, of so many things, of lists. -/
set_option maxRecDepth 100000
set_option linter.unusedVariables false
set_option linter.unusedSimpArgs false
namespace Go.Proofs.YtbbdfhgcmkljeaaGreatDoor.Txt
open Go.Proofs.YtbbdfhgcmkljeaaGreatDoor.Leb
def countR (m : Nat) : Rdr Nat := fun s r => if (plainR s r).2.bad ≠ 0 then (0, (plainR s r).2) else if (m : Int) < (plainR s r).1 then (0, ⟨(plainR s r).2.at_, 2⟩) else ((plainR s r).1.toNat, (plainR s r).2)
def repR {α : Type} (p : Rdr α) : Nat → Rdr (List α)
  | 0 => retR []
  | n + 1 => bindR p fun v => bindR (repR p n) fun l => retR (v :: l)
def listR {α : Type} (m : Nat) (p : Rdr α) : Rdr (List α) := bindR (countR m) (repR p)
def takeR (n : Nat) : Rdr (List UInt8) := fun s r => if r.bad ≠ 0 then ([], r) else if s.length - r.at_ < n then ([], ⟨r.at_, 3⟩) else ((s.drop r.at_).take n, ⟨r.at_ + n, 0⟩)
def listT {α : Type} (f : α → List UInt8) (l : List α) : List UInt8 := uleb l.length ++ l.flatMap f
theorem Strict.count (m : Nat) : Strict (countR m) := fun s r h => by
  have h1 := Strict.plain s r h
  unfold countR
  rw [h1, if_pos h]
theorem Strict.rep {α : Type} {p : Rdr α} (hp : Strict p) : ∀ n, Strict (repR p n)
  | 0 => Strict.ret _
  | n + 1 => Strict.bind hp fun v => Strict.bind (Strict.rep hp n) fun l => Strict.ret _
theorem Strict.list {α : Type} (m : Nat) {p : Rdr α} (hp : Strict p) : Strict (listR m p) := Strict.bind (Strict.count m) fun n => Strict.rep hp n
theorem Strict.take (n : Nat) : Strict (takeR n) := fun s r h => by unfold takeR; rw [if_pos h]
theorem Tx.count {n m : Nat} (h : n ≤ m) (hm : m < 2 ^ 32) : Tx (uleb n) (countR m) n := by
  have hp := Tx.plain n (by omega)
  refine ⟨fun s k rest hd => ?_, fun s k j hd hj => ?_⟩
  · have h1 := hp.whole s k rest hd
    unfold countR
    rw [h1]
    simp only [ne_eq, not_true, if_false]
    rw [if_neg (by omega)]; simp
  · have h1 := hp.cut s k j hd hj
    unfold countR
    rw [if_pos (by rw [h1]; decide)]
    exact h1
theorem Tx.rep {α : Type} {f : α → List UInt8} {p : Rdr α} (hs : Strict p) : ∀ (l : List α), (∀ x ∈ l, Tx (f x) p x) → Tx (l.flatMap f) (repR p l.length) l
  | [], _ => by simpa [repR] using Tx.ret ([] : List α)
  | x :: l, h => by
    have h1 := Tx.rep hs l fun y hy => h y (List.mem_cons_of_mem _ hy)
    rw [List.flatMap_cons]
    refine Tx.bind (h x (List.mem_cons_self ..)) (q := fun v => bindR (repR p l.length) fun l => retR (v :: l)) ?_ fun v => Strict.bind (Strict.rep hs _) fun _ => .ret _
    have := Tx.bind (q := fun l => retR (x :: l)) h1 (Tx.ret (x :: l)) fun _ => .ret _
    rwa [List.append_nil] at this
theorem Tx.list {α : Type} {f : α → List UInt8} {p : Rdr α} {m : Nat} (hs : Strict p) (l : List α) (h : ∀ x ∈ l, Tx (f x) p x) (hl : l.length ≤ m) (hm : m < 2 ^ 32) : Tx (listT f l) (listR m p) l :=
  Tx.bind (Tx.count hl hm) (Tx.rep hs l h) fun _ => Strict.rep hs _
theorem Tx.take (l : List UInt8) : Tx l (takeR l.length) l := by
  refine ⟨fun s k rest hd => ?_, fun s k j hd hj => ?_⟩
  · have hlen := congrArg List.length hd
    rw [List.length_drop, List.length_append] at hlen
    unfold takeR
    rw [if_neg (by simp)]
    rw [if_neg (by simp only; omega), hd, List.take_left]
  · have hlen := congrArg List.length hd
    rw [List.length_drop, List.length_take] at hlen
    unfold takeR
    rw [if_neg (by simp)]
    rw [if_pos (by simp only; omega)]
/-- What a reading came to: the state, and, if nothing is wrong, the value. -/
def Rdd {α : Type} (P : α × RS) (x : α) (k : Nat) (b : Int) : Prop := P.2 = ⟨k, b⟩ ∧ (b = 0 → P.1 = x)
theorem Rdd.of {α : Type} {P : α × RS} {x : α} {k : Nat} {b : Int} (h : P = (x, ⟨k, b⟩)) : Rdd P x k b := by rw [h]; exact ⟨rfl, fun _ => rfl⟩
theorem Rdd.bind {α β : Type} {p : Rdr α} {q : α → Rdr β} {s : List UInt8} {r : RS} {x : α} {y : β} {k k' : Nat} {b b' : Int} (h : Rdd (p s r) x k b) (h' : Rdd (q x s ⟨k, b⟩) y k' b') (hs : ∀ v, Strict (q v)) : Rdd (bindR p q s r) y k' b' := by
  obtain ⟨h1, h2⟩ := h
  obtain ⟨h3, h4⟩ := h'
  by_cases hb : b = 0
  · have h5 := h2 hb
    exact ⟨by show (q (p s r).1 s (p s r).2).2 = _; rw [h1, h5, h3], fun hb' => by show (q (p s r).1 s (p s r).2).1 = _; rw [h1, h5, h4 hb']⟩
  · rw [hs x s ⟨k, b⟩ hb] at h3
    injection h3 with e1 e2
    subst e1; subst e2
    exact ⟨by show (q (p s r).1 s (p s r).2).2 = _; rw [h1, hs _ s ⟨k, b⟩ hb], fun hb' => absurd hb' hb⟩
theorem Rdd.ret {α : Type} (x : α) (s : List UInt8) (k : Nat) (b : Int) : Rdd (retR x s ⟨k, b⟩) x k b := ⟨rfl, fun _ => rfl⟩
/-- What is read so far, of n things. -/
structure Many {α : Type} (p : Rdr α) (n : Nat) (s : List UInt8) (r0 : RS) (k : Nat) (l : List α) (r : RS) : Prop where
  le : k ≤ n
  st : (repR p n s r0).2 = (repR p (n - k) s r).2
  val : r.bad = 0 → (repR p n s r0).1 = l ++ (repR p (n - k) s r).1
theorem Many.zero {α : Type} (p : Rdr α) (n : Nat) (s : List UInt8) (r : RS) : Many p n s r 0 [] r := ⟨Nat.zero_le _, rfl, fun _ => rfl⟩
theorem Many.step {α : Type} {p : Rdr α} (hs : Strict p) {n k k' : Nat} {b' : Int} {s : List UInt8} {r0 r : RS} {l : List α} {v : α} (h : Many p n s r0 k l r) (hk : k < n) (hv : Rdd (p s r) v k' b') : Many p n s r0 (k + 1) (l ++ [v]) ⟨k', b'⟩ := by
  obtain ⟨m, hm⟩ : ∃ m, n - k = m + 1 := ⟨n - k - 1, by omega⟩
  have h1 := h.st
  have h2 := h.val
  rw [hm] at h1 h2
  obtain ⟨h3, h4⟩ := hv
  have e : repR p (m + 1) s r = ((p s r).1 :: (repR p m s ⟨k', b'⟩).1, (repR p m s ⟨k', b'⟩).2) := by
    show bindR p _ s r = _
    simp only [bindR, h3, retR]
  rw [e] at h1 h2
  have hm2 : n - (k + 1) = m := by omega
  refine ⟨hk, by rw [hm2, h1], fun hb => ?_⟩
  have hb' : b' = 0 := hb
  have hr : r.bad = 0 := Decidable.byContradiction fun hr => by
    rw [hs s r hr] at h3
    rw [h3] at hr
    exact hr hb'
  rw [hm2, h2 hr, h4 hb']; simp
theorem Many.done {α : Type} {p : Rdr α} {n k k' : Nat} {b' : Int} {s : List UInt8} {r0 : RS} {l : List α} (h : Many p n s r0 k l ⟨k', b'⟩) (hk : n ≤ k) : Rdd (repR p n s r0) l k' b' := by
  have : n - k = 0 := by omega
  have h1 := h.st
  have h2 := h.val
  rw [this] at h1 h2
  exact ⟨h1, fun hb => by rw [h2 hb]; simp [repR, retR]⟩
theorem countR_big {m : Nat} {s : List UInt8} {r : RS} {n : Int} {k' : Nat} {b' : Int} (h : plainR s r = (n, ⟨k', b'⟩)) (hb : b' = 0) (hn : (m : Int) < n) : countR m s r = (0, ⟨k', 2⟩) := by
  unfold countR
  rw [h]
  simp only
  rw [if_neg (by simpa using hb), if_pos hn]
theorem countR_get {m n : Nat} {s : List UInt8} {r : RS} {k' : Nat} {b' : Int} (h : plainR s r = ((n : Int), ⟨k', b'⟩)) (hb : b' = 0) (hn : n ≤ m) : countR m s r = (n, ⟨k', 0⟩) := by
  unfold countR
  rw [h]
  simp only
  rw [if_neg (by simpa using hb), if_neg (by omega), hb, Int.toNat_natCast]
end Go.Proofs.YtbbdfhgcmkljeaaGreatDoor.Txt
/- The document's Rest. -/
set_option maxRecDepth 100000
set_option maxHeartbeats 4000000
set_option linter.unusedVariables false
set_option linter.unusedSimpArgs false
namespace Go.Proofs.YtbbdfhgcmkljeaaGreatDoor.Ref
open Go Go.Proofs.YtbbdfhgcmkljeaaGreatDoor.Eng Go.RowKit
def enI (n : Int) : List Value := [.int .i64 n]
theorem rem_ways {a b : Int} (hb : 0 < b) (h : a < 0) : (vRem a b = 0 ∧ a % b = 0) ∨ (vRem a b < 0 ∧ a % b = vRem a b + b) := by
  unfold vRem
  rw [Int.tmod_eq_emod]
  have h1 := Int.emod_nonneg a (Int.ne_of_gt hb)
  have h2 := Int.emod_lt_of_pos a hb
  by_cases hd : b ∣ a
  · left
    have := Int.emod_eq_zero_of_dvd hd
    rw [if_pos (.inr hd)]
    omega
  · right
    rw [if_neg (by rintro (h' | h'); omega; exact hd h')]
    have : (b.natAbs : Int) = b := by omega
    rw [this]
    omega
theorem eq_step {α : Type} {xs ys : List α} {i : Nat} (h : ∀ q, q < i → xs[q]? = ys[q]?) (h1 : xs[i]? = ys[i]?) : ∀ q, q < i + 1 → xs[q]? = ys[q]? := fun q hq => by
  rcases Nat.lt_or_ge q i with h2 | h2
  · exact h q h2
  · rw [show q = i by omega]; exact h1
theorem eq_all {α : Type} {xs ys : List α} {i : Nat} (h1 : xs.length ≤ i) (h2 : ys.length ≤ i) (h : ∀ q, q < i → xs[q]? = ys[q]?) : xs = ys := by
  apply List.ext_getElem?
  intro q
  rcases Nat.lt_or_ge q i with h3 | h3
  · exact h q h3
  · rw [List.getElem?_eq_none (by omega), List.getElem?_eq_none (by omega)]
theorem rest (n m : Int) (hn : -9223372036854775808 ≤ n ∧ n ≤ 9223372036854775807) (hm : 0 < m ∧ m ≤ 9223372036854775807) (w : World) : Fc Tryz.prog 10 #[.int .i64 n, .int .i64 m] w (fun v w' => v = .int .i64 (n % m) ∧ w = w') := by
  refine Fc.of Tryz.func10 rfl (by kernel_rfl) ?_
  have H := Sat.start w
  have h1 := Int.emod_nonneg n (Int.ne_of_gt hm.1)
  have h2 := Int.emod_lt_of_pos n hm.1
  rcases Int.lt_or_le n 0 with hlt | hge
  · have hw := rem_ways hm.1 hlt
    refine DivP.mk (by omega) ?_
    refine EqP.keep ?_
    refine cI (fun c1 => ?_) (fun c1 => ?_)
    · replace c1 := vLt_t (c1)
      refine eqI64 (by omega) ?_
      refine Done.mk ?_
      refine ⟨?_, ?_⟩
      · refine int_eq ?_
        omega
      rfl
    replace c1 := vLt_f (c1)
    refine Done.mk ?_
    refine ⟨?_, ?_⟩
    · refine int_eq ?_
      omega
    rfl
  · refine DivP.mk (by omega) ?_
    refine eqRem (by omega) ?_
    refine cF (vLt_F (by assumption)) ?_
    refine Done.mk ?_
    exact ⟨rfl, rfl⟩
end Go.Proofs.YtbbdfhgcmkljeaaGreatDoor.Ref
/- The law NestAgain. -/
set_option maxRecDepth 100000
set_option maxHeartbeats 4000000
set_option linter.unusedVariables false
set_option linter.unusedSimpArgs false
namespace Go.Proofs.YtbbdfhgcmkljeaaGreatDoor.Nest
open Go Go.Proofs.YtbbdfhgcmkljeaaGreatDoor.Eng Go.RowKit
open Ins
theorem rdB_told {s : List UInt8} {l : List InsD} {n : Nat} (h : rdB s = (l, n, 0)) : chkB l = 0 ∧ (txtL l).length ≤ n ∧ n ≤ s.length ∧ opsOk l := by
  have key : ∀ (f : Nat) (k : Nat) (acc : List InsD) (st : NS), f = 201 - acc.length → RdI s acc k st → rdG f s k acc st = (l, n, 0) → chkB l = 0 ∧ (txtL l).length ≤ n ∧ n ≤ s.length ∧ opsOk l := by
    intro f
    induction f with
    | zero => intro k acc st hf hI; have := hI.le; omega
    | succ f ih =>
      intro k acc st hf hI hh
      rw [rdG] at hh
      split at hh
      · rename_i ho
        simp only [Prod.mk.injEq, and_true] at hh
        obtain ⟨rfl, rfl⟩ := hh
        obtain ⟨a1, a2, a3⟩ := hI.told ho
        exact ⟨a1, a2, a3, fun x hx => ⟨(hI.ops x hx).1, (hI.ops x hx).2.1⟩⟩
      rename_i ho
      have ho : st.over = false := by simpa using ho
      split at hh
      · rename_i h1; simp only [Prod.mk.injEq] at hh; exact absurd hh.2.2 h1
      rename_i h1
      split at hh
      · simp at hh
      rename_i h2
      split at hh
      · rename_i h3; simp only [Prod.mk.injEq] at hh; exact absurd hh.2.2 h3
      rename_i h3
      have h1 := Decidable.not_not.1 h1
      have h3 := Decidable.not_not.1 h3
      rcases hr : rdI (s.drop k) with ⟨x, m, e⟩
      rw [hr] at h1 h3 hh
      simp only at h1 h3 hh
      subst h1
      rcases hn : nextS st x.op acc.length with ⟨st', is, e'⟩
      rw [hn] at h3 hh
      simp only at h3 hh
      subst h3
      exact ih _ _ _ (by simp; omega) (hI.step ho hr h2 hn) hh
  exact key 201 0 [] ns0 rfl (RdI.zero s) h
end Go.Proofs.YtbbdfhgcmkljeaaGreatDoor.Nest
/- Methods through interfaces; values in interfaces. -/
set_option maxRecDepth 100000
set_option linter.unusedVariables false
set_option linter.unusedSimpArgs false
namespace Go.Proofs.YtbbdfhgcmkljeaaGreatDoor.Eng
open Go Go.RowKit
def ifaceB : TypeDesc → Bool
  | .interface _ => true
  | _ => false
section
variable {P : PP} {g : Glob} {w : World} {l : List As} {K : Value → World → Prop} {t u e : TypeId} {v : Value} {d : TypeDesc} {args : Array Value} {f : FuncId} {name : String} {b o : Nat}
theorem rIface (hu : P.underlying t = some d) (hi : ifaceB d = false) (k : K (.iface t v) w) : RunP P (Instr.makeInterface t v) w K := by
  refine ⟨_, w, ?_, k⟩
  unfold Instr.makeInterface
  simp only [Sem.run_bind, run_underlying hu, Result.andThen_ok]
  cases d <;> first | (simp [ifaceB] at hi; done) | simp
theorem rAssertT (hu : P.underlying u = some d) (hi : ifaceB d = false) (k : K (.tuple #[v, .bool true]) w) : RunP P (Instr.typeAssert (.iface u v) t u true) w K := by
  refine ⟨_, w, ?_, k⟩
  unfold Instr.typeAssert
  simp only [Sem.run_bind, run_underlying hu, Result.andThen_ok]
  cases d <;> first | (simp [ifaceB] at hi; done) | simp
end
end Go.Proofs.YtbbdfhgcmkljeaaGreatDoor.Eng
set_option maxRecDepth 100000
namespace Go.Proofs.YtbbdfhgcmkljeaaGreatDoor.Eng
open Go
/-! ## A function that defers closures, and may go out by a panic that they take -/
/-- A deferred call, of a frame that goes out as u says; behind it the frame returns. -/
structure FcD (p : Program) (f : FuncId) (args : Array Value) (u : FrameMode) (w : World) (K : World → Prop) : Prop where
  entered : (callFunc f args).run p w = .ok (.enter f args) w
  calls : CallsD p f args u w fun e u' w' => settle u' = .returning ∧ ∃ v, e = .returned v ∧ K w'
theorem FcD.imp {p : Program} {f : FuncId} {args : Array Value} {u : FrameMode} {w : World} {K K' : World → Prop} (h : FcD p f args u w K) (hk : ∀ w', K w' → K' w') : FcD p f args u w K' :=
  ⟨h.entered, h.calls.mono fun _ _ _ ⟨a, v, b, c⟩ => ⟨a, v, b, hk _ c⟩⟩
theorem FcD.of {p : Program} {f : FuncId} {fn : Func} {args : Array Value} {u : FrameMode} {w : World} {K : World → Prop} (hf : p.funcs[f]? = some fn) (hb : fn.body.isSome = true) (hn : (fn.name == "runtime.NumGoroutine") = false)
    (h : CallsD p f args u w fun e u' w' => settle u' = .returning ∧ ∃ v, e = .returned v ∧ K w') : FcD p f args u w K := by
  refine ⟨?_, h⟩
  simp only [callFunc, Sem.run_bind, program, Sem.run, Result.andThen_ok, hf]
  rw [if_neg (by rw [hn]; decide), if_neg (by cases hb2 : fn.body <;> simp_all)]
  rfl
/-- The deferred calls that wait: function and arguments. -/
abbrev DL := List (FuncId × List Value)
abbrev MngD := (Exit → List Value → DL → World → Prop) → List Value → DL → World → Prop
inductive LvP (p : Program) (f : FuncId) (args : Array Value) (u : FrameMode) (w : World) (K : World → Prop) : Prop
  | mk (h : FcD p f args u w K)
/-- Code that may panic, behind what is deferred. -/
inductive SwP (p : Program) (y : Code) (Q : Exit → List Value → DL → World → Prop) (ρ : List Value) (dl : DL) (w : World) : Prop
  | mk (pq : List PanicEntry → World → Prop) (h : wpR ⟨p, pq⟩ y (fun e ρ w => Q e ρ dl w) ρ w) (hp : ∀ c ρ' w', agree (dstsC y) ρ ρ' → pq c w' → Q (.panic c) ρ' dl w')
def opsDK (p : Program) (ops : List Oper) (K : List Value → DL → World → Prop) (l : List Oper) : List Value → DL → World → Prop :=
  List.rec (motive := fun _ => List Value → DL → World → Prop) K (fun o _ ih ρ dl w => guardK ops o.guard ρ fun b ρ => match b with
    | true => match o.op with
      | .defer c => match c.callee with
        | .value f => evK ρ f fun f => evsK ρ c.args.toList fun vs => match f with
          | .func fn first captured => match fn with
            | .func id => appK vs captured.toList fun a => appK first.toList a fun a => putK ρ o.dst undef fun ρ => ih ρ ((id, a) :: dl) w
            | _ => False
          | _ => False
        | _ => False
      | _ => opK p o ρ w fun v w => putK ρ o.dst v fun ρ => ih ρ dl w
    | false => putK ρ o.dst undef fun ρ => ih ρ dl w) l
theorem opsDK_nil (p : Program) (ops : List Oper) (K : List Value → DL → World → Prop) (ρ : List Value) (dl : DL) (w : World) : opsDK p ops K [] ρ dl w = K ρ dl w := rfl
theorem opsDK_cons (p : Program) (ops : List Oper) (K : List Value → DL → World → Prop) (o : Oper) (r : List Oper) (ρ : List Value) (dl : DL) (w : World) :
    opsDK p ops K (o :: r) ρ dl w = guardK ops o.guard ρ fun b ρ => match b with
    | true => match o.op with
      | .defer c => match c.callee with
        | .value f => evK ρ f fun f => evsK ρ c.args.toList fun vs => match f with
          | .func fn first captured => match fn with
            | .func id => appK vs captured.toList fun a => appK first.toList a fun a => putK ρ o.dst undef fun ρ => opsDK p ops K r ρ ((id, a) :: dl) w
            | _ => False
          | _ => False
        | _ => False
      | _ => opK p o ρ w fun v w => putK ρ o.dst v fun ρ => opsDK p ops K r ρ dl w
    | false => putK ρ o.dst undef fun ρ => opsDK p ops K r ρ dl w := rfl
def isDef (o : Oper) : Bool := match o.op with
  | .defer _ => true
  | _ => false
noncomputable def hasDef (c : Code) : Bool :=
  Code.rec (motive := fun _ => Bool) false (fun _ ops _ => List.rec (motive := fun _ => Bool) false (fun o _ ih => match isDef o with
      | true => true
      | false => ih) ops.toList)
    (fun _ _ a b => match a with
      | true => true
      | false => b) (fun _ _ _ _ _ => false) (fun _ _ a => a) (fun _ _ => false) (fun _ _ _ _ _ _ => false) (fun _ => false) (fun _ a => a) (fun _ => false) (fun _ => false) false (fun _ => false) c
def thenDK (next : List Value → DL → World → Prop) (Q : Exit → List Value → DL → World → Prop) (e : Exit) (ρ : List Value) (dl : DL) (w : World) : Prop :=
  match e with
  | .normal => next ρ dl w
  | e => Q e ρ dl w
def wpD (p : Program) (c : Code) : MngD :=
  Code.rec (motive := fun _ => MngD)
    (fun Q ρ dl w => Q .normal ρ dl w)
    (fun id ops draw Q ρ dl w => match draw with
      | false => opsDK p ops.toList (Q .normal) ops.toList ρ dl w
      | true => DrawP p id ops (fun ρ w => Q .normal ρ dl w) ρ w)
    (fun x y ihx ihy Q ρ dl w => match hasDef x with
      | true => match hasDef y with
        | true => ihx (thenDK (ihy Q) Q) ρ dl w
        | false => ihx (thenDK (SwP p y Q) Q) ρ dl w
      | false => wpR p x (thenK (fun ρ w => ihy Q ρ dl w) (fun e ρ w => Q e ρ dl w)) ρ w)
    (fun c x y _ _ Q ρ dl w => wpR p (.cond c x y) (fun e ρ w => Q e ρ dl w) ρ w)
    (fun id c _ Q ρ dl w => wpR p (.block id c) (fun e ρ w => Q e ρ dl w) ρ w)
    (fun c _ Q ρ dl w => wpR p (.loop c) (fun e ρ w => Q e ρ dl w) ρ w)
    (fun _ _ _ _ _ _ _ _ _ _ => False)
    (fun id Q ρ dl w => Q (.exit id) ρ dl w)
    (fun c _ Q ρ dl w => wpR p (.scope c) (fun e ρ w => Q e ρ dl w) ρ w)
    (fun _ Q ρ dl w => Q .normal ρ dl w)
    (fun l Q ρ dl w => Q (.goto l) ρ dl w)
    (fun Q ρ dl w => Q .ret ρ dl w)
    (fun _ _ _ _ _ => False) c
def leaveK (p : Program) (rs : List ResultVar) (R : Value → World → Prop) (ρ : List Value) (dl : DL) : FrameMode → World → Prop :=
  List.rec (motive := fun _ => FrameMode → World → Prop) (fun u w => (match u with
    | .returning => resK p ρ w rs fun vs => oneK R w vs
    | _ => False : Prop)) (fun d _ ih u w => LvP p d.1 d.2.toArray u w (ih .returning)) dl
def bodyDK (p : Program) (rs : List ResultVar) (R : Value → World → Prop) (e : Exit) (ρ : List Value) (dl : DL) (w : World) : Prop :=
  match e with
  | .normal => leaveK p rs R ρ dl .returning w
  | .ret => leaveK p rs R ρ dl .returning w
  | .panic c => leaveK p rs R ρ dl (.panicking c) w
  | _ => False
def entDK (p : Program) (fn : Func) (c : Code) (args : List Value) (w : World) (R : Value → World → Prop) : Prop :=
  repK (fn.ntmps - args.length) [] fun us => appK args us fun ρ => wpD p c (bodyDK p fn.results.toList R) ρ [] w
/-- The model's list of deferred calls, and ours. -/
def Dm : List Deferred → DL → Prop
  | [], [] => True
  | d :: ds, x :: dl => (∃ cap, d.target = .fn (.func x.1) cap ∧ d.args ++ cap = x.2.toArray) ∧ Dm ds dl
  | _, _ => False
def liftD (Q : Exit → List Value → DL → World → Prop) (e : Exit) (a : Act) (w : World) : Prop := ∃ dl, Dm a.defers dl ∧ Q e a.tmps.toList dl w
theorem lift_liftD {p : Program} {ds : List Deferred} {dl : DL} {D : List Nat} {ρ0 : List Value} (hd : Dm ds dl) {Q : Exit → List Value → DL → World → Prop} {e : Exit} {a : Act} {w : World} (h : lift (p : PP) ds D ρ0 (fun e ρ w => Q e ρ dl w) e a w) : liftD Q e a w := by
  obtain ⟨rfl, -, h⟩ := h
  refine ⟨dl, hd, ?_⟩
  cases e <;> first | exact h | exact h.elim
theorem opsDK_sound {p : Program} {ops : Array Oper} {Q : Exit → List Value → DL → World → Prop} (l : List Oper) :
    ∀ {ρ : List Value} {w : World} {ds : List Deferred} {dl : DL}, Dm ds dl → opsDK p ops.toList (Q .normal) l ρ dl w → wpList p ops (liftD Q) l ⟨ρ.toArray, ds⟩ w := by
  induction l with
  | nil => exact fun hd h => ⟨_, hd, by simpa [opsDK_nil] using h⟩
  | cons o r ih =>
    intro ρ w ds dl hd h
    simp only [opsDK_cons, putK_eq] at h
    obtain ⟨b, hb, h⟩ := guardK_sound h
    unfold wpList
    cases b
    · rw [if_neg (by simp [hb]), put_eq]
      exact ih hd h
    · rw [if_pos hb]
      refine .inl ?_
      simp only at h
      split at h
      · rename_i c ho
        split at h
        · rename_i f hf
          simp only [evK_eq, evsK_eq] at h
          split at h
          · rename_i fn fst cap hv
            split at h
            · rename_i id
              simp only [appK_eq] at h
              have hx : (execOp (⟨ρ.toArray, ds⟩ : Act).eval o).run p w = .ok (.defer ⟨.fn (.func id) cap, fst ++ c.args.map (ev ρ)⟩) w := by
                rw [ev_eq]; unfold execOp; rw [ho]
                simp only [resolve, hf, hv, Deferred.ofValue, Sem.run_bind, Sem.run_pure, Result.andThen_ok]
              simp only [Oper.wp, hx, Oper.upon]
              rw [put_eq]
              refine ih (dl := (id, fst.toList ++ (List.map (ev ρ) c.args.toList ++ cap.toList)) :: dl) ⟨⟨cap, rfl, ?_⟩, hd⟩ h
              apply Array.ext'; simp
            · exact h.elim
          · exact h.elim
        · exact h.elim
      · exact opK_sound (P := (p : PP)) h (fun _ _ h => h.elim) fun v w' h => by rw [put_eq]; exact ih hd h
theorem wpD_sound {p : Program} (c : Code) : ∀ {Q : Exit → List Value → DL → World → Prop} {ρ : List Value} {w : World} {ds : List Deferred} {dl : DL}, Dm ds dl → wpD p c Q ρ dl w → c.wp p (liftD Q) ⟨ρ.toArray, ds⟩ w := by
  have plain : ∀ (c : Code) {Q : Exit → List Value → DL → World → Prop} {ρ : List Value} {w : World} {ds : List Deferred} {dl : DL}, Dm ds dl → wpR (p : PP) c (fun e ρ w => Q e ρ dl w) ρ w → c.wp p (liftD Q) ⟨ρ.toArray, ds⟩ w := fun c Q ρ w ds dl hd h =>
    wp_mono (wpR_sound (P := (p : PP)) c (fun _ h => h) (agree.refl _ _) h) fun _ _ _ => lift_liftD hd
  induction c with
  | skip => exact fun hd h => wp_skip ⟨_, hd, h⟩
  | label l => exact fun hd h => wp_label ⟨_, hd, h⟩
  | exit i => exact fun hd h => wp_exit ⟨_, hd, h⟩
  | ret => exact fun hd h => wp_ret ⟨_, hd, h⟩
  | goto => exact fun hd h => wp_goto ⟨_, hd, h⟩
  | refuse => exact fun _ h => h.elim
  | rangeFunc => exact fun _ h => h.elim
  | cond c x y _ _ => exact fun hd h => plain (.cond c x y) hd h
  | block id c _ => exact fun hd h => plain (.block id c) hd h
  | loop c _ => exact fun hd h => plain (.loop c) hd h
  | scope c _ => exact fun hd h => plain (.scope c) hd h
  | region id ops draw =>
    intro Q ρ w ds dl hd h
    cases draw
    · exact wp_region_list (opsDK_sound _ hd h)
    · obtain ⟨h⟩ := h
      refine wp_mono (h ds) ?_
      intro e a w h
      cases e <;> simp only [nrm] at h
      · exact ⟨dl, by rw [h.2.1]; exact hd, h.2.2.2⟩
      · cases h.1
      · cases h.1
      · cases h.1
      · exact h.2.2.elim
      · cases h.1
  | seq x y ihx ihy =>
    intro Q ρ w ds dl hd h
    have h : (match hasDef x with
      | true => match hasDef y with
        | true => wpD p x (thenDK (wpD p y Q) Q) ρ dl w
        | false => wpD p x (thenDK (SwP p y Q) Q) ρ dl w
      | false => wpR (p : PP) x (thenK (fun ρ w => wpD p y Q ρ dl w) (fun e ρ w => Q e ρ dl w)) ρ w) := h
    split at h
    · split at h
      · refine wp_seq (wp_mono (ihx hd h) ?_)
        rintro e a w ⟨dl, hd, he⟩
        cases e <;> simp only [thenDK] at he <;> simp only [Exit.then]
        · rw [act_eta (a := a) rfl]; exact ihy hd he
        all_goals exact ⟨dl, hd, he⟩
      · refine wp_seq (wp_mono (ihx hd h) ?_)
        rintro e a w ⟨dl, hd, he⟩
        cases e <;> simp only [thenDK] at he <;> simp only [Exit.then]
        · obtain ⟨pq, h, hp⟩ := he
          rw [act_eta (a := a) rfl]
          refine wp_mono (wpR_sound (P := ⟨p, pq⟩) y (fun _ h => h) (agree.refl _ _) h) ?_
          rintro e b w ⟨hb, ha, he⟩
          refine ⟨dl, by rw [hb]; exact hd, ?_⟩
          cases e <;> first | exact he | exact hp _ _ _ ha he
        all_goals exact ⟨dl, hd, he⟩
    · refine wp_seq (wp_mono (wpR_sound (P := (p : PP)) x (fun _ h => h) (agree.refl _ _) h) ?_)
      rintro e a w ⟨rfl, -, he⟩
      cases e <;> simp only [thenK] at he <;> simp only [Exit.then]
      · rw [act_eta (a := a) rfl]; exact ihy hd he
      all_goals first | exact ⟨dl, hd, he⟩ | exact he.elim
theorem oneK_sound {p : Program} {fn : Func} {R : Value → World → Prop} {ρ : List Value} {w : World} (h : resK (p : PP) ρ w fn.results.toList fun vs => oneK R w vs) :
    ∃ v, (results fn ρ.toArray).run p w = .ok v w ∧ R v w := by
  obtain ⟨_, v, h1, h2⟩ := bodyK_sound (P := (p : PP)) (fn := fn) (R := R) (e := .normal) (a := ⟨ρ.toArray, []⟩) (w := w) (D := []) (ρ0 := ρ) ⟨rfl, by simpa using agree.refl _ _, by simpa [bodyK] using h⟩
  rcases h2 with ⟨v', h2, h3⟩ | ⟨c, h2, _⟩
  · cases h2; exact ⟨v, h1, h3⟩
  · cases h2
theorem leaveK_sound {p : Program} {fn : Func} {R : Value → World → Prop} {ρ : List Value} : ∀ {ds : List Deferred} {dl : DL} {u : FrameMode} {w : World}, Dm ds dl → u ≠ .run → leaveK p fn.results.toList R ρ dl u w →
    Leaves p fn ρ.toArray (fun e w' => ∃ v, e = .returned v ∧ R v w') ds u w := by
  intro ds
  induction ds with
  | nil =>
    intro dl u w hd hu h
    cases dl with
    | nil =>
      cases u with
      | returning => obtain ⟨v, h1, h2⟩ := oneK_sound h; exact ⟨v, h1, v, rfl, h2⟩
      | run => exact absurd rfl hu
      | panicking c => exact h.elim
    | cons x dl => exact hd.elim
  | cons d ds ih =>
    intro dl u w hd hu h
    cases dl with
    | nil => exact hd.elim
    | cons x dl =>
      obtain ⟨⟨cap, ht, ha⟩, hd⟩ := hd
      obtain ⟨h⟩ := (h : LvP p x.1 x.2.toArray u w (leaveK p fn.results.toList R ρ dl .returning))
      refine ⟨hu, .func x.1, cap, x.1, x.2.toArray, ht, ?_, ?_⟩
      · rw [ht]; simp only [invoke, ha]; exact h.entered
      · refine h.calls.mono ?_
        rintro e u' w' ⟨hs, v, rfl, hr⟩
        simp only
        rw [hs]
        exact ih hd (by simp) hr
theorem Fc.ofR {p : Program} {f : FuncId} {fn : Func} {c : Code} {args : Array Value} {w : World} {R : Value → World → Prop}
    (hf : p.funcs[f]? = some fn) (hb : fn.body = some c) (hn : (fn.name == "runtime.NumGoroutine") = false) (h : entDK p fn c args.toList w R) : Fc p f args w R := by
  refine ⟨?_, ?_⟩
  · simp only [callFunc, Sem.run_bind, program, Sem.run, Result.andThen_ok, hf]
    rw [if_neg (by rw [hn]; decide), if_neg (by rw [hb]; simp)]
    rfl
  · refine (calls_of_wp_defers (R := fun e w' => ∃ v, e = .returned v ∧ R v w') hf hb ?_).mono fun _ _ h => .inl h
    unfold entDK at h
    rw [repK_eq, appK_eq, List.append_nil] at h
    have := wpD_sound (ds := []) (dl := []) c (by simp [Dm]) h
    have e : (args.toList ++ List.replicate (fn.ntmps - args.toList.length) undef).toArray = args ++ Array.replicate (fn.ntmps - args.size) undef := by
      apply Array.ext'; simp
    rw [e] at this
    refine wp_mono this ?_
    rintro e a w ⟨dl, hd, h⟩
    cases e <;> simp only [bodyDK] at h
    · have := leaveK_sound hd (by simp) h; simpa [bodyPostD] using this
    · have := leaveK_sound hd (by simp) h; simpa [bodyPostD] using this
    · have := leaveK_sound hd (by simp) h; simpa [bodyPostD] using this
end Go.Proofs.YtbbdfhgcmkljeaaGreatDoor.Eng
set_option maxRecDepth 100000
namespace Go.Proofs.YtbbdfhgcmkljeaaGreatDoor.Eng
open Go
/-! ## A deferred closure that recovers: behind the region that asks -/
theorem tailS {p : Program} {fn : Func} {y : Code} {c0 : Frame} {cs : List Frame} {u' : FrameMode} {ρ : List Value} {w : World} {R : Value → World → Prop} {RS : Ending → FrameMode → World → Prop}
    (h : wpR (p : PP) y (bodyK (p : PP) fn.results.toList R) ρ w) (hR : ∀ v w', R v w' → RS (.returned v) u' w') : y.wpS p (bodyPostS p fn c0 cs RS) ⟨ρ.toArray, []⟩ ({ c0 with mode := u' } :: cs) w := by
  refine wpS_of_wp (wp_mono (wpR_sound (P := (p : PP)) (ds := []) y (fun _ h => h) (agree.refl _ _) h) ?_)
  intro e a w' hl
  have hb := bodyK_sound (P := (p : PP)) (fn := fn) (R := R) hl
  cases e with
  | normal =>
    obtain ⟨hd, v, h1, h2⟩ := hb
    rcases h2 with ⟨v', h2, h3⟩ | ⟨c, h2, _⟩
    · cases h2; exact ⟨hd, u', rfl, v, h1, hR _ _ h3⟩
    · cases h2
  | ret =>
    obtain ⟨hd, v, h1, h2⟩ := hb
    rcases h2 with ⟨v', h2, h3⟩ | ⟨c, h2, _⟩
    · cases h2; exact ⟨hd, u', rfl, v, h1, hR _ _ h3⟩
    · cases h2
  | panic c =>
    obtain ⟨hd, h2⟩ := hb
    rcases h2 with ⟨v', h2, _⟩ | ⟨c, _, h3⟩
    · cases h2
    · exact h3.elim
  | exit _ => exact hb.elim
  | goto _ => exact hb.elim
  | outgrown =>
    rcases hb with ⟨v', h2, _⟩ | ⟨c, h2, _⟩
    · cases h2
    · cases h2
end Go.Proofs.YtbbdfhgcmkljeaaGreatDoor.Eng
/- Pieces that are many pieces; rows that are appended to themselves. -/
set_option maxRecDepth 100000
set_option linter.unusedVariables false
set_option linter.unusedSimpArgs false
namespace Go.Proofs.YtbbdfhgcmkljeaaGreatDoor.Eng
open Go Go.RowKit
section
variable {P : PP} {g : Glob} {w w' : World} {l l1 l2 : List As} {A : As} {K : Value → World → Prop} {α : Type} {en : α → List Value} {s j h a : Nat} {v v1 v2 : Value} {xs : List α} {e t ty : TypeId}
theorem sts_app : ∀ {l1 l2 : List As} {h : Hp}, sts (l1 ++ l2) h → ∃ a b, Spl h a b ∧ sts l1 a ∧ sts l2 b
  | [], l2, h, hs => ⟨fun _ => none, h, fun k => .inr ⟨rfl, rfl⟩, trivial, hs⟩
  | A :: l1, l2, h, hs => by
    obtain ⟨a, b, h1, h2, h3⟩ := hs
    obtain ⟨c, d, h4, h5, h6⟩ := sts_app (l1 := l1) h3
    obtain ⟨f, h7, h8⟩ := h1.swap h4.comm
    exact ⟨f, d, h7.comm, ⟨a, c, h8, h2, h5⟩, h6⟩
/-- Many pieces become one. -/
theorem Sat.box (H : Sat g w (l1 ++ l)) : Sat g w (sts l1 :: l) := by
  obtain ⟨h, hs, a, b, h1, h2, h3⟩ := H.ex
  obtain ⟨c, d, h4, h5, h6⟩ := sts_app h3
  exact ⟨H.os, H.tape, H.output, h, hs, a, b, h1, h2, c, d, h4, h5, h6⟩
/-- A piece that is some pieces. -/
theorem Sat.unboxE {β : Type} {Q : β → Prop} {f : β → List As} (H : Sat g w ((fun h => ∃ x, Q x ∧ sts (f x) h) :: l)) : ∃ x, Q x ∧ Sat g w (f x ++ l) := by
  obtain ⟨h, hs, a, b, h1, h2, c, d, h4, ⟨x, h5, h6⟩, h7⟩ := H.ex
  exact ⟨x, h5, H.os, H.tape, H.output, h, hs, a, b, h1, h2, sts_cat h4 h6 h7⟩
end
end Go.Proofs.YtbbdfhgcmkljeaaGreatDoor.Eng
/- []byte of a literal: its row is marked. -/
set_option linter.unusedVariables false
set_option linter.unusedSimpArgs false
namespace Go.Proofs.YtbbdfhgcmkljeaaGreatDoor.Eng
open Go Go.RowKit
section
variable {P : PP} {g : Glob} {w : World} {l : List As} {K : Value → World → Prop}
theorem rConvLit {t e : TypeId} {p n : Nat} {cells : List Value} (H : Sat g w l) (j : Nat) (hj : l[j]? = some (Pt p cells e)) (xs : List UInt8) (hc : cells = xs.flatMap enY) (hn : n = xs.length) (ht : P.underlying t = some (.slice e)) (he : P.underlying e = some (.int .u8))
    (k : ∀ w', Sat g w' (l.set j (Sb e (.slice (some ⟨p, 0, none⟩) n n) xs)) → K (.slice (some ⟨p, 0, none⟩) n n) w') : RunP P (convert t t (.slice (some ⟨p, 0, none⟩) n n)) w K := by
  have hb : w.heap[p]? = some (.cells cells.toArray e (0, 0)) := H.pt hj
  have hlen : cells.length = xs.length := by rw [hc, flat_len enY1, Nat.mul_one]
  have hsh : w.shape? p = some (e, n) := by
    unfold World.shape?
    rw [hb]
    show some (e, cells.toArray.size) = _
    rw [List.size_toArray, hlen, hn]
  have hr : (convert t t (.slice (some ⟨p, 0, none⟩) n n)).run P w = .ok (.slice (some ⟨p, 0, none⟩) n n) (w.freeze ⟨p, n, none⟩ 1) := by
    simp [convert, run_underlying ht, run_underlying he, markStringish, hsh]
  have hp : p < w.heap.size := (Array.getElem?_eq_some_iff.1 hb).1
  refine ⟨_, _, hr, k _ ?_⟩
  have hh : (w.freeze ⟨p, n, none⟩ 1).heap[p]? = some (.cells cells.toArray e (n, n + 1)) := by
    unfold World.freeze
    rw [if_neg (by decide)]
    show (w.heap.modify p _)[p]? = _
    rw [Array.getElem?_modify, if_pos rfl, hb]
    rfl
  have ho : ∀ q, q ≠ p → (w.freeze ⟨p, n, none⟩ 1).heap[q]? = w.heap[q]? := fun q hq => by
    unfold World.freeze
    rw [if_neg (by decide)]
    show (w.heap.modify p _)[q]? = _
    rw [Array.getElem?_modify, if_neg (Ne.symm hq)]
  refine H.step hj (by unfold World.freeze; rw [if_neg (by decide)]) (by unfold World.freeze; rw [if_neg (by decide)]) (by unfold World.freeze; rw [if_neg (by decide)]) ?_
  intro a ha hs
  refine ⟨fun q => if q = p then some (.cells cells.toArray e (n, n + 1)) else none, ⟨p, n, cells, (n, n + 1), by rw [hn], if_pos rfl, by rw [hlen, hn]; exact Nat.le_refl _, ?_, by rw [hlen]; exact Nat.le_refl _⟩, fun q o hq => ?_, fun q _ hq => ?_⟩
  · rw [List.take_of_length_le (by rw [hlen]; exact Nat.le_refl _), hc]
  · by_cases h : q = p
    · simp only [if_pos h] at hq
      obtain rfl := Option.some.inj hq
      rw [h]; exact hh
    · simp only [if_neg h] at hq; cases hq
  · have h : q ≠ p := fun h => by
      rw [h] at hq
      have : a p = some (.cells cells.toArray e (0, 0)) := ha
      rw [this] at hq; cases hq
    exact ⟨if_neg h, ho q h⟩
end
end Go.Proofs.YtbbdfhgcmkljeaaGreatDoor.Eng
