/- Package link: Offer, Waits, Tick, Out. -/
import Derived.Test.YtepceieglhfnoaaLink2
set_option maxRecDepth 100000
set_option maxHeartbeats 4000000
set_option linter.unusedVariables false
set_option linter.unusedSimpArgs false
namespace Go.Proofs.Ytepceieglhfnoaa.Link
open Go Go.Proofs.Ytepceieglhfnoaa.Eng Go.RowKit
section
variable {g : Glob} {w : World} {l : List As} {p : Nat} {vw : Value} {S : LS}
theorem offer (H : Sat g w (Pt p (linkC S vw) 104 :: Sl 106 3 enO vw S.waits :: l)) (s : List UInt8) (hs : s.length ≤ 9223372036854775807) (hn : S.waits.length ≤ 2000000) :
    Fc Try.prog 28 #[.pointer (some ⟨p, 0, none⟩), .string (bs s)] w (fun u w' => ∃ e S' v', u = .int .i64 e ∧ ((e = 0 ∧ s.length ≤ 64 ∧ S' = { S with waits := S.waits ++ [⟨s, false, 0⟩] }) ∨ (e = 2 ∧ 64 < s.length ∧ S' = S)) ∧ Sat g w' (Pt p (linkC S' v') 104 :: Sl 106 3 enO v' S'.waits :: l)) := by
  refine Fc.of Try.func28 rfl (by kernel_rfl) ?_
  refine rLenStr rfl ?_
  refine cI (fun c1 => ?_) (fun c1 => ?_)
  focus
    replace c1 := vLt_t (c1)
  rotate_left 1
  focus
    replace c1 := vLt_f (c1)
    refine rFieldAt rfl ?_
    refine rLd (H.at 0 rfl) 5 rfl rfl rfl ?_
    refine rBuild rfl rfl rfl ?_
    refine rBuildSliceS H rfl rfl rfl rfl ?_
    clear H
    intro p1 w1 H
    refine rApS (ys := [⟨_, _, _⟩]) 32 H 2 rfl (H.at 0 rfl) rfl (fun y _ => rfl) rfl rfl rfl (by omega) (by omega) ?_
    intro v1
    clear H
    intro w2 H
    clear w1
    refine rFieldAt rfl ?_
    refine rStS H 1 rfl rfl rfl (H.one 2 rfl) ?_
    clear H
    intro w1 H
    clear w2
  rotate_left 1
  · exact Done.mk ⟨2, S, vw, rfl, .inr ⟨rfl, by omega, rfl⟩, H⟩
  · refine Done.mk ⟨0, { S with waits := S.waits ++ [⟨s, false, 0⟩] }, v1, rfl, .inl ⟨rfl, by omega, rfl⟩, ?_⟩
    refine H.fronts [2, 2] ?_
    clear H
    intro H
    refine H.drop 2 ?_
    clear H
    intro H
    exact H
theorem waits (H : Sat g w (Pt p (linkC S vw) 104 :: Sl 106 3 enO vw S.waits :: l)) : Fc Try.prog 29 #[.pointer (some ⟨p, 0, none⟩)] w (fun u w' => u = .int .i64 S.waits.length ∧ w = w') := by
  refine Fc.of Try.func29 rfl (by kernel_rfl) ?_
  refine rFieldAt rfl ?_
  refine rLd (H.at 0 rfl) 5 rfl rfl rfl ?_
  refine rLenS H 1 rfl rfl ?_
  refine Done.mk ?_
  exact ⟨rfl, rfl⟩
theorem tick (H : Sat g w (Pt p (linkC S vw) 104 :: Sl 106 3 enO vw S.waits :: l)) (n : Int) (hn : 0 ≤ S.now ∧ S.now ≤ 1099511627776) (hb : I64 n) :
    Fc Try.prog 31 #[.pointer (some ⟨p, 0, none⟩), .int .i64 n] w (fun u w' => ∃ e S', u = .int .i64 e ∧ ((e = 0 ∧ 0 ≤ n ∧ n ≤ 1099511627776 - S.now ∧ S' = { S with now := S.now + n }) ∨ (e = 1 ∧ ¬ (0 ≤ n ∧ n ≤ 1099511627776 - S.now) ∧ S' = S)) ∧ Sat g w' (Pt p (linkC S' vw) 104 :: Sl 106 3 enO vw S'.waits :: l)) := by
  refine Fc.of Try.func31 rfl (by kernel_rfl) ?_
  refine br (fun c1 => ?_) (fun c1 => ?_)
  focus
    replace c1 := vLt_t (c1)
    refine cT rfl ?_
  rotate_left 1
  focus
    replace c1 := vLt_f (c1)
    refine rFieldAt rfl ?_
    refine rLd (H.at 0 rfl) 2 rfl rfl rfl ?_
    refine eqI64 (by omega) ?_
    refine cI (fun c2 => ?_) (fun c2 => ?_)
    focus
      replace c2 := vLt_t (c2)
    rotate_left 1
    focus
      replace c2 := vLt_f (c2)
      refine rFieldAt rfl ?_
      refine rLd (H.at 0 rfl) 2 rfl rfl rfl ?_
      refine eqI64 (by omega) ?_
      refine rFieldAt rfl ?_
      refine rStS H 0 rfl rfl rfl rfl ?_
      clear H
      intro w1 H
    rotate_left 1
  rotate_left 2
  all_goals first | exact Done.mk ⟨1, S, rfl, .inr ⟨rfl, by omega, rfl⟩, H⟩ | exact Done.mk ⟨0, { S with now := S.now + n }, rfl, .inl ⟨rfl, by omega, by omega, rfl⟩, H⟩
end
structure Fr where
  src : Int
  dst : Int
  seq : Int
  ack : Int
  body : List UInt8
def enF (x : Fr) : List Value := [.int .i64 x.src, .int .i64 x.dst, .int .i64 x.seq, .int .i64 x.ack, .string (bs x.body)]
/-- Is it not sent now? -/
def rests (now : Int) (x : O) : Bool := x.sent && decide (now - x.at' < 3)
/-- Out, when so many were looked at. -/
def outL (S : LS) : Nat → List O × Int × List Fr
  | 0 => (S.waits, S.highest, [])
  | i + 1 => match S.waits[i]? with
    | none => outL S i
    | some x => if rests S.now x = true then outL S i else ((outL S i).1.set i ⟨x.body, true, S.now⟩, max (outL S i).2.1 (S.acked + 1 + i), (outL S i).2.2 ++ [⟨S.me, S.other, S.acked + 1 + i, S.came, x.body⟩])
def outF (S : LS) : List Fr := if (outL S (min 4 S.waits.length)).2.2 = [] ∧ S.owed = true then [⟨S.me, S.other, 0, S.came, []⟩] else (outL S (min 4 S.waits.length)).2.2
def outS (S : LS) : LS := { S with waits := (outL S (min 4 S.waits.length)).1, highest := (outL S (min 4 S.waits.length)).2.1, owed := S.owed && decide (outF S = []) }
theorem outL_len (S : LS) : ∀ i, (outL S i).1.length = S.waits.length := by
  intro i
  induction i with
  | zero => rfl
  | succ i ih =>
    unfold outL
    split
    · exact ih
    · split
      · exact ih
      · rw [List.length_set]; exact ih
theorem outL_get (S : LS) : ∀ i q, i ≤ q → (outL S i).1[q]? = S.waits[q]? := by
  intro i
  induction i with
  | zero => intro q _; rfl
  | succ i ih =>
    intro q hq
    unfold outL
    split
    · exact ih q (by omega)
    · split
      · exact ih q (by omega)
      · rw [List.getElem?_set_ne (by omega)]; exact ih q (by omega)
theorem outL_fl (S : LS) : ∀ i, (outL S i).2.2.length ≤ i := by
  intro i
  induction i with
  | zero => exact Nat.le_refl _
  | succ i ih =>
    unfold outL
    split
    · omega
    · split
      · omega
      · rw [List.length_append, List.length_cons, List.length_nil]; omega
theorem outL_rest {S : LS} {i : Nat} {x : O} (hx : S.waits[i]? = some x) (h : rests S.now x = true) : outL S (i + 1) = outL S i := by
  show (match S.waits[i]? with | none => _ | some x => _) = _
  rw [hx]; exact if_pos h
theorem outL_go {S : LS} {i : Nat} {x : O} (hx : S.waits[i]? = some x) (h : ¬ rests S.now x = true) : outL S (i + 1) = ((outL S i).1.set i ⟨x.body, true, S.now⟩, max (outL S i).2.1 (S.acked + 1 + i), (outL S i).2.2 ++ [⟨S.me, S.other, S.acked + 1 + i, S.came, x.body⟩]) := by
  show (match S.waits[i]? with | none => _ | some x => _) = _
  rw [hx]; exact if_neg h
end Go.Proofs.Ytepceieglhfnoaa.Link
