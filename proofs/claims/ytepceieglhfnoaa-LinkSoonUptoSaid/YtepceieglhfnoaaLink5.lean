/- Package link: what In does, as a law. -/
import Derived.Test.YtepceieglhfnoaaLink4
import Derived.Test.YtepceieglhfnoaaFrame6
set_option maxRecDepth 100000
set_option maxHeartbeats 4000000
set_option linter.unusedVariables false
set_option linter.unusedSimpArgs false
namespace Go.Proofs.Ytepceieglhfnoaa.Link
open Go Go.Proofs.Ytepceieglhfnoaa.Eng Go.RowKit
def toF (f : Fr) : Frame.Fr := ⟨f.src, f.dst, f.seq, f.ack, f.body⟩
def ge (S : LS) : Nat → Bool × List UInt8
  | 0 => S.e0
  | 1 => S.e1
  | 2 => S.e2
  | _ => S.e3
def se (S : LS) (x : Bool × List UInt8) : Nat → LS
  | 0 => { S with e0 := x }
  | 1 => { S with e1 := x }
  | 2 => { S with e2 := x }
  | _ => { S with e3 := x }
def bn (b : Bool) : Nat := if b = true then 1 else 0
def cnt (S : LS) : Nat := bn S.e0.1 + bn S.e1.1 + bn S.e2.1 + bn S.e3.1
def nx (S : LS) : Nat := ((S.came + 1) % 4).toNat
def dr1 (S : LS) : LS := se { S with came := S.came + 1 } (false, []) (nx S)
/-- What came early is told. -/
def drn : Nat → LS → List (List UInt8) → LS × List (List UInt8)
  | 0, S, gs => (S, gs)
  | n + 1, S, gs => if (ge S (nx S)).1 = true then drn n (dr1 S) (gs ++ [(ge S (nx S)).2]) else (S, gs)
def inA (S : LS) (f : Fr) : LS := if S.acked < f.ack ∧ f.ack ≤ S.highest then { S with waits := S.waits.drop (f.ack - S.acked).toNat, acked := f.ack } else S
def inK (S : LS) (f : Fr) : Prop := S.came < f.seq ∧ f.seq ≤ S.came + 4 ∧ (ge S (f.seq % 4).toNat).1 = false
instance (S : LS) (f : Fr) : Decidable (inK S f) := by unfold inK; infer_instance
def inE (S : LS) (f : Fr) : LS := if inK S f then se { S with owed := true } (true, f.body) (f.seq % 4).toNat else { S with owed := true }
noncomputable def inR (S : LS) (f : Fr) : LS × List (List UInt8) × Int :=
  if Frame.chkF (toF f) = 0 then
    if f.src = S.other ∧ f.dst = S.me then
      if f.seq = 0 then (inA S f, [], 0) else ((drn (cnt (inE (inA S f) f)) (inE (inA S f) f) []).1, (drn (cnt (inE (inA S f) f)) (inE (inA S f) f) []).2, 0)
    else (S, [], 1)
  else (S, [], Frame.chkF (toF f))
theorem bn_le (b : Bool) : bn b ≤ 1 := by cases b <;> decide
theorem cnt_le (S : LS) : cnt S ≤ 4 := by
  have := bn_le S.e0.1; have := bn_le S.e1.1; have := bn_le S.e2.1; have := bn_le S.e3.1
  unfold cnt; omega
theorem nx_lt (S : LS) : nx S < 4 := by unfold nx; omega
theorem four {k : Nat} (h : k < 4) : k = 0 ∨ k = 1 ∨ k = 2 ∨ k = 3 := by omega
theorem cnt_dr1 {S : LS} (h : (ge S (nx S)).1 = true) : cnt (dr1 S) + 1 = cnt S := by
  have hk := nx_lt S
  unfold dr1
  generalize nx S = k at h hk
  rcases four hk with rfl | rfl | rfl | rfl
  all_goals
    simp only [ge] at h
    unfold cnt se
    simp only [h, bn, if_pos]
    first | (simp; done) | (simp; omega)
theorem drn_go {S : LS} (h : (ge S (nx S)).1 = true) (gs : List (List UInt8)) : drn (cnt S) S gs = drn (cnt (dr1 S)) (dr1 S) (gs ++ [(ge S (nx S)).2]) := by
  rw [← cnt_dr1 h, drn, if_pos h]
theorem drn_stop {S : LS} (h : (ge S (nx S)).1 = false) (gs : List (List UInt8)) (n : Nat) : drn n S gs = (S, gs) := by
  cases n with
  | zero => rfl
  | succ n => rw [drn, if_neg (by rw [h]; nofun)]
theorem checkL (x : Fr) (hx : x.body.length ≤ 9223372036854775807) (w : World) : Fc Try.prog 22 #[.agg #[.int .i64 x.src, .int .i64 x.dst, .int .i64 x.seq, .int .i64 x.ack, .string (bs x.body)]] w (fun v w' => ∃ e, v = .int .i64 e ∧ e = Frame.chkF (toF x) ∧ Sat (froz w) w' []) := Frame.checkF (toF x) hx w
theorem chk_okF {x : Fr} (h : Frame.chkF (toF x) = 0) : ((0 ≤ x.src ∧ x.src < 3) ∧ (0 ≤ x.dst ∧ x.dst < 3) ∧ x.src ≠ x.dst ∧ (0 ≤ x.seq ∧ x.seq ≤ 1099511627776) ∧ (0 ≤ x.ack ∧ x.ack ≤ 1099511627776) ∧ ¬ (x.seq = 0 ∧ x.body ≠ [])) ∧ x.body.length ≤ 64 := Frame.chkF_ok (x := toF x) h
end Go.Proofs.Ytepceieglhfnoaa.Link
