/- super.Plan: who is stopped, who is started. -/
import Derived.Test.YtkkfjhaknbaiaaaRev
set_option maxRecDepth 100000
set_option linter.unusedVariables false
set_option linter.unusedSimpArgs false
namespace Go.Proofs.Ytkkfjhaknbaiaaa.Super
open Go Go.Proofs.Ytkkfjhaknbaiaaa.Eng Go.RowKit
open Sli (enI okI enI_len)
def enKid (k : Bool × Bool) : List Value := [.bool k.1, .bool k.2]
def okKid (_ : Bool × Bool) : Prop := True
theorem enKid_len (x : Bool × Bool) : (enKid x).length = 2 := rfl
theorem fitsKid (cs : List Value) (h : fitsL [.bool, .bool] cs) : ∃ x, cs = enKid x ∧ okKid x := by
  obtain ⟨_, _, rfl, ⟨a, rfl⟩, _, _, rfl, ⟨b, rfl⟩, rfl⟩ := h
  exact ⟨(a, b), rfl, trivial⟩
/-- Those from f0 on, i of them looked at, of whom p holds. -/
def pick (f0 : Nat) (p : Nat → Bool) (i : Nat) : List Int := (((List.range i).map (· + f0)).filter p).map fun (k : Nat) => (k : Int)
theorem pick_succ (f0 : Nat) (p : Nat → Bool) (i : Nat) : pick f0 p (i + 1) = pick f0 p i ++ if p (i + f0) then [((i + f0 : Nat) : Int)] else [] := by
  unfold pick
  rw [List.range_succ, List.map_append, List.filter_append, List.map_append]
  congr 1
  simp only [List.map_cons, List.map_nil, List.filter_cons, List.filter_nil]
  split <;> rfl
theorem pick_len (f0 : Nat) (p : Nat → Bool) (i : Nat) : (pick f0 p i).length ≤ i := by
  unfold pick
  rw [List.length_map]
  refine Nat.le_trans (List.length_filter_le _ _) ?_
  simp
theorem pick_mem {f0 : Nat} {p : Nat → Bool} {i : Nat} {x : Int} : x ∈ pick f0 p i ↔ ∃ k : Nat, x = k ∧ f0 ≤ k ∧ k < f0 + i ∧ p k = true := by
  unfold pick
  simp only [List.mem_map, List.mem_filter, List.mem_range]
  constructor
  · rintro ⟨k, ⟨⟨j, hj, rfl⟩, hp⟩, rfl⟩; exact ⟨_, rfl, by omega, by omega, hp⟩
  · rintro ⟨k, rfl, h1, h2, h3⟩; exact ⟨k, ⟨⟨k - f0, by omega, by omega⟩, h3⟩, rfl⟩
def runsAt (xs : List (Bool × Bool)) (k : Nat) : Bool := ((xs[k]?).map (·.1)).getD false
def keepAt (xs : List (Bool × Bool)) (k : Nat) : Bool := ((xs[k]?).map (·.2)).getD false
def ends (strategy : Int) (n F : Nat) : Nat × Nat := if strategy = 1 then (F, F + 1) else if strategy = 2 then (0, n) else (F, n)
def stopP (xs : List (Bool × Bool)) (F k : Nat) : Bool := !decide (k = F) && runsAt xs k
def planS (strategy : Int) (xs : List (Bool × Bool)) (failed : Int) : List Int × List Int × Int :=
  if 8 < xs.length then ([], [], 2)
  else if ¬ (1 ≤ strategy ∧ strategy ≤ 3) ∨ failed < 0 ∨ (xs.length : Int) ≤ failed then ([], [], 1)
  else if keepAt xs failed.toNat = false then ([], [], 0)
  else ((pick (ends strategy xs.length failed.toNat).1 (stopP xs failed.toNat) ((ends strategy xs.length failed.toNat).2 - (ends strategy xs.length failed.toNat).1)).reverse,
    pick (ends strategy xs.length failed.toNat).1 (keepAt xs) ((ends strategy xs.length failed.toNat).2 - (ends strategy xs.length failed.toNat).1), 0)
theorem isStrategy (n : Int) (w : World) : Fc Try.prog 41 #[.int .i64 n] w (fun v w' => v = .bool (decide (1 ≤ n ∧ n ≤ 3)) ∧ w = w') := by
  refine Fc.of Try.func41 rfl (by kernel_rfl) ?_
  refine br (fun h => ?_) (fun h => ?_)
  · have h := vLe_t h
    refine Done.mk ⟨congrArg Value.bool ?_, rfl⟩
    rw [vLe_iff]; simp [h]
  have h := vLe_f h
  refine Done.mk ⟨congrArg Value.bool ?_, rfl⟩
  rw [eq_comm, decide_eq_false_iff_not]; omega
theorem ends_le {strategy : Int} {n F : Nat} (hF : F < n) : (ends strategy n F).1 ≤ F ∧ F < (ends strategy n F).2 ∧ (ends strategy n F).2 ≤ n := by
  unfold ends; split
  · exact ⟨Nat.le_refl _, Nat.lt_succ_self _, hF⟩
  · split
    · exact ⟨Nat.zero_le _, hF, Nat.le_refl _⟩
    · exact ⟨Nat.le_refl _, hF, Nat.le_refl _⟩
/-- What Plan hands back. -/
def Planned (w w' : World) (v : Value) (r : List Int × List Int × Int) : Prop :=
  ∃ vs vt ls lt e, v = .tuple #[vs, vt, .int .i64 e] ∧ r = (ls, lt, e) ∧ SlR (RE enI okI) 1 (Rg w' w.heap.size w'.heap.size) vs ls ∧ SlR (RE enI okI) 1 (Rg w' w.heap.size w'.heap.size) vt lt ∧ Below w.heap.size w w'
theorem plan (strategy : Int) {vk : Value} {xs : List (Bool × Bool)} (failed : Int) (hs : -9223372036854775808 ≤ strategy ∧ strategy ≤ 9223372036854775807) (hf : -9223372036854775808 ≤ failed ∧ failed ≤ 9223372036854775807) (w : World) (hk : Rd enKid okKid 2 w vk xs) :
    Fc Try.prog 18 #[.int .i64 strategy, vk, .int .i64 failed] w (fun v w' => Planned w w' v (planS strategy xs failed)) := by
  refine Fc.of Try.func18 rfl (by kernel_rfl) ?_
  have nil : ∀ e : Int, planS strategy xs failed = ([], [], e) → Planned w w (.tuple #[.slice none 0 0, .slice none 0 0, .int .i64 e]) (planS strategy xs failed) := fun e h => by
    rw [h]; exact ⟨_, _, _, _, _, rfl, rfl, SlR.nil _ _ _, SlR.nil _ _ _, Below.refl _ _⟩
  refine rLenR hk rfl ?_
  refine cI (fun h8 => ?_) (fun h8 => ?_)
  · have h8 := vLt_t h8
    exact Done.mk (nil 2 (by rw [planS, if_pos (by omega)]))
  have h8 := vLt_f h8
  have h8' : ¬ 8 < xs.length := by omega
  refine CallP.mk (Fc.imp (isStrategy strategy _) ?_)
  rintro _ _ ⟨rfl, rfl⟩
  refine br (fun g1 => ?_) (fun g1 => ?_)
  · have g1 : ¬ (1 ≤ strategy ∧ strategy ≤ 3) := fun h => by rw [decide_eq_true h] at g1; cases g1
    refine cT (rfl) ?_
    exact Done.mk (nil 1 (by rw [planS, if_neg h8', if_pos (.inl g1)]))
  have g1 : 1 ≤ strategy ∧ strategy ≤ 3 := by simpa using g1
  refine br (fun g2 => ?_) (fun g2 => ?_)
  · have g2 := vLt_t g2
    refine cT (rfl) ?_
    exact Done.mk (nil 1 (by rw [planS, if_neg h8', if_pos (.inr (.inl g2))]))
  have g2 := vLt_f g2
  refine rLenR hk rfl ?_
  refine cI (fun g3 => ?_) (fun g3 => ?_)
  · have g3 := vLe_t g3
    exact Done.mk (nil 1 (by rw [planS, if_neg h8', if_pos (.inr (.inr g3))]))
  have g3 := vLe_f g3
  have hbad : ¬ (¬ (1 ≤ strategy ∧ strategy ≤ 3) ∨ failed < 0 ∨ (xs.length : Int) ≤ failed) := by omega
  obtain ⟨F, rfl⟩ := Int.eq_ofNat_of_zero_le g2
  have hF : F < xs.length := by omega
  have hxF : xs[F]? = some xs[F] := List.getElem?_eq_getElem hF
  refine rIdxE 2 hk F xs[F] rfl hxF rfl rfl ?_
  intro b o hat _
  refine rFieldAt rfl ?_
  refine rLoad hat 1 rfl rfl ?_
  refine cI (fun g4 => ?_) (fun g4 => ?_)
  · have g4 : xs[F].2 = false := by simpa using g4
    exact Done.mk (nil 0 (by rw [planS, if_neg h8', if_neg hbad, if_pos (by simp [keepAt, hxF, g4])]))
  have g4 : xs[F].2 = true := by simpa using g4
  have hplan : planS strategy xs (F : Int) = ((pick (ends strategy xs.length F).1 (stopP xs F) ((ends strategy xs.length F).2 - (ends strategy xs.length F).1)).reverse, pick (ends strategy xs.length F).1 (keepAt xs) ((ends strategy xs.length F).2 - (ends strategy xs.length F).1), 0) := by
    rw [planS, if_neg h8', if_neg hbad, if_neg (by simp [keepAt, hxF, g4])]; rfl
  rw [hplan]
  clear hplan nil hat
  obtain ⟨e1, e2, e3⟩ := ends_le (strategy := strategy) hF
  refine rLenR hk rfl ?_
  refine block_join (α := Unit) (fun _ => [(9, .int .i64 ((ends strategy xs.length F).1 : Int)), (10, .int .i64 ((ends strategy xs.length F).2 : Int))]) (fun _ w' => w = w') ?_ ?_
  · refine cI (fun g5 => ?_) (fun g5 => ?_)
    · have g5 := vEq_t g5
      refine Jn.mk () (mt_cons (int_eq ?_) (mt_cons (int_eq ?_) mt_nil)) rfl
      · rw [ends, if_pos g5]
      · rw [ends, if_pos g5, wi64 (by omega)]; rfl
    have g5 := vEq_f g5
    refine cI (fun g6 => ?_) (fun g6 => ?_)
    · have g6 := vEq_t g6
      refine Jn.mk () (mt_cons (int_eq ?_) (mt_cons (int_eq ?_) mt_nil)) rfl
      · rw [ends, if_neg g5, if_pos g6]; rfl
      · rw [ends, if_neg g5, if_pos g6]
    have g6 := vEq_f g6
    refine Jn.mk () (mt_cons (int_eq ?_) (mt_cons (int_eq ?_) mt_nil)) rfl
    · rw [ends, if_neg g5, if_neg g6]
    · rw [ends, if_neg g5, if_neg g6]
  rintro _ f w1 rfl
  generalize (ends strategy xs.length F).1 = A at *
  generalize (ends strategy xs.length F).2 = B at *
  refine rSl A B hk rfl rfl (by omega) e3 (.inr ⟨_, rfl⟩) (.inr ⟨_, rfl⟩) ?_
  intro vz hz
  have hzl : ((xs.take B).drop A).length = B - A := by rw [List.length_drop, List.length_take]; omega
  have hzi : ∀ i, i < B - A → ((xs.take B).drop A)[i]? = xs[i + A]? := fun i hi => by rw [List.getElem?_drop, List.getElem?_take, if_pos (by omega), Nat.add_comm]
  refine rLenR hz rfl ?_
  rw [hzl]
  refine LoopP.rule (α := Nat × Value × Value) (0, .slice none 0 0, .slice none 0 0) (fun x => [(50, .int .i64 x.1), (6, x.2.1), (7, x.2.2)]) (fun x w' => x.1 ≤ B - A ∧ Own w.heap.size w' 3 1 enI x.2.1 (pick A (stopP xs F) x.1) ∧ Own w.heap.size w' 3 1 enI x.2.2 (pick A (keepAt xs) x.1) ∧ Dj x.2.1 x.2.2 ∧ Below w.heap.size w w') (fun x => B - A - x.1) (mt_cons rfl (mt_cons rfl (mt_cons rfl mt_nil))) ⟨Nat.zero_le _, Own.nil _ _ _ enI_len, Own.nil _ _ _ enI_len, Dj.nil _, Below.refl _ _⟩ ?_
  rintro ⟨i, v1, v2⟩ f1 w1 ⟨hi, o1, o2, dj, G⟩
  dsimp only at *
  refine cI (fun h1 => ?_) (fun h1 => ?_)
  · have h1 := vLt_t h1
    refine bk ?_
    have hlt : i < B - A := by omega
    have hx := hzi i hlt
    rw [List.getElem?_eq_getElem (l := xs) (i := i + A) (by omega)] at hx
    obtain ⟨⟨r, kp⟩, hxx⟩ : ∃ x, xs[i + A]'(by omega) = x := ⟨_, rfl⟩
    rw [hxx] at hx
    have hxs : xs[i + A]? = some (r, kp) := by rw [← hxx]; exact List.getElem?_eq_getElem _
    have hz1 := sG hz G
    refine rIdxE 2 hz1 i (r, kp) rfl hx rfl rfl ?_
    intro b o hat _
    refine rLoadA0 hat rfl rfl rfl ?_
    refine rAlloc rfl ?_
    intro w2 n2
    have G2 := gN G n2
    have p1 := oN o1 n2
    have p2 := oN o2 n2
    refine rStoreA n2.blk rfl rfl rfl ?_
    intro w3 u3 b3
    have hw1 := G.size
    have nb1 : v1.ownBlock ≠ some w1.heap.size := fun e => by have := (o1.lt e).2; omega
    have nb2 : v2.ownBlock ≠ some w1.heap.size := fun e => by have := (o2.lt e).2; omega
    have G3 := gU G2 u3 hw1
    have q1 := oU p1 u3 nb1
    have q2 := oU p2 u3 nb2
    clear G2 p1 p2 n2 hat G o1 o2
    have ei : vWrap .i64 ((i : Int) + A) = ((i + A : Nat) : Int) := by rw [wi64 (by omega)]; omega
    have hrun : runsAt xs (i + A) = r := by simp [runsAt, hxs]
    have hkeep : keepAt xs (i + A) = kp := by simp [keepAt, hxs]
    have l1 := pick_len A (stopP xs F) i
    have l2 := pick_len A (keepAt xs) i
    by_cases hne : i + A = F
    case' pos =>
      refine br_f (by rw [ei, vNe_iff]; simp; omega) ?_
      have hst : stopP xs F (i + A) = false := by simp [stopP, hne]
    case' neg =>
      refine br_t (by rw [ei, vNe_iff]; simp; omega) ?_
      refine rFieldAt rfl ?_
      refine rLoad0 b3.at rfl rfl ?_
      have hst : stopP xs F (i + A) = r := by simp [stopP, hne, hrun]
    all_goals
      refine cond_join (α := Value) (fun v => [(6, v)]) (fun v w' => Own w.heap.size w' 3 1 enI v (pick A (stopP xs F) (i + 1)) ∧ Own w.heap.size w' 3 1 enI v2 (pick A (keepAt xs) i) ∧ Dj v v2 ∧ Below w.heap.size w w' ∧ Blk w' w1.heap.size [.bool r, .bool kp] 35) (fun hb => ?_) (fun hb => ?_) ?_
      · have hz1 : stopP xs F (i + A) = true := hst.trans hb
        rw [pick_succ, hz1, if_pos rfl]
        refine rBuildSlice (z := .int .i64 0) (sz := 1) rfl rfl rfl (by decide) ?_
        intro w4 n4
        have m1 := oN q1 n4
        have m2 := oN q2 n4
        have m3 := kN b3 n4
        refine rAppO (ys := [vWrap .i64 ((i : Int) + A)]) (.int .i64 0) 8 m1 n4.blk.at rfl (by simp [enI, Value.oneCell']) rfl rfl rfl (by decide) (by omega) (by omega) (by have := G3.size; have := n4.size; omega) ?_
        intro v5 w5 o5 g5
        rw [ei] at o5
        exact Jn.mk v5 (mt_cons rfl mt_nil) ⟨o5, oG m2 g5 dj.symm, (djG m2 g5 dj.symm).symm, gG (gN G3 n4) g5 (fun k e => (m1.lt e).1), kG m3 g5 nb1⟩
      · have hz0 : stopP xs F (i + A) = false := hst.trans hb
        rw [pick_succ, hz0, if_neg (by decide), List.append_nil]
        exact Jn.mk v1 (mt_cons rfl mt_nil) ⟨q1, q2, dj, G3, b3⟩
      clear q1 q2 dj G3 b3 u3 nb1
      rintro v1' f2 w4 ⟨q1, q2, dj, G3, b3⟩
      refine rFieldAt rfl ?_
      refine rLoad b3.at 1 rfl rfl ?_
      refine cI (fun hb => ?_) (fun hb => ?_)
      · have hps : pick A (keepAt xs) (i + 1) = pick A (keepAt xs) i ++ [((i + A : Nat) : Int)] := by rw [pick_succ A (keepAt xs), hkeep, hb, if_pos rfl]
        refine rBuildSlice (z := .int .i64 0) (sz := 1) rfl rfl rfl (by decide) ?_
        intro w5 n5
        have m1 := oN q1 n5
        have m2 := oN q2 n5
        refine rAppO (ys := [vWrap .i64 ((i : Int) + A)]) (.int .i64 0) 8 m2 n5.blk.at rfl (by simp [enI, Value.oneCell']) rfl rfl rfl (by decide) (by omega) (by omega) (by have := G3.size; have := n5.size; omega) ?_
        intro v5 w6 o5 g5
        rw [ei, ← hps] at o5
        exact Nxt.mk (i + 1, v1', v5) (mt_i rfl (by rw [wi64 (by omega)]; rfl) (mt_cons rfl (mt_cons rfl mt_nil))) ⟨by show i + 1 ≤ B - A; omega, oG m1 g5 dj, o5, djG m1 g5 dj, gG (gN G3 n5) g5 (fun k e => (m2.lt e).1)⟩ (by show B - A - (i + 1) < B - A - i; omega)
      · have hps : pick A (keepAt xs) (i + 1) = pick A (keepAt xs) i := by rw [pick_succ A (keepAt xs), hkeep, hb, if_neg (by decide), List.append_nil]
        exact Nxt.mk (i + 1, v1', v2) (mt_i rfl (by rw [wi64 (by omega)]; rfl) (mt_cons rfl (mt_cons rfl mt_nil))) ⟨by show i + 1 ≤ B - A; omega, q1, by rw [hps]; exact q2, dj, G3⟩ (by show B - A - (i + 1) < B - A - i; omega)
  have h1 := vLt_f h1
  have hi' : i = B - A := by omega
  subst hi'
  refine CallP.mk (Fc.imp (Sli.reverse _ o1) ?_)
  rintro _ w2 ⟨o3, g3⟩
  have o4 := oG o2 g3 dj.symm
  have G2 := gG G g3 (fun k e => (o1.lt e).1)
  have hok : ∀ p x, x ∈ pick A p (B - A) → okI x := fun p x hx => by
    obtain ⟨k, rfl, h1, h2, _⟩ := pick_mem.1 hx
    unfold Sli.okI; omega
  exact Done.mk ⟨_, _, _, _, _, rfl, rfl, o3.rd (fun x hx => hok _ x (by simpa using hx)) (by decide), o4.rd (fun x hx => hok _ x hx) (by decide), G2⟩
end Go.Proofs.Ytkkfjhaknbaiaaa.Super
