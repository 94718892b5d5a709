/- The walk of the law SuperOnly. -/
import Derived.Test.YtkkfjhaknbaiaaaSuperPlan
set_option maxRecDepth 100000
set_option linter.unusedVariables false
set_option linter.unusedSimpArgs false
namespace Go.Proofs.Ytkkfjhaknbaiaaa.Super
open Go Go.Proofs.Ytkkfjhaknbaiaaa.Eng Go.RowKit
open Sli (enI okI enI_len mixed)
theorem within {v u : Value} {xs ys : List Int} (w : World) (hx : Rd enI okI 1 w v xs) (hy : Rd enI okI 1 w u ys) : Fc Try.prog 19 #[v, u] w (fun r w' => r = .bool (decide (∀ x ∈ xs, x ∈ ys)) ∧ w = w') := by
  refine Fc.of Try.func19 rfl (by kernel_rfl) ?_
  refine rLenR hx rfl ?_
  have hxl := hx.len
  have hyl := hy.len
  refine LoopP.rule (α := Nat) 0 (fun i => [(12, .int .i64 i)]) (fun i w' => w = w' ∧ i ≤ xs.length ∧ ∀ x ∈ xs.take i, x ∈ ys) (fun i => xs.length - i) (mt_cons rfl mt_nil) ⟨rfl, Nat.zero_le _, by simp⟩ ?_
  rintro i f w1 ⟨rfl, hi, hall⟩
  refine cI (fun h1 => ?_) (fun h1 => ?_)
  · have h1 := vLt_t h1
    have hlt : i < xs.length := by omega
    refine bk ?_
    refine rIdxE 1 hx i xs[i] rfl (List.getElem?_eq_getElem hlt) rfl rfl ?_
    intro b o hat hok
    refine rLoad0 hat rfl rfl ?_
    refine rLenR hy rfl ?_
    refine LoopP.rule (α := Nat) 0 (fun j => [(18, .int .i64 j), (7, .bool (decide (xs[i] ∈ ys.take j)))]) (fun j w' => w = w' ∧ j ≤ ys.length) (fun j => ys.length - j) (mt_cons rfl (mt_cons (by simp; rfl) mt_nil)) ⟨rfl, Nat.zero_le _⟩ ?_
    rintro j f2 w2 ⟨rfl, hj⟩
    refine cI (fun h2 => ?_) (fun h2 => ?_)
    · have h2 := vLt_t h2
      have hltj : j < ys.length := by omega
      refine bk ?_
      refine rIdxE 1 hy j ys[j] rfl (List.getElem?_eq_getElem hltj) rfl rfl ?_
      intro b' o' hat' hok'
      refine rLoad0 hat' rfl rfl ?_
      have hstep : decide (xs[i] ∈ ys.take (j + 1)) = (decide (xs[i] ∈ ys.take j) || vEq xs[i] ys[j]) := by
        have hm : xs[i] ∈ ys.take (j + 1) ↔ (xs[i] ∈ ys.take j ∨ xs[i] = ys[j]) := by
          rw [List.take_add_one, List.getElem?_eq_getElem hltj, List.mem_append]
          simp only [Option.toList_some, List.mem_singleton]
        rw [vEq_iff, Bool.eq_iff_iff, Bool.or_eq_true, decide_eq_true_eq, decide_eq_true_eq, decide_eq_true_eq]; exact hm
      refine br (fun h3 => ?_) (fun h3 => ?_)
      · exact Nxt.mk (j + 1) (mt_i rfl (by rw [wi64 (by omega)]; omega) (mt_cons (by rw [hstep, h3]; rfl) mt_nil)) ⟨rfl, by omega⟩ (by omega)
      · exact Nxt.mk (j + 1) (mt_i rfl (by rw [wi64 (by omega)]; omega) (mt_cons (by rw [hstep, h3]; rfl) mt_nil)) ⟨rfl, by omega⟩ (by omega)
    have h2 := vLt_f h2
    have : j = ys.length := by omega
    subst this
    refine cI (fun h4 => ?_) (fun h4 => ?_)
    · have h4 : xs[i] ∉ ys := by rw [List.take_length] at h4; simpa using h4
      exact Done.mk ⟨congrArg Value.bool (decide_eq_false (fun h => h4 (h _ (List.getElem_mem hlt)))).symm, rfl⟩
    · have h4 : xs[i] ∈ ys := by rw [List.take_length] at h4; simpa using h4
      refine Nxt.mk (i + 1) (mt_i rfl (by rw [wi64 (by omega)]; omega) mt_nil) ⟨rfl, by omega, fun x hx => ?_⟩ (by omega)
      rw [List.take_add_one, List.getElem?_eq_getElem hlt] at hx
      rcases List.mem_append.1 hx with h | h
      · exact hall x h
      · obtain rfl : x = xs[i] := by simpa using h
        exact h4
  have h1 := vLt_f h1
  have : i = xs.length := by omega
  subst this
  rw [List.take_length] at hall
  exact Done.mk ⟨congrArg Value.bool (decide_eq_true hall).symm, rfl⟩
theorem enI_one {w w' : World} {x : Int} {e : TypeId} (hx : okI x) (n : New w w' [.int .i64 x] e) : Rd enI okI 1 w' (.slice (some ⟨w.heap.size, 0, none⟩) 1 1) [x] :=
  ⟨_, 1, rfl, by simp, nofun, fun _ => ⟨_, 0, [.int .i64 x], rfl, ⟨_, e, (0, 0), ⟨Nat.zero_le _, by rw [n.size]; omega, n.blk⟩, fun i v hv => by simpa using hv⟩, rfl, fun i y hy => by
    cases i with
    | zero => obtain rfl := Option.some.inj hy; exact ⟨rfl, hx⟩
    | succ i => simp at hy⟩⟩
theorem hsum6 (a b c d g h : Nat) (hz : a = 0 ∧ b = 0 ∧ c = 0 ∧ d = 0 ∧ g = 0 ∧ h = 0) : vEq (vWrap .i64 (vWrap .i64 (vWrap .i64 (vWrap .i64 (vWrap .i64 ((a : Int) + b) + c) + d) + g) + h)) 0 = true := by
  obtain ⟨rfl, rfl, rfl, rfl, rfl, rfl⟩ := hz
  kernel_rfl
theorem hsum5 (b c d g h : Nat) (hz : b = 0 ∧ c = 0 ∧ d = 0 ∧ g = 0 ∧ h = 0) : vEq (vWrap .i64 (vWrap .i64 (vWrap .i64 (vWrap .i64 ((b : Int) + c) + d) + g) + h)) 0 = true := by
  obtain ⟨rfl, rfl, rfl, rfl, rfl⟩ := hz
  kernel_rfl
theorem superOnly (w : World) (vk : Value) (xs : List (Bool × Bool)) (failed : Int) (hk : Rd enKid okKid 2 w vk xs) (hf : -9223372036854775808 ≤ failed ∧ failed ≤ 9223372036854775807) :
    Fc Try.prog 4 #[vk, .int .i64 failed] w (fun v w' => v = .bool true ∧ Below w.heap.size w w') := by
  refine Fc.of Try.func4 rfl (by kernel_rfl) ?_
  refine CallP.mk (Fc.imp (plan 1 failed (by decide) hf _ hk) ?_)
  rintro _ w1 ⟨va, vb, la, lb, e1, rfl, he1, sa, sb, G1⟩
  replace hk := hk.next G1
  replace sa := sa.wide (Nat.le_refl _)
  replace sb := sb.wide (Nat.le_refl _)
  refine CallP.mk (Fc.imp (plan 3 failed (by decide) hf _ hk) ?_)
  rintro _ w2 ⟨vc, vd, lc, ld, e3, rfl, he3, sc, sd, G2⟩
  replace hk := hk.next G2
  replace sa := sa.next G2
  replace sb := sb.next G2
  replace sc := sc.wide (Nat.le_refl _)
  replace sd := sd.wide (Nat.le_refl _)
  refine CallP.mk (Fc.imp (plan 2 failed (by decide) hf _ hk) ?_)
  rintro _ w3 ⟨vg, vh, lg, lh, e2, rfl, he2, sg, sh, G3⟩
  replace hk := hk.next G3
  replace sa := sa.next G3
  replace sb := sb.next G3
  replace sc := sc.next G3
  replace sd := sd.next G3
  replace sg := sg.wide (Nat.le_refl _)
  replace sh := sh.wide (Nat.le_refl _)
  have G := gB (gB (gB (Below.refl _ _) G1) G2) G3
  clear G1 G2 G3
  by_cases h8 : 8 < xs.length
  · simp only [planS, if_pos h8, Prod.mk.injEq] at he1 he2 he3
    have hz : la.length = 0 ∧ lb.length = 0 ∧ lc.length = 0 ∧ ld.length = 0 ∧ lg.length = 0 ∧ lh.length = 0 := by
      refine ⟨?_, ?_, ?_, ?_, ?_, ?_⟩
      · rw [← he1.1]; rfl
      · rw [← he1.2.1]; rfl
      · rw [← he3.1]; rfl
      · rw [← he3.2.1]; rfl
      · rw [← he2.1]; rfl
      · rw [← he2.2.1]; rfl
    refine cT (by rw [vNe_iff, ← he1.2.2]; rfl) ?_
    refine br_t (by rw [vEq_iff, ← he1.2.2, ← he3.2.2]; rfl) ?_
    refine br_t (by rw [vEq_iff, ← he1.2.2, ← he2.2.2]; rfl) ?_
    refine rLenR sa rfl ?_
    refine rLenR sb rfl ?_
    refine rLenR sc rfl ?_
    refine rLenR sd rfl ?_
    refine rLenR sg rfl ?_
    refine rLenR sh rfl ?_
    exact Done.mk ⟨congrArg Value.bool (hsum6 _ _ _ _ _ _ hz), G⟩
  by_cases hbad : failed < 0 ∨ (xs.length : Int) ≤ failed
  · have hb : ∀ s : Int, 1 ≤ s ∧ s ≤ 3 → (¬ (1 ≤ s ∧ s ≤ 3) ∨ failed < 0 ∨ (xs.length : Int) ≤ failed) := fun s _ => .inr hbad
    simp only [planS, if_neg h8, if_pos (hb 1 (by decide)), if_pos (hb 2 (by decide)), if_pos (hb 3 (by decide)), Prod.mk.injEq] at he1 he2 he3
    have hz : la.length = 0 ∧ lb.length = 0 ∧ lc.length = 0 ∧ ld.length = 0 ∧ lg.length = 0 ∧ lh.length = 0 := by
      refine ⟨?_, ?_, ?_, ?_, ?_, ?_⟩
      · rw [← he1.1]; rfl
      · rw [← he1.2.1]; rfl
      · rw [← he3.1]; rfl
      · rw [← he3.2.1]; rfl
      · rw [← he2.1]; rfl
      · rw [← he2.2.1]; rfl
    refine cT (by rw [vNe_iff, ← he1.2.2]; rfl) ?_
    refine br_t (by rw [vEq_iff, ← he1.2.2, ← he3.2.2]; rfl) ?_
    refine br_t (by rw [vEq_iff, ← he1.2.2, ← he2.2.2]; rfl) ?_
    refine rLenR sa rfl ?_
    refine rLenR sb rfl ?_
    refine rLenR sc rfl ?_
    refine rLenR sd rfl ?_
    refine rLenR sg rfl ?_
    refine rLenR sh rfl ?_
    exact Done.mk ⟨congrArg Value.bool (hsum6 _ _ _ _ _ _ hz), G⟩
  have hb : ∀ s : Int, 1 ≤ s ∧ s ≤ 3 → ¬ (¬ (1 ≤ s ∧ s ≤ 3) ∨ failed < 0 ∨ (xs.length : Int) ≤ failed) := fun s hs => by omega
  obtain ⟨F, hFe⟩ := Int.eq_ofNat_of_zero_le (show 0 ≤ failed by omega)
  have hF : F < xs.length := by omega
  have hxF : xs[F]? = some xs[F] := List.getElem?_eq_getElem hF
  have hte : failed.toNat = F := by rw [hFe]; rfl
  simp only [planS, if_neg h8, if_neg (hb 1 (by decide)), if_neg (hb 2 (by decide)), if_neg (hb 3 (by decide)), hte] at he1 he2 he3
  by_cases hkp : keepAt xs F = false
  · simp only [if_pos hkp, Prod.mk.injEq] at he1 he2 he3
    have hz : la.length = 0 ∧ lb.length = 0 ∧ lc.length = 0 ∧ ld.length = 0 ∧ lg.length = 0 ∧ lh.length = 0 := by
      refine ⟨?_, ?_, ?_, ?_, ?_, ?_⟩
      · rw [← he1.1]; rfl
      · rw [← he1.2.1]; rfl
      · rw [← he3.1]; rfl
      · rw [← he3.2.1]; rfl
      · rw [← he2.1]; rfl
      · rw [← he2.2.1]; rfl
    refine cF (by rw [vNe_iff, ← he1.2.2]; rfl) ?_
    refine br_f (by rw [vLt_iff, decide_eq_false_iff_not]; omega) ?_
    refine rLenR hk rfl ?_
    refine br_f (by rw [vLe_iff]; simp; omega) ?_
    refine rLenR sa rfl ?_
    refine cF (by rw [vLt_iff, decide_eq_false_iff_not]; omega) ?_
    refine rIdxE 2 hk F xs[F] hFe hxF rfl rfl ?_
    intro b o hat _
    refine rFieldAt rfl ?_
    refine rLoad hat 1 rfl rfl ?_
    refine cT (by simpa [keepAt, hxF] using hkp) ?_
    refine rLenR sb rfl ?_
    refine rLenR sc rfl ?_
    refine rLenR sd rfl ?_
    refine rLenR sg rfl ?_
    refine rLenR sh rfl ?_
    exact Done.mk ⟨congrArg Value.bool (hsum5 _ _ _ _ _ hz.2), G⟩
  simp only [if_neg hkp, Prod.mk.injEq] at he1 he2 he3
  have hkt : keepAt xs F = true := by simpa using hkp
  have n1 : ends 1 xs.length F = (F, F + 1) := rfl
  have n2 : ends 2 xs.length F = (0, xs.length) := rfl
  have n3 : ends 3 xs.length F = (F, xs.length) := rfl
  simp only [n1, n2, n3, show F + 1 - F = 1 by omega, Nat.sub_zero] at he1 he2 he3
  have hsF : stopP xs F F = false := by simp [stopP]
  have ea : pick F (stopP xs F) 1 = [] := by rw [pick_succ]; simp [pick, hsF]
  have eb : pick F (keepAt xs) 1 = [(F : Int)] := by rw [pick_succ]; simp [pick, hkt]
  rw [ea, eb] at he1
  have hla : la.length = 0 := by rw [← he1.1]; rfl
  refine cF (by rw [vNe_iff, ← he1.2.2]; rfl) ?_
  refine br_f (by rw [vLt_iff, decide_eq_false_iff_not]; omega) ?_
  refine rLenR hk rfl ?_
  refine br_f (by rw [vLe_iff]; simp; omega) ?_
  refine rLenR sa rfl ?_
  refine cF (by rw [vLt_iff, decide_eq_false_iff_not]; omega) ?_
  refine rIdxE 2 hk F xs[F] hFe hxF rfl rfl ?_
  intro b o hat _
  refine rFieldAt rfl ?_
  refine rLoad hat 1 rfl rfl ?_
  refine cF (by simpa [keepAt, hxF] using hkp) ?_
  refine br_t (by rw [vEq_iff, ← he3.2.2]; rfl) ?_
  refine br_t (by rw [vEq_iff, ← he2.2.2]; rfl) ?_
  refine rBuildSlice (z := .int .i64 0) (sz := 1) rfl rfl rfl (by decide) ?_
  intro w4 n4
  have G4 := gN G n4
  have B4 := n4.below
  replace sb := sb.next B4
  replace sc := sc.next B4
  replace sd := sd.next B4
  replace sg := sg.next B4
  replace sh := sh.next B4
  refine CallP.mk (Fc.imp (Sli.eqInts _ sb (enI_one (show okI failed from hf) n4)) ?_)
  rintro _ _ ⟨rfl, rfl⟩
  refine br_t (by exact decide_eq_true (by rw [← he1.2.1, hFe])) ?_
  have hsub : ∀ p, ∀ x ∈ pick F p (xs.length - F), x ∈ pick 0 p xs.length := fun p x hx => by
    obtain ⟨k, rfl, h1, h2, h3⟩ := pick_mem.1 hx
    exact pick_mem.2 ⟨k, rfl, by omega, by omega, h3⟩
  refine CallP.mk (Fc.imp (within _ sc sg) ?_)
  rintro _ _ ⟨rfl, rfl⟩
  refine br_t (by rw [decide_eq_true_eq]; intro x hx; rw [← he3.1] at hx; rw [← he2.1]; rw [List.mem_reverse] at hx ⊢; exact hsub _ x hx) ?_
  refine CallP.mk (Fc.imp (within _ sd sh) ?_)
  rintro _ _ ⟨rfl, rfl⟩
  refine br_t (by rw [decide_eq_true_eq]; intro x hx; rw [← he3.2.1] at hx; rw [← he2.2.1]; exact hsub _ x hx) ?_
  refine CallP.mk (Fc.imp (within _ sb sd) ?_)
  rintro _ _ ⟨rfl, rfl⟩
  have hbd : ∀ x ∈ lb, x ∈ ld := fun x hx => by
    rw [← he1.2.1] at hx
    rw [← he3.2.1]
    obtain rfl : x = (F : Int) := by simpa using hx
    exact pick_mem.2 ⟨F, rfl, by omega, by omega, hkt⟩
  refine br_t (by exact decide_eq_true hbd) ?_
  refine br (fun h0 => ?_) (fun h0 => ?_)
  · have h0 := vLt_t h0
    exact Done.mk ⟨rfl, G4⟩
  have h0 := vLt_f h0
  have hF0 : F = 0 := by omega
  rw [hF0] at he3
  refine CallP.mk (Fc.imp (Sli.eqInts _ sc sg) ?_)
  rintro _ _ ⟨rfl, rfl⟩
  refine br_t (by exact decide_eq_true (by rw [← he3.1, ← he2.1, Nat.sub_zero, hF0])) ?_
  refine CallP.mk (Fc.imp (Sli.eqInts _ sd sh) ?_)
  rintro _ _ ⟨rfl, rfl⟩
  exact Done.mk ⟨congrArg Value.bool (decide_eq_true (by rw [← he3.2.1, ← he2.2.1, Nat.sub_zero])), G4⟩
end Go.Proofs.Ytkkfjhaknbaiaaa.Super
