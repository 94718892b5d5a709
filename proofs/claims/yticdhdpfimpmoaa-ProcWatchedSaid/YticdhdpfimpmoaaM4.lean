/- Texts of this claim, one behind the other. -/
import Derived.Test.YticdhdpfimpmoaaM3
import Derived.Test.YticdhdpfimpmoaaM2
import Derived.Test.YticdhdpfimpmoaaRows
import Derived.WalkKit
import Derived.ProofKit
import Derived.JoinedCond
import Derived.OpenShut
import Derived.ShutString
import Derived.ChangeOld
import Derived.Below
import Derived.Test.YticdhdpfimpmoaaM1
import Derived.ChangeArms
/- Package proc: SortedFunc of maps.Keys, Links. -/
set_option maxRecDepth 100000
set_option maxHeartbeats 4000000
set_option linter.unusedVariables false
set_option linter.unusedSimpArgs false
namespace Go.Proofs.Yticdhdpfimpmoaa.Proc
open Go Go.Proofs.Yticdhdpfimpmoaa.Eng Go.RowKit
open Go.Proofs.Yticdhdpfimpmoaa.Eng.MG
theorem le_lt {ks : List PidD} (h : ks.Pairwise pidLe) (hn : ks.Nodup) : ks.Pairwise pidLt := by
  rw [List.nodup_iff_pairwise_ne] at hn
  refine (h.and hn).imp fun {a b} hab => ?_
  obtain ⟨h1, h2⟩ := hab
  rw [le_iff] at h1
  unfold pidLt
  rcases h1 with h1 | ⟨h1, h3⟩
  · exact .inl h1
  · refine .inr ⟨h1, ?_⟩
    have : a.2 ≠ b.2 := fun h => h2 (Prod.ext h1 h)
    omega
theorem keysOf {f : LF} {ks ys : List PidD} (hn : ks.Nodup) (hm : ∀ k, k ∈ ks ↔ f k ≠ none) (hp : ys.Perm ks) (ho : ys.Pairwise pidLe) : KeysOf f ys := ⟨le_lt ho (hp.symm.nodup hn), fun k => hp.mem_iff.trans (hm k)⟩
section
variable {g : Glob} {w : World} {l : List As}
theorem sortedF_ {p b nn : Nat} {f : LF} (H : Sat g w (Pt p [.map (some b)] 78 :: Mg ekP ekI 0 b f nn :: l)) (hn : nn ≤ 12) : Fc Try.prog 38 #[.func (.func 47) #[] #[.pointer (some ⟨p, 0, none⟩)], .func (.func 40) #[] #[]] w (fun r w' => ∃ ks, KeysOf f ks ∧ ks.length = nn ∧ Sat g w' (Sl 31 2 enPd r ks :: Pt p [.map (some b)] 78 :: Mg ekP ekI 0 b f nn :: l)) := by
  refine Fc.of Try.func38 rfl (by kernel_rfl) ?_
  refine CallP.mk (Fc.imp (Go.Proofs.Yticdhdpfimpmoaa.Proc.collect_ H ?_) ?_)
  · omega
  clear H
  rintro v' w1 ⟨ks1, ⟨h1, ⟨h2, ⟨h3, H⟩⟩⟩⟩
  refine CallP.mk (Fc.imp (Go.Proofs.Yticdhdpfimpmoaa.Proc.bsortF_ _ H ?_) ?_)
  · omega
  clear H
  rintro va' w2 ⟨ys1, ⟨h4, ⟨h5, H⟩⟩⟩
  refine Done.mk ?_
  exact ⟨ys1, keysOf (by assumption) (by assumption) (by assumption) (by assumption), (List.Perm.length_eq (by assumption)).trans (by assumption), H⟩
theorem linksC : LinksC := by
  intro g w l p va refs nd xa H q1 q2 hl x hn hln
  obtain ⟨hx, hal, hr⟩ := live_inv hn
  obtain ⟨t, lb, lf, ln, wa, wc, ws, hb, hf, hnn, rfl⟩ := live_is hal
  have hln2 : ln ≤ 12 := hln
  replace H := opened H hx
  simp only [pcs, List.cons_append, List.nil_append] at H
  refine Fc.of Try.func23 rfl (by kernel_rfl) ?_
  refine rBoxS H ?_
  clear H
  intro p1 w1 H
  refine rLdA (H.at 0 rfl) 0 rfl rfl rfl ?_
  refine H.fronts [6, 6] ?_
  clear H
  intro H
  refine CallP.mk (Fc.imp (Go.Proofs.Yticdhdpfimpmoaa.Proc.findY H _ _ ?_ _ hn) ?_)
  · assumption
  clear H
  rintro _ w2 ⟨b1, ⟨o1, ⟨rfl, ⟨h1, H⟩⟩⟩⟩
  refine rPtrNil rfl ?_
  refine cF rfl ?_
  refine rFieldAt rfl ?_
  refine rLd (H.el 1 rfl h1 hx) 2 rfl rfl rfl ?_
  refine CallP.mk (Fc.imp (Go.Proofs.Yticdhdpfimpmoaa.Proc.keys_ H _) ?_)
  clear H
  rintro _ w3 ⟨p2, ⟨rfl, H⟩⟩
  
  refine H.fronts [4, 1] ?_
  clear H
  intro H
  refine CallP.mk (Fc.imp (Go.Proofs.Yticdhdpfimpmoaa.Proc.sortedF_ H ?_) ?_)
  · assumption
  clear H
  rintro v' w4 ⟨ks1, ⟨h2, ⟨h3, H⟩⟩⟩
  replace H := (((((((H.del 5).del 1).front (j := 3) rfl).front (j := 3) rfl).front (j := 6) rfl).front (j := 6) rfl).front (j := 6) rfl).front (j := 6) rfl
  exact Done.mk ⟨ks1, h2, by omega, (shut0 hx H).front (j := 3) rfl⟩
theorem linksN {p : Nat} {va : Value} {refs nd : Int} {xa : List ActV} (H : Sat g w (Pt p [.int .i64 nd, va, .int .i64 refs] 100 :: Sl 82 5 enAc va xa :: Acts xa :: l)) (q1 q2 : Int) (hl : xa.length ≤ 16) (hn : liveAt nd xa (q1, q2) = none) (hq : -9223372036854775807 ≤ q2 ∧ q2 ≤ 9223372036854775807) : Fc Try.prog 23 #[.pointer (some ⟨p, 0, none⟩), .agg #[.int .i64 q1, .int .i64 q2]] w (fun r w' => r = .slice none 0 0 ∧ Sat g w' (Pt p [.int .i64 nd, va, .int .i64 refs] 100 :: Sl 82 5 enAc va xa :: Acts xa :: l)) := by
  refine Fc.of Try.func23 rfl (by kernel_rfl) ?_
  refine rBoxS H ?_
  clear H
  intro p1 w1 H
  refine rLdA (H.at 0 rfl) 0 rfl rfl rfl ?_
  refine H.fronts [2, 2] ?_
  clear H
  intro H
  refine CallP.mk (Fc.imp (Go.Proofs.Yticdhdpfimpmoaa.Proc.findN H _ _ ?_ ?_ ?_) ?_)
  · assumption
  · assumption
  · assumption
  clear H
  rintro _ w2 ⟨rfl, H⟩
  refine rPtrNil rfl ?_
  refine cT rfl ?_
  refine Done.mk ?_
  exact ⟨rfl, H.del 2⟩
end
end Go.Proofs.Yticdhdpfimpmoaa.Proc
/- Package proc's laws: Rest, one0, crowd, Copy. -/
set_option maxRecDepth 100000
set_option maxHeartbeats 4000000
set_option linter.unusedVariables false
set_option linter.unusedSimpArgs false
namespace Go.Proofs.Yticdhdpfimpmoaa.Proc
open Go Go.Proofs.Yticdhdpfimpmoaa.Eng Go.RowKit
open Go.Proofs.Yticdhdpfimpmoaa.Eng.MG
theorem rem_ways {a b : Int} (hb : 0 < b) (h : a < 0) : (vRem a b = 0 ∧ a % b = 0) ∨ (vRem a b < 0 ∧ a % b = vRem a b + b) := by
  unfold vRem
  rw [Int.tmod_eq_emod]
  have h1 := Int.emod_nonneg a (Int.ne_of_gt hb)
  have h2 := Int.emod_lt_of_pos a hb
  by_cases hd : b ∣ a
  · left
    have := Int.emod_eq_zero_of_dvd hd
    rw [if_pos (.inr hd)]
    omega
  · right
    rw [if_neg (by rintro (h' | h'); omega; exact hd h')]
    have : (b.natAbs : Int) = b := by omega
    rw [this]
    omega
def oneF (n many : Int) : PidD := (0, 1 + n % many)
theorem oneF_rng {n m : Int} (hm : 0 < m) : 1 ≤ (oneF n m).2 ∧ (oneF n m).2 ≤ m := by
  have h1 := Int.emod_nonneg n (Int.ne_of_gt hm)
  have h2 := Int.emod_lt_of_pos n hm
  unfold oneF
  simp only
  omega
section
variable {g : Glob} {w : World} {l : List As}
theorem rest_ (H : Sat g w l) (n m : Int) (hm : 0 < m ∧ m ≤ 1000) (hn : -9223372036854775808 ≤ n ∧ n ≤ 9223372036854775807) : Fc Try.prog 11 #[.int .i64 n, .int .i64 m] w (fun v w' => ∃ k, v = .int .i64 k ∧ k = n % m ∧ 0 ≤ k ∧ k < m ∧ Sat g w' l) := by
  refine Fc.of Try.func11 rfl (by kernel_rfl) ?_
  have h1 := Int.emod_nonneg n (Int.ne_of_gt hm.1)
  have h2 := Int.emod_lt_of_pos n hm.1
  rcases Int.lt_or_le n 0 with hlt | hge
  · have hw := rem_ways hm.1 hlt
    refine DivP.mk (by omega) ?_
    refine EqP.keep ?_
    refine cI (fun c1 => ?_) (fun c1 => ?_)
    · replace c1 := vLt_t (c1)
      refine eqI64 (by omega) ?_
      refine Done.mk ?_
      refine ⟨vRem n m + m, ?_⟩
      refine ⟨?_, ?_⟩
      · refine int_eq ?_
        omega
      refine ⟨?_, ?_⟩
      · omega
      refine ⟨?_, ?_⟩
      · omega
      refine ⟨?_, ?_⟩
      · omega
      exact H
    replace c1 := vLt_f (c1)
    refine Done.mk ?_
    refine ⟨vRem n m, ?_⟩
    refine ⟨?_, ?_⟩
    · refine int_eq ?_
      omega
    refine ⟨?_, ?_⟩
    · omega
    refine ⟨?_, ?_⟩
    · assumption
    refine ⟨?_, ?_⟩
    · omega
    exact H
  · refine DivP.mk (by omega) ?_
    refine eqRem (by omega) ?_
    refine cF (vLt_F (by assumption)) ?_
    refine Done.mk ?_
    refine ⟨n % m, ?_⟩
    refine ⟨?_, ?_⟩
    · refine int_eq ?_
      omega
    refine ⟨?_, ?_⟩
    · omega
    refine ⟨?_, ?_⟩
    · assumption
    refine ⟨?_, ?_⟩
    · assumption
    exact H
theorem one_ (H : Sat g w l) (n m : Int) (hm : 0 < m ∧ m ≤ 1000) (hn : -9223372036854775808 ≤ n ∧ n ≤ 9223372036854775807) : Fc Try.prog 10 #[.int .i64 n, .int .i64 m] w (fun v w' => ∃ k, v = .agg #[.int .i64 0, .int .i64 k] ∧ oneF n m = (0, k) ∧ 1 ≤ k ∧ k ≤ m ∧ Sat g w' l) := by
  refine Fc.of Try.func10 rfl (by kernel_rfl) ?_
  refine rAllocS H rfl ?_
  clear H
  intro p1 w1 H
  refine CallP.mk (Fc.imp (Go.Proofs.Yticdhdpfimpmoaa.Proc.rest_ H _ _ ?_ ?_) ?_)
  · assumption
  · assumption
  clear H
  rintro _ w2 ⟨k1, ⟨rfl, ⟨h1, ⟨h2, ⟨h3, H⟩⟩⟩⟩⟩
  refine eqI64 (by omega) ?_
  refine rBuild rfl rfl rfl ?_
  refine rStAS H 0 rfl rfl rfl rfl ?_
  clear H
  intro w3 H
  clear w2
  refine rdAN (H.at 0 rfl) 0 rfl rfl rfl ?_
  refine Done.mk ?_
  refine ⟨1 + k1, ?_⟩
  refine ⟨?_, ?_⟩
  · rfl
  refine ⟨?_, ?_⟩
  · (unfold oneF; rw [h1])
  refine ⟨?_, ?_⟩
  · omega
  refine ⟨?_, ?_⟩
  · omega
  refine H.drop 0 ?_
  clear H
  intro H
  exact H
theorem copySi {v : Value} {xs : List SigD} (H : Sat g w (Sl 40 9 enSi v xs :: l)) (hl : xs.length ≤ 100000) : Fc Try.prog 35 #[v] w (fun u w' => Sat g w' (Sl 40 9 enSi u xs :: Sl 40 9 enSi v xs :: l)) := by
  refine Fc.of Try.func35 rfl (by kernel_rfl) ?_
  replace H := H.sl0 (en := enSi) (s := 9) (40) (fun _ => rfl)
  refine rApR 80 H 0 rfl (H.rdo (ok := fun _ => True) 1 rfl (fun _ _ => trivial)) (fun y _ => rfl) rfl rfl rfl (by (simp only [List.length_append, List.length_set, List.length_cons, List.length_nil]; omega)) (by (simp only [List.length_append, List.length_set, List.length_cons, List.length_nil]; omega)) ?_
  intro v1
  clear H
  intro w1 H
  refine Done.mk ?_
  exact H
end
end Go.Proofs.Yticdhdpfimpmoaa.Proc
/- Package proc's laws: crowd. -/
set_option maxRecDepth 100000
set_option maxHeartbeats 4000000
set_option linter.unusedVariables false
set_option linter.unusedSimpArgs false
namespace Go.Proofs.Yticdhdpfimpmoaa.Proc
open Go Go.Proofs.Yticdhdpfimpmoaa.Eng Go.RowKit
open Go.Proofs.Yticdhdpfimpmoaa.Eng.MG
def AllNew (xa : List ActV) : Prop := ∀ a ∈ xa, ∃ lb hb, a = new0 lb hb
theorem AllNew.snoc {xa : List ActV} (h : AllNew xa) (lb hb : Nat) : AllNew (xa ++ [new0 lb hb]) := fun a ha => by
  rcases List.mem_append.1 ha with ha | ha
  · exact h a ha
  · exact ⟨lb, hb, List.mem_singleton.1 ha⟩
theorem live_last {xa : List ActV} {a : ActV} {q2 : Int} (hq : q2 = xa.length + 1) (ha : a.alive = true) : liveAt 0 (xa ++ [a]) (0, q2) = some a := by
  refine liveAt_some (i := xa.length) ⟨rfl, by omega, by rw [List.length_append]; simp; omega⟩ (by omega) ?_ ha
  simp
section
variable {g : Glob} {w : World} {l : List As}
theorem crowd_ (H : Sat g w l) (n : Nat) (hn : n ≤ 8) : Fc Try.prog 17 #[.int .i64 n] w (fun r w' => ∃ p va xa, r = .tuple #[.pointer (some ⟨p, 0, none⟩), .bool true] ∧ xa.length = n ∧ AllNew xa ∧ Sat g w' (Pt p [.int .i64 0, va, .int .i64 0] 100 :: Sl 82 5 enAc va xa :: Acts xa :: l)) := by
  refine Fc.of Try.func17 rfl (by kernel_rfl) ?_
  refine CallP.mk (Fc.imp (Go.Proofs.Yticdhdpfimpmoaa.Proc.new_ H _ ?_) ?_)
  · omega
  clear H
  rintro _ w1 ⟨p1, ⟨e1, ⟨rfl, ⟨h1, H⟩⟩⟩⟩
  refine br_f (vNe_F (by assumption)) ?_
  refine rPtrNil rfl ?_
  refine cF rfl ?_
  replace H := (Sat.acts0 H).sl0 (en := enAc) (s := 5) 82 (fun _ => rfl)
  replace H := H.front (j := 2) rfl
  refine LoopP.rule (α := Nat × Value × List ActV) (0, .slice none 0 0, []) (fun x_ => [(20, .int .i64 x_.1)]) (fun x_ w_ => (x_.1 ≤ n) ∧ (x_.2.2.length = x_.1) ∧ (AllNew x_.2.2) ∧ Sat g w_ ((Pt p1 [.int .i64 0, x_.2.1, .int .i64 0] 100 :: Sl 82 5 enAc x_.2.1 x_.2.2 :: Acts x_.2.2 :: l))) (fun x_ => n - x_.1) ?_ ?_ ?_
  · repeat first | exact mt_nil | refine mt_cons rfl ?_ | refine mt_i rfl (by first | omega | (simp only; omega) | (simp; omega) | (simp; done)) ?_
  · try simp only
    refine ⟨?_, ?_⟩
    · omega
    refine ⟨?_, ?_⟩
    · rfl
    refine ⟨?_, ?_⟩
    · nofun
    exact H
  clear H
  rintro ⟨i, va, xa⟩ f_ w_ ⟨hi, hx, hA, H⟩
  try simp only at hi hx hA H ⊢
  refine cI (fun c1 => ?_) (fun c1 => ?_)
  · replace c1 := vLt_t (c1)
    refine bk ?_
    refine CallP.mk (Fc.imp (Go.Proofs.Yticdhdpfimpmoaa.Proc.spawn_ H ?_) ?_)
    · omega
    clear H
    rintro _ w2 ⟨va'1, ⟨lb1, ⟨hb1, ⟨e2, ⟨rfl, ⟨h2, H⟩⟩⟩⟩⟩⟩
    have hlv : liveAt 0 (xa ++ [new0 lb1 hb1]) (0, (xa.length : Int) + 1) = some (new0 lb1 hb1) := live_last rfl rfl
    refine rAllocS H rfl ?_
    clear H
    intro p2 w3 H
    clear w2
    refine rStAS H 0 rfl rfl rfl rfl ?_
    clear H
    intro w2 H
    clear w3
    refine br_f (vNe_F (by assumption)) ?_
    refine rLdA (H.at 0 rfl) 0 rfl rfl rfl ?_
    refine eqI64 (by omega) ?_
    refine rBuild rfl rfl rfl ?_
    refine rStructNe (by kernel_rfl) (by kernel_rfl) ?_
    refine br_f (not_F ((by exact pid_t ⟨rfl, by omega⟩))) ?_
    refine rLdA (H.at 0 rfl) 0 rfl rfl rfl ?_
    refine H.fronts [2, 2] ?_
    clear H
    intro H
    refine CallP.mk (Fc.imp (Go.Proofs.Yticdhdpfimpmoaa.Proc.alive_ H _ _ ?_ ?_) ?_)
    · (rw [List.length_append]; simp; omega)
    · omega
    clear H
    rintro _ w3 ⟨b1, ⟨rfl, ⟨h3, H⟩⟩⟩
    refine cF (not_F ((by (rw [h3, hlv]; rfl)))) ?_
    refine eqI64 (by omega) ?_
    refine Nxt.mk ((i + 1, va'1, xa ++ [new0 lb1 hb1])) (mt_i rfl (by first | omega | (simp only; omega) | (simp; omega)) (mt_nil)) ?_ ?_
    · refine ⟨?_, ?_⟩
      · omega
      refine ⟨?_, ?_⟩
      · (rw [List.length_append]; simp; omega)
      refine ⟨?_, ?_⟩
      · exact hA.snoc _ _
      refine H.fronts [3, 2, 2] ?_
      clear H
      intro H
      refine H.drop 3 ?_
      clear H
      intro H
      exact H
    omega
  replace c1 := vLt_f (c1)
  refine Done.mk ?_
  refine ⟨p1, va, xa, ?_⟩
  refine ⟨?_, ?_⟩
  · rfl
  refine ⟨?_, ?_⟩
  · omega
  refine ⟨?_, ?_⟩
  · assumption
  exact H
end
end Go.Proofs.Yticdhdpfimpmoaa.Proc
/- Slice expressions that only look: v[a:h] of a row that stays whole. -/
set_option maxRecDepth 100000
set_option linter.unusedVariables false
set_option linter.unusedSimpArgs false
namespace Go.Proofs.Yticdhdpfimpmoaa.Eng
open Go Go.RowKit
/-- v' is v[a:h], where v has n elements of s cells. -/
def Vw (v : Value) (s n a h : Nat) (v' : Value) : Prop := ∃ ad cap, v = .slice ad n cap ∧ h ≤ n ∧ n ≤ cap ∧ cap ≤ 9223372036854775807 ∧ a ≤ h ∧ v' = .slice (if cap = a then ad else ad.map (·.add (a * s))) (h - a) (cap - a)
section
variable {P : Program} {g : Glob} {w : World} {l : List As} {K : Value → World → Prop} {α : Type} {en : α → List Value} {ok : α → Prop} {s j n a h i b o : Nat} {v v' : Value} {xs : List α} {e t ty : TypeId}
theorem Sat.vw (H : Sat g w l) (j : Nat) (hj : l[j]? = some (Sl e s en v xs)) (a h : Nat) (ha : a ≤ h) (hh : h ≤ xs.length) : ∃ v', Vw v s xs.length a h v' := by
  rcases (H.off j hj).1 with ⟨rfl, rfl⟩ | ⟨g, o, cap, cur, rfl, _, _, _, hnc, hcm, _⟩
  · exact ⟨_, none, 0, rfl, hh, Nat.zero_le _, by omega, ha, rfl⟩
  · exact ⟨_, _, cap, rfl, hh, hnc, hcm, ha, rfl⟩
theorem rSlVw {lo hi : Option Value} (V : Vw v s n a h v') (ht : P.underlying t = some (.slice e)) (hsz : (P.info? e).map (fun i => i.size) = some s)
    (hlo : lo = none ∧ a = 0 ∨ ∃ k, lo = some (.int k a)) (hhi : hi = none ∧ h = n ∨ ∃ k, hi = some (.int k h)) (k : K v' w) : RunP P (Instr.sliceAt t v lo hi none) w K := by
  obtain ⟨ad, cap, rfl, hh, hnc, _, ha, rfl⟩ := V
  have hb : (Instr.sliceBounds true n cap lo hi none).run P w = .ok (a, h, cap) w := by
    unfold Instr.sliceBounds
    rcases hlo with ⟨rfl, rfl⟩ | ⟨kl, rfl⟩ <;> rcases hhi with ⟨rfl, rfl⟩ | ⟨kh, rfl⟩
    · simp
    · simp [run_sliceBound (P := P) w kh (h : Int) cap _ (by omega) (by omega)]
    · simp [run_sliceBound (P := P) w kl (a : Int) h _ (by omega) (by omega)]
    · simp [run_sliceBound (P := P) w kh (h : Int) cap _ (by omega) (by omega), run_sliceBound (P := P) w kl (a : Int) h _ (by omega) (by omega)]
  exact rSlB ht hsz hb k
theorem rLenVw (V : Vw v s n a h v') (ht : P.underlying t = some (.slice e)) (k : K (.int .i64 ((h - a : Nat) : Int)) w) : RunP P (Builtin.len_ #[t] ty #[v']) w K := by
  obtain ⟨ad, cap, rfl, hh, hnc, _, ha, rfl⟩ := V
  exact rLenSl ht k
theorem Sat.rdv (H : Sat g w l) (j : Nat) (hj : l[j]? = some (Sl e s en v xs)) (V : Vw v s n a h v') (hok : ∀ x ∈ (xs.take h).drop a, ok x) : Rd en ok s w v' ((xs.take h).drop a) := by
  have ho := H.off j hj
  obtain ⟨ad, cap, rfl, hh, hnc, _, ha, rfl⟩ := V
  obtain ⟨a', c', hf⟩ := H.form j hj
  injection hf with _ h2 _
  exact (ho.cut ha (by omega)).rd hok
theorem Vw.le (V : Vw v s n a h v') : h ≤ n ∧ a ≤ h := by
  obtain ⟨ad, cap, rfl, hh, hnc, _, ha, rfl⟩ := V; exact ⟨hh, ha⟩
theorem Vw.one (V : Vw v s n a h v') : v'.oneCell' = true := by obtain ⟨ad, cap, rfl, hh, hnc, _, ha, rfl⟩ := V; rfl
theorem Vw.el (V : Vw v s n a h v') (E : El v s (a + i) b o) (hi : i < h - a) : El v' s i b o := by
  obtain ⟨ad, cap, rfl, hh, hnc, _, ha, rfl⟩ := V
  obtain ⟨b0, n', c, hv, h1, rfl⟩ := E
  injection hv with e1 e2 e3
  subst e1
  refine ⟨b0 + a * s, h - a, cap - a, ?_, hi, by rw [Nat.add_mul]; omega⟩
  rw [if_neg (by omega)]
  simp [Addr.add_lit]
end
end Go.Proofs.Yticdhdpfimpmoaa.Eng
/- Package proc's laws: signals. -/
set_option maxRecDepth 100000
set_option maxHeartbeats 4000000
set_option linter.unusedVariables false
set_option linter.unusedSimpArgs false
namespace Go.Proofs.Yticdhdpfimpmoaa.Proc
open Go Go.Proofs.Yticdhdpfimpmoaa.Eng Go.RowKit
open Go.Proofs.Yticdhdpfimpmoaa.Eng.MG
abbrev sigA (s : SigD) : Value := .agg #[.int .i64 s.kind, .int .i64 s.fr.1, .int .i64 s.fr.2, .int .i64 s.to_.1, .int .i64 s.to_.2, .int .i64 s.ref, .int .i64 s.why, .int .i64 s.tag, .string (bs s.body)]
abbrev effA (f : EffD) (vo : Value) : Value := .agg #[.int .i64 f.fr.1, .int .i64 f.fr.2, .int .i64 f.tag, .string (bs f.body), .bool f.got, .bool f.lost, .bool f.died, .int .i64 f.why, vo]
abbrev Tr := List (SigD × EffD)
/-- What is kept while signals are taken. -/
structure SInv (Inv : Tr → List ActV → List SigD → Prop) : Prop where
  ok : ∀ tr xa s q, Inv tr xa (s :: q) → ¬ takeBad 0 s
  room : ∀ tr xa s q, Inv tr xa (s :: q) → xa.length ≤ 16 ∧ (-9223372036854775808 ≤ s.why ∧ s.why ≤ 9223372036854775807) ∧ tr.length ≤ 5000 ∧ q.length ≤ 90000
  lim : ∀ tr xa s q, Inv tr xa (s :: q) → ∀ x, liveAt 0 xa s.to_ = some x → x.ln ≤ 12 ∧ x.ws.length ≤ 1000 ∧ x.hn ≤ 1000
  step : ∀ tr xa s q xa' f, Inv tr xa (s :: q) → TakeR 0 xa s xa' f 0 → Inv (tr ++ [(s, f)]) xa' (q ++ f.out) ∧ f.out.length ≤ 1000
/-- What is called with each signal and what it did. -/
def SeeC (fid : FuncId) (cap : List Value) (Inv : Tr → List ActV → List SigD → Prop) (Z : Tr → As) : Prop :=
  ∀ (g : Glob) (w : World) (l : List As) (tr : Tr) (s : SigD) (f : EffD) (vo : Value) (q : List SigD) (xa xa' : List ActV), Inv tr xa (s :: q) → TakeR 0 xa s xa' f 0 → Sat g w (Z tr :: l) →
    Fc Try.prog fid (sigA s :: effA f vo :: cap).toArray w (fun r w' => Sat g w' (Z (tr ++ [(s, f)]) :: l))
theorem takeR_ok {nd : Int} {xa xa' : List ActV} {s : SigD} {f : EffD} {e : Int} (h : TakeR nd xa s xa' f e) (hb : ¬ takeBad nd s) : e = 0 := by
  cases h <;> first | rfl | exact absurd (by assumption) hb
section
variable {g : Glob} {w : World} {l : List As} {p : Nat} {va : Value} {refs : Int} {xa : List ActV}
theorem copySv {v v1 : Value} {xs : List SigD} {a h : Nat} (H : Sat g w (Sl 40 9 enSi v xs :: l)) (V : Vw v 9 xs.length a h v1) (hl : xs.length ≤ 100000) : Fc Try.prog 35 #[v1] w (fun u w' => ∃ ys, ys = (xs.take h).drop a ∧ Sat g w' (Sl 40 9 enSi u ys :: Sl 40 9 enSi v xs :: l)) := by
  refine Fc.of Try.func35 rfl (by kernel_rfl) ?_
  have hle : ((xs.take h).drop a).length ≤ 100000 := by rw [List.length_drop, List.length_take]; omega
  replace H := H.sl0 (en := enSi) (s := 9) (40) (fun _ => rfl)
  refine rApR 80 H 0 rfl (H.rdv (ok := fun _ => True) 1 rfl V (fun _ _ => trivial)) (fun y _ => rfl) rfl rfl rfl (by (simp only [List.length_append, List.length_set, List.length_cons, List.length_nil]; omega)) (by (simp only [List.length_append, List.length_set, List.length_cons, List.length_nil]; omega)) ?_
  intro v2
  clear H
  intro w1 H
  refine Done.mk ?_
  refine ⟨List.drop a (List.take h xs), ?_⟩
  refine ⟨?_, ?_⟩
  · rfl
  exact H
theorem signals_ {Inv : Tr → List ActV → List SigD → Prop} {Z : Tr → As} {fid : FuncId} {cap : List Value} (hI : SInv Inv) (hS : SeeC fid cap Inv Z) {v : Value} {q : List SigD} (h0 : Inv [] xa q) (hq : q.length ≤ 1000) (H : Sat g w (Sl 40 9 enSi v q :: Pt p [.int .i64 0, va, .int .i64 refs] 100 :: Sl 82 5 enAc va xa :: Acts xa :: Z [] :: l)) : Fc Try.prog 13 #[.pointer (some ⟨p, 0, none⟩), v, .func (.func fid) #[] cap.toArray] w (fun r w' => ∃ b tr xa', r = .bool b ∧ b = true ∧ Inv tr xa' [] ∧ Sat g w' (Pt p [.int .i64 0, va, .int .i64 refs] 100 :: Sl 82 5 enAc va xa' :: Acts xa' :: Z tr :: l)) := by
  refine Fc.of Try.func13 rfl (by kernel_rfl) ?_
  
  refine LoopP.rule (α := Tr × List ActV × List SigD × Value) ([], xa, q, v) (fun x_ => [(7, .int .i64 x_.1.length), (1, x_.2.2.2)]) (fun x_ w_ => (Inv x_.1 x_.2.1 x_.2.2.1) ∧ (x_.2.2.1.length + x_.1.length ≤ 1000 + 1000 * x_.1.length) ∧ Sat g w_ ((Sl 40 9 enSi x_.2.2.2 x_.2.2.1 :: Pt p [.int .i64 0, va, .int .i64 refs] 100 :: Sl 82 5 enAc va x_.2.1 :: Acts x_.2.1 :: Z x_.1 :: l))) (fun x_ => 5001 - x_.1.length) ?_ ?_ ?_
  · repeat first | exact mt_nil | refine mt_cons rfl ?_ | refine mt_i rfl (by first | omega | (simp only; omega) | (simp; omega) | (simp; done)) ?_
  · try simp only
    refine ⟨?_, ?_⟩
    · assumption
    refine ⟨?_, ?_⟩
    · assumption
    exact H
  clear H
  rintro ⟨tr, xa, q, v⟩ f_ w_ ⟨hI0, hq, H⟩
  try simp only at hI0 hq H ⊢
  cases q with
  | nil =>
    refine rLenS H 0 rfl rfl ?_
    refine cF (vLt_F (by (simp only [List.length_append, List.length_set, List.length_cons, List.length_nil]; omega))) ?_
    refine Done.mk ?_
    exact ⟨true, tr, xa, rfl, rfl, hI0, H.del 0⟩
  | cons s q =>
    have hok := hI.ok _ _ _ _ hI0
    obtain ⟨hl16, hwy, htl, hql⟩ := hI.room _ _ _ _ hI0
    have hlim := hI.lim _ _ _ _ hI0
    have hLC := linksC
    refine rLenS H 0 rfl rfl ?_
    refine cT (vLt_T (by (simp only [List.length_append, List.length_set, List.length_cons, List.length_nil]; omega))) ?_
    refine bk ?_
    obtain ⟨x1, hx1⟩ : ∃ x, (s :: q)[0]? = some x := ⟨_, List.getElem?_eq_getElem (by (simp only [List.length_append, List.length_set, List.length_cons, List.length_nil]; omega))⟩
    obtain ⟨b1, o1, E1⟩ := H.elt 0 rfl 0 (by (simp only [List.length_append, List.length_set, List.length_cons, List.length_nil]; omega))
    refine rIxE E1 rfl rfl rfl ?_
    refine rLdA (H.el 0 rfl E1 hx1) 0 rfl rfl rfl ?_
    obtain rfl : s = x1 := Option.some.inj hx1
    refine H.fronts [3, 3, 3] ?_
    clear H
    intro H
    refine CallP.mk (Fc.imp (Go.Proofs.Yticdhdpfimpmoaa.Proc.take_ H _ ?_ ?_ ?_ ?_) ?_)
    · assumption
    · assumption
    · assumption
    · assumption
    clear H
    rintro _ w1 ⟨f1, ⟨vo1, ⟨xa'1, ⟨e1, ⟨rfl, ⟨h1, H⟩⟩⟩⟩⟩⟩
    have he0 := takeR_ok h1 hok
    have h10 := h1
    rw [he0] at h10
    obtain ⟨hI1, hfo⟩ := hI.step _ _ _ _ _ _ hI0 h10
    refine rAllocS H rfl ?_
    clear H
    intro p1 w2 H
    clear w1
    refine rStAS H 0 rfl rfl rfl (by simp only [List.all_cons, List.all_nil, H.one 1 rfl, H.one 3 rfl, H.one 5 rfl]; rfl) ?_
    clear H
    intro w1 H
    clear w2
    refine br_f (vNe_F (by assumption)) ?_
    refine cF (vLt_F (by omega)) ?_
    refine drawzS H [] [(0, .pure), (1, .pure), (2, .pure), (3, .held), (4, .held), (5, .free)] mixed (by kernel_rfl) (by kernel_rfl) ?_
    clear H
    intro w2 H
    clear w1
    refine tk (fun wx HS => rIxE E1 rfl rfl rfl ⟨rfl, rfl⟩) ?_
    refine tk (fun wx HS => rLdA (HS.el 5 rfl E1 hx1) 0 rfl rfl rfl ⟨rfl, rfl⟩) ?_
    refine tk (fun wx HS => rLdA (HS.at 0 rfl) 0 rfl rfl rfl ⟨rfl, rfl⟩) ?_
    refine CallP.mk (Fc.imp (hS g _ _ tr s f1 vo1 q xa xa'1 hI0 h10 (H.front (j := 6) rfl)) ?_)
    clear H
    intro r1 w3 H
    simp only [List.eraseIdx] at H
    refine drawzS H [] [(0, .pure), (1, .pure), (3, .pure), (4, .held), (2, .forced), (5, .free), (6, .pure)] mixed (by kernel_rfl) (by kernel_rfl) ?_
    clear H
    intro w1 H
    clear w3
    obtain ⟨v1, V1⟩ := H.vw 6 rfl (1) ((s :: q).length) (by (simp only [List.length_append, List.length_set, List.length_cons, List.length_nil]; omega)) (by (simp only [List.length_append, List.length_set, List.length_cons, List.length_nil]; omega))
    refine tk (fun wx HS => rSlVw V1 rfl rfl (.inr ⟨_, by first | rfl | (congr 2; omega)⟩) (.inl ⟨rfl, rfl⟩) ⟨rfl, rfl⟩) ?_
    refine tk (fun wx HS => rFieldAt rfl ⟨rfl, rfl⟩) ?_
    refine tk (fun wx HS => rLd (HS.at 1 rfl) 8 rfl rfl rfl ⟨rfl, rfl⟩) ?_
    refine CallP.mk (Fc.imp (copySv (H.front (j := 6) rfl) V1 (by simp; omega)) ?_)
    clear H
    rintro r2 w4 ⟨ys, hys, H⟩
    simp only [List.eraseIdx] at H
    rw [List.take_length, List.drop_one, List.tail_cons] at hys
    subst hys
    have hlen1 : (tr ++ [(s, f1)]).length = tr.length + 1 := by rw [List.length_append]; rfl
    have hlen2 : (ys ++ f1.out).length = ys.length + f1.out.length := List.length_append
    have hlen3 : (s :: ys).length = ys.length + 1 := rfl
    refine H.fronts [1, 7, 7, 7, 7, 7, 7] ?_
    clear H
    intro H
    refine KeepP.mk (H.drop 7 (fun H => H)) ?_
    refine rApR 80 H 7 rfl (H.rdo (ok := fun _ => True) 2 rfl (fun _ _ => trivial)) (fun y _ => rfl) rfl rfl rfl (by omega) (by omega) ?_
    intro v2
    clear H
    intro w3 H
    clear w4
    refine eqI64 (by omega) ?_
    refine Nxt.mk ((tr ++ [(s, f1)], xa'1, ys ++ f1.out, v2)) (mt_i rfl (by first | omega | (simp only; omega) | (simp; omega)) (mt_cons rfl (mt_nil))) ?_ ?_
    · refine ⟨?_, ?_⟩
      · assumption
      refine ⟨?_, ?_⟩
      · (simp only [List.length_append, List.length_set, List.length_cons, List.length_nil]; omega)
      refine H.fronts [0, 5, 5, 5, 7] ?_
      clear H
      intro H
      refine H.drop 7 ?_
      clear H
      intro H
      refine H.drop 6 ?_
      clear H
      intro H
      refine H.drop 5 ?_
      clear H
      intro H
      exact H
    (simp only [List.length_append, List.length_set, List.length_cons, List.length_nil]; omega)
end
end Go.Proofs.Yticdhdpfimpmoaa.Proc
/- Package proc: what Take does, turned round. -/
set_option maxRecDepth 100000
set_option maxHeartbeats 4000000
set_option linter.unusedVariables false
set_option linter.unusedSimpArgs false
namespace Go.Proofs.Yticdhdpfimpmoaa.Proc
open Go Go.Proofs.Yticdhdpfimpmoaa.Eng Go.RowKit
open Go.Proofs.Yticdhdpfimpmoaa.Eng.MG
theorem linksY {g : Glob} {w : World} {l : List As} {p : Nat} {va : Value} {refs nd : Int} {xa : List ActV} (H : Sat g w (Pt p [.int .i64 nd, va, .int .i64 refs] 100 :: Sl 82 5 enAc va xa :: Acts xa :: l)) (q1 q2 : Int) (hl : xa.length ≤ 16) (x : ActV) (hn : liveAt nd xa (q1, q2) = some x) (hln : x.ln ≤ 12) : Fc Try.prog 23 #[.pointer (some ⟨p, 0, none⟩), .agg #[.int .i64 q1, .int .i64 q2]] w (fun r w' => ∃ ks, KeysOf x.lf ks ∧ ks.length ≤ 12 ∧ Sat g w' (Sl 31 2 enPd r ks :: Pt p [.int .i64 nd, va, .int .i64 refs] 100 :: Sl 82 5 enAc va xa :: Acts xa :: l)) :=
  linksC g w l p va refs nd xa H q1 q2 hl x hn hln
section
variable {nd : Int} {xa xa' : List ActV} {s : SigD} {f : EffD} {e : Int}
theorem TakeR.gone' (h : TakeR nd xa s xa' f e) (hb : ¬ takeBad nd s) (hn : liveAt nd xa s.to_ = none) : xa' = xa ∧ f = missedF s := by
  cases h with
  | bad h => exact absurd h hb
  | gone _ _ => exact ⟨rfl, rfl⟩
  | lett _ h2 _ => rw [hn] at h2; cases h2
  | self _ h2 _ _ => rw [hn] at h2; cases h2
  | link _ h2 _ _ => rw [hn] at h2; cases h2
  | unlink _ h2 _ => rw [hn] at h2; cases h2
  | exit _ h2 _ _ => rw [hn] at h2; cases h2
  | watch _ h2 _ => rw [hn] at h2; cases h2
  | other _ h2 _ _ => rw [hn] at h2; cases h2
  | down _ h2 _ _ => rw [hn] at h2; cases h2
theorem TakeR.exit' (h : TakeR nd xa s xa' f e) (hb : ¬ takeBad nd s) {x : ActV} (hn : liveAt nd xa s.to_ = some x) (k : s.kind = 4) : ExR nd xa s x xa' f := by
  cases h with
  | bad h => exact absurd h hb
  | gone _ h2 => rw [hn] at h2; cases h2
  | lett _ h2 k2 => omega
  | self _ h2 k2 _ => omega
  | link _ h2 k2 _ => omega
  | unlink _ h2 k2 => omega
  | exit _ h2 _ h3 => rw [hn] at h2; obtain rfl := Option.some.inj h2; exact h3
  | watch _ h2 k2 => omega
  | other _ h2 k2 _ => omega
  | down _ h2 k2 _ => omega
theorem TakeR.link' (h : TakeR nd xa s xa' f e) (hb : ¬ takeBad nd s) {x : ActV} (hn : liveAt nd xa s.to_ = some x) (k : s.kind = 2) (hne : s.fr ≠ s.to_) : xa' = xa.set (ix s.to_) (x.setL (upd x.lf s.fr (some 1)) (if x.lf s.fr = none then x.ln + 1 else x.ln)) ∧ f = eff0 := by
  cases h with
  | bad h => exact absurd h hb
  | gone _ h2 => rw [hn] at h2; cases h2
  | lett _ h2 k2 => omega
  | self _ h2 k2 h3 => exact absurd h3 hne
  | link _ h2 _ _ => rw [hn] at h2; obtain rfl := Option.some.inj h2; exact ⟨rfl, rfl⟩
  | unlink _ h2 k2 => omega
  | exit _ h2 k2 h3 => omega
  | watch _ h2 k2 => omega
  | other _ h2 k2 _ => omega
  | down _ h2 k2 _ => omega
theorem TakeR.unlink' (h : TakeR nd xa s xa' f e) (hb : ¬ takeBad nd s) {x : ActV} (hn : liveAt nd xa s.to_ = some x) (k : s.kind = 3) : xa' = xa.set (ix s.to_) (x.setL (upd x.lf s.fr none) (if x.lf s.fr = none then x.ln else x.ln - 1)) ∧ f = eff0 := by
  cases h with
  | bad h => exact absurd h hb
  | gone _ h2 => rw [hn] at h2; cases h2
  | lett _ h2 k2 => omega
  | self _ h2 k2 h3 => omega
  | link _ h2 k2 _ => omega
  | unlink _ h2 k2 => rw [hn] at h2; obtain rfl := Option.some.inj h2; exact ⟨rfl, rfl⟩
  | exit _ h2 k2 h3 => omega
  | watch _ h2 k2 => omega
  | other _ h2 k2 _ => omega
  | down _ h2 k2 _ => omega
theorem TakeR.down' (h : TakeR nd xa s xa' f e) (hb : ¬ takeBad nd s) {x : ActV} (hn : liveAt nd xa s.to_ = some x) (k : s.kind = 6) (hw : x.hf s.ref = some s.fr) : xa' = xa.set (ix s.to_) (x.setH (upd x.hf s.ref none) (x.hn - 1)) ∧ f = { eff0 with fr := s.fr, tag := 61, body := [UInt8.ofNat (s.ref % 256).toNat, UInt8.ofNat (s.why % 256).toNat], got := true } := by
  cases h with
  | bad h => exact absurd h hb
  | gone _ h2 => rw [hn] at h2; cases h2
  | lett _ h2 k2 => omega
  | self _ h2 k2 h3 => omega
  | link _ h2 k2 _ => omega
  | unlink _ h2 k2 => omega
  | exit _ h2 k2 h3 => omega
  | watch _ h2 k2 => omega
  | other _ h2 k2 h3 => rw [hn] at h2; obtain rfl := Option.some.inj h2; exact absurd hw h3
  | down _ h2 k2 _ => rw [hn] at h2; obtain rfl := Option.some.inj h2; exact ⟨rfl, rfl⟩
theorem TakeR.other' (h : TakeR nd xa s xa' f e) (hb : ¬ takeBad nd s) {x : ActV} (hn : liveAt nd xa s.to_ = some x) (k : s.kind = 6) (hw : x.hf s.ref ≠ some s.fr) : xa' = xa ∧ f = eff0 := by
  cases h with
  | bad h => exact absurd h hb
  | gone _ h2 => rw [hn] at h2; cases h2
  | lett _ h2 k2 => omega
  | self _ h2 k2 h3 => omega
  | link _ h2 k2 _ => omega
  | unlink _ h2 k2 => omega
  | exit _ h2 k2 h3 => omega
  | watch _ h2 k2 => omega
  | other _ h2 k2 h3 => exact ⟨rfl, rfl⟩
  | down _ h2 k2 h3 => rw [hn] at h2; obtain rfl := Option.some.inj h2; exact absurd h3 hw
end
theorem upd_upd_none {κ β : Type} [DecidableEq κ] {f : κ → Option β} {k : κ} {o : Option β} (h : f k = none) : upd (upd f k o) k none = f := by
  funext x
  unfold upd
  split
  · rename_i e; subst e; exact h.symm
  · rfl
theorem keys_nil {f : LF} {ks : List PidD} (h : KeysOf f ks) (h0 : ∀ k, f k = none) : ks = [] := by
  cases ks with
  | nil => rfl
  | cons k r => exact absurd (h0 k) ((h.mem k).1 (by simp))
end Go.Proofs.Yticdhdpfimpmoaa.Proc
/- Package proc: how exits spread (no program in sight). -/
set_option maxRecDepth 100000
set_option maxHeartbeats 4000000
set_option linter.unusedVariables false
set_option linter.unusedSimpArgs false
namespace Go.Proofs.Yticdhdpfimpmoaa.Proc
open Go Go.Proofs.Yticdhdpfimpmoaa.Eng Go.RowKit
open Go.Proofs.Yticdhdpfimpmoaa.Eng.MG
/-- n keys are set. -/
def CntOk (f : LF) (n : Nat) : Prop := ∃ ks : List PidD, ks.Nodup ∧ (∀ k, k ∈ ks ↔ f k ≠ none) ∧ ks.length = n
theorem CntOk.put {f : LF} {n : Nat} (h : CntOk f n) (k : PidD) (v : Int) : CntOk (upd f k (some v)) (if f k = none then n + 1 else n) := by
  obtain ⟨ks, h1, h2, h3⟩ := h
  by_cases hk : f k = none
  · rw [if_pos hk]
    refine ⟨k :: ks, List.nodup_cons.2 ⟨fun hm => (h2 k).1 hm hk, h1⟩, fun x => ?_, by simp [h3]⟩
    unfold upd
    by_cases hx : x = k
    · simp [hx]
    · simp [hx, h2]
  · rw [if_neg hk]
    refine ⟨ks, h1, fun x => ?_, h3⟩
    unfold upd
    by_cases hx : x = k
    · subst hx; simp [h2, hk]
    · simp [hx, h2]
theorem CntOk.del {f : LF} {n : Nat} (h : CntOk f n) {k : PidD} (hk : f k ≠ none) : CntOk (upd f k none) (n - 1) ∧ 1 ≤ n := by
  obtain ⟨ks, h1, h2, h3⟩ := h
  have hm := (h2 k).2 hk
  refine ⟨⟨ks.erase k, h1.erase k, fun x => ?_, by rw [List.length_erase_of_mem hm, h3]⟩, by rw [← h3]; exact List.length_pos_of_mem hm⟩
  unfold upd
  rw [h1.mem_erase_iff, h2]
  by_cases hx : x = k
  · simp [hx]
  · simp [hx]
theorem CntOk.del0 {f : LF} {n : Nat} (h : CntOk f n) (k : PidD) : CntOk (upd f k none) (if f k = none then n else n - 1) := by
  by_cases hk : f k = none
  · rw [if_pos hk]
    have : upd f k none = f := by
      funext x; unfold upd; split
      · rename_i e; subst e; exact hk.symm
      · rfl
    rw [this]; exact h
  · rw [if_neg hk]; exact (h.del hk).1
theorem CntOk.zero : CntOk (fun _ => none) 0 := ⟨[], List.nodup_nil, fun k => by simp, rfl⟩
theorem KeysOf.nodup {f : LF} {ks : List PidD} (h : KeysOf f ks) : ks.Nodup := by
  rw [List.nodup_iff_pairwise_ne]
  refine h.ord.imp fun {a b} hab he => ?_
  subst he
  unfold pidLt at hab
  omega
theorem CntOk.len {f : LF} {n : Nat} (h : CntOk f n) {ks : List PidD} (hk : KeysOf f ks) : ks.length = n := by
  obtain ⟨ls, h1, h2, h3⟩ := h
  rw [← h3]
  exact ((List.perm_ext_iff_of_nodup hk.nodup h1).2 fun a => (hk.mem a).trans (h2 a).symm).length_eq
def InP (p : PidD) : Prop := p.1 = 0 ∧ 1 ≤ p.2 ∧ p.2 ≤ 8
theorem CntOk.le8 {f : LF} {n : Nat} (h : CntOk f n) (hk : ∀ k, f k ≠ none → InP k) : n ≤ 8 := by
  obtain ⟨ks, h1, h2, h3⟩ := h
  rw [← h3]
  refine h1.length_le_of_subset (l₂ := [(0, 1), (0, 2), (0, 3), (0, 4), (0, 5), (0, 6), (0, 7), (0, 8)]) fun k hm => ?_
  obtain ⟨a, b, c⟩ := hk k ((h2 k).1 hm)
  obtain ⟨k1, k2⟩ := k
  simp only at a b c
  subst a
  have : k2 = 1 ∨ k2 = 2 ∨ k2 = 3 ∨ k2 = 4 ∨ k2 = 5 ∨ k2 = 6 ∨ k2 = 7 ∨ k2 = 8 := by omega
  rcases this with rfl | rfl | rfl | rfl | rfl | rfl | rfl | rfl <;> simp
section
variable {nd : Int} {xa : List ActV} {q p : PidD} {x y : ActV}
theorem ix_inj (hp : 1 ≤ p.2) (hq : 1 ≤ q.2) (h1 : p.1 = q.1) (h : ix p = ix q) : p = q := by
  unfold ix at h
  exact Prod.ext h1 (by omega)
theorem liveAt_set (hq : liveAt nd xa q = some x) (p : PidD) (y : ActV) : liveAt nd (xa.set (ix q) y) p = if p = q then (if y.alive = true then some y else none) else liveAt nd xa p := by
  obtain ⟨hx, hal, h1, h2, h3⟩ := live_inv hq
  have hi := (List.getElem?_eq_some_iff.1 hx).1
  by_cases hpq : p = q
  · subst hpq
    rw [if_pos rfl]
    unfold liveAt
    rw [if_pos (by rw [List.length_set]; exact ⟨h1, h2, h3⟩), show (xa.set (ix p) y)[(p.2 - 1).toNat]? = some y from List.getElem?_set_self hi]
  · rw [if_neg hpq]
    unfold liveAt
    rw [List.length_set]
    by_cases hr : p.1 = nd ∧ 1 ≤ p.2 ∧ p.2 ≤ xa.length
    · rw [if_pos hr, if_pos hr]
      have hne : ix q ≠ (p.2 - 1).toNat := fun e => hpq (ix_inj hr.2.1 h2 (hr.1.trans h1.symm) e.symm)
      rw [List.getElem?_set_ne hne]
    · rw [if_neg hr, if_neg hr]
theorem liveAt_setL (hq : liveAt nd xa q = some x) (hy : y.alive = true) (p : PidD) : liveAt nd (xa.set (ix q) y) p = if p = q then some y else liveAt nd xa p := by
  rw [liveAt_set hq, if_pos hy]
theorem liveAt_setD (hq : liveAt nd xa q = some x) (p : PidD) : liveAt nd (xa.set (ix q) .dead) p = if p = q then none else liveAt nd xa p := by
  rw [liveAt_set hq, if_neg Bool.false_ne_true]
end
def wgt (xa : List ActV) : Nat := (xa.map ActV.ln).sum
theorem wgt_set {xa : List ActV} {i : Nat} {x y : ActV} (h : xa[i]? = some x) : wgt (xa.set i y) + x.ln = wgt xa + y.ln := by
  induction xa generalizing i with
  | nil => cases h
  | cons z r ih =>
    cases i with
    | zero => obtain rfl := Option.some.inj h; simp [wgt]; omega
    | succ i =>
      have := ih (i := i) h
      simp only [wgt, List.set_cons_succ, List.map_cons, List.sum_cons] at this ⊢
      omega
structure WfA (p : PidD) (x : ActV) : Prop where
  ws : x.ws = []
  hn : x.hn = 0
  cnt : CntOk x.lf x.ln
  keys : ∀ k, x.lf k ≠ none → InP k ∧ k ≠ p
/-- While exits are under way. -/
structure EP (xa : List ActV) (q : List SigD) : Prop where
  len : xa.length ≤ 8
  wf : ∀ p x, liveAt 0 xa p = some x → WfA p x
  sig : ∀ s ∈ q, s.kind = 4 ∧ (0 ≤ s.why ∧ s.why ≤ 255) ∧ InP s.to_ ∧ s.fr ≠ s.to_ ∧ liveAt 0 xa s.fr = none
  sym : ∀ p x k, liveAt 0 xa p = some x → x.lf k ≠ none → (∃ y, liveAt 0 xa k = some y ∧ y.lf p ≠ none) ∨ (∃ s ∈ q, s.fr = k ∧ s.to_ = p)
theorem ep_bad {s : SigD} (hk : 1 ≤ s.kind ∧ s.kind ≤ 6) (hp : InP s.to_) : ¬ takeBad 0 s := by
  unfold takeBad
  obtain ⟨a, b, c⟩ := hp
  omega
/-- What an exit does. -/
inductive XCase (xa : List ActV) (s : SigD) : List ActV → EffD → Prop
  | none (h : ∀ x, liveAt 0 xa s.to_ = some x → x.lf s.fr = none) : XCase xa s xa eff0
  | trap {x : ActV} (hn : liveAt 0 xa s.to_ = some x) (hl : x.lf s.fr ≠ none) (ht : x.trap = true) : XCase xa s (xa.set (ix s.to_) (x.setL (upd x.lf s.fr none) (x.ln - 1))) { eff0 with fr := s.fr, tag := 62, body := [UInt8.ofNat (s.why % 256).toNat], got := true }
  | calm {x : ActV} (hn : liveAt 0 xa s.to_ = some x) (hl : x.lf s.fr ≠ none) (ht : x.trap = false) (hw : s.why = 0) : XCase xa s (xa.set (ix s.to_) (x.setL (upd x.lf s.fr none) (x.ln - 1))) eff0
  | dies {x : ActV} {ks : List PidD} (hn : liveAt 0 xa s.to_ = some x) (hl : x.lf s.fr ≠ none) (ht : x.trap = false) (hw : s.why ≠ 0) (hk : KeysOf (upd x.lf s.fr none) ks) : XCase xa s (xa.set (ix s.to_) .dead) { eff0 with died := true, why := s.why, out := ks.map (exS s.to_ s.why) }
theorem setL_lf {x : ActV} (h : x.alive = true) (f : LF) (n : Nat) : (x.setL f n).lf = f ∧ (x.setL f n).ln = n ∧ (x.setL f n).ws = x.ws ∧ (x.setL f n).hn = x.hn ∧ (x.setL f n).trap = x.trap ∧ (x.setL f n).alive = true ∧ (x.setL f n).hf = x.hf := by
  cases x with
  | dead => cases h
  | live t lb lf ln wa wc ws hb hf hn => exact ⟨rfl, rfl, rfl, rfl, rfl, rfl, rfl⟩
theorem xcase {xa xa' : List ActV} {s : SigD} {q : List SigD} {f : EffD} (h : EP xa (s :: q)) (hT : TakeR 0 xa s xa' f 0) : XCase xa s xa' f := by
  obtain ⟨hk, hw, hp, hne, hd⟩ := h.sig s (by simp)
  have hb := ep_bad (by omega) hp
  cases hn : liveAt 0 xa s.to_ with
  | none =>
    obtain ⟨rfl, rfl⟩ := hT.gone' hb hn
    rw [ms0 (by omega) (by omega) (by omega)]
    exact .none fun x hx => by rw [hn] at hx; cases hx
  | some x =>
    have hE := hT.exit' hb hn hk
    have hal := (live_inv hn).2.1
    by_cases hl : x.lf s.fr = none
    · obtain ⟨rfl, rfl⟩ := hE.no hl
      exact .none fun y hy => by rw [hn] at hy; obtain rfl := Option.some.inj hy; exact hl
    · cases ht : x.trap with
      | true => obtain ⟨rfl, rfl⟩ := hE.trap hl ht; exact .trap hn hl ht
      | false =>
        by_cases hw0 : s.why = 0
        · obtain ⟨rfl, rfl⟩ := hE.calm hl ht hw0; exact .calm hn hl ht hw0
        · obtain ⟨sg, e, hR, rfl⟩ := hE.dies hl ht hw0
          obtain ⟨e1, e2, e3, e4, e5, e6, e7⟩ := setL_lf hal (upd x.lf s.fr none) (x.ln - 1)
          obtain ⟨ks, hks, rfl, hsg, _⟩ := hR.yes _ (live_set hn e6)
          rw [e1] at hks
          rw [e3, (h.wf _ _ hn).ws] at hsg
          rw [List.set_set, hsg]
          have := XCase.dies hn hl ht hw0 hks
          simpa using this
theorem EP.cut {xa : List ActV} {s : SigD} {q : List SigD} {x : ActV} (h : EP xa (s :: q)) (hn : liveAt 0 xa s.to_ = some x) (hl : x.lf s.fr ≠ none) : EP (xa.set (ix s.to_) (x.setL (upd x.lf s.fr none) (x.ln - 1))) q ∧ q.length + wgt (xa.set (ix s.to_) (x.setL (upd x.lf s.fr none) (x.ln - 1))) + 1 ≤ (s :: q).length + wgt xa := by
  obtain ⟨hk4, hwy, hp, hne, hd⟩ := h.sig s (by simp)
  have hal := (live_inv hn).2.1
  obtain ⟨e1, e2, e3, e4, e5, e6, e7⟩ := setL_lf hal (upd x.lf s.fr none) (x.ln - 1)
  have hw := h.wf _ _ hn
  have hL := liveAt_setL hn e6
  have hlive : ∀ p z, liveAt 0 xa p = some z → p ≠ s.fr := fun p z hz e => by rw [e, hd] at hz; cases hz
  refine ⟨⟨by rw [List.length_set]; exact h.len, fun p z hz => ?_, fun s' hs => ?_, fun p z k hz hlk => ?_⟩, ?_⟩
  · rw [hL] at hz
    split at hz
    · rename_i e; subst e
      obtain rfl := Option.some.inj hz
      refine ⟨e3.trans hw.ws, e4.trans hw.hn, by rw [e1, e2]; exact (hw.cnt.del hl).1, fun k hk => ?_⟩
      rw [e1] at hk
      by_cases hkf : k = s.fr
      · subst hkf; exact absurd (upd_same _ _ _) hk
      · rw [upd_ne _ _ hkf] at hk; exact hw.keys k hk
    · exact h.wf p z hz
  · obtain ⟨a, b, c, d, e⟩ := h.sig s' (by simp [hs])
    refine ⟨a, b, c, d, ?_⟩
    rw [hL, if_neg (fun he => by rw [he, hn] at e; cases e)]
    exact e
  · rw [hL] at hz
    split at hz
    · rename_i e; subst e
      obtain rfl := Option.some.inj hz
      rw [e1] at hlk
      have hkf : k ≠ s.fr := fun e => by subst e; exact hlk (upd_same _ _ _)
      rw [upd_ne _ _ hkf] at hlk
      rcases h.sym _ _ k hn hlk with ⟨y, hy, hy2⟩ | ⟨s', hs, h1, h2⟩
      · have hkt := (hw.keys k hlk).2
        exact .inl ⟨y, by rw [hL, if_neg hkt]; exact hy, hy2⟩
      · rcases List.mem_cons.1 hs with rfl | hs
        · exact absurd h1.symm hkf
        · exact .inr ⟨s', hs, h1, h2⟩
    · rename_i hpt
      rcases h.sym p z k hz hlk with ⟨y, hy, hy2⟩ | ⟨s', hs, h1, h2⟩
      · by_cases hkt : k = s.to_
        · subst hkt
          rw [hn] at hy
          obtain rfl := Option.some.inj hy
          refine .inl ⟨_, by rw [hL, if_pos rfl], ?_⟩
          rw [e1, upd_ne _ _ (hlive p z hz)]
          exact hy2
        · exact .inl ⟨y, by rw [hL, if_neg hkt]; exact hy, hy2⟩
      · rcases List.mem_cons.1 hs with rfl | hs
        · exact absurd h2.symm hpt
        · exact .inr ⟨s', hs, h1, h2⟩
  · have hg := wgt_set (y := x.setL (upd x.lf s.fr none) (x.ln - 1)) (live_inv hn).1
    rw [e2] at hg
    simp only [List.length_cons]
    omega
theorem EP.die {xa : List ActV} {q : List SigD} {t : PidD} {x : ActV} {ks : List PidD} {why : Int} (hlen : xa.length ≤ 8) (hwf : ∀ p z, liveAt 0 xa p = some z → WfA p z) (hsig : ∀ s ∈ q, s.kind = 4 ∧ (0 ≤ s.why ∧ s.why ≤ 255) ∧ InP s.to_ ∧ s.fr ≠ s.to_ ∧ liveAt 0 xa s.fr = none)
    (hn : liveAt 0 xa t = some x) (hwy : 0 ≤ why ∧ why ≤ 255) (hks : ∀ k ∈ ks, InP k ∧ k ≠ t) (hsym : ∀ p z k, p ≠ t → liveAt 0 xa p = some z → z.lf k ≠ none → (k = t ∧ p ∈ ks) ∨ (k ≠ t ∧ ∃ y, liveAt 0 xa k = some y ∧ y.lf p ≠ none) ∨ (∃ s ∈ q, s.fr = k ∧ s.to_ = p)) : EP (xa.set (ix t) .dead) (q ++ ks.map (exS t why)) := by
  have hL := liveAt_setD hn
  refine ⟨by rw [List.length_set]; exact hlen, fun p z hz => ?_, fun s' hs => ?_, fun p z k hz hlk => ?_⟩
  · rw [hL] at hz
    split at hz
    · cases hz
    · exact hwf p z hz
  · rcases List.mem_append.1 hs with hs | hs
    · obtain ⟨a, b, c, d, e⟩ := hsig s' hs
      refine ⟨a, b, c, d, ?_⟩
      rw [hL, e]; split <;> rfl
    · obtain ⟨k, hk, rfl⟩ := List.mem_map.1 hs
      obtain ⟨h1, h2⟩ := hks k hk
      exact ⟨rfl, hwy, h1, fun e => h2 e.symm, by rw [hL]; exact if_pos rfl⟩
  · rw [hL] at hz
    split at hz
    · cases hz
    · rename_i hpt
      rcases hsym p z k hpt hz hlk with ⟨rfl, hp⟩ | ⟨hkt, y, hy, hy2⟩ | ⟨s', hs, h1, h2⟩
      · exact .inr ⟨exS k why p, List.mem_append_right _ (List.mem_map.2 ⟨p, hp, rfl⟩), rfl, rfl⟩
      · exact .inl ⟨y, by rw [hL, if_neg hkt]; exact hy, hy2⟩
      · exact .inr ⟨s', List.mem_append_left _ hs, h1, h2⟩
theorem EP.dies {xa : List ActV} {s : SigD} {q : List SigD} {x : ActV} {ks : List PidD} (h : EP xa (s :: q)) (hn : liveAt 0 xa s.to_ = some x) (hl : x.lf s.fr ≠ none) (hks : KeysOf (upd x.lf s.fr none) ks) : EP (xa.set (ix s.to_) .dead) (q ++ ks.map (exS s.to_ s.why)) ∧ (q ++ ks.map (exS s.to_ s.why)).length + wgt (xa.set (ix s.to_) .dead) + 1 ≤ (s :: q).length + wgt xa := by
  obtain ⟨hk4, hwy, hp, hne, hd⟩ := h.sig s (by simp)
  have hw := h.wf _ _ hn
  have hlive : ∀ p z, liveAt 0 xa p = some z → p ≠ s.fr := fun p z hz e => by rw [e, hd] at hz; cases hz
  refine ⟨EP.die h.len h.wf (fun s' hs => h.sig s' (by simp [hs])) hn hwy (fun k hk => ?_) (fun p z k hpt hz hlk => ?_), ?_⟩
  · have hk := (hks.mem k).1 hk
    by_cases hkf : k = s.fr
    · subst hkf; exact absurd (upd_same _ _ _) hk
    · rw [upd_ne _ _ hkf] at hk; exact hw.keys k hk
  · rcases h.sym p z k hz hlk with ⟨y, hy, hy2⟩ | ⟨s', hs, h1, h2⟩
    · by_cases hkt : k = s.to_
      · subst hkt
        rw [hn] at hy
        obtain rfl := Option.some.inj hy
        refine .inl ⟨rfl, (hks.mem p).2 ?_⟩
        rw [upd_ne _ _ (hlive p z hz)]
        exact hy2
      · exact .inr (.inl ⟨hkt, y, hy, hy2⟩)
    · rcases List.mem_cons.1 hs with rfl | hs
      · exact absurd h2.symm hpt
      · exact .inr (.inr ⟨s', hs, h1, h2⟩)
  · have hg := wgt_set (y := .dead) (live_inv hn).1
    have hc := hw.cnt.del hl
    have hkl := hc.1.len hks
    have : ActV.ln .dead = 0 := rfl
    simp only [List.length_cons, List.length_append, List.length_map]
    omega
/-- An actor that ends by itself. -/
theorem EP.endd {xa xa' : List ActV} {t : PidD} {x : ActV} {sg : List SigD} {why e : Int} (h : EP xa []) (hn : liveAt 0 xa t = some x) (hwy : 0 ≤ why ∧ why ≤ 255) (hR : EndR 0 xa t why xa' sg e) : EP xa' sg ∧ sg.length + wgt xa' ≤ wgt xa ∧ e = 0 ∧ xa' = xa.set (ix t) .dead ∧ ∃ ks, KeysOf x.lf ks ∧ sg = ks.map (exS t why) := by
  obtain ⟨ks, hks, rfl, hsg, he⟩ := hR.yes x hn
  have hw := h.wf _ _ hn
  rw [hw.ws, List.map_nil, List.append_nil] at hsg
  subst hsg
  have hE := EP.die (q := []) h.len h.wf (fun s hs => by cases hs) hn hwy (fun k hk => hw.keys k ((hks.mem k).1 hk)) (fun p z k hpt hz hlk => by
    rcases h.sym p z k hz hlk with ⟨y, hy, hy2⟩ | ⟨s', hs, h1, h2⟩
    · by_cases hkt : k = t
      · subst hkt
        rw [hn] at hy
        obtain rfl := Option.some.inj hy
        exact .inl ⟨rfl, (hks.mem p).2 hy2⟩
      · exact .inr (.inl ⟨hkt, y, hy, hy2⟩)
    · cases hs)
  refine ⟨hE, ?_, he, rfl, ks, hks, rfl⟩
  have hg := wgt_set (y := .dead) (live_inv hn).1
  have hkl := hw.cnt.len hks
  have : ActV.ln .dead = 0 := rfl
  rw [List.length_map]
  omega
theorem wgt_le {xa : List ActV} : (∀ x ∈ xa, x.ln ≤ 8) → wgt xa ≤ 8 * xa.length := by
  induction xa with
  | nil => intro _; simp [wgt]
  | cons z r ih =>
    intro h
    have h1 := ih fun x hx => h x (by simp [hx])
    have h2 := h z (by simp)
    simp only [wgt, List.map_cons, List.sum_cons, List.length_cons] at h1 ⊢
    omega
theorem EP.wgt64 {xa : List ActV} {q : List SigD} (h : EP xa q) : wgt xa ≤ 64 := by
  have := wgt_le (xa := xa) fun x hx => by
    cases hx2 : x with
    | dead => exact Nat.zero_le _
    | live t lb lf ln wa wc ws hb hf hn =>
      obtain ⟨i, hi, hie⟩ := List.mem_iff_getElem.1 hx
      have hlv : liveAt 0 xa (0, (i : Int) + 1) = some x := liveAt_some (i := i) ⟨rfl, by omega, by omega⟩ (by omega) (by rw [List.getElem?_eq_getElem hi, hie]) (by rw [hx2])
      have hw := h.wf _ _ hlv
      have h8 := hw.cnt.le8 fun k hk => (hw.keys k hk).1
      rw [hx2] at h8
      exact h8
  have := h.len
  omega
/-- Exits that are taken leave it so; and they come to an end. -/
theorem EP.step {xa xa' : List ActV} {s : SigD} {q : List SigD} {f : EffD} (h : EP xa (s :: q)) (hT : XCase xa s xa' f) : EP xa' (q ++ f.out) ∧ (q ++ f.out).length + wgt xa' + 1 ≤ (s :: q).length + wgt xa := by
  obtain ⟨hk4, hwy, hp, hne, hd⟩ := h.sig s (by simp)
  cases hT with
  | none h0 =>
    show EP xa (q ++ []) ∧ (q ++ []).length + wgt xa + 1 ≤ _
    rw [List.append_nil]
    refine ⟨⟨h.len, h.wf, fun s' hs => h.sig s' (by simp [hs]), fun p x k hx hl => ?_⟩, by simp; omega⟩
    rcases h.sym p x k hx hl with h1 | ⟨s', hs, h1, h2⟩
    · exact .inl h1
    · rcases List.mem_cons.1 hs with rfl | hs
      · rw [h2] at h0; rw [h1] at h0; exact absurd (h0 x hx) hl
      · exact .inr ⟨s', hs, h1, h2⟩
  | trap hn hl ht =>
    show EP _ (q ++ []) ∧ (q ++ []).length + _ + 1 ≤ _
    rw [List.append_nil]
    exact EP.cut h hn hl
  | calm hn hl ht hw =>
    show EP _ (q ++ []) ∧ (q ++ []).length + _ + 1 ≤ _
    rw [List.append_nil]
    exact EP.cut h hn hl
  | dies hn hl ht hw hks => exact EP.dies h hn hl hks
end Go.Proofs.Yticdhdpfimpmoaa.Proc
/- The law ProcLinked: what is kept (no program in sight). -/
set_option maxRecDepth 100000
set_option maxHeartbeats 4000000
set_option linter.unusedVariables false
set_option linter.unusedSimpArgs false
namespace Go.Proofs.Yticdhdpfimpmoaa.Proc
open Go Go.Proofs.Yticdhdpfimpmoaa.Eng Go.RowKit
open Go.Proofs.Yticdhdpfimpmoaa.Eng.MG
def lkA (a b : PidD) : SigD := ⟨2, a, b, 0, 0, 0, []⟩
def ulA (a b : PidD) : SigD := ⟨3, a, b, 0, 0, 0, []⟩
/-- a has b, and b is yet to hear of it. -/
structure Pend2 (xa : List ActV) (a b : PidD) : Prop where
  len : xa.length ≤ 8
  wf : ∀ p x, liveAt 0 xa p = some x → WfA p x
  sym : ∀ p x k, liveAt 0 xa p = some x → x.lf k ≠ none → (p = a ∧ k = b) ∨ ∃ y, liveAt 0 xa k = some y ∧ y.lf p ≠ none
  ne : a ≠ b
  ina : InP a
  inb : InP b
  has : ∃ x, liveAt 0 xa a = some x ∧ x.lf b ≠ none
/-- a has b no more, and b is yet to hear of it. -/
structure Pend3 (xa : List ActV) (a b : PidD) : Prop where
  len : xa.length ≤ 8
  wf : ∀ p x, liveAt 0 xa p = some x → WfA p x
  sym : ∀ p x k, liveAt 0 xa p = some x → x.lf k ≠ none → (p = b ∧ k = a) ∨ ∃ y, liveAt 0 xa k = some y ∧ y.lf p ≠ none
  inb : InP b
  dead : ∀ x, liveAt 0 xa a = some x → x.lf b = none
inductive LkI : Tr → List ActV → List SigD → Prop
  | ep {tr : Tr} {xa : List ActV} {q : List SigD} (h : EP xa q) (hm : tr.length + q.length + wgt xa ≤ 200) : LkI tr xa q
  | p2 {xa : List ActV} {a b : PidD} (h : Pend2 xa a b) : LkI [] xa [lkA a b]
  | p3 {xa : List ActV} {a b : PidD} (h : Pend3 xa a b) : LkI [] xa [ulA a b]
theorem LkI.one {xa : List ActV} {q : List SigD} {x : SigD × EffD} (h : EP xa q) (hq : q.length ≤ 1) : LkI [x] xa q := .ep h (by have := h.wgt64; simp only [List.length_singleton]; omega)
theorem wf_lim {xa : List ActV} {p : PidD} {x : ActV} (h : WfA p x) : x.ln ≤ 12 ∧ x.ws.length ≤ 1000 ∧ x.hn ≤ 1000 := by
  have := h.cnt.le8 fun k hk => (h.keys k hk).1
  rw [h.ws, h.hn]
  exact ⟨by omega, Nat.zero_le _, Nat.zero_le _⟩
theorem Pend2.step {xa xa' : List ActV} {a b : PidD} {f : EffD} (h : Pend2 xa a b) (hT : TakeR 0 xa (lkA a b) xa' f 0) : EP xa' f.out ∧ f.out.length ≤ 1 := by
  have hb := ep_bad (s := lkA a b) ⟨by show (1 : Int) ≤ 2; omega, by show (2 : Int) ≤ 6; omega⟩ h.inb
  obtain ⟨xq, hxa, hxb⟩ := h.has
  cases hn : liveAt 0 xa b with
  | none =>
    obtain ⟨rfl, rfl⟩ := hT.gone' hb hn
    rw [ms2 (s := lkA a b) rfl]
    refine ⟨⟨h.len, h.wf, fun s hs => ?_, fun p x k hx hl => ?_⟩, Nat.le_refl _⟩
    · obtain rfl : s = ⟨4, b, a, 0, 28, 0, []⟩ := by simpa [lkA] using hs
      exact ⟨rfl, by show (0 : Int) ≤ 28 ∧ (28 : Int) ≤ 255; omega, h.ina, fun e => h.ne e.symm, hn⟩
    · rcases h.sym p x k hx hl with ⟨rfl, rfl⟩ | h1
      · exact .inr ⟨⟨4, k, p, 0, 28, 0, []⟩, by simp [lkA], rfl, rfl⟩
      · exact .inl h1
  | some y =>
    obtain ⟨rfl, rfl⟩ := hT.link' hb hn rfl h.ne
    have hal := (live_inv hn).2.1
    show EP (xa.set (ix b) (y.setL (upd y.lf a (some 1)) (if y.lf a = none then y.ln + 1 else y.ln))) [] ∧ _
    obtain ⟨e1, e2, e3, e4, e5, e6, e7⟩ := setL_lf hal (upd y.lf a (some 1)) (if y.lf a = none then y.ln + 1 else y.ln)
    have hL := liveAt_setL hn e6
    have hw := h.wf _ _ hn
    refine ⟨⟨by rw [List.length_set]; exact h.len, fun p z hz => ?_, (fun s hs => by cases hs), fun p z k hz hlk => .inl ?_⟩, Nat.zero_le _⟩
    · rw [hL] at hz
      split at hz
      · rename_i e; subst e
        obtain rfl := Option.some.inj hz
        refine ⟨e3.trans hw.ws, e4.trans hw.hn, by rw [e1, e2]; exact hw.cnt.put a 1, fun k hk => ?_⟩
        rw [e1] at hk
        by_cases hka : k = a
        · subst hka; exact ⟨h.ina, h.ne⟩
        · rw [upd_ne _ _ hka] at hk; exact hw.keys k hk
      · exact h.wf p z hz
    · have key : ∀ p' y', liveAt 0 xa p' = some y' → ∀ j, y'.lf j ≠ none → ∃ z, liveAt 0 (xa.set (ix b) (y.setL (upd y.lf a (some 1)) (if y.lf a = none then y.ln + 1 else y.ln))) p' = some z ∧ z.lf j ≠ none := by
        intro p' y' hy' j hj
        by_cases hp : p' = b
        · subst hp
          rw [hn] at hy'
          obtain rfl := Option.some.inj hy'
          refine ⟨_, by rw [hL, if_pos rfl], ?_⟩
          rw [e1]
          by_cases hja : j = a
          · subst hja; rw [upd_same]; nofun
          · rw [upd_ne _ _ hja]; exact hj
        · exact ⟨y', by rw [hL, if_neg hp]; exact hy', hj⟩
      rw [hL] at hz
      split at hz
      · rename_i e; subst e
        obtain rfl := Option.some.inj hz
        rw [e1] at hlk
        by_cases hka : k = a
        · subst hka; exact key _ _ hxa _ hxb
        · rw [upd_ne _ _ hka] at hlk
          rcases h.sym _ _ k hn hlk with ⟨h1, h2⟩ | ⟨y', hy', hy2⟩
          · exact absurd h1.symm h.ne
          · exact key _ _ hy' _ hy2
      · rcases h.sym p z k hz hlk with ⟨rfl, rfl⟩ | ⟨y', hy', hy2⟩
        · refine ⟨_, by rw [hL, if_pos rfl], ?_⟩
          rw [e1, upd_same]; nofun
        · exact key _ _ hy' _ hy2
theorem Pend3.step {xa xa' : List ActV} {a b : PidD} {f : EffD} (h : Pend3 xa a b) (hT : TakeR 0 xa (ulA a b) xa' f 0) : EP xa' f.out ∧ f.out.length ≤ 1 := by
  have hb := ep_bad (s := ulA a b) ⟨by show (1 : Int) ≤ 3; omega, by show (3 : Int) ≤ 6; omega⟩ h.inb
  cases hn : liveAt 0 xa b with
  | none =>
    obtain ⟨rfl, rfl⟩ := hT.gone' hb hn
    rw [ms0 (s := ulA a b) (by show (3 : Int) ≠ 1; omega) (by show (3 : Int) ≠ 2; omega) (by show (3 : Int) ≠ 5; omega)]
    refine ⟨⟨h.len, h.wf, (fun s hs => by cases hs), fun p x k hx hl => .inl ?_⟩, Nat.zero_le _⟩
    rcases h.sym p x k hx hl with ⟨rfl, rfl⟩ | h1
    · rw [hn] at hx; cases hx
    · exact h1
  | some y =>
    obtain ⟨rfl, rfl⟩ := hT.unlink' hb hn rfl
    have hal := (live_inv hn).2.1
    show EP (xa.set (ix b) (y.setL (upd y.lf a none) (if y.lf a = none then y.ln else y.ln - 1))) [] ∧ _
    obtain ⟨e1, e2, e3, e4, e5, e6, e7⟩ := setL_lf hal (upd y.lf a none) (if y.lf a = none then y.ln else y.ln - 1)
    have hL := liveAt_setL hn e6
    have hw := h.wf _ _ hn
    refine ⟨⟨by rw [List.length_set]; exact h.len, fun p z hz => ?_, (fun s hs => by cases hs), fun p z k hz hlk => .inl ?_⟩, Nat.zero_le _⟩
    · rw [hL] at hz
      split at hz
      · rename_i e; subst e
        obtain rfl := Option.some.inj hz
        refine ⟨e3.trans hw.ws, e4.trans hw.hn, by rw [e1, e2]; exact hw.cnt.del0 a, fun k hk => ?_⟩
        rw [e1] at hk
        by_cases hka : k = a
        · subst hka; exact absurd (upd_same _ _ _) hk
        · rw [upd_ne _ _ hka] at hk; exact hw.keys k hk
      · exact h.wf p z hz
    · have key : ∀ p' y', liveAt 0 xa p' = some y' → ∀ j, y'.lf j ≠ none → (p' = b → j ≠ a) → ∃ z, liveAt 0 (xa.set (ix b) (y.setL (upd y.lf a none) (if y.lf a = none then y.ln else y.ln - 1))) p' = some z ∧ z.lf j ≠ none := by
        intro p' y' hy' j hj hne
        by_cases hp : p' = b
        · subst hp
          rw [hn] at hy'
          obtain rfl := Option.some.inj hy'
          refine ⟨_, by rw [hL, if_pos rfl], ?_⟩
          rw [e1, upd_ne _ _ (hne rfl)]; exact hj
        · exact ⟨y', by rw [hL, if_neg hp]; exact hy', hj⟩
      rw [hL] at hz
      split at hz
      · rename_i e; subst e
        obtain rfl := Option.some.inj hz
        rw [e1] at hlk
        have hka : k ≠ a := fun e => by subst e; exact hlk (upd_same _ _ _)
        rw [upd_ne _ _ hka] at hlk
        rcases h.sym _ _ k hn hlk with ⟨_, h2⟩ | ⟨y', hy', hy2⟩
        · exact absurd h2 hka
        · refine key _ _ hy' _ hy2 fun hkb _ => ?_
          exact (hw.keys k hlk).2 hkb
      · rename_i hpb
        rcases h.sym p z k hz hlk with ⟨rfl, _⟩ | ⟨y', hy', hy2⟩
        · exact absurd rfl hpb
        · refine key _ _ hy' _ hy2 fun hkb hpa => ?_
          subst hpa; subst hkb
          exact hlk (h.dead z hz)
theorem lkI : SInv LkI where
  ok := fun tr xa s q h => by
    cases h with
    | ep h hm => obtain ⟨a, b, c, _⟩ := h.sig s (by simp); exact ep_bad (by omega) c
    | p2 h => exact ep_bad (s := lkA _ _) ⟨by show (1 : Int) ≤ 2; omega, by show (2 : Int) ≤ 6; omega⟩ h.inb
    | p3 h => exact ep_bad (s := ulA _ _) ⟨by show (1 : Int) ≤ 3; omega, by show (3 : Int) ≤ 6; omega⟩ h.inb
  room := fun tr xa s q h => by
    cases h with
    | ep h hm =>
      obtain ⟨a, b, c, _⟩ := h.sig s (by simp)
      have := h.len
      simp only [List.length_cons] at hm
      exact ⟨by omega, by omega, by omega, by omega⟩
    | p2 h => have := h.len; exact ⟨by omega, by show (-9223372036854775808 : Int) ≤ 0 ∧ (0 : Int) ≤ 9223372036854775807; omega, Nat.zero_le _, Nat.zero_le _⟩
    | p3 h => have := h.len; exact ⟨by omega, by show (-9223372036854775808 : Int) ≤ 0 ∧ (0 : Int) ≤ 9223372036854775807; omega, Nat.zero_le _, Nat.zero_le _⟩
  lim := fun tr xa s q h x hx => by
    cases h with
    | ep h hm => exact wf_lim (xa := xa) (h.wf _ _ hx)
    | p2 h => exact wf_lim (xa := xa) (h.wf _ _ hx)
    | p3 h => exact wf_lim (xa := xa) (h.wf _ _ hx)
  step := fun tr xa s q xa' f h hT => by
    cases h with
    | ep h hm =>
      obtain ⟨h1, h2⟩ := h.step (xcase h hT)
      simp only [List.length_append, List.length_cons] at h2 hm
      exact ⟨.ep h1 (by simp only [List.length_append, List.length_singleton]; omega), by omega⟩
    | p2 h =>
      obtain ⟨h1, h2⟩ := h.step hT
      exact ⟨LkI.one h1 h2, by omega⟩
    | p3 h =>
      obtain ⟨h1, h2⟩ := h.step hT
      exact ⟨LkI.one h1 h2, by omega⟩
theorem LkI.fin {tr : Tr} {xa : List ActV} (h : LkI tr xa []) : EP xa [] := by
  cases h with
  | ep h hm => exact h
theorem LkI.start {xa : List ActV} {q : List SigD} (h : EP xa q) (hq : q.length ≤ 100) : LkI [] xa q := .ep h (by have := h.wgt64; simp only [List.length_nil]; omega)
theorem EP.both {xa : List ActV} {p k : PidD} {x : ActV} (h : EP xa []) (hx : liveAt 0 xa p = some x) (hl : x.lf k ≠ none) : ∃ y, liveAt 0 xa k = some y ∧ y.lf p ≠ none := by
  rcases h.sym p x k hx hl with h1 | ⟨s, hs, _⟩
  · exact h1
  · cases hs
theorem ep_link {xa xa' : List ActV} {a b : PidD} {sg : List SigD} {e : Int} (h : EP xa []) (ha : InP a) (hb : InP b) (hF : linkF 0 xa a b = (xa', sg, e)) : LkI [] xa' sg ∧ sg.length ≤ 1 := by
  have hnb : ¬ badP b := by unfold badP; obtain ⟨h1, h2, h3⟩ := hb; omega
  cases hn : liveAt 0 xa a with
  | none => rw [linkF_none hn] at hF; simp only [Prod.mk.injEq] at hF; obtain ⟨rfl, rfl, rfl⟩ := hF; exact ⟨LkI.start h (Nat.zero_le _), Nat.zero_le _⟩
  | some x =>
    by_cases hab : a = b
    · rw [linkF_self hn hnb hab] at hF; simp only [Prod.mk.injEq] at hF; obtain ⟨rfl, rfl, rfl⟩ := hF; exact ⟨LkI.start h (Nat.zero_le _), Nat.zero_le _⟩
    · cases hl : x.lf b with
      | some z => rw [linkF_old hn hnb hab hl] at hF; simp only [Prod.mk.injEq] at hF; obtain ⟨rfl, rfl, rfl⟩ := hF; exact ⟨LkI.start h (Nat.zero_le _), Nat.zero_le _⟩
      | none =>
        rw [linkF_new hn hnb hab hl] at hF; simp only [Prod.mk.injEq] at hF; obtain ⟨rfl, rfl, rfl⟩ := hF
        refine ⟨.p2 ?_, Nat.le_refl _⟩
        have hal := (live_inv hn).2.1
        obtain ⟨e1, e2, e3, e4, e5, e6, e7⟩ := setL_lf hal (upd x.lf b (some 1)) (x.ln + 1)
        have hL := liveAt_setL hn e6
        have hw := h.wf _ _ hn
        have hcn := hw.cnt.put b 1
        rw [if_pos hl] at hcn
        refine ⟨by rw [List.length_set]; exact h.len, fun p z hz => ?_, fun p z k hz hlk => ?_, hab, ha, hb, _, by rw [hL, if_pos rfl], by rw [e1, upd_same]; nofun⟩
        · rw [hL] at hz
          split at hz
          · rename_i e; subst e
            obtain rfl := Option.some.inj hz
            refine ⟨e3.trans hw.ws, e4.trans hw.hn, by rw [e1, e2]; exact hcn, fun k hk => ?_⟩
            rw [e1] at hk
            by_cases hkb : k = b
            · subst hkb; exact ⟨hb, fun e => hab e.symm⟩
            · rw [upd_ne _ _ hkb] at hk; exact hw.keys k hk
          · exact h.wf p z hz
        · have key : ∀ p' y', liveAt 0 xa p' = some y' → ∀ j, y'.lf j ≠ none → ∃ z, liveAt 0 (xa.set (ix a) (x.setL (upd x.lf b (some 1)) (x.ln + 1))) p' = some z ∧ z.lf j ≠ none := by
            intro p' y' hy' j hj
            by_cases hp : p' = a
            · subst hp
              rw [hn] at hy'
              obtain rfl := Option.some.inj hy'
              refine ⟨_, by rw [hL, if_pos rfl], ?_⟩
              rw [e1]
              by_cases hjb : j = b
              · subst hjb; rw [upd_same]; nofun
              · rw [upd_ne _ _ hjb]; exact hj
            · exact ⟨y', by rw [hL, if_neg hp]; exact hy', hj⟩
          rw [hL] at hz
          split at hz
          · rename_i e; subst e
            obtain rfl := Option.some.inj hz
            rw [e1] at hlk
            by_cases hkb : k = b
            · exact .inl ⟨rfl, hkb⟩
            · rw [upd_ne _ _ hkb] at hlk
              obtain ⟨y', hy', hy2⟩ := h.both hn hlk
              exact .inr (key _ _ hy' _ hy2)
          · obtain ⟨y', hy', hy2⟩ := h.both hz hlk
            exact .inr (key _ _ hy' _ hy2)
theorem ep_unlink {xa xa' : List ActV} {a b : PidD} {sg : List SigD} {e : Int} (h : EP xa []) (ha : InP a) (hb : InP b) (hF : unlinkF 0 xa a b = (xa', sg, e)) : LkI [] xa' sg ∧ sg.length ≤ 1 := by
  have hnb : ¬ badP b := by unfold badP; obtain ⟨h1, h2, h3⟩ := hb; omega
  cases hn : liveAt 0 xa a with
  | none => rw [unlinkF_none hn] at hF; simp only [Prod.mk.injEq] at hF; obtain ⟨rfl, rfl, rfl⟩ := hF; exact ⟨LkI.start h (Nat.zero_le _), Nat.zero_le _⟩
  | some x =>
    cases hl : x.lf b with
    | none => rw [unlinkF_no hn hnb hl] at hF; simp only [Prod.mk.injEq] at hF; obtain ⟨rfl, rfl, rfl⟩ := hF; exact ⟨LkI.start h (Nat.zero_le _), Nat.zero_le _⟩
    | some z =>
      rw [unlinkF_yes hn hnb hl] at hF; simp only [Prod.mk.injEq] at hF; obtain ⟨rfl, rfl, rfl⟩ := hF
      refine ⟨.p3 ?_, Nat.le_refl _⟩
      have hal := (live_inv hn).2.1
      have hlne : x.lf b ≠ none := by rw [hl]; nofun
      obtain ⟨e1, e2, e3, e4, e5, e6, e7⟩ := setL_lf hal (upd x.lf b none) (x.ln - 1)
      have hL := liveAt_setL hn e6
      have hw := h.wf _ _ hn
      refine ⟨by rw [List.length_set]; exact h.len, fun p z hz => ?_, fun p z k hz hlk => ?_, hb, fun z hz => ?_⟩
      · rw [hL] at hz
        split at hz
        · rename_i e; subst e
          obtain rfl := Option.some.inj hz
          refine ⟨e3.trans hw.ws, e4.trans hw.hn, by rw [e1, e2]; exact (hw.cnt.del hlne).1, fun k hk => ?_⟩
          rw [e1] at hk
          by_cases hkb : k = b
          · subst hkb; exact absurd (upd_same _ _ _) hk
          · rw [upd_ne _ _ hkb] at hk; exact hw.keys k hk
        · exact h.wf p z hz
      · have key : ∀ p' y', liveAt 0 xa p' = some y' → ∀ j, y'.lf j ≠ none → (p' = a ∧ j = b) ∨ ∃ z, liveAt 0 (xa.set (ix a) (x.setL (upd x.lf b none) (x.ln - 1))) p' = some z ∧ z.lf j ≠ none := by
          intro p' y' hy' j hj
          by_cases hp : p' = a
          · subst hp
            rw [hn] at hy'
            obtain rfl := Option.some.inj hy'
            by_cases hjb : j = b
            · exact .inl ⟨rfl, hjb⟩
            · refine .inr ⟨_, by rw [hL, if_pos rfl], ?_⟩
              rw [e1, upd_ne _ _ hjb]; exact hj
          · exact .inr ⟨y', by rw [hL, if_neg hp]; exact hy', hj⟩
        rw [hL] at hz
        split at hz
        · rename_i e; subst e
          obtain rfl := Option.some.inj hz
          rw [e1] at hlk
          have hkb : k ≠ b := fun e => by subst e; exact hlk (upd_same _ _ _)
          rw [upd_ne _ _ hkb] at hlk
          obtain ⟨y', hy', hy2⟩ := h.both hn hlk
          rcases key _ _ hy' _ hy2 with ⟨h1, _⟩ | h1
          · exact absurd h1 (hw.keys k hlk).2
          · exact .inr h1
        · rename_i hpa
          obtain ⟨y', hy', hy2⟩ := h.both hz hlk
          rcases key _ _ hy' _ hy2 with ⟨rfl, rfl⟩ | h1
          · exact .inl ⟨rfl, rfl⟩
          · exact .inr h1
      · rw [hL, if_pos rfl] at hz
        obtain rfl := Option.some.inj hz
        rw [e1, upd_same]
theorem setT_lf {x : ActV} (h : x.alive = true) (t : Bool) : (x.setT t).lf = x.lf ∧ (x.setT t).ln = x.ln ∧ (x.setT t).ws = x.ws ∧ (x.setT t).hn = x.hn ∧ (x.setT t).trap = t ∧ (x.setT t).alive = true := by
  cases x with
  | dead => cases h
  | live t lb lf ln wa wc ws hb hf hn => exact ⟨rfl, rfl, rfl, rfl, rfl, rfl⟩
theorem ep_trap {xa xa' : List ActV} {a : PidD} {on b : Bool} (h : EP xa []) (hF : trapF 0 xa a on = (xa', b)) : EP xa' [] := by
  cases hn : liveAt 0 xa a with
  | none => rw [trapF_none hn] at hF; simp only [Prod.mk.injEq] at hF; obtain ⟨rfl, rfl⟩ := hF; exact h
  | some x =>
    rw [trapF_yes hn] at hF; simp only [Prod.mk.injEq] at hF; obtain ⟨rfl, rfl⟩ := hF
    have hal := (live_inv hn).2.1
    obtain ⟨e1, e2, e3, e4, e5, e6⟩ := setT_lf hal on
    have hL := liveAt_setL hn e6
    have hw := h.wf _ _ hn
    have key : ∀ p' y', liveAt 0 xa p' = some y' → ∃ z, liveAt 0 (xa.set (ix a) (x.setT on)) p' = some z ∧ z.lf = y'.lf := by
      intro p' y' hy'
      by_cases hp : p' = a
      · subst hp
        rw [hn] at hy'
        obtain rfl := Option.some.inj hy'
        exact ⟨_, by rw [hL, if_pos rfl], e1⟩
      · exact ⟨y', by rw [hL, if_neg hp]; exact hy', rfl⟩
    refine ⟨by rw [List.length_set]; exact h.len, fun p z hz => ?_, (fun s hs => by cases hs), fun p z k hz hlk => .inl ?_⟩
    · rw [hL] at hz
      split at hz
      · rename_i e; subst e
        obtain rfl := Option.some.inj hz
        exact ⟨e3.trans hw.ws, e4.trans hw.hn, by rw [e1, e2]; exact hw.cnt, fun k hk => hw.keys k (by rw [e1] at hk; exact hk)⟩
      · exact h.wf p z hz
    · have : ∃ y, liveAt 0 xa p = some y ∧ y.lf k ≠ none := by
        rw [hL] at hz
        split at hz
        · rename_i e; subst e
          obtain rfl := Option.some.inj hz
          exact ⟨x, hn, by rw [e1] at hlk; exact hlk⟩
        · exact ⟨z, hz, hlk⟩
      obtain ⟨y, hy, hyk⟩ := this
      obtain ⟨y', hy', hy2⟩ := h.both hy hyk
      obtain ⟨z', hz', he⟩ := key _ _ hy'
      exact ⟨z', hz', by rw [he]; exact hy2⟩
theorem ep_end {xa xa' : List ActV} {a : PidD} {sg : List SigD} {why e : Int} (h : EP xa []) (hwy : 0 ≤ why ∧ why ≤ 255) (hR : EndR 0 xa a why xa' sg e) : LkI [] xa' sg ∧ sg.length ≤ 100 := by
  cases hn : liveAt 0 xa a with
  | none => obtain ⟨rfl, rfl, _⟩ := hR.no hn; exact ⟨LkI.start h (Nat.zero_le _), Nat.zero_le _⟩
  | some x =>
    obtain ⟨h1, h2, _⟩ := h.endd hn hwy hR
    have := h.wgt64
    exact ⟨LkI.start h1 (by omega), by omega⟩
theorem ep_new {xa : List ActV} (hl : xa.length ≤ 8) (hA : AllNew xa) : EP xa [] := by
  have key : ∀ p x, liveAt 0 xa p = some x → ∃ lb hb, x = new0 lb hb := fun p x hx => hA x (List.mem_of_getElem? (live_inv hx).1)
  refine ⟨hl, fun p x hx => ?_, (fun s hs => by cases hs), fun p x k hx hlk => ?_⟩
  · obtain ⟨lb, hb, rfl⟩ := key p x hx
    exact ⟨rfl, rfl, CntOk.zero, fun k hk => absurd rfl hk⟩
  · obtain ⟨lb, hb, rfl⟩ := key p x hx
    exact absurd rfl hlk
end Go.Proofs.Yticdhdpfimpmoaa.Proc
/- The law ProcWatched: who watches whom (no program in sight). -/
set_option maxRecDepth 100000
set_option maxHeartbeats 4000000
set_option linter.unusedVariables false
set_option linter.unusedSimpArgs false
namespace Go.Proofs.Yticdhdpfimpmoaa.Proc
open Go Go.Proofs.Yticdhdpfimpmoaa.Eng Go.RowKit
open Go.Proofs.Yticdhdpfimpmoaa.Eng.MG
structure WA where
  by_ : PidD
  of_ : PidD
  told : Int
def cntR0 (r : Int) (x : SigD × EffD) : Bool := x.2.got && decide (x.1.ref = r)
def cntW (h : SigD × EffD → Bool) (tr : Tr) : Int := ((tr.filter h).length : Int)
theorem cntW_T {h : SigD × EffD → Bool} {tr : Tr} {x : SigD × EffD} (hx : h x = true) : cntW h (tr ++ [x]) = cntW h tr + 1 := by
  unfold cntW; rw [List.filter_append, List.length_append]; simp [hx]
theorem cntW_F {h : SigD × EffD → Bool} {tr : Tr} {x : SigD × EffD} (hx : h x = false) : cntW h (tr ++ [x]) = cntW h tr := by
  unfold cntW; rw [List.filter_append, List.length_append]; simp [hx]
/-- How often watch i was told. -/
def tlW (w : WA) (i : Nat) (tr : Tr) : Int := w.told + cntW (cntR0 ((i : Int) + 1)) tr
def swt (s : SigD) : Nat := if s.kind = 5 then 2 else 1
def k5 (q : List SigD) : Nat := (q.filter fun s => decide (s.kind = 5)).length
def ActV.setW : ActV → Option Addr → Nat → List (PidD × Int) → ActV
  | .dead, _, _, _ => .dead
  | .live t lb lf ln _ _ _ hb hf hn, wa, wc, ws => .live t lb lf ln wa wc ws hb hf hn
theorem setW_is {x : ActV} (h : x.alive = true) (wa : Option Addr) (wc : Nat) (ws : List (PidD × Int)) : (x.setW wa wc ws).lf = x.lf ∧ (x.setW wa wc ws).ln = x.ln ∧ (x.setW wa wc ws).ws = ws ∧ (x.setW wa wc ws).hn = x.hn ∧ (x.setW wa wc ws).hf = x.hf ∧ (x.setW wa wc ws).alive = true := by
  cases x with
  | dead => cases h
  | live t lb lf ln wa wc ws hb hf hn => exact ⟨rfl, rfl, rfl, rfl, rfl, rfl⟩
theorem setH_is {x : ActV} (h : x.alive = true) (f : HF) (n : Nat) : (x.setH f n).lf = x.lf ∧ (x.setH f n).ln = x.ln ∧ (x.setH f n).ws = x.ws ∧ (x.setH f n).hn = n ∧ (x.setH f n).hf = f ∧ (x.setH f n).alive = true := by
  cases x with
  | dead => cases h
  | live t lb lf ln wa wc ws hb hf hn => exact ⟨rfl, rfl, rfl, rfl, rfl, rfl⟩
theorem TakeR.watch' {nd : Int} {xa xa' : List ActV} {s : SigD} {f : EffD} {e : Int} (h : TakeR nd xa s xa' f e) (hb : ¬ takeBad nd s) {x : ActV} (hn : liveAt nd xa s.to_ = some x) (k : s.kind = 5) : ∃ wa wc, xa' = xa.set (ix s.to_) (x.setW wa wc (x.ws ++ [(s.fr, s.ref)])) ∧ f = eff0 := by
  cases h with
  | bad h => exact absurd h hb
  | gone _ h2 => rw [hn] at h2; cases h2
  | lett _ h2 k2 => omega
  | self _ h2 k2 h3 => omega
  | link _ h2 k2 _ => omega
  | unlink _ h2 k2 => omega
  | exit _ h2 k2 h3 => omega
  | watch _ h2 k2 => rw [hn] at h2; obtain rfl := Option.some.inj h2; exact ⟨_, _, rfl, rfl⟩
  | other _ h2 k2 _ => omega
  | down _ h2 k2 _ => omega
structure WI (L : List WA) (tr : Tr) (xa : List ActV) (q : List SigD) : Prop where
  len : xa.length = 6
  m : tr.length + (q.map swt).sum ≤ 1000
  L60 : L.length ≤ 60
  inp : ∀ (i : Nat) w, L[i]? = some w → InP w.by_ ∧ InP w.of_
  lnk : ∀ p x, liveAt 0 xa p = some x → (∀ k, x.lf k = none) ∧ x.ln = 0 ∧ x.hn ≤ L.length
  ws : ∀ p x, liveAt 0 xa p = some x → ∀ e ∈ x.ws, ∃ (i : Nat) (w : WA), L[i]? = some w ∧ e = (w.by_, (i : Int) + 1) ∧ w.of_ = p
  wsn : ∀ p x, liveAt 0 xa p = some x → (x.ws.map (·.2)).Nodup
  wsq : ∀ p x, liveAt 0 xa p = some x → ∀ e ∈ x.ws, ∀ s ∈ q, s.ref ≠ e.2
  wsl : ∀ p x, liveAt 0 xa p = some x → x.ws.length + k5 q ≤ L.length
  sig : ∀ s ∈ q, (-9223372036854775808 ≤ s.why ∧ s.why ≤ 9223372036854775807) ∧ ∃ (i : Nat) (w : WA), L[i]? = some w ∧ s.ref = (i : Int) + 1 ∧ ((s.kind = 6 ∧ liveAt 0 xa s.fr = none ∧ s.to_ = w.by_ ∧ s.fr = w.of_) ∨ (s.kind = 5 ∧ s.fr = w.by_ ∧ s.to_ = w.of_))
  sn : (q.map (·.ref)).Nodup
  st : ∀ (i : Nat) w, L[i]? = some w → ∀ x, liveAt 0 xa w.by_ = some x → ((∃ s ∈ q, s.ref = (i : Int) + 1) → x.hf ((i : Int) + 1) = some w.of_ ∧ tlW w i tr = 0) ∧
    ((∀ s ∈ q, s.ref ≠ (i : Int) + 1) → (∀ y, liveAt 0 xa w.of_ = some y → x.hf ((i : Int) + 1) = some w.of_ ∧ tlW w i tr = 0 ∧ (w.by_, (i : Int) + 1) ∈ y.ws) ∧ (liveAt 0 xa w.of_ = none → x.hf ((i : Int) + 1) = none ∧ tlW w i tr = 1))
  t1 : ∀ (i : Nat) w, L[i]? = some w → 0 ≤ tlW w i tr ∧ tlW w i tr ≤ 1
theorem tl_no {w : WA} {i : Nat} {tr : Tr} {s : SigD} {f : EffD} (h : f.got = false ∨ s.ref ≠ (i : Int) + 1) : tlW w i (tr ++ [(s, f)]) = tlW w i tr := by
  unfold tlW
  rw [cntW_F]
  unfold cntR0
  rcases h with h | h
  · rw [h]; rfl
  · simp [h]
theorem tl_up {w : WA} {i : Nat} {tr : Tr} {s : SigD} {f : EffD} (h : f.got = true) (hr : s.ref = (i : Int) + 1) : tlW w i (tr ++ [(s, f)]) = tlW w i tr + 1 := by
  unfold tlW
  rw [cntW_T, Int.add_assoc]
  unfold cntR0
  simp [h, hr]
theorem WI.bad {L : List WA} {tr : Tr} {xa : List ActV} {s : SigD} {q : List SigD} (h : WI L tr xa (s :: q)) : ¬ takeBad 0 s := by
  obtain ⟨_, i, w, hi, _, hc⟩ := h.sig s (by simp)
  obtain ⟨h1, h2⟩ := h.inp i w hi
  rcases hc with ⟨k, _, ht, _⟩ | ⟨k, _, ht⟩
  · exact ep_bad (by omega) (ht ▸ h1)
  · exact ep_bad (by omega) (ht ▸ h2)
theorem WI.down {L : List WA} {tr : Tr} {xa xa' : List ActV} {s : SigD} {q : List SigD} {f : EffD} (h : WI L tr xa (s :: q)) (hT : TakeR 0 xa s xa' f 0) (k : s.kind = 6) : WI L (tr ++ [(s, f)]) xa' (q ++ f.out) ∧ f.out = [] ∧ (f.got = true → ∃ (i : Nat) (w : WA), L[i]? = some w ∧ s.ref = (i : Int) + 1 ∧ w.by_ = s.to_ ∧ w.of_ = s.fr ∧ f.tag = 61 ∧ f.body = [UInt8.ofNat (s.ref % 256).toNat, UInt8.ofNat (s.why % 256).toNat]) := by
  have hb := h.bad
  obtain ⟨hwy, i0, w0, hi0, hr0, hc⟩ := h.sig s (by simp)
  obtain ⟨_, hfd, hto, hfr⟩ : s.kind = 6 ∧ liveAt 0 xa s.fr = none ∧ s.to_ = w0.by_ ∧ s.fr = w0.of_ := by
    rcases hc with hc | hc
    · exact hc
    · omega
  have hsn := h.sn
  rw [List.map_cons, List.nodup_cons] at hsn
  have hnp : ∀ s' ∈ q, s'.ref ≠ s.ref := fun s' hs e => hsn.1 (List.mem_map.2 ⟨s', hs, e⟩)
  have hm : (tr ++ [(s, f)]).length + (q.map swt).sum ≤ 1000 := by
    have := h.m
    rw [List.map_cons, List.sum_cons] at this
    have hs1 : swt s = 1 := by unfold swt; rw [if_neg (by omega)]
    rw [List.length_append]
    simp only [List.length_cons, List.length_nil]
    omega
  have hk5 : k5 (s :: q) = k5 q := by unfold k5; rw [List.filter_cons, if_neg (by simp; omega)]
  cases hn : liveAt 0 xa s.to_ with
  | none =>
    obtain ⟨rfl, rfl⟩ := hT.gone' hb hn
    rw [ms0 (by omega) (by omega) (by omega)]
    refine ⟨?_, rfl, fun e => by cases e⟩
    rw [show q ++ eff0.out = q from List.append_nil q]
    rw [ms0 (by omega) (by omega) (by omega)] at hm
    refine ⟨h.len, hm, h.L60, h.inp, h.lnk, h.ws, h.wsn, fun p x hx e he s' hs => h.wsq p x hx e he s' (by simp [hs]), fun p x hx => by rw [← hk5]; exact h.wsl p x hx, fun s' hs => h.sig s' (by simp [hs]), hsn.2, fun i w hi x hx => ?_, fun i w hi => by rw [tl_no (.inl rfl)]; exact h.t1 i w hi⟩
    rw [tl_no (.inl rfl)]
    have hii : s.ref ≠ (i : Int) + 1 := fun e => by
      have : i = i0 := by omega
      subst this
      rw [hi0] at hi; obtain rfl := Option.some.inj hi
      rw [← hto, hn] at hx; cases hx
    obtain ⟨g1, g2⟩ := h.st i w hi x hx
    exact ⟨fun ⟨s', hs, e⟩ => g1 ⟨s', by simp [hs], e⟩, fun hno => g2 fun s' hs => by
      rcases List.mem_cons.1 hs with rfl | hs
      · exact hii
      · exact hno s' hs⟩
  | some x =>
    have hxb : liveAt 0 xa w0.by_ = some x := by rw [← hto]; exact hn
    obtain ⟨p1, p2⟩ := (h.st i0 w0 hi0 x hxb).1 ⟨s, by simp, hr0⟩
    obtain ⟨rfl, rfl⟩ := hT.down' hb hn k (by rw [hr0, hfr]; exact p1)
    refine ⟨?_, rfl, fun _ => ⟨i0, w0, hi0, hr0, hto.symm, hfr.symm, rfl, rfl⟩⟩
    show WI L _ _ (q ++ [])
    rw [List.append_nil]
    have hal := (live_inv hn).2.1
    obtain ⟨e1, e2, e3, e4, e5, e6⟩ := setH_is hal (upd x.hf s.ref none) (x.hn - 1)
    have hL := liveAt_setL hn e6
    have back : ∀ p z, liveAt 0 (xa.set (ix s.to_) (x.setH (upd x.hf s.ref none) (x.hn - 1))) p = some z → ∃ y, liveAt 0 xa p = some y ∧ z.lf = y.lf ∧ z.ln = y.ln ∧ z.ws = y.ws ∧ z.hn ≤ y.hn ∧ (∀ r, r ≠ s.ref → z.hf r = y.hf r) ∧ (p = s.to_ → z.hf s.ref = none) := by
      intro p z hz
      rw [hL] at hz
      split at hz
      · rename_i e; subst e
        obtain rfl := Option.some.inj hz
        exact ⟨x, hn, e1, e2, e3, by rw [e4]; omega, fun r hr => by rw [e5]; exact upd_ne _ _ hr, fun _ => by rw [e5]; exact upd_same _ _ _⟩
      · rename_i e
        exact ⟨z, hz, rfl, rfl, rfl, Nat.le_refl _, fun _ _ => rfl, fun e' => absurd e' e⟩
    have fwd : ∀ p, liveAt 0 (xa.set (ix s.to_) (x.setH (upd x.hf s.ref none) (x.hn - 1))) p = none ↔ liveAt 0 xa p = none := by
      intro p
      rw [hL]
      split
      · rename_i e; rw [e, hn]; simp
      · exact Iff.rfl
    refine ⟨by rw [List.length_set]; exact h.len, hm, h.L60, h.inp, fun p z hz => ?_, fun p z hz e he => ?_, fun p z hz => ?_, fun p z hz e he s' hs => ?_, fun p z hz => ?_, fun s' hs => ?_, hsn.2, fun i w hi z hz => ?_, fun i w hi => ?_⟩
    · obtain ⟨y, hy, a1, a2, a3, a4, _⟩ := back p z hz
      obtain ⟨b1, b2, b3⟩ := h.lnk p y hy
      exact ⟨fun k => by rw [a1]; exact b1 k, a2.trans b2, by omega⟩
    · obtain ⟨y, hy, a1, a2, a3, a4, _⟩ := back p z hz
      rw [a3] at he; exact h.ws p y hy e he
    · obtain ⟨y, hy, a1, a2, a3, a4, _⟩ := back p z hz
      rw [a3]; exact h.wsn p y hy
    · obtain ⟨y, hy, a1, a2, a3, a4, _⟩ := back p z hz
      rw [a3] at he; exact h.wsq p y hy e he s' (by simp [hs])
    · obtain ⟨y, hy, a1, a2, a3, a4, _⟩ := back p z hz
      rw [a3, ← hk5]; exact h.wsl p y hy
    · obtain ⟨c1, i, w, c2, c3, c4⟩ := h.sig s' (by simp [hs])
      refine ⟨c1, i, w, c2, c3, c4.imp (fun ⟨d1, d2, d3, d4⟩ => ⟨d1, (fwd _).2 d2, d3, d4⟩) id⟩
    · obtain ⟨y, hy, a1, a2, a3, a4, a5, a6⟩ := back _ z hz
      obtain ⟨g1, g2⟩ := h.st i w hi y hy
      by_cases hii : i = i0
      · subst hii
        rw [hi0] at hi; obtain rfl := Option.some.inj hi
        refine ⟨fun ⟨s', hs, e⟩ => absurd (e.trans hr0.symm) (hnp s' hs), fun _ => ⟨fun y' hy' => ?_, fun _ => ⟨?_, ?_⟩⟩⟩
        · have : liveAt 0 xa w0.of_ = none := by rw [← hfr]; exact hfd
          rw [(fwd _).2 this] at hy'; cases hy'
        · rw [← hr0]; exact a6 hto.symm
        · rw [tl_up rfl hr0, p2]; rfl
      · have hrr : (i : Int) + 1 ≠ s.ref := fun e => hii (by omega)
        rw [tl_no (.inr fun e => hrr e.symm), a5 _ hrr]
        refine ⟨fun ⟨s', hs, e⟩ => g1 ⟨s', by simp [hs], e⟩, fun hno => ?_⟩
        obtain ⟨g3, g4⟩ := g2 fun s' hs => by
          rcases List.mem_cons.1 hs with rfl | hs
          · exact fun e => hrr e.symm
          · exact hno s' hs
        refine ⟨fun y' hy' => ?_, fun ho => g4 ((fwd _).1 ho)⟩
        obtain ⟨y2, hy2, _, _, c3, _⟩ := back _ y' hy'
        rw [c3]; exact g3 y2 hy2
    · by_cases hii : i = i0
      · subst hii
        rw [hi0] at hi; obtain rfl := Option.some.inj hi
        rw [tl_up rfl hr0, p2]; omega
      · rw [tl_no (.inr fun e => hii (by omega))]; exact h.t1 i w hi
theorem WI.watch {L : List WA} {tr : Tr} {xa xa' : List ActV} {s : SigD} {q : List SigD} {f : EffD} (h : WI L tr xa (s :: q)) (hT : TakeR 0 xa s xa' f 0) (k : s.kind = 5) : WI L (tr ++ [(s, f)]) xa' (q ++ f.out) ∧ f.out.length ≤ 1 ∧ f.got = false := by
  have hb := h.bad
  obtain ⟨hwy, i0, w0, hi0, hr0, hc⟩ := h.sig s (by simp)
  obtain ⟨_, hfr, hto⟩ : s.kind = 5 ∧ s.fr = w0.by_ ∧ s.to_ = w0.of_ := by
    rcases hc with hc | hc
    · omega
    · exact hc
  have hsn := h.sn
  rw [List.map_cons, List.nodup_cons] at hsn
  have hnp : ∀ s' ∈ q, s'.ref ≠ s.ref := fun s' hs e => hsn.1 (List.mem_map.2 ⟨s', hs, e⟩)
  have hm0 := h.m
  rw [List.map_cons, List.sum_cons, show swt s = 2 by unfold swt; rw [if_pos k]] at hm0
  have hk5 : k5 (s :: q) = k5 q + 1 := by unfold k5; rw [List.filter_cons, if_pos (by simp [k])]; rfl
  cases hn : liveAt 0 xa s.to_ with
  | none =>
    obtain ⟨rfl, rfl⟩ := hT.gone' hb hn
    rw [ms5 k]
    refine ⟨?_, Nat.le_refl _, rfl⟩
    obtain ⟨d, hd⟩ : ∃ d, d = (⟨6, s.to_, s.fr, s.ref, 28, 0, []⟩ : SigD) := ⟨_, rfl⟩
    show WI L (tr ++ [(s, { eff0 with out := [⟨6, s.to_, s.fr, s.ref, 28, 0, []⟩] })]) xa' (q ++ [⟨6, s.to_, s.fr, s.ref, 28, 0, []⟩])
    rw [← hd]
    have hdr : d.ref = s.ref := by rw [hd]
    have hmem : ∀ {s' : SigD}, s' ∈ q ++ [d] → s' ∈ q ∨ s' = d := fun hs => by
      rcases List.mem_append.1 hs with hs | hs
      · exact .inl hs
      · exact .inr (List.mem_singleton.1 hs)
    refine ⟨h.len, ?_, h.L60, h.inp, h.lnk, h.ws, h.wsn, fun p x hx e he s' hs => ?_, fun p x hx => ?_, fun s' hs => ?_, ?_, fun i w hi x hx => ?_, fun i w hi => by rw [tl_no (.inl rfl)]; exact h.t1 i w hi⟩
    · rw [List.length_append, List.map_append, List.sum_append]
      have : swt d = 1 := by rw [hd]; unfold swt; rw [if_neg (by show ¬ (6 : Int) = 5; omega)]
      simp only [List.length_cons, List.length_nil, List.map_cons, List.map_nil, List.sum_cons, List.sum_nil, this]
      omega
    · rcases hmem hs with hs | rfl
      · exact h.wsq p x hx e he s' (by simp [hs])
      · rw [hdr]; exact h.wsq p x hx e he s (by simp)
    · have := h.wsl p x hx
      have h5 : k5 (q ++ [d]) = k5 q := by unfold k5; rw [List.filter_append, List.length_append, List.filter_cons, if_neg (by rw [hd]; simp)]; rfl
      rw [h5]; omega
    · rcases hmem hs with hs | rfl
      · exact h.sig s' (by simp [hs])
      · refine ⟨by rw [hd]; show (-9223372036854775808 : Int) ≤ 28 ∧ (28 : Int) ≤ 9223372036854775807; omega, i0, w0, hi0, hdr.trans hr0, .inl ?_⟩
        rw [hd]; exact ⟨rfl, hn, hfr, hto⟩
    · rw [List.map_append, List.nodup_append]
      refine ⟨hsn.2, by simp, fun a ha b hb' => ?_⟩
      simp only [List.map_cons, List.map_nil, List.mem_singleton] at hb'
      subst hb'
      rw [hdr]
      rintro rfl
      exact hsn.1 ha
    · rw [tl_no (.inl rfl)]
      obtain ⟨g1, g2⟩ := h.st i w hi x hx
      refine ⟨fun ⟨s', hs, e⟩ => ?_, fun hno => g2 fun s' hs => ?_⟩
      · rcases hmem hs with hs | rfl
        · exact g1 ⟨s', by simp [hs], e⟩
        · exact g1 ⟨s, by simp, by rw [← hdr]; exact e⟩
      · rcases List.mem_cons.1 hs with rfl | hs
        · rw [← hdr]; exact hno d (by simp)
        · exact hno s' (by simp [hs])
  | some x =>
    obtain ⟨wa, wc, rfl, rfl⟩ := hT.watch' hb hn k
    refine ⟨?_, Nat.zero_le _, rfl⟩
    show WI L _ _ (q ++ [])
    rw [List.append_nil]
    have hal := (live_inv hn).2.1
    obtain ⟨e1, e2, e3, e4, e5, e6⟩ := setW_is hal wa wc (x.ws ++ [(s.fr, s.ref)])
    have hL := liveAt_setL hn e6
    have back : ∀ p z, liveAt 0 (xa.set (ix s.to_) (x.setW wa wc (x.ws ++ [(s.fr, s.ref)]))) p = some z → ∃ y, liveAt 0 xa p = some y ∧ z.lf = y.lf ∧ z.ln = y.ln ∧ z.hn = y.hn ∧ z.hf = y.hf ∧ ((p = s.to_ ∧ z.ws = y.ws ++ [(s.fr, s.ref)]) ∨ (p ≠ s.to_ ∧ z.ws = y.ws)) := by
      intro p z hz
      rw [hL] at hz
      split at hz
      · rename_i e; subst e
        obtain rfl := Option.some.inj hz
        exact ⟨x, hn, e1, e2, e4, e5, .inl ⟨rfl, e3⟩⟩
      · rename_i e
        exact ⟨z, hz, rfl, rfl, rfl, rfl, .inr ⟨e, rfl⟩⟩
    have fwd : ∀ p, liveAt 0 (xa.set (ix s.to_) (x.setW wa wc (x.ws ++ [(s.fr, s.ref)]))) p = none ↔ liveAt 0 xa p = none := by
      intro p
      rw [hL]
      split
      · rename_i e; rw [e, hn]; simp
      · exact Iff.rfl
    refine ⟨by rw [List.length_set]; exact h.len, by rw [List.length_append]; simp only [List.length_cons, List.length_nil]; omega, h.L60, h.inp, fun p z hz => ?_, fun p z hz e he => ?_, fun p z hz => ?_, fun p z hz e he s' hs => ?_, fun p z hz => ?_, fun s' hs => ?_, hsn.2, fun i w hi z hz => ?_, fun i w hi => by rw [tl_no (.inl rfl)]; exact h.t1 i w hi⟩
    · obtain ⟨y, hy, a1, a2, a3, _⟩ := back p z hz
      obtain ⟨b1, b2, b3⟩ := h.lnk p y hy
      exact ⟨fun k => by rw [a1]; exact b1 k, a2.trans b2, by omega⟩
    · obtain ⟨y, hy, a1, a2, a3, a4, ⟨hp, a5⟩ | ⟨hp, a5⟩⟩ := back p z hz
      · rw [a5] at he
        rcases List.mem_append.1 he with he | he
        · exact h.ws p y hy e he
        · rw [List.mem_singleton] at he
          exact ⟨i0, w0, hi0, by rw [he, hfr, hr0], by rw [hp]; exact hto.symm⟩
      · rw [a5] at he; exact h.ws p y hy e he
    · obtain ⟨y, hy, a1, a2, a3, a4, ⟨hp, a5⟩ | ⟨hp, a5⟩⟩ := back p z hz
      · rw [a5, List.map_append, List.nodup_append]
        refine ⟨h.wsn p y hy, by simp, fun a ha b hb' => ?_⟩
        simp only [List.map_cons, List.map_nil, List.mem_singleton] at hb'
        subst hb'
        obtain ⟨e, he, rfl⟩ := List.mem_map.1 ha
        exact fun e' => h.wsq p y hy e he s (by simp) e'.symm
      · rw [a5]; exact h.wsn p y hy
    · obtain ⟨y, hy, a1, a2, a3, a4, ⟨hp, a5⟩ | ⟨hp, a5⟩⟩ := back p z hz
      · rw [a5] at he
        rcases List.mem_append.1 he with he | he
        · exact h.wsq p y hy e he s' (by simp [hs])
        · rw [List.mem_singleton] at he
          rw [he]; exact hnp s' hs
      · rw [a5] at he; exact h.wsq p y hy e he s' (by simp [hs])
    · obtain ⟨y, hy, a1, a2, a3, a4, ⟨hp, a5⟩ | ⟨hp, a5⟩⟩ := back p z hz
      · have := h.wsl p y hy
        rw [a5, List.length_append]
        simp only [List.length_cons, List.length_nil]
        omega
      · have := h.wsl p y hy
        rw [a5]; omega
    · obtain ⟨c1, i, w, c2, c3, c4⟩ := h.sig s' (by simp [hs])
      refine ⟨c1, i, w, c2, c3, c4.imp (fun ⟨d1, d2, d3, d4⟩ => ⟨d1, (fwd _).2 d2, d3, d4⟩) id⟩
    · rw [tl_no (.inl rfl)]
      obtain ⟨y, hy, a1, a2, a3, a4, _⟩ := back _ z hz
      rw [a4]
      obtain ⟨g1, g2⟩ := h.st i w hi y hy
      by_cases hii : i = i0
      · subst hii
        rw [hi0] at hi; obtain rfl := Option.some.inj hi
        obtain ⟨p1, p2⟩ := g1 ⟨s, by simp, hr0⟩
        refine ⟨fun ⟨s', hs, e⟩ => absurd (e.trans hr0.symm) (hnp s' hs), fun _ => ⟨fun y' hy' => ⟨p1, p2, ?_⟩, fun ho => ?_⟩⟩
        · obtain ⟨y2, hy2, _, _, _, _, ⟨hp, c5⟩ | ⟨hp, c5⟩⟩ := back _ y' hy'
          · rw [c5, ← hfr, ← hr0]; simp
          · exact absurd hto.symm hp
        · rw [fwd, ← hto, hn] at ho; cases ho
      · have hrr : (i : Int) + 1 ≠ s.ref := fun e => hii (by omega)
        refine ⟨fun ⟨s', hs, e⟩ => g1 ⟨s', by simp [hs], e⟩, fun hno => ?_⟩
        obtain ⟨g3, g4⟩ := g2 fun s' hs => by
          rcases List.mem_cons.1 hs with rfl | hs
          · exact fun e => hrr e.symm
          · exact hno s' hs
        refine ⟨fun y' hy' => ?_, fun ho => g4 ((fwd _).1 ho)⟩
        obtain ⟨y2, hy2, _, _, _, _, ⟨hp, c5⟩ | ⟨hp, c5⟩⟩ := back _ y' hy'
        · obtain ⟨r1, r2, r3⟩ := g3 y2 hy2
          exact ⟨r1, r2, by rw [c5]; simp [r3]⟩
        · rw [c5]; exact g3 y2 hy2
end Go.Proofs.Yticdhdpfimpmoaa.Proc
/- The law ProcWatched: the steps of the law (no program in sight). -/
set_option maxRecDepth 100000
set_option maxHeartbeats 4000000
set_option linter.unusedVariables false
set_option linter.unusedSimpArgs false
namespace Go.Proofs.Yticdhdpfimpmoaa.Proc
open Go Go.Proofs.Yticdhdpfimpmoaa.Eng Go.RowKit
open Go.Proofs.Yticdhdpfimpmoaa.Eng.MG
theorem tlW_nil {w : WA} {i : Nat} : tlW w i [] = w.told := by unfold tlW; show w.told + ((0 : Nat) : Int) = w.told; simp
theorem swt_len {q : List SigD} : q.length ≤ (q.map swt).sum := by
  induction q with
  | nil => exact Nat.le_refl _
  | cons s q ih =>
    rw [List.map_cons, List.sum_cons, List.length_cons]
    have : 1 ≤ swt s := by unfold swt; split <;> omega
    omega
theorem wI {L : List WA} : SInv (WI L) where
  ok := fun tr xa s q h => h.bad
  room := fun tr xa s q h => by
    have hm := h.m
    have hl := h.len
    have := swt_len (q := s :: q)
    simp only [List.length_cons] at this
    exact ⟨by omega, (h.sig s (by simp)).1, by omega, by omega⟩
  lim := fun tr xa s q h x hx => by
    obtain ⟨_, h2, h3⟩ := h.lnk _ x hx
    have h4 := h.wsl _ x hx
    have := h.L60
    exact ⟨by omega, by omega, by omega⟩
  step := fun tr xa s q xa' f h hT => by
    obtain ⟨_, i, w, _, _, hc⟩ := h.sig s (by simp)
    rcases hc with ⟨k, _⟩ | ⟨k, _⟩
    · obtain ⟨h1, h2, _⟩ := h.down hT k
      exact ⟨h1, by rw [h2]; exact Nat.zero_le _⟩
    · obtain ⟨h1, h2, _⟩ := h.watch hT k
      exact ⟨h1, by omega⟩
/-- What is seen. -/
theorem WI.seen {L : List WA} {tr : Tr} {xa xa' : List ActV} {s : SigD} {q : List SigD} {f : EffD} (h : WI L tr xa (s :: q)) (hT : TakeR 0 xa s xa' f 0) (hg : f.got = true) : ∃ (i : Nat) (w : WA), L[i]? = some w ∧ s.ref = (i : Int) + 1 ∧ w.by_ = s.to_ ∧ w.of_ = s.fr ∧ f.tag = 61 ∧ f.body = [UInt8.ofNat (s.ref % 256).toNat, UInt8.ofNat (s.why % 256).toNat] := by
  obtain ⟨_, i, w, _, _, hc⟩ := h.sig s (by simp)
  rcases hc with ⟨k, _⟩ | ⟨k, _⟩
  · exact (h.down hT k).2.2 hg
  · rw [(h.watch hT k).2.2] at hg; cases hg
theorem WI.endd {L : List WA} {xa xa' : List ActV} {p : PidD} {why e : Int} {sg : List SigD} (h : WI L [] xa []) (hwy : -9223372036854775808 ≤ why ∧ why ≤ 9223372036854775807) (hR : EndR 0 xa p why xa' sg e) : WI L [] xa' sg ∧ sg.length ≤ 100 := by
  cases hn : liveAt 0 xa p with
  | none => obtain ⟨rfl, rfl, _⟩ := hR.no hn; exact ⟨h, Nat.zero_le _⟩
  | some x =>
    obtain ⟨ks, hks, rfl, hsg, _⟩ := hR.yes x hn
    obtain ⟨l1, l2, l3⟩ := h.lnk p x hn
    have hk0 : ks = [] := keys_nil hks l1
    subst hk0
    rw [List.map_nil, List.nil_append] at hsg
    have hwl := h.wsl p x hn
    have h60 := h.L60
    have hlen : sg.length ≤ 60 := by rw [hsg, List.length_map]; omega
    have hL := liveAt_setD hn
    have back : ∀ p' z, liveAt 0 (xa.set (ix p) .dead) p' = some z → p' ≠ p ∧ liveAt 0 xa p' = some z := by
      intro p' z hz
      rw [hL] at hz
      split at hz
      · cases hz
      · rename_i e; exact ⟨e, hz⟩
    have hmem : ∀ {s : SigD}, s ∈ sg → ∃ e ∈ x.ws, s = dnS p why e := fun hs => by
      rw [hsg] at hs
      obtain ⟨e, he, rfl⟩ := List.mem_map.1 hs
      exact ⟨e, he, rfl⟩
    have hsw : (sg.map swt).sum ≤ 100 := by
      have : ∀ (q : List SigD), (∀ s ∈ q, s.kind = 6) → (q.map swt).sum = q.length := by
        intro q
        induction q with
        | nil => intro _; rfl
        | cons s q ih =>
          intro hq
          rw [List.map_cons, List.sum_cons, ih fun s' hs => hq s' (by simp [hs]), List.length_cons]
          have : swt s = 1 := by unfold swt; rw [if_neg (by have := hq s (by simp); omega)]
          omega
      rw [this sg fun s hs => by obtain ⟨e, _, rfl⟩ := hmem hs; rfl]
      omega
    have hk5 : k5 sg = 0 := by
      unfold k5
      rw [List.length_eq_zero_iff, List.filter_eq_nil_iff]
      intro s hs
      obtain ⟨e, _, rfl⟩ := hmem hs
      show ¬ (decide ((6 : Int) = 5)) = true
      simp
    refine ⟨⟨by rw [List.length_set]; exact h.len, by simp only [List.length_nil]; omega, h.L60, h.inp, fun p' z hz => h.lnk p' z (back p' z hz).2, fun p' z hz => h.ws p' z (back p' z hz).2, fun p' z hz => h.wsn p' z (back p' z hz).2, fun p' z hz e he s hs => ?_, fun p' z hz => ?_, fun s hs => ?_, ?_, fun i w hi z hz => ?_, h.t1⟩, by omega⟩
    · obtain ⟨hpp, hz⟩ := back p' z hz
      obtain ⟨e', he', rfl⟩ := hmem hs
      obtain ⟨i, w, hi, hei, hwo⟩ := h.ws p' z hz e he
      obtain ⟨i', w', hi', hei', hwo'⟩ := h.ws p x hn e' he'
      intro heq
      have heq : e'.2 = e.2 := heq
      rw [hei, hei'] at heq
      have : i' = i := by simp only at heq; omega
      subst this
      rw [hi] at hi'; obtain rfl := Option.some.inj hi'
      exact hpp (hwo.symm.trans hwo')
    · have := h.wsl p' z (back p' z hz).2
      rw [hk5]
      unfold k5 at this
      simp only [List.filter_nil, List.length_nil] at this
      omega
    · obtain ⟨e', he', rfl⟩ := hmem hs
      obtain ⟨i, w, hi, hei, hwo⟩ := h.ws p x hn e' he'
      refine ⟨hwy, i, w, hi, by show e'.2 = _; rw [hei], .inl ⟨rfl, by show liveAt 0 _ p = none; rw [hL, if_pos rfl], by show e'.1 = _; rw [hei], hwo.symm⟩⟩
    · rw [hsg, List.map_map]
      exact h.wsn p x hn
    · obtain ⟨hpp, hz⟩ := back _ z hz
      obtain ⟨_, g2⟩ := h.st i w hi z hz
      obtain ⟨g3, g4⟩ := g2 (fun s hs => by cases hs)
      refine ⟨fun ⟨s, hs, e⟩ => ?_, fun hno => ⟨fun y hy => g3 y (back _ y hy).2, fun ho => ?_⟩⟩
      · obtain ⟨e', he', rfl⟩ := hmem hs
        obtain ⟨i', w', hi', hei', hwo'⟩ := h.ws p x hn e' he'
        have e : e'.2 = (i : Int) + 1 := e
        rw [hei'] at e
        have : i' = i := by simp only at e; omega
        subst this
        rw [hi] at hi'; obtain rfl := Option.some.inj hi'
        obtain ⟨r1, r2, _⟩ := g3 x (by rw [hwo']; exact hn)
        exact ⟨r1, r2⟩
      · by_cases hop : w.of_ = p
        · obtain ⟨_, _, r3⟩ := g3 x (by rw [hop]; exact hn)
          exact absurd rfl (hno (dnS p why (w.by_, (i : Int) + 1)) (by rw [hsg]; exact List.mem_map.2 ⟨_, r3, rfl⟩))
        · rw [hL, if_neg hop] at ho
          exact g4 ho
theorem WI.start {L : List WA} {xa xa' : List ActV} {a b : PidD} {ref refs refs' e : Int} {sg : List SigD} (h : WI L [] xa []) (hr : refs = L.length) (hL : L.length < 60) (ha : InP a) (hb : InP b) (hF : watchF 0 refs xa a b = (refs', xa', ref, sg, e)) :
    (liveAt 0 xa a = none ∧ e = 28 ∧ ref = 0 ∧ sg = [] ∧ xa' = xa ∧ refs' = refs) ∨ ((∃ x, liveAt 0 xa a = some x) ∧ e = 0 ∧ ref = refs + 1 ∧ refs' = refs + 1 ∧ sg.length ≤ 1 ∧ WI (L ++ [⟨a, b, 0⟩]) [] xa' sg) := by
  have hnb : ¬ badP b := by unfold badP; obtain ⟨h1, h2, h3⟩ := hb; omega
  cases hn : liveAt 0 xa a with
  | none =>
    rw [watchF_none hn] at hF; simp only [Prod.mk.injEq] at hF; obtain ⟨rfl, rfl, rfl, rfl, rfl⟩ := hF
    exact .inl ⟨rfl, rfl, rfl, rfl, rfl, rfl⟩
  | some x =>
    rw [watchF_yes hn hnb (by omega)] at hF; simp only [Prod.mk.injEq] at hF; obtain ⟨rfl, rfl, rfl, rfl, rfl⟩ := hF
    refine .inr ⟨⟨x, rfl⟩, rfl, rfl, rfl, Nat.le_refl _, ?_⟩
    subst hr
    have hal := (live_inv hn).2.1
    obtain ⟨e1, e2, e3, e4, e5, e6⟩ := setH_is hal (upd x.hf ((L.length : Int) + 1) (some b)) (if x.hf ((L.length : Int) + 1) = none then x.hn + 1 else x.hn)
    have hLv := liveAt_setL hn e6
    have back : ∀ p z, liveAt 0 (xa.set (ix a) (x.setH (upd x.hf ((L.length : Int) + 1) (some b)) (if x.hf ((L.length : Int) + 1) = none then x.hn + 1 else x.hn))) p = some z → ∃ y, liveAt 0 xa p = some y ∧ z.lf = y.lf ∧ z.ln = y.ln ∧ z.ws = y.ws ∧ z.hn ≤ y.hn + 1 ∧ (∀ r, r ≠ (L.length : Int) + 1 → z.hf r = y.hf r) ∧ (p = a → z.hf ((L.length : Int) + 1) = some b) := by
      intro p z hz
      rw [hLv] at hz
      split at hz
      · rename_i e; subst e
        obtain rfl := Option.some.inj hz
        refine ⟨x, hn, e1, e2, e3, ?_, fun r hr => by rw [e5]; exact upd_ne _ _ hr, fun _ => by rw [e5]; exact upd_same _ _ _⟩
        rw [e4]; split <;> omega
      · rename_i e
        exact ⟨z, hz, rfl, rfl, rfl, by omega, fun _ _ => rfl, fun e' => absurd e' e⟩
    have fwd : ∀ p, liveAt 0 (xa.set (ix a) (x.setH (upd x.hf ((L.length : Int) + 1) (some b)) (if x.hf ((L.length : Int) + 1) = none then x.hn + 1 else x.hn))) p = none ↔ liveAt 0 xa p = none := by
      intro p
      rw [hLv]
      split
      · rename_i e; rw [e, hn]; simp
      · exact Iff.rfl
    have old : ∀ {i : Nat} {w : WA}, L[i]? = some w → (L ++ [⟨a, b, 0⟩])[i]? = some w ∧ i < L.length := fun hi => by
      have := (List.getElem?_eq_some_iff.1 hi).1
      exact ⟨by rw [List.getElem?_append_left this]; exact hi, this⟩
    have new : ∀ {i : Nat} {w : WA}, (L ++ [⟨a, b, 0⟩])[i]? = some w → (L[i]? = some w ∧ i < L.length) ∨ (i = L.length ∧ w = ⟨a, b, 0⟩) := fun {i w} hi => by
      rcases Nat.lt_or_ge i L.length with hlt | hge
      · rw [List.getElem?_append_left hlt] at hi; exact .inl ⟨hi, hlt⟩
      · rw [List.getElem?_append_right hge] at hi
        obtain ⟨h1, h2⟩ := List.getElem?_eq_some_iff.1 hi
        simp only [List.length_cons, List.length_nil] at h1
        have : i = L.length := by omega
        subst this
        simp at hi
        exact .inr ⟨rfl, hi.symm⟩
    have hsr : ∀ s ∈ [(⟨5, a, b, (L.length : Int) + 1, 0, 0, []⟩ : SigD)], s.ref = (L.length : Int) + 1 := fun s hs => by rw [List.mem_singleton] at hs; rw [hs]
    refine ⟨by rw [List.length_set]; exact h.len, Nat.le_of_ble_eq_true rfl, by rw [List.length_append]; simp only [List.length_cons, List.length_nil]; omega, fun i w hi => ?_, fun p z hz => ?_, fun p z hz e he => ?_, fun p z hz => ?_, fun p z hz e he s hs => ?_, fun p z hz => ?_, fun s hs => ?_, by simp, fun i w hi z hz => ?_, fun i w hi => ?_⟩
    · rcases new hi with ⟨hi, _⟩ | ⟨_, rfl⟩
      · exact h.inp i w hi
      · exact ⟨ha, hb⟩
    · obtain ⟨y, hy, a1, a2, a3, a4, _⟩ := back p z hz
      obtain ⟨b1, b2, b3⟩ := h.lnk p y hy
      refine ⟨fun k => by rw [a1]; exact b1 k, a2.trans b2, ?_⟩
      rw [List.length_append]; simp only [List.length_cons, List.length_nil]; omega
    · obtain ⟨y, hy, a1, a2, a3, a4, _⟩ := back p z hz
      rw [a3] at he
      obtain ⟨i, w, hi, r1, r2⟩ := h.ws p y hy e he
      exact ⟨i, w, (old hi).1, r1, r2⟩
    · obtain ⟨y, hy, a1, a2, a3, a4, _⟩ := back p z hz
      rw [a3]; exact h.wsn p y hy
    · obtain ⟨y, hy, a1, a2, a3, a4, _⟩ := back p z hz
      rw [a3] at he
      obtain ⟨i, w, hi, r1, r2⟩ := h.ws p y hy e he
      rw [hsr s hs, r1]
      have := (old hi).2
      show (L.length : Int) + 1 ≠ (i : Int) + 1
      omega
    · obtain ⟨y, hy, a1, a2, a3, a4, _⟩ := back p z hz
      have := h.wsl p y hy
      rw [a3, List.length_append, show k5 [(⟨5, a, b, (L.length : Int) + 1, 0, 0, []⟩ : SigD)] = 1 by unfold k5; simp]
      simp only [List.length_cons, List.length_nil]
      omega
    · rw [List.mem_singleton] at hs
      subst hs
      refine ⟨by show (-9223372036854775808 : Int) ≤ 0 ∧ (0 : Int) ≤ 9223372036854775807; omega, L.length, ⟨a, b, 0⟩, by simp, rfl, .inr ⟨rfl, rfl, rfl⟩⟩
    · obtain ⟨y, hy, a1, a2, a3, a4, a5, a6⟩ := back _ z hz
      rcases new hi with ⟨hi, hlt⟩ | ⟨rfl, rfl⟩
      · obtain ⟨_, g2⟩ := h.st i w hi y hy
        obtain ⟨g3, g4⟩ := g2 (fun s hs => by cases hs)
        have hne : (i : Int) + 1 ≠ (L.length : Int) + 1 := by omega
        rw [a5 _ hne]
        refine ⟨fun ⟨s, hs, e⟩ => absurd ((hsr s hs).symm.trans e).symm hne, fun _ => ⟨fun y' hy' => ?_, fun ho => g4 ((fwd _).1 ho)⟩⟩
        obtain ⟨y2, hy2, _, _, c3, _⟩ := back _ y' hy'
        rw [c3]; exact g3 y2 hy2
      · refine ⟨fun _ => ⟨a6 rfl, tlW_nil⟩, fun hno => absurd rfl (hno ⟨5, a, b, (L.length : Int) + 1, 0, 0, []⟩ (List.mem_singleton.2 rfl))⟩
    · rcases new hi with ⟨hi, _⟩ | ⟨_, rfl⟩
      · exact h.t1 i w hi
      · rw [tlW_nil]; exact ⟨Int.le_refl 0, by show (0 : Int) ≤ 1; omega⟩
/-- What was told goes into the list. -/
def lstW (L : List WA) (tr : Tr) : List WA := L.mapIdx fun i w => { w with told := tlW w i tr }
theorem lstW_get {L : List WA} {tr : Tr} {i : Nat} : (lstW L tr)[i]? = (L[i]?).map fun w => { w with told := tlW w i tr } := by
  unfold lstW; rw [List.getElem?_mapIdx]
theorem lstW_len {L : List WA} {tr : Tr} : (lstW L tr).length = L.length := by unfold lstW; exact List.length_mapIdx
theorem lstW_nil {L : List WA} : lstW L [] = L := by
  apply List.ext_getElem?
  intro i
  rw [lstW_get]
  cases L[i]? with
  | none => rfl
  | some w => simp only [Option.map_some, tlW_nil]
theorem lstW_no {L : List WA} {tr : Tr} {s : SigD} {f : EffD} (h : f.got = false) : lstW L (tr ++ [(s, f)]) = lstW L tr := by
  apply List.ext_getElem?
  intro i
  rw [lstW_get, lstW_get]
  cases L[i]? with
  | none => rfl
  | some w => simp only [Option.map_some, tl_no (.inl h)]
theorem lstW_up {L : List WA} {tr : Tr} {s : SigD} {f : EffD} {i0 : Nat} {w0 : WA} (h : f.got = true) (hi : L[i0]? = some w0) (hr : s.ref = (i0 : Int) + 1) : lstW L (tr ++ [(s, f)]) = (lstW L tr).set i0 { w0 with told := tlW w0 i0 tr + 1 } := by
  apply List.ext_getElem?
  intro i
  rw [lstW_get, List.getElem?_set]
  by_cases hii : i0 = i
  · subst hii
    rw [if_pos rfl, if_pos (by rw [lstW_len]; exact (List.getElem?_eq_some_iff.1 hi).1), hi, Option.map_some, tl_up h hr]
  · rw [if_neg hii, lstW_get]
    cases L[i]? with
    | none => rfl
    | some w => simp only [Option.map_some]; rw [tl_no (.inr fun e => hii (by omega))]
theorem WI.flush {L : List WA} {tr : Tr} {xa : List ActV} (h : WI L tr xa []) : WI (lstW L tr) [] xa [] := by
  have get : ∀ {i : Nat} {w : WA}, (lstW L tr)[i]? = some w → ∃ v, L[i]? = some v ∧ w = { v with told := tlW v i tr } := fun {i w} hi => by
    rw [lstW_get] at hi
    cases hv : L[i]? with
    | none => rw [hv] at hi; cases hi
    | some v => rw [hv] at hi; exact ⟨v, rfl, (Option.some.inj hi).symm⟩
  refine ⟨h.len, Nat.zero_le _, by rw [lstW_len]; exact h.L60, fun i w hi => ?_, fun p x hx => by rw [lstW_len]; exact h.lnk p x hx, fun p x hx e he => ?_, h.wsn, (fun p x hx e he s hs => by cases hs), (fun p x hx => by rw [lstW_len]; exact h.wsl p x hx), (fun s hs => by cases hs), List.nodup_nil, fun i w hi x hx => ?_, fun i w hi => ?_⟩
  · obtain ⟨v, hv, rfl⟩ := get hi; exact h.inp i v hv
  · obtain ⟨i, w, hi, r1, r2⟩ := h.ws p x hx e he
    exact ⟨i, { w with told := tlW w i tr }, by rw [lstW_get, hi]; rfl, r1, r2⟩
  · obtain ⟨v, hv, rfl⟩ := get hi
    rw [tlW_nil]
    exact h.st i v hv x hx
  · obtain ⟨v, hv, rfl⟩ := get hi
    rw [tlW_nil]
    exact h.t1 i v hv
theorem WI.new {xa : List ActV} (hl : xa.length = 6) (hA : AllNew xa) : WI [] [] xa [] := by
  have key : ∀ p x, liveAt 0 xa p = some x → ∃ lb hb, x = new0 lb hb := fun p x hx => hA x (List.mem_of_getElem? (live_inv hx).1)
  refine ⟨hl, Nat.zero_le _, Nat.zero_le _, (fun i w hi => by simp at hi), fun p x hx => ?_, fun p x hx e he => ?_, fun p x hx => ?_, (fun p x hx e he s hs => by cases hs), fun p x hx => ?_, (fun s hs => by cases hs), List.nodup_nil, (fun i w hi => by simp at hi), (fun i w hi => by simp at hi)⟩
  · obtain ⟨lb, hb, rfl⟩ := key p x hx; exact ⟨fun _ => rfl, rfl, Nat.le_refl _⟩
  · obtain ⟨lb, hb, rfl⟩ := key p x hx; cases he
  · obtain ⟨lb, hb, rfl⟩ := key p x hx; exact List.nodup_nil
  · obtain ⟨lb, hb, rfl⟩ := key p x hx; exact Nat.le_refl _
theorem WI.fin {L : List WA} {xa : List ActV} (h : WI L [] xa []) {i : Nat} {w : WA} (hi : L[i]? = some w) : (0 ≤ w.told ∧ w.told ≤ 1) ∧ ∀ x, liveAt 0 xa w.by_ = some x → (∀ y, liveAt 0 xa w.of_ = some y → x.hf ((i : Int) + 1) ≠ none ∧ w.told = 0) ∧ (liveAt 0 xa w.of_ = none → x.hf ((i : Int) + 1) = none ∧ w.told = 1) := by
  have ht := h.t1 i w hi
  rw [tlW_nil] at ht
  refine ⟨ht, fun x hx => ?_⟩
  obtain ⟨_, g2⟩ := h.st i w hi x hx
  obtain ⟨g3, g4⟩ := g2 (fun s hs => by cases hs)
  rw [tlW_nil] at g3 g4
  exact ⟨fun y hy => ⟨by rw [(g3 y hy).1]; exact Option.some_ne_none _, (g3 y hy).2.1⟩, g4⟩
end Go.Proofs.Yticdhdpfimpmoaa.Proc
/- Arrays of nine, and of nine rows of nine, at a place that is not fixed. -/
set_option maxRecDepth 100000
set_option linter.unusedVariables false
set_option linter.unusedSimpArgs false
namespace Go.Proofs.Yticdhdpfimpmoaa.Eng
open Go Go.RowKit
def a9b (T : Nat → Bool) : List Value := (List.range 9).map fun i => .bool (T i)
def a9i (T : Nat → Int) : List Value := (List.range 9).map fun i => .int .i64 (T i)
def a81 (W : Nat → Nat → Bool) : List Value := (List.range 81).map fun i => .bool (W (i / 9) (i % 9))
def updN {β : Type} (T : Nat → β) (i : Nat) (b : β) : Nat → β := fun k => if k = i then b else T k
def upd2 (W : Nat → Nat → Bool) (a c : Nat) (b : Bool) : Nat → Nat → Bool := fun i k => if i = a ∧ k = c then b else W i k
theorem updN_same {β : Type} (T : Nat → β) (i : Nat) (b : β) : updN T i b i = b := if_pos rfl
theorem updN_ne {β : Type} (T : Nat → β) {i k : Nat} (b : β) (h : k ≠ i) : updN T i b k = T k := if_neg h
theorem rng_get {β : Type} {f : Nat → β} {n i : Nat} (h : i < n) : ((List.range n).map f)[i]? = some (f i) := by simp [h]
theorem rng_set {β : Type} {f f' : Nat → β} {n i : Nat} {v : β} (h : ∀ k, k < n → f' k = if k = i then v else f k) : ((List.range n).map f).set i v = (List.range n).map f' := by
  apply List.ext_getElem?
  intro k
  by_cases hk : k < n
  · rw [List.getElem?_set, rng_get (f := f') hk, h k hk]
    by_cases e : i = k
    · subst e; simp [hk]
    · rw [if_neg e, rng_get hk, if_neg (fun x => e x.symm)]
  · rw [List.getElem?_eq_none (by simp; omega), List.getElem?_eq_none (by simp; omega)]
theorem nthK_of {l : List Value} {v : Value} {k : Value → Prop} : ∀ {n : Nat}, l[n]? = some v → k v → nthK l n k := by
  induction l with
  | nil => intro n h; cases h
  | cons x r ih =>
    intro n h hk
    cases n with
    | zero => obtain rfl := Option.some.inj h; exact hk
    | succ n => exact ih (n := n) h hk
section
variable {P : Program} {g : Glob} {w : World} {l : List As} {K : Value → World → Prop} {KW : World → Prop} {T : Nat → Bool} {TI : Nat → Int} {W : Nat → Nat → Bool} {p i a c j : Nat} {e t : TypeId} {b : Bool} {z : Int}
theorem rLd9b (H : Sat g w l) (j : Nat) (hj : l[j]? = some (Pt p (a9b T) e)) (hi : i < 9) (hu : P.underlying t = some .bool) (k : K (.bool (T i)) w) : RunP P (Instr.loadAt t (.pointer (some ⟨p, 0 + i * 1, none⟩))) w K :=
  rLd (H.at j hj) i (by omega) hu rfl (nthK_of (rng_get hi) k)
theorem rLd9i (H : Sat g w l) (j : Nat) (hj : l[j]? = some (Pt p (a9i TI) e)) (hi : i < 9) (hu : P.underlying t = some (.int .i64)) (k : K (.int .i64 (TI i)) w) : RunP P (Instr.loadAt t (.pointer (some ⟨p, 0 + i * 1, none⟩))) w K :=
  rLd (H.at j hj) i (by omega) hu rfl (nthK_of (rng_get hi) k)
theorem rLd81 (H : Sat g w l) (j : Nat) (hj : l[j]? = some (Pt p (a81 W) e)) (hi : a < 9 ∧ c < 9) (hu : P.underlying t = some .bool) (k : K (.bool (W a c)) w) : RunP P (Instr.loadAt t (.pointer (some ⟨p, 0 + a * 9 + c * 1, none⟩))) w K := by
  have h1 : (0 + a * 9 + c * 1) / 9 = a := by omega
  have h2 : (0 + a * 9 + c * 1) % 9 = c := by omega
  refine rLd (H.at j hj) (0 + a * 9 + c * 1) (by omega) hu rfl (nthK_of (rng_get (by omega)) ?_)
  rw [h1, h2]; exact k
theorem rSt9b (H : Sat g w l) (j : Nat) (hj : l[j]? = some (Pt p (a9b T) e)) (hi : i < 9) (hs : (P.info? t).map (·.size) = some 1) (k : setA l j (Pt p (a9b (updN T i b)) e) fun l' => ∀ w', Sat g w' l' → KW w') : DoP P (Instr.storeAt t (.pointer (some ⟨p, 0 + i * 1, none⟩)) (.bool b)) w KW := by
  refine rStS H j hj (Nat.ble_eq_true_of_le (by simp [a9b]; omega)) hs rfl ?_
  rw [stK_eq, show (a9b T).set (0 + i * 1) (.bool b) = a9b (updN T i b) from rng_set fun k _ => by unfold updN; rw [show 0 + i * 1 = i by omega]; split <;> rfl]
  exact k
theorem rSt9i (H : Sat g w l) (j : Nat) (hj : l[j]? = some (Pt p (a9i TI) e)) (hi : i < 9) (hs : (P.info? t).map (·.size) = some 1) (k : setA l j (Pt p (a9i (updN TI i z)) e) fun l' => ∀ w', Sat g w' l' → KW w') : DoP P (Instr.storeAt t (.pointer (some ⟨p, 0 + i * 1, none⟩)) (.int .i64 z)) w KW := by
  refine rStS H j hj (Nat.ble_eq_true_of_le (by simp [a9i]; omega)) hs rfl ?_
  rw [stK_eq, show (a9i TI).set (0 + i * 1) (.int .i64 z) = a9i (updN TI i z) from rng_set fun k _ => by unfold updN; rw [show 0 + i * 1 = i by omega]; split <;> rfl]
  exact k
theorem rSt81 (H : Sat g w l) (j : Nat) (hj : l[j]? = some (Pt p (a81 W) e)) (hi : a < 9 ∧ c < 9) (hs : (P.info? t).map (·.size) = some 1) (k : setA l j (Pt p (a81 (upd2 W a c b)) e) fun l' => ∀ w', Sat g w' l' → KW w') : DoP P (Instr.storeAt t (.pointer (some ⟨p, 0 + a * 9 + c * 1, none⟩)) (.bool b)) w KW := by
  refine rStS H j hj (Nat.ble_eq_true_of_le (by simp [a81]; omega)) hs rfl ?_
  rw [stK_eq, show (a81 W).set (0 + a * 9 + c * 1) (.bool b) = a81 (upd2 W a c b) from rng_set fun k hk => by
    unfold upd2
    by_cases h : k = 0 + a * 9 + c * 1
    · rw [if_pos h, if_pos (by omega)]
    · rw [if_neg h, if_neg (by omega)]]
  exact k
end
end Go.Proofs.Yticdhdpfimpmoaa.Eng
/- The laws over linkedUp: who is linked with whom (no program in sight). -/
set_option maxRecDepth 100000
set_option maxHeartbeats 4000000
set_option linter.unusedVariables false
set_option linter.unusedSimpArgs false
namespace Go.Proofs.Yticdhdpfimpmoaa.Proc
open Go Go.Proofs.Yticdhdpfimpmoaa.Eng Go.RowKit
open Go.Proofs.Yticdhdpfimpmoaa.Eng.MG
def WP (W : Nat → Nat → Bool) (n : Nat) (k : PidD) : Prop := InP k ∧ W n k.2.toNat = true
def pN (n : Nat) : PidD := (0, (n : Int))
theorem pN_in {n : Nat} (h : 1 ≤ n ∧ n ≤ 8) : InP (pN n) := ⟨rfl, by show (1 : Int) ≤ (n : Int); omega, by show (n : Int) ≤ 8; omega⟩
theorem in_pN {k : PidD} (h : InP k) : k = pN k.2.toNat ∧ 1 ≤ k.2.toNat ∧ k.2.toNat ≤ 8 := by
  obtain ⟨a, b, c⟩ := h
  refine ⟨Prod.ext a ?_, by omega, by omega⟩
  show k.2 = ((k.2.toNat : Nat) : Int)
  omega
theorem pN_inj {a b : Nat} (h : pN a = pN b) : a = b := by
  have : (a : Int) = (b : Int) := congrArg Prod.snd h
  omega
theorem WP_pN {W : Nat → Nat → Bool} {n k : Nat} (hk : 1 ≤ k ∧ k ≤ 8) : WP W n (pN k) ↔ W n k = true := ⟨fun h => h.2, fun h => ⟨pN_in hk, h⟩⟩
/-- Eight actors, linked as W says, trapping as T says. -/
structure LUT (xa : List ActV) (W : Nat → Nat → Bool) (T : Nat → Bool) : Prop where
  ep : EP xa []
  len : xa.length = 8
  act : ∀ n : Nat, 1 ≤ n → n ≤ 8 → ∃ x, liveAt 0 xa (pN n) = some x ∧ x.trap = T n ∧ ∀ k, x.lf k ≠ none ↔ WP W n k
structure HalfLU (xa : List ActV) (W : Nat → Nat → Bool) (T : Nat → Bool) (a b : Nat) : Prop where
  p2 : Pend2 xa (pN a) (pN b)
  len : xa.length = 8
  act : ∀ n : Nat, 1 ≤ n → n ≤ 8 → ∃ x, liveAt 0 xa (pN n) = some x ∧ x.trap = T n ∧ ∀ k, x.lf k ≠ none ↔ (WP W n k ∨ (n = a ∧ k = pN b))
  ba : W a b = false
theorem upd2_get {W : Nat → Nat → Bool} {a b i k : Nat} : upd2 (upd2 W a b true) b a true i k = true ↔ (W i k = true ∨ (i = a ∧ k = b) ∨ (i = b ∧ k = a)) := by
  unfold upd2
  by_cases h1 : i = b ∧ k = a
  · rw [if_pos h1]; simp [h1]
  · rw [if_neg h1]
    by_cases h2 : i = a ∧ k = b
    · rw [if_pos h2]; simp [h2]
    · rw [if_neg h2]; simp [h1, h2]
theorem linkF_e {xa xa' : List ActV} {a b : PidD} {sg : List SigD} {e : Int} {x : ActV} (hn : liveAt 0 xa a = some x) (hnb : ¬ badP b) (hF : linkF 0 xa a b = (xa', sg, e)) : e = 0 ∧ ((xa' = xa ∧ sg = [] ∧ (a = b ∨ x.lf b ≠ none)) ∨ (a ≠ b ∧ x.lf b = none ∧ xa' = xa.set (ix a) (x.setL (upd x.lf b (some 1)) (x.ln + 1)) ∧ sg = [lkA a b])) := by
  by_cases hab : a = b
  · rw [linkF_self hn hnb hab] at hF; simp only [Prod.mk.injEq] at hF; obtain ⟨rfl, rfl, rfl⟩ := hF; exact ⟨rfl, .inl ⟨rfl, rfl, .inl hab⟩⟩
  · cases hl : x.lf b with
    | some z => rw [linkF_old hn hnb hab hl] at hF; simp only [Prod.mk.injEq] at hF; obtain ⟨rfl, rfl, rfl⟩ := hF; exact ⟨rfl, .inl ⟨rfl, rfl, .inr (by nofun)⟩⟩
    | none => rw [linkF_new hn hnb hab hl] at hF; simp only [Prod.mk.injEq] at hF; obtain ⟨rfl, rfl, rfl⟩ := hF; exact ⟨rfl, .inr ⟨hab, rfl, rfl, rfl⟩⟩
inductive LuI (W : Nat → Nat → Bool) (T : Nat → Bool) (a b : Nat) : Tr → List ActV → List SigD → Prop
  | half {xa : List ActV} (h : HalfLU xa W T a b) : LuI W T a b [] xa [lkA (pN a) (pN b)]
  | done {tr : Tr} {xa : List ActV} (hab : a ≠ b) (h : LUT xa (upd2 (upd2 W a b true) b a true) T) : LuI W T a b tr xa []
  | none {tr : Tr} {xa : List ActV} (h : LUT xa W T) (hab : a = b ∨ W a b = true) : LuI W T a b tr xa []
theorem LUT.sym {xa : List ActV} {W : Nat → Nat → Bool} {T : Nat → Bool} (h : LUT xa W T) {a b : Nat} (ha : 1 ≤ a ∧ a ≤ 8) (hb : 1 ≤ b ∧ b ≤ 8) (hw : W a b = true) : W b a = true := by
  obtain ⟨x, hx, _, hl⟩ := h.act a ha.1 ha.2
  obtain ⟨y, hy, hyl⟩ := h.ep.both hx ((hl (pN b)).2 ((WP_pN hb).2 hw))
  obtain ⟨y', hy', _, hl'⟩ := h.act b hb.1 hb.2
  rw [hy] at hy'
  obtain rfl := Option.some.inj hy'
  exact (WP_pN ha).1 ((hl' (pN a)).1 hyl)
theorem LUT.irr {xa : List ActV} {W : Nat → Nat → Bool} {T : Nat → Bool} (h : LUT xa W T) {a : Nat} (ha : 1 ≤ a ∧ a ≤ 8) : W a a = false := by
  obtain ⟨x, hx, _, hl⟩ := h.act a ha.1 ha.2
  cases hw : W a a with
  | false => rfl
  | true => exact absurd rfl ((h.ep.wf _ _ hx).keys (pN a) ((hl (pN a)).2 ((WP_pN ha).2 hw))).2
theorem LuI.fin {W : Nat → Nat → Bool} {T : Nat → Bool} {a b : Nat} {tr : Tr} {xa : List ActV} (ha : 1 ≤ a ∧ a ≤ 8) (hb : 1 ≤ b ∧ b ≤ 8) (h : LuI W T a b tr xa []) : (a = b → LUT xa W T) ∧ (a ≠ b → LUT xa (upd2 (upd2 W a b true) b a true) T) := by
  cases h with
  | done hab h => exact ⟨fun e => absurd e hab, fun _ => h⟩
  | none h hab =>
    refine ⟨fun _ => h, fun hne => ?_⟩
    rcases hab with hab | hab
    · exact absurd hab hne
    · have hba := h.sym ha hb hab
      have : upd2 (upd2 W a b true) b a true = W := by
        funext i k
        unfold upd2
        by_cases h1 : i = b ∧ k = a
        · rw [if_pos h1, h1.1, h1.2, hba]
        · rw [if_neg h1]
          by_cases h2 : i = a ∧ k = b
          · rw [if_pos h2, h2.1, h2.2, hab]
          · rw [if_neg h2]
      rw [this]; exact h
theorem luI {W : Nat → Nat → Bool} {T : Nat → Bool} {a b : Nat} (ha : 1 ≤ a ∧ a ≤ 8) (hb : 1 ≤ b ∧ b ≤ 8) : SInv (LuI W T a b) where
  ok := fun tr xa s q h => by
    cases h with
    | half h => exact ep_bad (s := lkA _ _) ⟨by show (1 : Int) ≤ 2; omega, by show (2 : Int) ≤ 6; omega⟩ h.p2.inb
  room := fun tr xa s q h => by
    cases h with
    | half h => have := h.p2.len; exact ⟨by omega, by show (-9223372036854775808 : Int) ≤ 0 ∧ (0 : Int) ≤ 9223372036854775807; omega, Nat.zero_le _, Nat.zero_le _⟩
  lim := fun tr xa s q h x hx => by
    cases h with
    | half h => exact wf_lim (xa := xa) (h.p2.wf _ _ hx)
  step := fun tr xa s q xa' f h hT => by
    cases h with
    | half h =>
      have hE := h.p2.step hT
      obtain ⟨y, hy, hyt, hyl⟩ := h.act b hb.1 hb.2
      obtain ⟨rfl, rfl⟩ := hT.link' (ep_bad (s := lkA _ _) ⟨by show (1 : Int) ≤ 2; omega, by show (2 : Int) ≤ 6; omega⟩ h.p2.inb) hy rfl h.p2.ne
      refine ⟨.done (fun e => h.p2.ne (by rw [e])) ⟨hE.1, by rw [List.length_set]; exact h.len, fun n h1 h2 => ?_⟩, Nat.zero_le _⟩
      have hal := (live_inv hy).2.1
      obtain ⟨e1, e2, e3, e4, e5, e6, e7⟩ := setL_lf hal (upd y.lf (pN a) (some 1)) (if y.lf (pN a) = none then y.ln + 1 else y.ln)
      have hL := liveAt_setL hy e6 (pN n)
      by_cases hnb : n = b
      · subst hnb
        refine ⟨_, by rw [show (lkA (pN a) (pN n)).to_ = pN n from rfl, show (lkA (pN a) (pN n)).fr = pN a from rfl, hL, if_pos rfl], e5.trans hyt, fun k => ?_⟩
        rw [e1]
        by_cases hka : k = pN a
        · subst hka
          rw [upd_same, WP_pN ha, upd2_get]
          simp
        · rw [upd_ne _ _ hka, hyl]
          constructor
          · rintro (hw | ⟨hna, _⟩)
            · exact ⟨hw.1, upd2_get.2 (.inl hw.2)⟩
            · exact absurd (by rw [hna]) h.p2.ne
          · intro hw
            rcases upd2_get.1 hw.2 with h3 | ⟨h3, _⟩ | ⟨_, h3⟩
            · exact .inl ⟨hw.1, h3⟩
            · exact absurd (by rw [h3]) h.p2.ne
            · exact absurd (by rw [(in_pN hw.1).1, h3]) hka
      · obtain ⟨z, hz, hzt, hzl⟩ := h.act n h1 h2
        refine ⟨z, by rw [show (lkA (pN a) (pN b)).to_ = pN b from rfl, show (lkA (pN a) (pN b)).fr = pN a from rfl, hL, if_neg (fun e => hnb (pN_inj e))]; exact hz, hzt, fun k => ?_⟩
        rw [hzl]
        constructor
        · rintro (hw | ⟨hna, hk⟩)
          · exact ⟨hw.1, upd2_get.2 (.inl hw.2)⟩
          · subst hk; exact (WP_pN hb).2 (upd2_get.2 (.inr (.inl ⟨hna, rfl⟩)))
        · intro hw
          rcases upd2_get.1 hw.2 with h3 | ⟨h3, h4⟩ | ⟨h3, _⟩
          · exact .inl ⟨hw.1, h3⟩
          · exact .inr ⟨h3, by rw [(in_pN hw.1).1, h4]⟩
          · exact absurd h3 hnb
theorem LUT.link {xa xa' : List ActV} {W : Nat → Nat → Bool} {T : Nat → Bool} (h : LUT xa W T) {a b : Nat} (ha : 1 ≤ a ∧ a ≤ 8) (hb : 1 ≤ b ∧ b ≤ 8) {sg : List SigD} {e : Int} (hF : linkF 0 xa (pN a) (pN b) = (xa', sg, e)) : e = 0 ∧ LuI W T a b [] xa' sg ∧ sg.length ≤ 1 := by
  have hnb : ¬ badP (pN b) := by unfold badP; obtain ⟨h1, h2, h3⟩ := pN_in hb; omega
  obtain ⟨x, hx, hxt, hxl⟩ := h.act a ha.1 ha.2
  have hI := (ep_link h.ep (pN_in ha) (pN_in hb) hF).1
  obtain ⟨he, ⟨rfl, rfl, hc⟩ | ⟨hne, hl, hxa, hsg⟩⟩ := linkF_e hx hnb hF
  · refine ⟨he, .none h ?_, Nat.zero_le _⟩
    rcases hc with hc | hc
    · exact .inl (pN_inj hc)
    · exact .inr ((WP_pN hb).1 ((hxl _).1 hc))
  · subst hsg
    refine ⟨he, ?_, Nat.le_refl _⟩
    have hp2 : Pend2 xa' (pN a) (pN b) := by
      cases hI with
      | ep h2 hm =>
        obtain ⟨k4, _⟩ := h2.sig (lkA (pN a) (pN b)) (by simp)
        exact absurd k4 (by show ¬ (2 : Int) = 4; omega)
      | p2 h2 => exact h2
    subst hxa
    refine .half ⟨hp2, by rw [List.length_set]; exact h.len, fun n h1 h2 => ?_, ?_⟩
    · have hal := (live_inv hx).2.1
      obtain ⟨e1, e2, e3, e4, e5, e6, e7⟩ := setL_lf hal (upd x.lf (pN b) (some 1)) (x.ln + 1)
      have hL := liveAt_setL hx e6 (pN n)
      by_cases hna : n = a
      · subst hna
        refine ⟨_, by rw [hL, if_pos rfl], e5.trans hxt, fun k => ?_⟩
        rw [e1]
        by_cases hkb : k = pN b
        · subst hkb; rw [upd_same]; simp
        · rw [upd_ne _ _ hkb, hxl]; simp [hkb]
      · obtain ⟨z, hz, hzt, hzl⟩ := h.act n h1 h2
        refine ⟨z, by rw [hL, if_neg (fun e => hna (pN_inj e))]; exact hz, hzt, fun k => ?_⟩
        rw [hzl]; simp [hna]
    · cases hw : W a b with
      | false => rfl
      | true => exact absurd ((hxl (pN b)).2 ((WP_pN hb).2 hw)) (by rw [hl]; simp)
theorem LUT.new {xa : List ActV} (hl : xa.length = 8) (hA : AllNew xa) : LUT xa (fun _ _ => false) (fun _ => false) := by
  refine ⟨ep_new (by omega) hA, hl, fun n h1 h2 => ?_⟩
  obtain ⟨a, ha⟩ : ∃ a, xa[n - 1]? = some a := ⟨_, List.getElem?_eq_getElem (by omega)⟩
  obtain ⟨lb, hb, rfl⟩ := hA a (List.mem_of_getElem? ha)
  refine ⟨_, liveAt_some (i := n - 1) ⟨rfl, by omega, by rw [hl]; omega⟩ (by omega) ha rfl, rfl, fun k => ⟨fun h => absurd rfl h, fun h => by cases h.2⟩⟩
theorem LUT.trap {xa xa' : List ActV} {W : Nat → Nat → Bool} {T : Nat → Bool} (h : LUT xa W T) {a : Nat} (ha : 1 ≤ a ∧ a ≤ 8) {on b : Bool} (hF : trapF 0 xa (pN a) on = (xa', b)) : LUT xa' W (updN T a on) := by
  have hE := ep_trap h.ep hF
  obtain ⟨x, hx, hxt, hxl⟩ := h.act a ha.1 ha.2
  rw [trapF_yes hx] at hF
  simp only [Prod.mk.injEq] at hF
  obtain ⟨rfl, rfl⟩ := hF
  have hal := (live_inv hx).2.1
  obtain ⟨e1, e2, e3, e4, e5, e6⟩ := setT_lf hal on
  refine ⟨hE, by rw [List.length_set]; exact h.len, fun n h1 h2 => ?_⟩
  have hL := liveAt_setL hx e6 (pN n)
  by_cases hna : n = a
  · subst hna
    exact ⟨_, by rw [hL, if_pos rfl], by rw [e5, updN_same], fun k => by rw [e1]; exact hxl k⟩
  · obtain ⟨z, hz, hzt, hzl⟩ := h.act n h1 h2
    exact ⟨z, by rw [hL, if_neg (fun e => hna (pN_inj e))]; exact hz, by rw [updN_ne _ _ hna]; exact hzt, hzl⟩
end Go.Proofs.Yticdhdpfimpmoaa.Proc
/- What every row's proof of this seat shares. -/
namespace Go.Proofs.Yticdhdpfimpmoaa.Row
theorem own : ownKnob Try.prog.godebug = none := by kernel_rfl
theorem laidOut : laidOutB Try.prog = true := by kernel_rfl
end Go.Proofs.Yticdhdpfimpmoaa.Row
set_option maxRecDepth 100000
namespace Go.Proofs.Yticdhdpfimpmoaa.Eng
open Go
theorem open_bs {s : ByteArray} (h : s.size ≤ maxLen) : ∃ l, s = bs l ∧ l.length ≤ 9223372036854775807 ∧ l = s.data.toList := by
  refine ⟨s.data.toList, bs_of s, ?_, rfl⟩
  have : s.size = s.data.toList.length := by rw [Array.length_toList]; rfl
  unfold maxLen at h
  omega
theorem bd_wf {k : IntKind} {a : Int} (h : (Lit.int k a).wf = true) : k.min ≤ a ∧ a ≤ k.max := by
  simpa [Lit.wf] using h
theorem bd_u64 {a : Int} (h : (Lit.int .u64 a).wf = true) : 0 ≤ a ∧ a ≤ 18446744073709551615 := bd_wf h
theorem bd_i64 {a : Int} (h : (Lit.int .i64 a).wf = true) : -9223372036854775808 ≤ a ∧ a ≤ 9223372036854775807 := bd_wf h
theorem bd_u32 {a : Int} (h : (Lit.int .u32 a).wf = true) : 0 ≤ a ∧ a ≤ 4294967295 := bd_wf h
theorem bd_i32 {a : Int} (h : (Lit.int .i32 a).wf = true) : -2147483648 ≤ a ∧ a ≤ 2147483647 := bd_wf h
theorem bd_u8 {a : Int} (h : (Lit.int .u8 a).wf = true) : 0 ≤ a ∧ a ≤ 255 := bd_wf h
end Go.Proofs.Yticdhdpfimpmoaa.Eng
/- Arguments that are slices, of flat elements or of slices again: opened. -/
set_option linter.unusedVariables false
namespace Go.Proofs.Yticdhdpfimpmoaa.Eng
open Go Go.RowKit
/-- The kinds of a cell. -/
inductive Lk where
  | int (k : IntKind)
  | bool
  | str
def fitL : Lk → Value → Prop
  | .int k, v => ∃ n, v = .int k n ∧ k.min ≤ n ∧ n ≤ k.max
  | .bool, v => ∃ b, v = .bool b
  | .str, v => ∃ l, v = .string (bs l) ∧ l.length ≤ 9223372036854775807
def fitsL : List Lk → List Value → Prop
  | [], cs => cs = []
  | k :: ks, cs => ∃ v r, cs = v :: r ∧ fitL k v ∧ fitsL ks r
def leafSz : Value → Nat
  | .string s => s.size
  | _ => 0
def cellsSz (cs : List Value) : Nat := (cs.map leafSz).sum
def flatFs (P : Program) (rec : TypeId → Option (List Lk)) : Nat → List Field → Option (List Lk)
  | _, [] => some []
  | off, f :: fs => match rec f.type with
    | none => none
    | some ks => if f.offset = off ∧ ks.length = P.cellsOf f.type then match flatFs P rec (off + ks.length) fs with
      | none => none
      | some r => some (ks ++ r)
      else none
def flatK (P : Program) : Nat → TypeId → Option (List Lk)
  | 0, _ => none
  | n + 1, t => match P.underlying t with
    | some (.int k) => some [.int k]
    | some .bool => some [.bool]
    | some .string => some [.str]
    | some (.struct fs) => match flatFs P (flatK P n) 0 fs.toList with
      | some ks => if ks.length = P.cellsOf t then some ks else none
      | none => none
    | some (.array m e) => match flatK P n e with
      | some ks => if ks.length = P.cellsOf e ∧ m * ks.length = P.cellsOf t then some (List.replicate m ks).flatten else none
      | none => none
    | _ => none
theorem fitsL_append {k1 k2 : List Lk} {c1 c2 : List Value} (h1 : fitsL k1 c1) (h2 : fitsL k2 c2) : fitsL (k1 ++ k2) (c1 ++ c2) := by
  induction k1 generalizing c1 with
  | nil => obtain rfl : c1 = [] := h1; exact h2
  | cons k ks ih => obtain ⟨v, r, rfl, hv, hr⟩ := h1; exact ⟨v, r ++ c2, rfl, hv, ih hr⟩
theorem fitsL_length {ks : List Lk} {cs : List Value} (h : fitsL ks cs) : cs.length = ks.length := by
  induction ks generalizing cs with
  | nil => obtain rfl : cs = [] := h; rfl
  | cons k ks ih => obtain ⟨v, r, rfl, hv, hr⟩ := h; simp [ih hr]
theorem cellsSz_append (a b : List Value) : cellsSz (a ++ b) = cellsSz a + cellsSz b := by simp [cellsSz]
section
variable {H : Type} {enc : TypeId × Value → H} {P : Program} {w : World} {base : Nat} {sp : Nat → Bool} {held : Bool}
theorem bulk_pos (d : DataW H) : 1 ≤ Rows.uptoBulk d := by
  cases d with
  | lit l => cases l <;> simp [Rows.uptoBulk]
  | _ => simp [Rows.uptoBulk]
theorem bulkAll_append (a b : List (DataW H)) : Rows.uptoBulkAll (a ++ b) = Rows.uptoBulkAll a + Rows.uptoBulkAll b := by
  induction a with
  | nil => simp [Rows.uptoBulkAll]
  | cons x r ih => simp [Rows.uptoBulkAll, ih]; omega
theorem flatK_open (n : Nat) : ∀ {fuel : Nat} {t : TypeId} {cs : List Value} {x : DataW H × List MemPlace} {ks : List Lk}, flatK P n t = some ks → DataW.trod enc P w base sp held fuel t cs = some x → fitsL ks cs ∧ cellsSz cs + 1 ≤ Rows.uptoBulk x.1 := by
  induction n with
  | zero => intro _ _ _ _ _ h; cases h
  | succ n ih =>
    intro fuel t cs x ks hf h
    unfold flatK at hf
    split at hf
    · rename_i k hu
      obtain rfl := Option.some.inj hf
      obtain ⟨m, rfl, rfl, hw⟩ := DataW.trod_int hu h
      have := bd_wf hw
      exact ⟨⟨_, _, rfl, ⟨m, rfl, this.1, this.2⟩, rfl⟩, by simp [cellsSz, leafSz, Rows.uptoBulk]⟩
    · rename_i hu
      obtain rfl := Option.some.inj hf
      obtain ⟨b, rfl, rfl⟩ := DataW.trod_bool hu h
      exact ⟨⟨_, _, rfl, ⟨b, rfl⟩, rfl⟩, by simp [cellsSz, leafSz, Rows.uptoBulk]⟩
    · rename_i hu
      obtain rfl := Option.some.inj hf
      obtain ⟨s, rfl, rfl, hs⟩ := DataW.trod_string hu h
      obtain ⟨l, rfl, hl, e⟩ := open_bs hs
      refine ⟨⟨_, _, rfl, ⟨l, rfl, hl⟩, rfl⟩, ?_⟩
      simp [cellsSz, leafSz, Rows.uptoBulk, bs_size, ← e]
    · rename_i fs hu
      split at hf
      · rename_i ks' hks
        split at hf
        · rename_i hlen
          obtain rfl := Option.some.inj hf
          obtain ⟨xs, m, rfl, rfl, hcl, hxl, hel⟩ := DataW.trod_struct hu h
          have key : ∀ (l : List Field) (i off : Nat) (ks : List Lk), (∀ j f, l[j]? = some f → DataW.trod enc P w base sp held m f.type ((cs.drop f.offset).take (P.cellsOf f.type)) = xs[i + j]?) → i + l.length = xs.length →
              flatFs P (flatK P n) off l = some ks → off + ks.length = cs.length → fitsL ks (cs.drop off) ∧ cellsSz (cs.drop off) ≤ Rows.uptoBulkAll ((xs.drop i).map (·.1)) := by
            intro l
            induction l with
            | nil =>
              intro i off ks hj hil hfs hl
              unfold flatFs at hfs
              obtain rfl := Option.some.inj hfs
              rw [List.drop_eq_nil_of_le (by simp at hl; omega)]
              exact ⟨rfl, by simp [cellsSz]⟩
            | cons f l ihl =>
              intro i off ks hj hil hfs hl
              unfold flatFs at hfs
              split at hfs
              · cases hfs
              · rename_i kf hkf
                split at hfs
                · rename_i hoff
                  split at hfs
                  · cases hfs
                  · rename_i kr hkr
                    obtain rfl := Option.some.inj hfs
                    rw [List.length_append] at hl
                    have h0 := hj 0 f rfl
                    rw [Nat.add_zero] at h0
                    have hi : i < xs.length := by simp at hil; omega
                    rw [List.getElem?_eq_getElem hi, hoff.1, ← hoff.2] at h0
                    obtain ⟨a1, a2⟩ := ih hkf h0
                    obtain ⟨b1, b2⟩ := ihl (i + 1) (off + kf.length) kr (fun j g hg => by have := hj (j + 1) g hg; rwa [show i + (j + 1) = i + 1 + j by omega] at this) (by simp at hil; omega) hkr (by omega)
                    have e : cs.drop off = (cs.drop off).take kf.length ++ cs.drop (off + kf.length) := by rw [← List.drop_drop, List.take_append_drop]
                    rw [e]
                    refine ⟨fitsL_append a1 b1, ?_⟩
                    rw [cellsSz_append, List.drop_eq_getElem_cons hi]
                    simp only [List.map_cons, Rows.uptoBulkAll]
                    omega
                · cases hfs
          have := key fs.toList 0 0 ks' (fun j f hf => by have := hel j f (by simpa using hf); rwa [Nat.zero_add]) (by simp [hxl]) hks (by omega)
          simp only [List.drop_zero] at this
          refine ⟨this.1, ?_⟩
          simp only [Rows.uptoBulk]
          omega
        · cases hf
      · cases hf
    · rename_i m e hu
      split at hf
      · rename_i ks' hks
        split at hf
        · rename_i hlen
          obtain rfl := Option.some.inj hf
          obtain ⟨xs, fm, rfl, rfl, hcl, hxl, hel⟩ := DataW.trod_array hu h
          have key : ∀ (j i : Nat), i + j = m → fitsL (List.replicate j ks').flatten (cs.drop (i * ks'.length)) ∧ cellsSz (cs.drop (i * ks'.length)) ≤ Rows.uptoBulkAll ((xs.drop i).map (·.1)) := by
            intro j
            induction j with
            | zero =>
              intro i hij
              rw [List.drop_eq_nil_of_le (by rw [hcl, ← hlen.2, show i = m by omega]; exact Nat.le_refl _)]
              exact ⟨rfl, by simp [cellsSz]⟩
            | succ j ihj =>
              intro i hij
              have hi : i < xs.length := by omega
              have h0 := hel i (by omega)
              rw [List.getElem?_eq_getElem hi, ← hlen.1] at h0
              obtain ⟨a1, a2⟩ := ih hks h0
              obtain ⟨b1, b2⟩ := ihj (i + 1) (by omega)
              have e1 : cs.drop (i * ks'.length) = (cs.drop (i * ks'.length)).take ks'.length ++ cs.drop ((i + 1) * ks'.length) := by
                rw [Nat.succ_mul, ← List.drop_drop, List.take_append_drop]
              rw [e1, List.replicate_succ, List.flatten_cons]
              refine ⟨fitsL_append a1 b1, ?_⟩
              rw [cellsSz_append, List.drop_eq_getElem_cons hi]
              simp only [List.map_cons, Rows.uptoBulkAll]
              omega
          have := key m 0 (by omega)
          simp only [Nat.zero_mul, List.drop_zero] at this
          refine ⟨this.1, ?_⟩
          simp only [Rows.uptoBulk]
          omega
        · cases hf
      · cases hf
    · cases hf
/-! ## Slices -/
/-- What a type's readings give: a reading of the cells as a thing, of no more than so much. -/
def OpensT (enc : TypeId × Value → H) (P : Program) (w : World) (sp : Nat → Bool) (held : Bool) {α : Type} (t : TypeId) (R : Hv → List Value → α → Prop) (sz : α → Nat) : Prop :=
  ∀ {fuel : Nat} {cs : List Value} {x : DataW H × List MemPlace}, DataW.trod enc P w 0 sp held fuel t cs = some x → ∃ a, R (Rg w 0 w.heap.size) cs a ∧ sz a ≤ Rows.uptoBulk x.1
theorem choose_list {α : Type} {n : Nat} {p : Nat → α → Prop} (h : ∀ i, i < n → ∃ x, p i x) : ∃ l : List α, l.length = n ∧ ∀ i x, l[i]? = some x → p i x := by
  induction n with
  | zero => exact ⟨[], rfl, fun i x hx => by simp at hx⟩
  | succ n ih =>
    obtain ⟨l, hl, hp⟩ := ih (fun i hi => h i (by omega))
    obtain ⟨x, hx⟩ := h n (by omega)
    refine ⟨l ++ [x], by simp [hl], fun i y hy => ?_⟩
    by_cases hi : i < n
    · rw [List.getElem?_append_left (by omega)] at hy; exact hp i y hy
    · rw [List.getElem?_append_right (by omega)] at hy
      have : i = n := by
        have := (List.getElem?_eq_some_iff.1 hy).1
        simp at this; omega
      subst this
      rw [hl, Nat.sub_self] at hy
      obtain rfl := Option.some.inj hy
      exact hx
theorem sum_le {α : Type} (sz : α → Nat) : ∀ (xs : List α) (ds : List (DataW H)), xs.length = ds.length → (∀ (i : Nat) (x : α) (d : DataW H), xs[i]? = some x → ds[i]? = some d → sz x ≤ Rows.uptoBulk d) → (xs.map sz).sum ≤ Rows.uptoBulkAll ds := by
  intro xs
  induction xs with
  | nil => intro ds _ _; simp
  | cons x xs ih =>
    intro ds hl h
    cases ds with
    | nil => simp at hl
    | cons d ds =>
      have h0 := h 0 x d rfl rfl
      have := ih ds (by simpa using hl) (fun i y e hy he => h (i + 1) y e hy he)
      simp only [List.map_cons, List.sum_cons, Rows.uptoBulkAll]
      omega
theorem len_le_bulk (ds : List (DataW H)) : ds.length ≤ Rows.uptoBulkAll ds := by
  induction ds with
  | nil => simp
  | cons d ds ih => have := bulk_pos d; simp only [List.length_cons, Rows.uptoBulkAll]; omega
/-- A slice of things that are read, read. -/
theorem open_sl {α : Type} {t e : TypeId} {R : Hv → List Value → α → Prop} {sz : α → Nat} (s : Nat) (hs : P.cellsOf e = s) (hs0 : 0 < s) (ht : P.underlying t = some (.slice e)) (he : OpensT enc P w sp held e R sz) :
    OpensT enc P w sp held t (fun H cs xs => ∃ v, cs = [v] ∧ SlR R s H v xs) (fun xs => (xs.map sz).sum + 1 + 0 * xs.length) ∧
    (∀ {fuel : Nat} {v : Value} {x : DataW H × List MemPlace}, DataW.trod enc P w 0 sp held fuel t [v] = some x → ∃ xs : List α, SlR R s (Rg w 0 w.heap.size) v xs ∧ (xs.map sz).sum + 1 ≤ Rows.uptoBulk x.1 ∧ xs.length + 1 ≤ Rows.uptoBulk x.1 ∧ (∀ r : Nat, ((DataW.weights P t x.1).all (· ≤ r)) = true → xs.length * P.bytesOf e ≤ r)) := by
  have main : ∀ {fuel : Nat} {cs : List Value} {x : DataW H × List MemPlace}, DataW.trod enc P w 0 sp held fuel t cs = some x → ∃ (v : Value) (xs : List α), cs = [v] ∧ SlR R s (Rg w 0 w.heap.size) v xs ∧ (xs.map sz).sum + 1 ≤ Rows.uptoBulk x.1 ∧ xs.length + 1 ≤ Rows.uptoBulk x.1 ∧ (∀ r : Nat, ((DataW.weights P t x.1).all (· ≤ r)) = true → xs.length * P.bytesOf e ≤ r) := by
    intro fuel cs x h
    rcases DataW.trod_slice ht h with ⟨rfl, rfl⟩ | ⟨a, len, cap, elems, rest, n, rfl, rfl, rfl, hb, hlc, hcm, hel, hat, _, _⟩
    · exact ⟨_, [], rfl, SlR.nil _ _ _, by simp [Rows.uptoBulk], by simp [Rows.uptoBulk], fun r _ => by simp⟩
    · have hx : ∀ i, i < len → ∃ y : α, ∃ ci, w.cells? 0 (a.add (i * s)) s = some ci ∧ R (Rg w 0 w.heap.size) ci y ∧ ∀ d, (elems.map (·.1))[i]? = some d → sz y ≤ Rows.uptoBulk d := by
        intro i hi
        have h0 := hat i hi
        rw [hs, List.getElem?_eq_getElem (by omega), Option.bind_eq_some_iff] at h0
        obtain ⟨ci, h1, h2⟩ := h0
        obtain ⟨y, h3, h4⟩ := he h2
        refine ⟨y, ci, h1, h3, fun d hd => ?_⟩
        rw [List.getElem?_map, List.getElem?_eq_getElem (by omega)] at hd
        obtain rfl := Option.some.inj hd
        exact h4
      obtain ⟨xs, hxl, hxs⟩ := choose_list hx
      have hml : xs.length = (elems.map (·.1)).length := by simp; omega
      have hsum := sum_le sz xs (elems.map (·.1)) hml (fun i y d hy hd => by obtain ⟨ci, _, _, h⟩ := hxs i y hy; exact h d hd)
      have hlb := len_le_bulk (elems.map (·.1))
      refine ⟨_, xs, rfl, ?_, by simp only [Rows.uptoBulk]; omega, by simp only [Rows.uptoBulk]; rw [hml]; omega, fun r hr => ?_⟩
      rotate_left
      · simp only [DataW.weights, ht, List.all_cons, Bool.and_eq_true, decide_eq_true_eq, List.length_map] at hr
        refine Nat.le_trans (Nat.mul_le_mul_right _ ?_) hr.1
        omega
      refine ⟨some a, cap, by rw [hxl], by unfold maxLen at hcm; omega, (fun h => by cases h), fun hne => ?_⟩
      have hlen : 0 < len := by
        rw [← hxl]; exact List.length_pos_iff.2 hne
      obtain ⟨y0, hy0⟩ : ∃ y, xs[0]? = some y := ⟨xs[0], List.getElem?_eq_getElem (by omega)⟩
      obtain ⟨c0, hc0, _, _⟩ := hxs 0 y0 hy0
      obtain ⟨b, o, spot⟩ := a
      have hcells : ∀ i ci, w.cells? 0 ((⟨b, o, spot⟩ : Addr).add (i * s)) s = some ci → ci.length = s ∧ ∀ j, j < s → w.cell? (((⟨b, o, spot⟩ : Addr).add (i * s)).add j) = ci[j]? := fun i ci h => by
        have := World.cells?_some h
        exact ⟨this.2.1, this.2.2⟩
      have hspot : spot = none := by
        have h1 := (hcells 0 c0 hc0).2 0 hs0
        have hc0l := (hcells 0 c0 hc0).1
        rw [List.getElem?_eq_getElem (by omega)] at h1
        simp only [Nat.zero_mul] at h1
        cases spot with
        | none => rfl
        | some q =>
          exfalso
          simp only [Addr.add, if_true, World.cell?] at h1
          split at h1 <;> simp at h1
      subst hspot
      have hblk : ∃ C ty fz, w.heap[b]? = some (.cells C ty fz) := by
        have h1 := (hcells 0 c0 hc0).2 0 hs0
        have hc0l := (hcells 0 c0 hc0).1
        rw [List.getElem?_eq_getElem (by omega)] at h1
        simp only [Nat.zero_mul, Addr.add, if_true, World.cell?] at h1
        split at h1
        · rename_i C ty fz hh; exact ⟨C, ty, fz, hh⟩
        · cases h1
      obtain ⟨C, ty, fz, hC⟩ := hblk
      have hcell : ∀ k, w.cell? ⟨b, k, none⟩ = C[k]? := fun k => by simp [World.cell?, hC]
      have hin : ∀ i, i < len → ∀ j, j < s → ∀ y ci, xs[i]? = some y → w.cells? 0 ((⟨b, o, none⟩ : Addr).add (i * s)) s = some ci → C[o + i * s + j]? = ci[j]? := fun i hi j hj y ci hy hci => by
        have := (hcells i ci hci).2 j hj
        rw [Addr.add_lit, Addr.add_lit, hcell] at this
        exact this
      have hCl : o + len * s ≤ C.size := by
        obtain ⟨y, hy⟩ : ∃ y, xs[len - 1]? = some y := ⟨xs[len - 1], List.getElem?_eq_getElem (by omega)⟩
        obtain ⟨ci, hci, _, _⟩ := hxs (len - 1) y hy
        have h1 := hin (len - 1) (by omega) (s - 1) (by omega) y ci hy hci
        have hl := (hcells (len - 1) ci hci).1
        rw [List.getElem?_eq_getElem (by omega)] at h1
        have h2 := (Array.getElem?_eq_some_iff.1 h1).1
        have e : len * s = (len - 1) * s + s := by rw [← Nat.succ_mul]; congr 1; omega
        omega
      refine ⟨b, o, (C.toList.drop o).take (len * s), rfl, ⟨C, ty, fz, ⟨Nat.zero_le _, (Array.getElem?_eq_some_iff.1 hC).1, hC⟩, fun i v hv => ?_⟩, ?_, fun i y hy => ?_⟩
      · rw [List.getElem?_take] at hv
        split at hv
        · rw [List.getElem?_drop] at hv; simpa using hv
        · cases hv
      · simp [hxl]; omega
      · obtain ⟨ci, hci, hR, _⟩ := hxs i y hy
        have hi : i < len := by rw [← hxl]; exact (List.getElem?_eq_some_iff.1 hy).1
        have hl := (hcells i ci hci).1
        have e : (((C.toList.drop o).take (len * s)).drop (i * s)).take s = ci := by
          apply List.ext_getElem?
          intro j
          rw [List.getElem?_take]
          split
          · rename_i hj
            have hle : i * s + s ≤ len * s := by rw [← Nat.succ_mul]; exact Nat.mul_le_mul_right _ hi
            rw [List.getElem?_drop, List.getElem?_take, if_pos (by omega), List.getElem?_drop, ← hin i hi j hj y ci hy hci, Nat.add_assoc]
            simp
          · rw [List.getElem?_eq_none (by omega)]
        rw [e]; exact hR
  refine ⟨fun {fuel cs x} h => ?_, fun {fuel v x} h => ?_⟩
  · obtain ⟨v, xs, h1, h2, h3, _⟩ := main h
    exact ⟨xs, ⟨v, h1, h2⟩, by simp only [Nat.zero_mul, Nat.add_zero]; exact h3⟩
  · obtain ⟨v', xs, h1, h2, h3, h4, h5⟩ := main h
    obtain rfl : v = v' := by simpa using h1
    exact ⟨xs, h2, h3, h4, h5⟩
theorem open_flat {α : Type} {t : TypeId} {ks : List Lk} (n : Nat) (hf : flatK P n t = some ks) {en : α → List Value} {ok : α → Prop} (h : ∀ cs, fitsL ks cs → ∃ x, cs = en x ∧ ok x) : OpensT enc P w sp held t (RE en ok) (fun x => cellsSz (en x) + 1) := by
  intro fuel cs x hx
  obtain ⟨h1, h2⟩ := flatK_open n hf hx
  obtain ⟨a, rfl, ha⟩ := h cs h1
  exact ⟨a, ⟨rfl, ha⟩, h2⟩
/-! ## A law's arguments -/
theorem arg_struct {r : Reach} {b0 : Nat} {t : TypeId} {fs : Array Field} {ks : List Lk} {v : Value} {d : DataW H} {ps : List MemPlace} (ht : P.underlying t = some (.struct fs)) (n : Nat) (hf : flatK P n t = some ks) (hval : Value.okWide P w r b0 t v) (h : DataW.Trod enc P w base sp held t v d ps) :
    ∃ cs : List Value, v = .agg cs.toArray ∧ fitsL ks cs ∧ cellsSz cs + 1 ≤ Rows.uptoBulk d := by
  unfold Value.okWide at hval
  rw [ht] at hval
  obtain ⟨cs, rfl, _⟩ := hval
  obtain ⟨fuel, hh⟩ := h
  obtain ⟨h1, h2⟩ := flatK_open n hf hh
  exact ⟨cs.toList, by simp, h1, h2⟩
theorem arg_sl {α : Type} {r : Reach} {b0 : Nat} {t e : TypeId} {R : Hv → List Value → α → Prop} {sz : α → Nat} {v : Value} {d : DataW H} {ps : List MemPlace} (s : Nat) (hs : P.cellsOf e = s) (hs0 : 0 < s) (ht : P.underlying t = some (.slice e)) (he : OpensT enc P w sp held e R sz)
    (hval : Value.okWide P w r b0 t v) (h : DataW.Trod enc P w 0 sp held t v d ps) : ∃ xs : List α, SlR R s (Rg w 0 w.heap.size) v xs ∧ (xs.map sz).sum + 1 ≤ Rows.uptoBulk d ∧ xs.length + 1 ≤ Rows.uptoBulk d ∧ (∀ r : Nat, ((DataW.weights P t d).all (· ≤ r)) = true → xs.length * P.bytesOf e ≤ r) := by
  have hc : v.cells = #[v] := by
    unfold Value.okWide at hval
    rw [ht] at hval
    dsimp only at hval
    unfold Cell.okWide at hval
    rw [ht] at hval
    cases v <;> first | rfl | (exfalso; simp [Cell.ok, ht] at hval)
  obtain ⟨fuel, hh⟩ := h
  rw [hc] at hh
  exact (open_sl s hs hs0 ht he).2 hh
end
end Go.Proofs.Yticdhdpfimpmoaa.Eng
/- The ways of a region that draws its order meet behind it. -/
set_option maxRecDepth 100000
set_option linter.unusedVariables false
namespace Go.Proofs.Yticdhdpfimpmoaa.Eng
open Go Go.RowKit
theorem drawJoin {P : Program} {id : Nat} {ops : Array Oper} {K : List Value → World → Prop} {ρ : List Value} {w : World} {α : Type} (sl : α → List (Nat × Value)) (inv : α → World → Prop)
    (h : DrawP P id ops (fun ρ' w' => Jn sl inv ρ' w') ρ w)
    (hk : ∀ a (f : Nat → Value) w', inv a w' → hvK (opsDsts ops.toList) f ρ fun ρ => slK (sl a) ρ fun ρ => K ρ w') : DrawP P id ops K ρ w := by
  obtain ⟨h⟩ := h
  refine ⟨wp_mono h fun e a w' ⟨h1, h2, h3, h4⟩ => ⟨h1, h2, h3, ?_⟩⟩
  obtain ⟨x, hm, hi⟩ := h4
  exact slK_mt _ hm (hvK_agree _ h3 (hk x (gt a.tmps.toList) w' hi))
end Go.Proofs.Yticdhdpfimpmoaa.Eng
