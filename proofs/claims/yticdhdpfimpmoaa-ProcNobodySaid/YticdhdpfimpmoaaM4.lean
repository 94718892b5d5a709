/- Texts of this claim, one behind the other. -/
import Derived.Test.YticdhdpfimpmoaaM3
import Derived.Test.YticdhdpfimpmoaaM2
import Derived.Test.YticdhdpfimpmoaaRows
import Derived.WalkKit
import Derived.ProofKit
import Derived.JoinedCond
import Derived.OpenShut
import Derived.ShutString
import Derived.ChangeOld
import Derived.Below
/- Package proc: SortedFunc of maps.Keys, Links. -/
set_option maxRecDepth 100000
set_option maxHeartbeats 4000000
set_option linter.unusedVariables false
set_option linter.unusedSimpArgs false
namespace Go.Proofs.Yticdhdpfimpmoaa.Proc
open Go Go.Proofs.Yticdhdpfimpmoaa.Eng Go.RowKit
open Go.Proofs.Yticdhdpfimpmoaa.Eng.MG
theorem le_lt {ks : List PidD} (h : ks.Pairwise pidLe) (hn : ks.Nodup) : ks.Pairwise pidLt := by
  rw [List.nodup_iff_pairwise_ne] at hn
  refine (h.and hn).imp fun {a b} hab => ?_
  obtain ⟨h1, h2⟩ := hab
  rw [le_iff] at h1
  unfold pidLt
  rcases h1 with h1 | ⟨h1, h3⟩
  · exact .inl h1
  · refine .inr ⟨h1, ?_⟩
    have : a.2 ≠ b.2 := fun h => h2 (Prod.ext h1 h)
    omega
theorem keysOf {f : LF} {ks ys : List PidD} (hn : ks.Nodup) (hm : ∀ k, k ∈ ks ↔ f k ≠ none) (hp : ys.Perm ks) (ho : ys.Pairwise pidLe) : KeysOf f ys := ⟨le_lt ho (hp.symm.nodup hn), fun k => hp.mem_iff.trans (hm k)⟩
section
variable {g : Glob} {w : World} {l : List As}
theorem sortedF_ {p b nn : Nat} {f : LF} (H : Sat g w (Pt p [.map (some b)] 78 :: Mg ekP ekI 0 b f nn :: l)) (hn : nn ≤ 12) : Fc Try.prog 38 #[.func (.func 47) #[] #[.pointer (some ⟨p, 0, none⟩)], .func (.func 40) #[] #[]] w (fun r w' => ∃ ks, KeysOf f ks ∧ ks.length = nn ∧ Sat g w' (Sl 31 2 enPd r ks :: Pt p [.map (some b)] 78 :: Mg ekP ekI 0 b f nn :: l)) := by
  refine Fc.of Try.func38 rfl (by kernel_rfl) ?_
  refine CallP.mk (Fc.imp (Go.Proofs.Yticdhdpfimpmoaa.Proc.collect_ H ?_) ?_)
  · omega
  clear H
  rintro v' w1 ⟨ks1, ⟨h1, ⟨h2, ⟨h3, H⟩⟩⟩⟩
  refine CallP.mk (Fc.imp (Go.Proofs.Yticdhdpfimpmoaa.Proc.bsortF_ _ H ?_) ?_)
  · omega
  clear H
  rintro va' w2 ⟨ys1, ⟨h4, ⟨h5, H⟩⟩⟩
  refine Done.mk ?_
  exact ⟨ys1, keysOf (by assumption) (by assumption) (by assumption) (by assumption), (List.Perm.length_eq (by assumption)).trans (by assumption), H⟩
theorem linksC : LinksC := by
  intro g w l p va refs nd xa H q1 q2 hl x hn hln
  obtain ⟨hx, hal, hr⟩ := live_inv hn
  obtain ⟨t, lb, lf, ln, wa, wc, ws, hb, hf, hnn, rfl⟩ := live_is hal
  have hln2 : ln ≤ 12 := hln
  replace H := opened H hx
  simp only [pcs, List.cons_append, List.nil_append] at H
  refine Fc.of Try.func23 rfl (by kernel_rfl) ?_
  refine rBoxS H ?_
  clear H
  intro p1 w1 H
  refine rLdA (H.at 0 rfl) 0 rfl rfl rfl ?_
  refine H.fronts [6, 6] ?_
  clear H
  intro H
  refine CallP.mk (Fc.imp (Go.Proofs.Yticdhdpfimpmoaa.Proc.findY H _ _ ?_ _ hn) ?_)
  · assumption
  clear H
  rintro _ w2 ⟨b1, ⟨o1, ⟨rfl, ⟨h1, H⟩⟩⟩⟩
  refine rPtrNil rfl ?_
  refine cF rfl ?_
  refine rFieldAt rfl ?_
  refine rLd (H.el 1 rfl h1 hx) 2 rfl rfl rfl ?_
  refine CallP.mk (Fc.imp (Go.Proofs.Yticdhdpfimpmoaa.Proc.keys_ H _) ?_)
  clear H
  rintro _ w3 ⟨p2, ⟨rfl, H⟩⟩
  
  refine H.fronts [4, 1] ?_
  clear H
  intro H
  refine CallP.mk (Fc.imp (Go.Proofs.Yticdhdpfimpmoaa.Proc.sortedF_ H ?_) ?_)
  · assumption
  clear H
  rintro v' w4 ⟨ks1, ⟨h2, ⟨h3, H⟩⟩⟩
  replace H := (((((((H.del 5).del 1).front (j := 3) rfl).front (j := 3) rfl).front (j := 6) rfl).front (j := 6) rfl).front (j := 6) rfl).front (j := 6) rfl
  exact Done.mk ⟨ks1, h2, by omega, (shut0 hx H).front (j := 3) rfl⟩
theorem linksN {p : Nat} {va : Value} {refs nd : Int} {xa : List ActV} (H : Sat g w (Pt p [.int .i64 nd, va, .int .i64 refs] 100 :: Sl 82 5 enAc va xa :: Acts xa :: l)) (q1 q2 : Int) (hl : xa.length ≤ 16) (hn : liveAt nd xa (q1, q2) = none) (hq : -9223372036854775807 ≤ q2 ∧ q2 ≤ 9223372036854775807) : Fc Try.prog 23 #[.pointer (some ⟨p, 0, none⟩), .agg #[.int .i64 q1, .int .i64 q2]] w (fun r w' => r = .slice none 0 0 ∧ Sat g w' (Pt p [.int .i64 nd, va, .int .i64 refs] 100 :: Sl 82 5 enAc va xa :: Acts xa :: l)) := by
  refine Fc.of Try.func23 rfl (by kernel_rfl) ?_
  refine rBoxS H ?_
  clear H
  intro p1 w1 H
  refine rLdA (H.at 0 rfl) 0 rfl rfl rfl ?_
  refine H.fronts [2, 2] ?_
  clear H
  intro H
  refine CallP.mk (Fc.imp (Go.Proofs.Yticdhdpfimpmoaa.Proc.findN H _ _ ?_ ?_ ?_) ?_)
  · assumption
  · assumption
  · assumption
  clear H
  rintro _ w2 ⟨rfl, H⟩
  refine rPtrNil rfl ?_
  refine cT rfl ?_
  refine Done.mk ?_
  exact ⟨rfl, H.del 2⟩
end
end Go.Proofs.Yticdhdpfimpmoaa.Proc
/- Package proc's laws: Rest, one0, crowd, Copy. -/
set_option maxRecDepth 100000
set_option maxHeartbeats 4000000
set_option linter.unusedVariables false
set_option linter.unusedSimpArgs false
namespace Go.Proofs.Yticdhdpfimpmoaa.Proc
open Go Go.Proofs.Yticdhdpfimpmoaa.Eng Go.RowKit
open Go.Proofs.Yticdhdpfimpmoaa.Eng.MG
theorem rem_ways {a b : Int} (hb : 0 < b) (h : a < 0) : (vRem a b = 0 ∧ a % b = 0) ∨ (vRem a b < 0 ∧ a % b = vRem a b + b) := by
  unfold vRem
  rw [Int.tmod_eq_emod]
  have h1 := Int.emod_nonneg a (Int.ne_of_gt hb)
  have h2 := Int.emod_lt_of_pos a hb
  by_cases hd : b ∣ a
  · left
    have := Int.emod_eq_zero_of_dvd hd
    rw [if_pos (.inr hd)]
    omega
  · right
    rw [if_neg (by rintro (h' | h'); omega; exact hd h')]
    have : (b.natAbs : Int) = b := by omega
    rw [this]
    omega
def oneF (n many : Int) : PidD := (0, 1 + n % many)
theorem oneF_rng {n m : Int} (hm : 0 < m) : 1 ≤ (oneF n m).2 ∧ (oneF n m).2 ≤ m := by
  have h1 := Int.emod_nonneg n (Int.ne_of_gt hm)
  have h2 := Int.emod_lt_of_pos n hm
  unfold oneF
  simp only
  omega
section
variable {g : Glob} {w : World} {l : List As}
theorem rest_ (H : Sat g w l) (n m : Int) (hm : 0 < m ∧ m ≤ 1000) (hn : -9223372036854775808 ≤ n ∧ n ≤ 9223372036854775807) : Fc Try.prog 11 #[.int .i64 n, .int .i64 m] w (fun v w' => ∃ k, v = .int .i64 k ∧ k = n % m ∧ 0 ≤ k ∧ k < m ∧ Sat g w' l) := by
  refine Fc.of Try.func11 rfl (by kernel_rfl) ?_
  have h1 := Int.emod_nonneg n (Int.ne_of_gt hm.1)
  have h2 := Int.emod_lt_of_pos n hm.1
  rcases Int.lt_or_le n 0 with hlt | hge
  · have hw := rem_ways hm.1 hlt
    refine DivP.mk (by omega) ?_
    refine EqP.keep ?_
    refine cI (fun c1 => ?_) (fun c1 => ?_)
    · replace c1 := vLt_t (c1)
      refine eqI64 (by omega) ?_
      refine Done.mk ?_
      refine ⟨vRem n m + m, ?_⟩
      refine ⟨?_, ?_⟩
      · refine int_eq ?_
        omega
      refine ⟨?_, ?_⟩
      · omega
      refine ⟨?_, ?_⟩
      · omega
      refine ⟨?_, ?_⟩
      · omega
      exact H
    replace c1 := vLt_f (c1)
    refine Done.mk ?_
    refine ⟨vRem n m, ?_⟩
    refine ⟨?_, ?_⟩
    · refine int_eq ?_
      omega
    refine ⟨?_, ?_⟩
    · omega
    refine ⟨?_, ?_⟩
    · assumption
    refine ⟨?_, ?_⟩
    · omega
    exact H
  · refine DivP.mk (by omega) ?_
    refine eqRem (by omega) ?_
    refine cF (vLt_F (by assumption)) ?_
    refine Done.mk ?_
    refine ⟨n % m, ?_⟩
    refine ⟨?_, ?_⟩
    · refine int_eq ?_
      omega
    refine ⟨?_, ?_⟩
    · omega
    refine ⟨?_, ?_⟩
    · assumption
    refine ⟨?_, ?_⟩
    · assumption
    exact H
theorem one_ (H : Sat g w l) (n m : Int) (hm : 0 < m ∧ m ≤ 1000) (hn : -9223372036854775808 ≤ n ∧ n ≤ 9223372036854775807) : Fc Try.prog 10 #[.int .i64 n, .int .i64 m] w (fun v w' => ∃ k, v = .agg #[.int .i64 0, .int .i64 k] ∧ oneF n m = (0, k) ∧ 1 ≤ k ∧ k ≤ m ∧ Sat g w' l) := by
  refine Fc.of Try.func10 rfl (by kernel_rfl) ?_
  refine rAllocS H rfl ?_
  clear H
  intro p1 w1 H
  refine CallP.mk (Fc.imp (Go.Proofs.Yticdhdpfimpmoaa.Proc.rest_ H _ _ ?_ ?_) ?_)
  · assumption
  · assumption
  clear H
  rintro _ w2 ⟨k1, ⟨rfl, ⟨h1, ⟨h2, ⟨h3, H⟩⟩⟩⟩⟩
  refine eqI64 (by omega) ?_
  refine rBuild rfl rfl rfl ?_
  refine rStAS H 0 rfl rfl rfl rfl ?_
  clear H
  intro w3 H
  clear w2
  refine rdAN (H.at 0 rfl) 0 rfl rfl rfl ?_
  refine Done.mk ?_
  refine ⟨1 + k1, ?_⟩
  refine ⟨?_, ?_⟩
  · rfl
  refine ⟨?_, ?_⟩
  · (unfold oneF; rw [h1])
  refine ⟨?_, ?_⟩
  · omega
  refine ⟨?_, ?_⟩
  · omega
  refine H.drop 0 ?_
  clear H
  intro H
  exact H
theorem copySi {v : Value} {xs : List SigD} (H : Sat g w (Sl 40 9 enSi v xs :: l)) (hl : xs.length ≤ 100000) : Fc Try.prog 35 #[v] w (fun u w' => Sat g w' (Sl 40 9 enSi u xs :: Sl 40 9 enSi v xs :: l)) := by
  refine Fc.of Try.func35 rfl (by kernel_rfl) ?_
  replace H := H.sl0 (en := enSi) (s := 9) (40) (fun _ => rfl)
  refine rApR 80 H 0 rfl (H.rdo (ok := fun _ => True) 1 rfl (fun _ _ => trivial)) (fun y _ => rfl) rfl rfl rfl (by (simp only [List.length_append, List.length_set, List.length_cons, List.length_nil]; omega)) (by (simp only [List.length_append, List.length_set, List.length_cons, List.length_nil]; omega)) ?_
  intro v1
  clear H
  intro w1 H
  refine Done.mk ?_
  exact H
end
end Go.Proofs.Yticdhdpfimpmoaa.Proc
/- Package proc's laws: crowd. -/
set_option maxRecDepth 100000
set_option maxHeartbeats 4000000
set_option linter.unusedVariables false
set_option linter.unusedSimpArgs false
namespace Go.Proofs.Yticdhdpfimpmoaa.Proc
open Go Go.Proofs.Yticdhdpfimpmoaa.Eng Go.RowKit
open Go.Proofs.Yticdhdpfimpmoaa.Eng.MG
def AllNew (xa : List ActV) : Prop := ∀ a ∈ xa, ∃ lb hb, a = new0 lb hb
theorem AllNew.snoc {xa : List ActV} (h : AllNew xa) (lb hb : Nat) : AllNew (xa ++ [new0 lb hb]) := fun a ha => by
  rcases List.mem_append.1 ha with ha | ha
  · exact h a ha
  · exact ⟨lb, hb, List.mem_singleton.1 ha⟩
theorem live_last {xa : List ActV} {a : ActV} {q2 : Int} (hq : q2 = xa.length + 1) (ha : a.alive = true) : liveAt 0 (xa ++ [a]) (0, q2) = some a := by
  refine liveAt_some (i := xa.length) ⟨rfl, by omega, by rw [List.length_append]; simp; omega⟩ (by omega) ?_ ha
  simp
section
variable {g : Glob} {w : World} {l : List As}
theorem crowd_ (H : Sat g w l) (n : Nat) (hn : n ≤ 8) : Fc Try.prog 17 #[.int .i64 n] w (fun r w' => ∃ p va xa, r = .tuple #[.pointer (some ⟨p, 0, none⟩), .bool true] ∧ xa.length = n ∧ AllNew xa ∧ Sat g w' (Pt p [.int .i64 0, va, .int .i64 0] 100 :: Sl 82 5 enAc va xa :: Acts xa :: l)) := by
  refine Fc.of Try.func17 rfl (by kernel_rfl) ?_
  refine CallP.mk (Fc.imp (Go.Proofs.Yticdhdpfimpmoaa.Proc.new_ H _ ?_) ?_)
  · omega
  clear H
  rintro _ w1 ⟨p1, ⟨e1, ⟨rfl, ⟨h1, H⟩⟩⟩⟩
  refine br_f (vNe_F (by assumption)) ?_
  refine rPtrNil rfl ?_
  refine cF rfl ?_
  replace H := (Sat.acts0 H).sl0 (en := enAc) (s := 5) 82 (fun _ => rfl)
  replace H := H.front (j := 2) rfl
  refine LoopP.rule (α := Nat × Value × List ActV) (0, .slice none 0 0, []) (fun x_ => [(20, .int .i64 x_.1)]) (fun x_ w_ => (x_.1 ≤ n) ∧ (x_.2.2.length = x_.1) ∧ (AllNew x_.2.2) ∧ Sat g w_ ((Pt p1 [.int .i64 0, x_.2.1, .int .i64 0] 100 :: Sl 82 5 enAc x_.2.1 x_.2.2 :: Acts x_.2.2 :: l))) (fun x_ => n - x_.1) ?_ ?_ ?_
  · repeat first | exact mt_nil | refine mt_cons rfl ?_ | refine mt_i rfl (by first | omega | (simp only; omega) | (simp; omega) | (simp; done)) ?_
  · try simp only
    refine ⟨?_, ?_⟩
    · omega
    refine ⟨?_, ?_⟩
    · rfl
    refine ⟨?_, ?_⟩
    · nofun
    exact H
  clear H
  rintro ⟨i, va, xa⟩ f_ w_ ⟨hi, hx, hA, H⟩
  try simp only at hi hx hA H ⊢
  refine cI (fun c1 => ?_) (fun c1 => ?_)
  · replace c1 := vLt_t (c1)
    refine bk ?_
    refine CallP.mk (Fc.imp (Go.Proofs.Yticdhdpfimpmoaa.Proc.spawn_ H ?_) ?_)
    · omega
    clear H
    rintro _ w2 ⟨va'1, ⟨lb1, ⟨hb1, ⟨e2, ⟨rfl, ⟨h2, H⟩⟩⟩⟩⟩⟩
    have hlv : liveAt 0 (xa ++ [new0 lb1 hb1]) (0, (xa.length : Int) + 1) = some (new0 lb1 hb1) := live_last rfl rfl
    refine rAllocS H rfl ?_
    clear H
    intro p2 w3 H
    clear w2
    refine rStAS H 0 rfl rfl rfl rfl ?_
    clear H
    intro w2 H
    clear w3
    refine br_f (vNe_F (by assumption)) ?_
    refine rLdA (H.at 0 rfl) 0 rfl rfl rfl ?_
    refine eqI64 (by omega) ?_
    refine rBuild rfl rfl rfl ?_
    refine rStructNe (by kernel_rfl) (by kernel_rfl) ?_
    refine br_f (not_F ((by exact pid_t ⟨rfl, by omega⟩))) ?_
    refine rLdA (H.at 0 rfl) 0 rfl rfl rfl ?_
    refine H.fronts [2, 2] ?_
    clear H
    intro H
    refine CallP.mk (Fc.imp (Go.Proofs.Yticdhdpfimpmoaa.Proc.alive_ H _ _ ?_ ?_) ?_)
    · (rw [List.length_append]; simp; omega)
    · omega
    clear H
    rintro _ w3 ⟨b1, ⟨rfl, ⟨h3, H⟩⟩⟩
    refine cF (not_F ((by (rw [h3, hlv]; rfl)))) ?_
    refine eqI64 (by omega) ?_
    refine Nxt.mk ((i + 1, va'1, xa ++ [new0 lb1 hb1])) (mt_i rfl (by first | omega | (simp only; omega) | (simp; omega)) (mt_nil)) ?_ ?_
    · refine ⟨?_, ?_⟩
      · omega
      refine ⟨?_, ?_⟩
      · (rw [List.length_append]; simp; omega)
      refine ⟨?_, ?_⟩
      · exact hA.snoc _ _
      refine H.fronts [3, 2, 2] ?_
      clear H
      intro H
      refine H.drop 3 ?_
      clear H
      intro H
      exact H
    omega
  replace c1 := vLt_f (c1)
  refine Done.mk ?_
  refine ⟨p1, va, xa, ?_⟩
  refine ⟨?_, ?_⟩
  · rfl
  refine ⟨?_, ?_⟩
  · omega
  refine ⟨?_, ?_⟩
  · assumption
  exact H
end
end Go.Proofs.Yticdhdpfimpmoaa.Proc
/- Slice expressions that only look: v[a:h] of a row that stays whole. -/
set_option maxRecDepth 100000
set_option linter.unusedVariables false
set_option linter.unusedSimpArgs false
namespace Go.Proofs.Yticdhdpfimpmoaa.Eng
open Go Go.RowKit
/-- v' is v[a:h], where v has n elements of s cells. -/
def Vw (v : Value) (s n a h : Nat) (v' : Value) : Prop := ∃ ad cap, v = .slice ad n cap ∧ h ≤ n ∧ n ≤ cap ∧ cap ≤ 9223372036854775807 ∧ a ≤ h ∧ v' = .slice (if cap = a then ad else ad.map (·.add (a * s))) (h - a) (cap - a)
section
variable {P : Program} {g : Glob} {w : World} {l : List As} {K : Value → World → Prop} {α : Type} {en : α → List Value} {ok : α → Prop} {s j n a h i b o : Nat} {v v' : Value} {xs : List α} {e t ty : TypeId}
theorem Sat.vw (H : Sat g w l) (j : Nat) (hj : l[j]? = some (Sl e s en v xs)) (a h : Nat) (ha : a ≤ h) (hh : h ≤ xs.length) : ∃ v', Vw v s xs.length a h v' := by
  rcases (H.off j hj).1 with ⟨rfl, rfl⟩ | ⟨g, o, cap, cur, rfl, _, _, _, hnc, hcm, _⟩
  · exact ⟨_, none, 0, rfl, hh, Nat.zero_le _, by omega, ha, rfl⟩
  · exact ⟨_, _, cap, rfl, hh, hnc, hcm, ha, rfl⟩
theorem rSlVw {lo hi : Option Value} (V : Vw v s n a h v') (ht : P.underlying t = some (.slice e)) (hsz : (P.info? e).map (fun i => i.size) = some s)
    (hlo : lo = none ∧ a = 0 ∨ ∃ k, lo = some (.int k a)) (hhi : hi = none ∧ h = n ∨ ∃ k, hi = some (.int k h)) (k : K v' w) : RunP P (Instr.sliceAt t v lo hi none) w K := by
  obtain ⟨ad, cap, rfl, hh, hnc, _, ha, rfl⟩ := V
  have hb : (Instr.sliceBounds true n cap lo hi none).run P w = .ok (a, h, cap) w := by
    unfold Instr.sliceBounds
    rcases hlo with ⟨rfl, rfl⟩ | ⟨kl, rfl⟩ <;> rcases hhi with ⟨rfl, rfl⟩ | ⟨kh, rfl⟩
    · simp
    · simp [run_sliceBound (P := P) w kh (h : Int) cap _ (by omega) (by omega)]
    · simp [run_sliceBound (P := P) w kl (a : Int) h _ (by omega) (by omega)]
    · simp [run_sliceBound (P := P) w kh (h : Int) cap _ (by omega) (by omega), run_sliceBound (P := P) w kl (a : Int) h _ (by omega) (by omega)]
  exact rSlB ht hsz hb k
theorem rLenVw (V : Vw v s n a h v') (ht : P.underlying t = some (.slice e)) (k : K (.int .i64 ((h - a : Nat) : Int)) w) : RunP P (Builtin.len_ #[t] ty #[v']) w K := by
  obtain ⟨ad, cap, rfl, hh, hnc, _, ha, rfl⟩ := V
  exact rLenSl ht k
theorem Sat.rdv (H : Sat g w l) (j : Nat) (hj : l[j]? = some (Sl e s en v xs)) (V : Vw v s n a h v') (hok : ∀ x ∈ (xs.take h).drop a, ok x) : Rd en ok s w v' ((xs.take h).drop a) := by
  have ho := H.off j hj
  obtain ⟨ad, cap, rfl, hh, hnc, _, ha, rfl⟩ := V
  obtain ⟨a', c', hf⟩ := H.form j hj
  injection hf with _ h2 _
  exact (ho.cut ha (by omega)).rd hok
theorem Vw.le (V : Vw v s n a h v') : h ≤ n ∧ a ≤ h := by
  obtain ⟨ad, cap, rfl, hh, hnc, _, ha, rfl⟩ := V; exact ⟨hh, ha⟩
theorem Vw.one (V : Vw v s n a h v') : v'.oneCell' = true := by obtain ⟨ad, cap, rfl, hh, hnc, _, ha, rfl⟩ := V; rfl
theorem Vw.el (V : Vw v s n a h v') (E : El v s (a + i) b o) (hi : i < h - a) : El v' s i b o := by
  obtain ⟨ad, cap, rfl, hh, hnc, _, ha, rfl⟩ := V
  obtain ⟨b0, n', c, hv, h1, rfl⟩ := E
  injection hv with e1 e2 e3
  subst e1
  refine ⟨b0 + a * s, h - a, cap - a, ?_, hi, by rw [Nat.add_mul]; omega⟩
  rw [if_neg (by omega)]
  simp [Addr.add_lit]
end
end Go.Proofs.Yticdhdpfimpmoaa.Eng
/- Package proc's laws: signals. -/
set_option maxRecDepth 100000
set_option maxHeartbeats 4000000
set_option linter.unusedVariables false
set_option linter.unusedSimpArgs false
namespace Go.Proofs.Yticdhdpfimpmoaa.Proc
open Go Go.Proofs.Yticdhdpfimpmoaa.Eng Go.RowKit
open Go.Proofs.Yticdhdpfimpmoaa.Eng.MG
abbrev sigA (s : SigD) : Value := .agg #[.int .i64 s.kind, .int .i64 s.fr.1, .int .i64 s.fr.2, .int .i64 s.to_.1, .int .i64 s.to_.2, .int .i64 s.ref, .int .i64 s.why, .int .i64 s.tag, .string (bs s.body)]
abbrev effA (f : EffD) (vo : Value) : Value := .agg #[.int .i64 f.fr.1, .int .i64 f.fr.2, .int .i64 f.tag, .string (bs f.body), .bool f.got, .bool f.lost, .bool f.died, .int .i64 f.why, vo]
abbrev Tr := List (SigD × EffD)
/-- What is kept while signals are taken. -/
structure SInv (Inv : Tr → List ActV → List SigD → Prop) : Prop where
  ok : ∀ tr xa s q, Inv tr xa (s :: q) → ¬ takeBad 0 s
  room : ∀ tr xa s q, Inv tr xa (s :: q) → xa.length ≤ 16 ∧ (-9223372036854775808 ≤ s.why ∧ s.why ≤ 9223372036854775807) ∧ tr.length ≤ 5000 ∧ q.length ≤ 90000
  lim : ∀ tr xa s q, Inv tr xa (s :: q) → ∀ x, liveAt 0 xa s.to_ = some x → x.ln ≤ 12 ∧ x.ws.length ≤ 1000 ∧ x.hn ≤ 1000
  step : ∀ tr xa s q xa' f, Inv tr xa (s :: q) → TakeR 0 xa s xa' f 0 → Inv (tr ++ [(s, f)]) xa' (q ++ f.out) ∧ f.out.length ≤ 1000
/-- What is called with each signal and what it did. -/
def SeeC (fid : FuncId) (cap : List Value) (Inv : Tr → List ActV → List SigD → Prop) (Z : Tr → As) : Prop :=
  ∀ (g : Glob) (w : World) (l : List As) (tr : Tr) (s : SigD) (f : EffD) (vo : Value) (q : List SigD) (xa xa' : List ActV), Inv tr xa (s :: q) → TakeR 0 xa s xa' f 0 → Sat g w (Z tr :: l) →
    Fc Try.prog fid (sigA s :: effA f vo :: cap).toArray w (fun r w' => Sat g w' (Z (tr ++ [(s, f)]) :: l))
theorem takeR_ok {nd : Int} {xa xa' : List ActV} {s : SigD} {f : EffD} {e : Int} (h : TakeR nd xa s xa' f e) (hb : ¬ takeBad nd s) : e = 0 := by
  cases h <;> first | rfl | exact absurd (by assumption) hb
section
variable {g : Glob} {w : World} {l : List As} {p : Nat} {va : Value} {refs : Int} {xa : List ActV}
theorem copySv {v v1 : Value} {xs : List SigD} {a h : Nat} (H : Sat g w (Sl 40 9 enSi v xs :: l)) (V : Vw v 9 xs.length a h v1) (hl : xs.length ≤ 100000) : Fc Try.prog 35 #[v1] w (fun u w' => ∃ ys, ys = (xs.take h).drop a ∧ Sat g w' (Sl 40 9 enSi u ys :: Sl 40 9 enSi v xs :: l)) := by
  refine Fc.of Try.func35 rfl (by kernel_rfl) ?_
  have hle : ((xs.take h).drop a).length ≤ 100000 := by rw [List.length_drop, List.length_take]; omega
  replace H := H.sl0 (en := enSi) (s := 9) (40) (fun _ => rfl)
  refine rApR 80 H 0 rfl (H.rdv (ok := fun _ => True) 1 rfl V (fun _ _ => trivial)) (fun y _ => rfl) rfl rfl rfl (by (simp only [List.length_append, List.length_set, List.length_cons, List.length_nil]; omega)) (by (simp only [List.length_append, List.length_set, List.length_cons, List.length_nil]; omega)) ?_
  intro v2
  clear H
  intro w1 H
  refine Done.mk ?_
  refine ⟨List.drop a (List.take h xs), ?_⟩
  refine ⟨?_, ?_⟩
  · rfl
  exact H
theorem signals_ {Inv : Tr → List ActV → List SigD → Prop} {Z : Tr → As} {fid : FuncId} {cap : List Value} (hI : SInv Inv) (hS : SeeC fid cap Inv Z) {v : Value} {q : List SigD} (h0 : Inv [] xa q) (hq : q.length ≤ 1000) (H : Sat g w (Sl 40 9 enSi v q :: Pt p [.int .i64 0, va, .int .i64 refs] 100 :: Sl 82 5 enAc va xa :: Acts xa :: Z [] :: l)) : Fc Try.prog 13 #[.pointer (some ⟨p, 0, none⟩), v, .func (.func fid) #[] cap.toArray] w (fun r w' => ∃ b tr xa', r = .bool b ∧ b = true ∧ Inv tr xa' [] ∧ Sat g w' (Pt p [.int .i64 0, va, .int .i64 refs] 100 :: Sl 82 5 enAc va xa' :: Acts xa' :: Z tr :: l)) := by
  refine Fc.of Try.func13 rfl (by kernel_rfl) ?_
  
  refine LoopP.rule (α := Tr × List ActV × List SigD × Value) ([], xa, q, v) (fun x_ => [(7, .int .i64 x_.1.length), (1, x_.2.2.2)]) (fun x_ w_ => (Inv x_.1 x_.2.1 x_.2.2.1) ∧ (x_.2.2.1.length + x_.1.length ≤ 1000 + 1000 * x_.1.length) ∧ Sat g w_ ((Sl 40 9 enSi x_.2.2.2 x_.2.2.1 :: Pt p [.int .i64 0, va, .int .i64 refs] 100 :: Sl 82 5 enAc va x_.2.1 :: Acts x_.2.1 :: Z x_.1 :: l))) (fun x_ => 5001 - x_.1.length) ?_ ?_ ?_
  · repeat first | exact mt_nil | refine mt_cons rfl ?_ | refine mt_i rfl (by first | omega | (simp only; omega) | (simp; omega) | (simp; done)) ?_
  · try simp only
    refine ⟨?_, ?_⟩
    · assumption
    refine ⟨?_, ?_⟩
    · assumption
    exact H
  clear H
  rintro ⟨tr, xa, q, v⟩ f_ w_ ⟨hI0, hq, H⟩
  try simp only at hI0 hq H ⊢
  cases q with
  | nil =>
    refine rLenS H 0 rfl rfl ?_
    refine cF (vLt_F (by (simp only [List.length_append, List.length_set, List.length_cons, List.length_nil]; omega))) ?_
    refine Done.mk ?_
    exact ⟨true, tr, xa, rfl, rfl, hI0, H.del 0⟩
  | cons s q =>
    have hok := hI.ok _ _ _ _ hI0
    obtain ⟨hl16, hwy, htl, hql⟩ := hI.room _ _ _ _ hI0
    have hlim := hI.lim _ _ _ _ hI0
    have hLC := linksC
    refine rLenS H 0 rfl rfl ?_
    refine cT (vLt_T (by (simp only [List.length_append, List.length_set, List.length_cons, List.length_nil]; omega))) ?_
    refine bk ?_
    obtain ⟨x1, hx1⟩ : ∃ x, (s :: q)[0]? = some x := ⟨_, List.getElem?_eq_getElem (by (simp only [List.length_append, List.length_set, List.length_cons, List.length_nil]; omega))⟩
    obtain ⟨b1, o1, E1⟩ := H.elt 0 rfl 0 (by (simp only [List.length_append, List.length_set, List.length_cons, List.length_nil]; omega))
    refine rIxE E1 rfl rfl rfl ?_
    refine rLdA (H.el 0 rfl E1 hx1) 0 rfl rfl rfl ?_
    obtain rfl : s = x1 := Option.some.inj hx1
    refine H.fronts [3, 3, 3] ?_
    clear H
    intro H
    refine CallP.mk (Fc.imp (Go.Proofs.Yticdhdpfimpmoaa.Proc.take_ H _ ?_ ?_ ?_ ?_) ?_)
    · assumption
    · assumption
    · assumption
    · assumption
    clear H
    rintro _ w1 ⟨f1, ⟨vo1, ⟨xa'1, ⟨e1, ⟨rfl, ⟨h1, H⟩⟩⟩⟩⟩⟩
    have he0 := takeR_ok h1 hok
    have h10 := h1
    rw [he0] at h10
    obtain ⟨hI1, hfo⟩ := hI.step _ _ _ _ _ _ hI0 h10
    refine rAllocS H rfl ?_
    clear H
    intro p1 w2 H
    clear w1
    refine rStAS H 0 rfl rfl rfl (by simp only [List.all_cons, List.all_nil, H.one 1 rfl, H.one 3 rfl, H.one 5 rfl]; rfl) ?_
    clear H
    intro w1 H
    clear w2
    refine br_f (vNe_F (by assumption)) ?_
    refine cF (vLt_F (by omega)) ?_
    refine drawzS H [] [(0, .pure), (1, .pure), (2, .pure), (3, .held), (4, .held), (5, .free)] mixed (by kernel_rfl) (by kernel_rfl) ?_
    clear H
    intro w2 H
    clear w1
    refine tk (fun wx HS => rIxE E1 rfl rfl rfl ⟨rfl, rfl⟩) ?_
    refine tk (fun wx HS => rLdA (HS.el 5 rfl E1 hx1) 0 rfl rfl rfl ⟨rfl, rfl⟩) ?_
    refine tk (fun wx HS => rLdA (HS.at 0 rfl) 0 rfl rfl rfl ⟨rfl, rfl⟩) ?_
    refine CallP.mk (Fc.imp (hS g _ _ tr s f1 vo1 q xa xa'1 hI0 h10 (H.front (j := 6) rfl)) ?_)
    clear H
    intro r1 w3 H
    simp only [List.eraseIdx] at H
    refine drawzS H [] [(0, .pure), (1, .pure), (3, .pure), (4, .held), (2, .forced), (5, .free), (6, .pure)] mixed (by kernel_rfl) (by kernel_rfl) ?_
    clear H
    intro w1 H
    clear w3
    obtain ⟨v1, V1⟩ := H.vw 6 rfl (1) ((s :: q).length) (by (simp only [List.length_append, List.length_set, List.length_cons, List.length_nil]; omega)) (by (simp only [List.length_append, List.length_set, List.length_cons, List.length_nil]; omega))
    refine tk (fun wx HS => rSlVw V1 rfl rfl (.inr ⟨_, by first | rfl | (congr 2; omega)⟩) (.inl ⟨rfl, rfl⟩) ⟨rfl, rfl⟩) ?_
    refine tk (fun wx HS => rFieldAt rfl ⟨rfl, rfl⟩) ?_
    refine tk (fun wx HS => rLd (HS.at 1 rfl) 8 rfl rfl rfl ⟨rfl, rfl⟩) ?_
    refine CallP.mk (Fc.imp (copySv (H.front (j := 6) rfl) V1 (by simp; omega)) ?_)
    clear H
    rintro r2 w4 ⟨ys, hys, H⟩
    simp only [List.eraseIdx] at H
    rw [List.take_length, List.drop_one, List.tail_cons] at hys
    subst hys
    have hlen1 : (tr ++ [(s, f1)]).length = tr.length + 1 := by rw [List.length_append]; rfl
    have hlen2 : (ys ++ f1.out).length = ys.length + f1.out.length := List.length_append
    have hlen3 : (s :: ys).length = ys.length + 1 := rfl
    refine H.fronts [1, 7, 7, 7, 7, 7, 7] ?_
    clear H
    intro H
    refine KeepP.mk (H.drop 7 (fun H => H)) ?_
    refine rApR 80 H 7 rfl (H.rdo (ok := fun _ => True) 2 rfl (fun _ _ => trivial)) (fun y _ => rfl) rfl rfl rfl (by omega) (by omega) ?_
    intro v2
    clear H
    intro w3 H
    clear w4
    refine eqI64 (by omega) ?_
    refine Nxt.mk ((tr ++ [(s, f1)], xa'1, ys ++ f1.out, v2)) (mt_i rfl (by first | omega | (simp only; omega) | (simp; omega)) (mt_cons rfl (mt_nil))) ?_ ?_
    · refine ⟨?_, ?_⟩
      · assumption
      refine ⟨?_, ?_⟩
      · (simp only [List.length_append, List.length_set, List.length_cons, List.length_nil]; omega)
      refine H.fronts [0, 5, 5, 5, 7] ?_
      clear H
      intro H
      refine H.drop 7 ?_
      clear H
      intro H
      refine H.drop 6 ?_
      clear H
      intro H
      refine H.drop 5 ?_
      clear H
      intro H
      exact H
    (simp only [List.length_append, List.length_set, List.length_cons, List.length_nil]; omega)
end
end Go.Proofs.Yticdhdpfimpmoaa.Proc
/- Package proc: what Take does, turned round. -/
set_option maxRecDepth 100000
set_option maxHeartbeats 4000000
set_option linter.unusedVariables false
set_option linter.unusedSimpArgs false
namespace Go.Proofs.Yticdhdpfimpmoaa.Proc
open Go Go.Proofs.Yticdhdpfimpmoaa.Eng Go.RowKit
open Go.Proofs.Yticdhdpfimpmoaa.Eng.MG
theorem linksY {g : Glob} {w : World} {l : List As} {p : Nat} {va : Value} {refs nd : Int} {xa : List ActV} (H : Sat g w (Pt p [.int .i64 nd, va, .int .i64 refs] 100 :: Sl 82 5 enAc va xa :: Acts xa :: l)) (q1 q2 : Int) (hl : xa.length ≤ 16) (x : ActV) (hn : liveAt nd xa (q1, q2) = some x) (hln : x.ln ≤ 12) : Fc Try.prog 23 #[.pointer (some ⟨p, 0, none⟩), .agg #[.int .i64 q1, .int .i64 q2]] w (fun r w' => ∃ ks, KeysOf x.lf ks ∧ ks.length ≤ 12 ∧ Sat g w' (Sl 31 2 enPd r ks :: Pt p [.int .i64 nd, va, .int .i64 refs] 100 :: Sl 82 5 enAc va xa :: Acts xa :: l)) :=
  linksC g w l p va refs nd xa H q1 q2 hl x hn hln
section
variable {nd : Int} {xa xa' : List ActV} {s : SigD} {f : EffD} {e : Int}
theorem TakeR.gone' (h : TakeR nd xa s xa' f e) (hb : ¬ takeBad nd s) (hn : liveAt nd xa s.to_ = none) : xa' = xa ∧ f = missedF s := by
  cases h with
  | bad h => exact absurd h hb
  | gone _ _ => exact ⟨rfl, rfl⟩
  | lett _ h2 _ => rw [hn] at h2; cases h2
  | self _ h2 _ _ => rw [hn] at h2; cases h2
  | link _ h2 _ _ => rw [hn] at h2; cases h2
  | unlink _ h2 _ => rw [hn] at h2; cases h2
  | exit _ h2 _ _ => rw [hn] at h2; cases h2
  | watch _ h2 _ => rw [hn] at h2; cases h2
  | other _ h2 _ _ => rw [hn] at h2; cases h2
  | down _ h2 _ _ => rw [hn] at h2; cases h2
theorem TakeR.exit' (h : TakeR nd xa s xa' f e) (hb : ¬ takeBad nd s) {x : ActV} (hn : liveAt nd xa s.to_ = some x) (k : s.kind = 4) : ExR nd xa s x xa' f := by
  cases h with
  | bad h => exact absurd h hb
  | gone _ h2 => rw [hn] at h2; cases h2
  | lett _ h2 k2 => omega
  | self _ h2 k2 _ => omega
  | link _ h2 k2 _ => omega
  | unlink _ h2 k2 => omega
  | exit _ h2 _ h3 => rw [hn] at h2; obtain rfl := Option.some.inj h2; exact h3
  | watch _ h2 k2 => omega
  | other _ h2 k2 _ => omega
  | down _ h2 k2 _ => omega
theorem TakeR.link' (h : TakeR nd xa s xa' f e) (hb : ¬ takeBad nd s) {x : ActV} (hn : liveAt nd xa s.to_ = some x) (k : s.kind = 2) (hne : s.fr ≠ s.to_) : xa' = xa.set (ix s.to_) (x.setL (upd x.lf s.fr (some 1)) (if x.lf s.fr = none then x.ln + 1 else x.ln)) ∧ f = eff0 := by
  cases h with
  | bad h => exact absurd h hb
  | gone _ h2 => rw [hn] at h2; cases h2
  | lett _ h2 k2 => omega
  | self _ h2 k2 h3 => exact absurd h3 hne
  | link _ h2 _ _ => rw [hn] at h2; obtain rfl := Option.some.inj h2; exact ⟨rfl, rfl⟩
  | unlink _ h2 k2 => omega
  | exit _ h2 k2 h3 => omega
  | watch _ h2 k2 => omega
  | other _ h2 k2 _ => omega
  | down _ h2 k2 _ => omega
theorem TakeR.unlink' (h : TakeR nd xa s xa' f e) (hb : ¬ takeBad nd s) {x : ActV} (hn : liveAt nd xa s.to_ = some x) (k : s.kind = 3) : xa' = xa.set (ix s.to_) (x.setL (upd x.lf s.fr none) (if x.lf s.fr = none then x.ln else x.ln - 1)) ∧ f = eff0 := by
  cases h with
  | bad h => exact absurd h hb
  | gone _ h2 => rw [hn] at h2; cases h2
  | lett _ h2 k2 => omega
  | self _ h2 k2 h3 => omega
  | link _ h2 k2 _ => omega
  | unlink _ h2 k2 => rw [hn] at h2; obtain rfl := Option.some.inj h2; exact ⟨rfl, rfl⟩
  | exit _ h2 k2 h3 => omega
  | watch _ h2 k2 => omega
  | other _ h2 k2 _ => omega
  | down _ h2 k2 _ => omega
theorem TakeR.down' (h : TakeR nd xa s xa' f e) (hb : ¬ takeBad nd s) {x : ActV} (hn : liveAt nd xa s.to_ = some x) (k : s.kind = 6) (hw : x.hf s.ref = some s.fr) : xa' = xa.set (ix s.to_) (x.setH (upd x.hf s.ref none) (x.hn - 1)) ∧ f = { eff0 with fr := s.fr, tag := 61, body := [UInt8.ofNat (s.ref % 256).toNat, UInt8.ofNat (s.why % 256).toNat], got := true } := by
  cases h with
  | bad h => exact absurd h hb
  | gone _ h2 => rw [hn] at h2; cases h2
  | lett _ h2 k2 => omega
  | self _ h2 k2 h3 => omega
  | link _ h2 k2 _ => omega
  | unlink _ h2 k2 => omega
  | exit _ h2 k2 h3 => omega
  | watch _ h2 k2 => omega
  | other _ h2 k2 h3 => rw [hn] at h2; obtain rfl := Option.some.inj h2; exact absurd hw h3
  | down _ h2 k2 _ => rw [hn] at h2; obtain rfl := Option.some.inj h2; exact ⟨rfl, rfl⟩
theorem TakeR.other' (h : TakeR nd xa s xa' f e) (hb : ¬ takeBad nd s) {x : ActV} (hn : liveAt nd xa s.to_ = some x) (k : s.kind = 6) (hw : x.hf s.ref ≠ some s.fr) : xa' = xa ∧ f = eff0 := by
  cases h with
  | bad h => exact absurd h hb
  | gone _ h2 => rw [hn] at h2; cases h2
  | lett _ h2 k2 => omega
  | self _ h2 k2 h3 => omega
  | link _ h2 k2 _ => omega
  | unlink _ h2 k2 => omega
  | exit _ h2 k2 h3 => omega
  | watch _ h2 k2 => omega
  | other _ h2 k2 h3 => exact ⟨rfl, rfl⟩
  | down _ h2 k2 h3 => rw [hn] at h2; obtain rfl := Option.some.inj h2; exact absurd h3 hw
end
theorem upd_upd_none {κ β : Type} [DecidableEq κ] {f : κ → Option β} {k : κ} {o : Option β} (h : f k = none) : upd (upd f k o) k none = f := by
  funext x
  unfold upd
  split
  · rename_i e; subst e; exact h.symm
  · rfl
theorem keys_nil {f : LF} {ks : List PidD} (h : KeysOf f ks) (h0 : ∀ k, f k = none) : ks = [] := by
  cases ks with
  | nil => rfl
  | cons k r => exact absurd (h0 k) ((h.mem k).1 (by simp))
end Go.Proofs.Yticdhdpfimpmoaa.Proc
/- What every row's proof of this seat shares. -/
namespace Go.Proofs.Yticdhdpfimpmoaa.Row
theorem own : ownKnob Try.prog.godebug = none := by kernel_rfl
theorem laidOut : laidOutB Try.prog = true := by kernel_rfl
end Go.Proofs.Yticdhdpfimpmoaa.Row
set_option maxRecDepth 100000
namespace Go.Proofs.Yticdhdpfimpmoaa.Eng
open Go
theorem open_bs {s : ByteArray} (h : s.size ≤ maxLen) : ∃ l, s = bs l ∧ l.length ≤ 9223372036854775807 ∧ l = s.data.toList := by
  refine ⟨s.data.toList, bs_of s, ?_, rfl⟩
  have : s.size = s.data.toList.length := by rw [Array.length_toList]; rfl
  unfold maxLen at h
  omega
theorem bd_wf {k : IntKind} {a : Int} (h : (Lit.int k a).wf = true) : k.min ≤ a ∧ a ≤ k.max := by
  simpa [Lit.wf] using h
theorem bd_u64 {a : Int} (h : (Lit.int .u64 a).wf = true) : 0 ≤ a ∧ a ≤ 18446744073709551615 := bd_wf h
theorem bd_i64 {a : Int} (h : (Lit.int .i64 a).wf = true) : -9223372036854775808 ≤ a ∧ a ≤ 9223372036854775807 := bd_wf h
theorem bd_u32 {a : Int} (h : (Lit.int .u32 a).wf = true) : 0 ≤ a ∧ a ≤ 4294967295 := bd_wf h
theorem bd_i32 {a : Int} (h : (Lit.int .i32 a).wf = true) : -2147483648 ≤ a ∧ a ≤ 2147483647 := bd_wf h
theorem bd_u8 {a : Int} (h : (Lit.int .u8 a).wf = true) : 0 ≤ a ∧ a ≤ 255 := bd_wf h
end Go.Proofs.Yticdhdpfimpmoaa.Eng
