/- The law OwnLinks. -/
import Derived.Test.YtnkjebohlnnjbaaLink4
import Derived.Test.YtnkjebohlnnjbaaOpen
set_option maxRecDepth 100000
set_option maxHeartbeats 4000000
set_option linter.unusedVariables false
set_option linter.unusedSimpArgs false
namespace Go.Proofs.Ytnkjebohlnnjbaa.Link
open Go Go.Proofs.Ytnkjebohlnnjbaa.Eng Go.RowKit
theorem feq (x y : Fr) : (vEq x.src y.src && (vEq x.dst y.dst && (vEq x.seq y.seq && (vEq x.ack y.ack && ((bs x.body).toList == (bs y.body).toList && true))))) = true ↔ x = y := by
  rw [bs_toList, bs_toList, vEq_iff, vEq_iff, vEq_iff, vEq_iff]
  obtain ⟨a, b, c, d, e⟩ := x
  obtain ⟨a', b', c', d', e'⟩ := y
  simp [Fr.mk.injEq]
theorem eq_step {α : Type} {xs ys : List α} {i : Nat} (h : ∀ q, q < i → xs[q]? = ys[q]?) (h1 : xs[i]? = ys[i]?) : ∀ q, q < i + 1 → xs[q]? = ys[q]? := fun q hq => by
  rcases Nat.lt_or_ge q i with h2 | h2
  · exact h q h2
  · rw [show q = i by omega]; exact h1
theorem eq_all {α : Type} {xs ys : List α} {i : Nat} (h1 : xs.length ≤ i) (h2 : ys.length ≤ i) (h : ∀ q, q < i → xs[q]? = ys[q]?) : xs = ys := by
  apply List.ext_getElem?
  intro q
  rcases Nat.lt_or_ge q i with h3 | h3
  · exact h q h3
  · rw [List.getElem?_eq_none (by omega), List.getElem?_eq_none (by omega)]
theorem eqF (w : World) (u v : Value) (xs ys : List Fr) (hx : Rd enF (fun _ => True) 5 w u xs) (hy : Rd enF (fun _ => True) 5 w v ys) (hl : xs.length ≤ 1000) :
    Fc Try.prog 13 #[u, v] w (fun r w' => ∃ b, r = .bool b ∧ (b = true ↔ xs = ys) ∧ Sat (froz w) w' []) := by
  refine Fc.of Try.func13 rfl (by kernel_rfl) ?_
  have H := Sat.start w
  have hx := hx.fz
  have hy := hy.fz
  refine rLenF hx rfl ?_
  refine rLenF hy rfl ?_
  refine cI (fun c1 => ?_) (fun c1 => ?_)
  · replace c1 := vNe_t (c1)
    refine Done.mk ?_
    exact ⟨false, rfl, ⟨nofun, fun h => absurd (congrArg List.length h) (by omega)⟩, H⟩
  replace c1 := vNe_f (c1)
  refine rLenF hx rfl ?_
  refine LoopP.rule (α := Nat) (0) (fun x_ => [(14, .int .i64 x_)]) (fun x_ w_ => (x_ ≤ xs.length) ∧ (∀ q, q < x_ → xs[q]? = ys[q]?) ∧ Sat (froz w) w_ ([])) (fun x_ => xs.length - x_) ?_ ?_ ?_
  · repeat first | exact mt_nil | refine mt_cons rfl ?_ | refine mt_i rfl (by first | omega | (simp only; omega) | (simp; omega) | (simp; done)) ?_
  · try simp only
    refine ⟨?_, ?_⟩
    · omega
    refine ⟨?_, ?_⟩
    · (intro q hq; exact absurd hq (Nat.not_lt_zero q))
    exact H
  clear H
  rintro i f_ w_ ⟨hi, he, H⟩
  try simp only at hi he H ⊢
  refine cI (fun c2 => ?_) (fun c2 => ?_)
  · replace c2 := vLt_t (c2)
    refine bk ?_
    obtain ⟨x1, hx1⟩ : ∃ x, (xs)[(i)]? = some x := ⟨_, List.getElem?_eq_getElem (by omega)⟩
    obtain ⟨b1, o1, E1, F1, hok1⟩ := FSl.elt hx hx1
    refine rIxE E1 rfl rfl rfl ?_
    refine rLdA (H.fat F1) 0 rfl rfl rfl ?_
    refine rAllocS H rfl ?_
    clear H
    intro p1 w1 H
    clear w_
    refine rStAS H 0 rfl rfl rfl rfl ?_
    clear H
    intro w2 H
    clear w1
    refine drawzS H [] [(0, .held), (1, .pure), (2, .pure), (3, .pure), (4, .held), (5, .pure)] mixed (by kernel_rfl) (by kernel_rfl) ?_
    clear H
    intro w1 H
    clear w2
    refine tk (fun wx HS => rLdA (HS.at 0 rfl) 0 rfl rfl rfl ⟨rfl, rfl⟩) ?_
    obtain ⟨x2, hx2⟩ : ∃ x, (ys)[(i)]? = some x := ⟨_, List.getElem?_eq_getElem (by omega)⟩
    obtain ⟨b2, o2, E2, F2, hok2⟩ := FSl.elt hy hx2
    refine tk (fun wx HS => rIxE E2 rfl rfl rfl ⟨rfl, rfl⟩) ?_
    refine tk (fun wx HS => rLdA (HS.fat F2) 0 rfl rfl rfl ⟨rfl, rfl⟩) ?_
    refine tk (fun wx HS => rStructNe (by kernel_rfl) (by kernel_rfl) ⟨rfl, rfl⟩) ?_
    refine cI (fun c3 => ?_) (fun c3 => ?_)
    · replace c3 := not_t (c3)
      refine Done.mk ?_
      refine ⟨false, ?_⟩
      refine ⟨?_, ?_⟩
      · exact congrArg Value.bool (rfl)
      refine ⟨?_, ?_⟩
      · exact ⟨nofun, fun h => absurd ((feq x1 x2).2 (by subst h; exact Option.some.inj (hx1.symm.trans hx2))) (by rw [c3]; nofun)⟩
      refine H.firsts 0 ?_
      clear H
      intro H
      exact H
    replace c3 := not_f (c3)
    refine eqI64 (by omega) ?_
    refine Nxt.mk (i + 1) (mt_i rfl (by first | omega | (simp only; omega) | (simp; omega)) (mt_nil)) ?_ ?_
    · refine ⟨?_, ?_⟩
      · omega
      refine ⟨?_, ?_⟩
      · exact eq_step he (by rw [hx1, hx2]; exact congrArg some ((feq _ _).1 (by assumption)))
      refine H.firsts 0 ?_
      clear H
      intro H
      exact H
    omega
  replace c2 := vLt_f (c2)
  refine Done.mk ?_
  exact ⟨true, rfl, ⟨fun _ => eq_all (by omega) (by omega) he, fun _ => rfl⟩, H⟩
structure LI (S : LS) (n : Nat) (t : Int) : Prop where
  now : S.now = t
  ack : S.acked = 0
  at_ : ∀ x ∈ S.waits, 0 ≤ x.at' ∧ x.at' ≤ t
  len : S.waits.length ≤ n
theorem outL_at (S : LS) {t : Int} (h : ∀ x ∈ S.waits, 0 ≤ x.at' ∧ x.at' ≤ t) (hn : 0 ≤ S.now ∧ S.now ≤ t) : ∀ i, ∀ x ∈ (outL S i).1, 0 ≤ x.at' ∧ x.at' ≤ t := by
  intro i
  induction i with
  | zero => exact h
  | succ i ih =>
    unfold outL
    split
    · exact ih
    · split
      · exact ih
      · intro x hx
        rcases List.mem_or_eq_of_mem_set hx with hx | rfl
        · exact ih x hx
        · exact hn
theorem LI.out {S : LS} {n : Nat} {t : Int} (h : LI S n t) (ht : 0 ≤ t) : LI (outS S) n t := ⟨h.now, h.ack, outL_at S h.at_ (by rw [h.now]; omega) _, by
  show (outL S _).1.length ≤ n
  rw [outL_len]; exact h.len⟩
theorem LI.push {S S' : LS} {n : Nat} {t : Int} {s : List UInt8} (h : LI S n t) (e : S' = { S with waits := S.waits ++ [⟨s, false, 0⟩] }) (ht : 0 ≤ t) : LI S' (n + 1) t := by
  subst e
  refine ⟨h.now, h.ack, fun x hx => ?_, ?_⟩
  · rcases List.mem_append.1 hx with hx | hx
    · exact h.at_ x hx
    · rw [List.mem_singleton.1 hx]; exact ⟨Int.le_refl _, ht⟩
  · have := h.len
    show (S.waits ++ _).length ≤ _
    rw [List.length_append, List.length_cons, List.length_nil]; omega
theorem LI.keep {S S' : LS} {n : Nat} {t : Int} (h : LI S n t) (e : S' = S) : LI S' (n + 1) t := by
  subst e
  exact ⟨h.now, h.ack, h.at_, Nat.le_succ_of_le h.len⟩
theorem LI.tick {S S' : LS} {n : Nat} {t t' : Int} (h : LI S n t) (e : S' = { S with now := S.now + 3 }) (ht : t' = t + 3) : LI S' n t' := by
  subst e
  subst ht
  exact ⟨by show S.now + 3 = _; rw [h.now], h.ack, fun x hx => ⟨(h.at_ x hx).1, by have := (h.at_ x hx).2; omega⟩, h.len⟩
theorem outF_len (S : LS) : (outF S).length ≤ 4 := by
  unfold outF
  split
  · simp
  · exact Nat.le_trans (outL_fl S _) (Nat.min_le_left ..)
theorem fitsS (cs : List Value) (h : fitsL [.str] cs) : ∃ x : List UInt8, cs = [.string (bs x)] ∧ x.length ≤ 9223372036854775807 := by
  obtain ⟨_, _, rfl, ⟨a, rfl, ha⟩, rfl⟩ := h
  exact ⟨a, rfl, ha⟩
theorem ownLinks (w : World) (v : Value) (xs : List (List UInt8)) (hx : Rd (fun s : List UInt8 => [.string (bs s)]) (fun s => s.length ≤ 9223372036854775807) 1 w v xs) (hl : xs.length ≤ 1048576) : Fc Try.prog 4 #[v] w (fun v w' => v = .bool true ∧ Below w.heap.size w w') := by
  refine Fc.of Try.func4 rfl (by kernel_rfl) ?_
  have H := Sat.start w
  have hx := hx.fz
  refine CallP.mk (Fc.imp (Go.Proofs.Ytnkjebohlnnjbaa.Link.new _ _ _) ?_)
  rintro _ w1 (⟨p1, ⟨rfl, ⟨⟨h1, ⟨h2, ⟨h3, ⟨h4, h5⟩⟩⟩⟩, H'⟩⟩⟩ | ⟨rfl, ⟨h6, H'⟩⟩)
  rotate_left
  · refine H.mergeK H' ?_
    clear H H'
    intro H
    refine CallP.mk (Fc.imp (Go.Proofs.Ytnkjebohlnnjbaa.Link.new _ _ _) ?_)
    rintro _ w2 (⟨p1, ⟨rfl, ⟨⟨h1, ⟨h2, ⟨h3, ⟨h4, h5⟩⟩⟩⟩, H'⟩⟩⟩ | ⟨rfl, ⟨h7, H'⟩⟩)
    · refine H.mergeK H' ?_
      clear H H'
      intro H
      refine br_t (vNe_T (by omega)) ?_
      refine cT rfl ?_
      refine Done.mk ?_
      refine ⟨?_, ?_⟩
      · exact congrArg Value.bool ((by omega))
      omega
    refine H.mergeK H' ?_
    clear H H'
    intro H
    refine br_t (vNe_T (by omega)) ?_
    refine cT rfl ?_
    refine Done.mk ?_
    refine ⟨?_, ?_⟩
    · exact congrArg Value.bool ((by omega))
    omega
  refine H.mergeK H' ?_
  clear H H'
  intro H
  refine CallP.mk (Fc.imp (Go.Proofs.Ytnkjebohlnnjbaa.Link.new _ _ _) ?_)
  rintro _ w2 (⟨p2, ⟨rfl, ⟨⟨h6, ⟨h7, ⟨h8, ⟨h9, h10⟩⟩⟩⟩, H'⟩⟩⟩ | ⟨rfl, ⟨h11, H'⟩⟩)
  rotate_left
  · refine H.mergeK H' ?_
    clear H H'
    intro H
    refine br_t (vNe_T (by omega)) ?_
    refine cT rfl ?_
    refine Done.mk ?_
    refine ⟨?_, ?_⟩
    · exact congrArg Value.bool ((by omega))
    omega
  refine H.mergeK H' ?_
  clear H H'
  intro H
  refine br_f (vNe_F (by omega)) ?_
  refine br_f (vNe_F (by omega)) ?_
  refine rPtrNil rfl ?_
  refine rPtrNil rfl ?_
  refine cF rfl ?_
  refine rLenF hx rfl ?_
  obtain ⟨S, hS⟩ : ∃ S, S = newS 0 1 := ⟨_, rfl⟩
  rw [← hS] at H
  have hI0 : LI S 0 0 := by rw [hS]; exact ⟨rfl, rfl, nofun, Nat.le_refl _⟩
  have hW0 : S.waits = [] := by rw [hS]; rfl
  rw [← hW0] at H
  refine LoopP.rule (α := Nat × LS × Value × Value) (0, S, .slice none 0 0, .slice none 0 0) (fun x_ => [(36, .int .i64 x_.1)]) (fun x_ w_ => (x_.1 ≤ xs.length) ∧ (LI x_.2.1 x_.1 0) ∧ Sat (froz w) w_ ([Pt p1 (linkC x_.2.1 x_.2.2.1) 81, Sl 83 3 enO x_.2.2.1 x_.2.1.waits, Pt p2 (linkC x_.2.1 x_.2.2.2) 81, Sl 83 3 enO x_.2.2.2 x_.2.1.waits])) (fun x_ => xs.length - x_.1) ?_ ?_ ?_
  · repeat first | exact mt_nil | refine mt_cons rfl ?_ | refine mt_i rfl (by first | omega | (simp only; omega) | (simp; omega) | (simp; done)) ?_
  · try simp only
    refine ⟨?_, ?_⟩
    · omega
    refine ⟨?_, ?_⟩
    · assumption
    refine H.fronts [3, 1, 2, 3] ?_
    clear H
    intro H
    exact H
  clear H hI0 hW0 hS S
  rintro ⟨i, S, va, vb⟩ f_ w_ ⟨hi, hI, H⟩
  try simp only at hi hI H ⊢
  have hIl := hI.len
  rcases Nat.lt_or_ge i xs.length with hlt | hge
  · refine cT (vLt_T (by omega)) ?_
    refine bk ?_
    obtain ⟨x1, hx1⟩ : ∃ x, (xs)[(i)]? = some x := ⟨_, List.getElem?_eq_getElem (by omega)⟩
    obtain ⟨b1, o1, E1, F1, hok1⟩ := FSl.elt hx hx1
    refine rIxE E1 rfl rfl rfl ?_
    refine rLd (H.fat F1) 0 rfl rfl rfl ?_
    refine CallP.mk (Fc.imp (Go.Proofs.Ytnkjebohlnnjbaa.Link.offer H _ ?_ ?_) ?_)
    · assumption
    · omega
    clear H
    rintro _ w3 ⟨e1, ⟨S'1, ⟨v'1, ⟨rfl, ⟨(⟨h11, ⟨h12, h13⟩⟩ | ⟨h14, ⟨h15, h16⟩⟩), H⟩⟩⟩⟩⟩
    · refine H.fronts [3, 3] ?_
      clear H
      intro H
      refine CallP.mk (Fc.imp (Go.Proofs.Ytnkjebohlnnjbaa.Link.offer H _ ?_ ?_) ?_)
      · assumption
      · omega
      clear H
      rintro _ w4 ⟨e2, ⟨S'2, ⟨v'2, ⟨rfl, ⟨(⟨h14, ⟨h15, h16⟩⟩ | ⟨h17, ⟨h18, h19⟩⟩), H⟩⟩⟩⟩⟩
      · refine cF (vNe_F (by omega)) ?_
        refine eqI64 (by omega) ?_
        refine Nxt.mk ((i + 1, S'1, v'1, v'2)) (mt_i rfl (by first | omega | (simp only; omega) | (simp; omega)) (mt_nil)) ?_ ?_
        · refine ⟨?_, ?_⟩
          · assumption
          refine ⟨?_, ?_⟩
          · exact hI.push (by assumption) (Int.le_refl _)
          refine H.fronts [1, 1, 3, 3] ?_
          clear H
          intro H
          refine H.cg (cgC rfl (cgC rfl (cgC (cgPt ?_) (cgC (cgSl ?_) (rfl)))))
          · (rw [show S'2 = S'1 from Eq.trans (by assumption) (Eq.symm (by assumption))]; done)
          (rw [show S'2 = S'1 from Eq.trans (by assumption) (Eq.symm (by assumption))]; done)
        omega
      refine cT (vNe_T (by omega)) ?_
      refine Done.mk ?_
      refine ⟨?_, ?_⟩
      · exact congrArg Value.bool ((by omega))
      omega
    refine H.fronts [3, 3] ?_
    clear H
    intro H
    refine CallP.mk (Fc.imp (Go.Proofs.Ytnkjebohlnnjbaa.Link.offer H _ ?_ ?_) ?_)
    · assumption
    · omega
    clear H
    rintro _ w4 ⟨e2, ⟨S'2, ⟨v'2, ⟨rfl, ⟨(⟨h11, ⟨h12, h13⟩⟩ | ⟨h17, ⟨h18, h19⟩⟩), H⟩⟩⟩⟩⟩
    · refine cT (vNe_T (by omega)) ?_
      refine Done.mk ?_
      refine ⟨?_, ?_⟩
      · exact congrArg Value.bool ((by omega))
      omega
    refine cF (vNe_F (by omega)) ?_
    refine eqI64 (by omega) ?_
    refine Nxt.mk ((i + 1, S'1, v'1, v'2)) (mt_i rfl (by first | omega | (simp only; omega) | (simp; omega)) (mt_nil)) ?_ ?_
    · refine ⟨?_, ?_⟩
      · assumption
      refine ⟨?_, ?_⟩
      · exact hI.keep (by assumption)
      refine H.fronts [1, 1, 3, 3] ?_
      clear H
      intro H
      refine H.cg (cgC rfl (cgC rfl (cgC (cgPt ?_) (cgC (cgSl ?_) (rfl)))))
      · (rw [show S'2 = S'1 from Eq.trans (by assumption) (Eq.symm (by assumption))]; done)
      (rw [show S'2 = S'1 from Eq.trans (by assumption) (Eq.symm (by assumption))]; done)
    omega
  · obtain rfl : i = xs.length := by omega
    refine cF (vLt_F (by omega)) ?_
    have hI1 : LI S xs.length (3 * ((0 : Nat) : Int)) := hI
    refine LoopP.rule (α := Nat × LS) (0, S) (fun x_ => [(48, .int .i64 x_.1)]) (fun x_ w_ => (x_.1 ≤ 5) ∧ (LI x_.2 xs.length (3 * (x_.1 : Int))) ∧ Sat (froz w) w_ ([Pt p1 (linkC x_.2 va) 81, Sl 83 3 enO va x_.2.waits, Pt p2 (linkC x_.2 vb) 81, Sl 83 3 enO vb x_.2.waits])) (fun x_ => 5 - x_.1) ?_ ?_ ?_
    · repeat first | exact mt_nil | refine mt_cons rfl ?_ | refine mt_i rfl (by first | omega | (simp only; omega) | (simp; omega) | (simp; done)) ?_
    · try simp only
      refine ⟨?_, ?_⟩
      · omega
      refine ⟨?_, ?_⟩
      · exact hI1
      exact H
    clear H hI1 hI hIl S
    rintro ⟨k, S⟩ f_ w_ ⟨hk, hI2, H⟩
    try simp only at hk hI2 H ⊢
    have hn1 := hI2.now
    have ha1 := hI2.ack
    have hlw := hI2.len
    have hw1 : ∀ x ∈ S.waits, 0 ≤ x.at' ∧ x.at' ≤ 1099511627776 := fun x hx => by have := hI2.at_ x hx; omega
    have hfl := outF_len S
    have hIo := hI2.out (by omega)
    have hno : (outS S).now = S.now := rfl
    have h65 : (List.replicate 65 (0 : UInt8)).length = 65 := List.length_replicate ..
    rcases Nat.lt_or_ge k 5 with hk5 | hk5
    · refine cT (vLt_T (by omega)) ?_
      refine bk ?_
      refine CallP.mk (Fc.imp (Go.Proofs.Ytnkjebohlnnjbaa.Link.out H ?_ ?_ ?_ ?_) ?_)
      · omega
      · omega
      · assumption
      · omega
      clear H
      rintro v' w3 H
      refine H.fronts [4, 4] ?_
      clear H
      intro H
      refine CallP.mk (Fc.imp (Go.Proofs.Ytnkjebohlnnjbaa.Link.out H ?_ ?_ ?_ ?_) ?_)
      · omega
      · omega
      · assumption
      · omega
      clear H
      rintro v' w4 H
      refine CallP.mk (Fc.imp (Go.Proofs.Ytnkjebohlnnjbaa.Link.eqF _ _ _ _ _ (H.rdo 3 rfl ?_) (H.rdo 0 rfl ?_) ?_) ?_)
      · (simp; done)
      · (simp; done)
      · omega
      rintro _ w5 ⟨b1, ⟨rfl, ⟨h11, H'⟩⟩⟩
      refine H.mergeK H' ?_
      clear H H'
      intro H
      refine cF (not_F (h11.2 (by rfl))) ?_
      refine rLenS H 3 rfl rfl ?_
      rename_i u1
      refine LoopP.rule (α := Nat × List Fr) (0, outF S) (fun x_ => [(60, .int .i64 x_.1)]) (fun x_ w_ => (x_.1 ≤ (outF S).length) ∧ (x_.2.length = (outF S).length) ∧ Sat (froz w) w_ ([Sl 44 5 enF v' (outF S), Pt p2 (linkC (outS S) vb) 81, Sl 83 3 enO vb (outS S).waits, Sl 44 5 enF u1 x_.2, Pt p1 (linkC (outS S) va) 81, Sl 83 3 enO va (outS S).waits])) (fun x_ => (outF S).length - x_.1) ?_ ?_ ?_
      · repeat first | exact mt_nil | refine mt_cons rfl ?_ | refine mt_i rfl (by first | omega | (simp only; omega) | (simp; omega) | (simp; done)) ?_
      · try simp only
        refine ⟨?_, ?_⟩
        · omega
        refine ⟨?_, ?_⟩
        · (constructor <;> omega)
        exact H
      clear H
      rintro ⟨q, fs⟩ f_ w_ ⟨hq, hfs, H⟩
      try simp only at hq hfs H ⊢
      rcases Nat.lt_or_ge q (outF S).length with hql | hqg
      · refine cT (vLt_T (by omega)) ?_
        refine bk ?_
        refine rBuild rfl rfl rfl ?_
        obtain ⟨x1, hx1⟩ : ∃ x, (fs)[(q)]? = some x := ⟨_, List.getElem?_eq_getElem (by omega)⟩
        obtain ⟨b2, o1, E1⟩ := H.elt 3 rfl (q) (by omega)
        refine rIxE E1 rfl rfl rfl ?_
        refine rStEA H 3 rfl E1 hx1 0 ⟨(0), (0), (99), (0), ([])⟩ rfl rfl rfl rfl ?_
        clear H
        intro w6 H
        clear w_
        refine eqI64 (by omega) ?_
        refine Nxt.mk ((q + 1, fs.set q { src := 0, dst := 0, seq := 99, ack := 0, body := [] })) (mt_i rfl (by first | omega | (simp only; omega) | (simp; omega)) (mt_nil)) ?_ ?_
        · refine ⟨?_, ?_⟩
          · assumption
          refine ⟨?_, ?_⟩
          · (rw [List.length_set]; exact hfs)
          exact H
        omega
      refine cF (vLt_F (by omega)) ?_
      refine H.fronts [5, 5] ?_
      clear H
      intro H
      refine CallP.mk (Fc.imp (Go.Proofs.Ytnkjebohlnnjbaa.Link.tick H _ ?_ ?_) ?_)
      · omega
      · omega
      clear H
      rintro _ w6 ⟨e1, ⟨S'1, ⟨rfl, ⟨(⟨h12, ⟨h13, ⟨h14, h15⟩⟩⟩ | ⟨h16, ⟨h17, h18⟩⟩), H⟩⟩⟩⟩
      · refine br_f (vNe_F (by assumption)) ?_
        refine H.fronts [4, 4] ?_
        clear H
        intro H
        refine CallP.mk (Fc.imp (Go.Proofs.Ytnkjebohlnnjbaa.Link.tick H _ ?_ ?_) ?_)
        · omega
        · omega
        clear H
        rintro _ w7 ⟨e2, ⟨S'2, ⟨rfl, ⟨(⟨h16, ⟨h17, ⟨h18, h19⟩⟩⟩ | ⟨h20, ⟨h21, h22⟩⟩), H⟩⟩⟩⟩
        · refine cF (vNe_F (by assumption)) ?_
          refine eqI64 (by omega) ?_
          refine Nxt.mk ((k + 1, S'1)) (mt_i rfl (by first | omega | (simp only; omega) | (simp; omega)) (mt_nil)) ?_ ?_
          · refine ⟨?_, ?_⟩
            · assumption
            refine ⟨?_, ?_⟩
            · exact hIo.tick (by assumption) (by omega)
            refine H.fronts [1, 1, 3, 3] ?_
            clear H
            intro H
            refine H.firsts 4 ?_
            clear H
            intro H
            refine H.cg (cgC rfl (cgC rfl (cgC (cgPt ?_) (cgC (cgSl ?_) (rfl)))))
            · (rw [show S'2 = S'1 from Eq.trans (by assumption) (Eq.symm (by assumption))]; done)
            (rw [show S'2 = S'1 from Eq.trans (by assumption) (Eq.symm (by assumption))]; done)
          omega
        refine cT (vNe_T (by omega)) ?_
        refine Done.mk ?_
        refine ⟨?_, ?_⟩
        · exact congrArg Value.bool ((by omega))
        omega
      refine br_t (vNe_T (by omega)) ?_
      refine cT rfl ?_
      refine Done.mk ?_
      refine ⟨?_, ?_⟩
      · exact congrArg Value.bool ((by omega))
      omega
    · refine cF (vLt_F (by omega)) ?_
      refine rMakeS (en := enY) (s := 1) H (0) (65) (65) 1 rfl rfl rfl (fun _ => rfl) (by omega) (by omega) (by omega) (by omega) (by omega) ?_
      intro v1
      clear H
      intro w3 H
      clear w_
      refine rBytesStrS H 0 rfl rfl rfl rfl ?_
      refine H.fronts [2, 2] ?_
      clear H
      intro H
      refine CallP.mk (Fc.imp (Go.Proofs.Ytnkjebohlnnjbaa.Link.offer H _ ?_ ?_) ?_)
      · omega
      · omega
      clear H
      rintro _ w4 ⟨e1, ⟨S'1, ⟨v'1, ⟨rfl, ⟨(⟨h11, ⟨h12, h13⟩⟩ | ⟨h14, ⟨h15, h16⟩⟩), H⟩⟩⟩⟩⟩
      · refine br_t (vEq_T (by omega)) ?_
        refine CallP.mk (Fc.imp (Go.Proofs.Ytnkjebohlnnjbaa.Link.waits H) ?_)
        rintro _ _ ⟨rfl, rfl⟩
        refine H.fronts [4, 4] ?_
        clear H
        intro H
        refine CallP.mk (Fc.imp (Go.Proofs.Ytnkjebohlnnjbaa.Link.waits H) ?_)
        rintro _ _ ⟨rfl, rfl⟩
        refine Done.mk ?_
        refine ⟨?_, ?_⟩
        · exact congrArg Value.bool (vEq_T (by omega))
        omega
      refine br_t (vEq_T (by assumption)) ?_
      refine CallP.mk (Fc.imp (Go.Proofs.Ytnkjebohlnnjbaa.Link.waits H) ?_)
      rintro _ _ ⟨rfl, rfl⟩
      refine H.fronts [4, 4] ?_
      clear H
      intro H
      refine CallP.mk (Fc.imp (Go.Proofs.Ytnkjebohlnnjbaa.Link.waits H) ?_)
      rintro _ _ ⟨rfl, rfl⟩
      refine Done.mk ?_
      refine ⟨?_, ?_⟩
      · exact congrArg Value.bool (vEq_T (by rw [show S'1 = S from by assumption]))
      exact H.finish
end Go.Proofs.Ytnkjebohlnnjbaa.Link
