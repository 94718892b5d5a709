/- The law LinkSoon. -/
import Derived.Test.YtepceieglhfnoaaLinkW
import Derived.Test.YtepceieglhfnoaaLinkZ
set_option maxRecDepth 100000
set_option maxHeartbeats 4000000
set_option linter.unusedVariables false
set_option linter.unusedSimpArgs false
namespace Go.Proofs.Ytepceieglhfnoaa.Link
open Go Go.Proofs.Ytepceieglhfnoaa.Eng Go.RowKit
theorem calm2 {g : Glob} {w : World} {l : List As} {p a b : Nat} {va vb vx v0 v1 u0 u1 : Value} {s : PS} (H : Sat g w (pcs p a b va vb vx v0 v1 u0 u1 s l)) (k : Int) (m : Nat) (hk : k = (m : Int)) (t : Int) (I : Inv s t) (ht : 0 ≤ t ∧ t + 3 * m ≤ 1099511627700) (hla : s.oa.length ≤ 1900000) (hlb : s.ob.length ≤ 1900000) (hair : s.air.length ≤ 90000000) :
    Fc Try.prog 30 #[.pointer (some ⟨p, 0, none⟩), .int .i64 k] w (fun r w' => ∃ z : JS, r = .bool true ∧ z.s = itM m s ∧ Sat g w' (pcs p a b z.va z.vb z.vx z.v0 z.v1 z.u0 z.u1 z.s l)) := by
  subst hk
  exact calm H m t I ht hla hlb hair
structure Fine (s : PS) : Prop where
  wa : s.a.waits = []
  wb : s.b.waits = []
  wal : s.a.waits.length = 0
  wbl : s.b.waits.length = 0
  oa : s.a.owed = false
  ob : s.b.owed = false
  ga : s.ga = s.ob
  gb : s.gb = s.oa
  na : 0 ≤ s.a.now ∧ s.a.now ≤ 1000000000
  nb : 0 ≤ s.b.now ∧ s.b.now ≤ 1000000000
  ka : 0 ≤ s.a.acked ∧ s.a.acked ≤ 2000000
  kb : 0 ≤ s.b.acked ∧ s.b.acked ≤ 2000000
  la : s.oa.length ≤ 1900000
  lb : s.ob.length ≤ 1900000
theorem fine {y : JS} {i m n : Nat} (hS : Sofar y i) (hi : i ≤ 1048576) (hn : n = y.s.a.waits.length + y.s.b.waits.length) (hm : m = 2 * n + 4) {s : PS} (hz : s = itM m y.s) : Fine s := by
  have h1 := hS.t0; have h2 := hS.t1; have h3 := hS.oa; have h4 := hS.ob; have h5 := hS.air; have hI := hS.inv
  obtain ⟨k1, k2, k3, k4, k5, k6, k7, k8⟩ := step hI
  have B : Big y.s := ⟨by omega, by omega⟩
  have C := calmed hI h1 B
  obtain ⟨I4, f1, f2⟩ := it_inv hI h1 B m
  rw [← hn, ← hm, ← hz] at C
  rw [← hz] at I4 f1 f2
  have c1 := C.wa; have c2 := C.wb
  have n1 := I4.ab.now; have n2 := I4.ba.now
  have q1 := I4.ab.ack0; have q2 := I4.ab.ack; have q3 := I4.ab.came; have q4 := I4.ab.high
  have q5 := I4.ba.ack0; have q6 := I4.ba.ack; have q7 := I4.ba.came; have q8 := I4.ba.high
  rw [f1] at q4; rw [f2] at q8
  exact ⟨c1, c2, by rw [c1]; rfl, by rw [c2]; rfl, C.oa, C.ob, C.ga, C.gb, by omega, by omega, by omega, by omega, by rw [f1]; omega, by rw [f2]; omega⟩
structure Qt (S : LS) (m : Int) : Prop where
  w : S.waits = []
  o : S.owed = false
  n : 0 ≤ S.now ∧ S.now ≤ m
  k : 0 ≤ S.acked ∧ S.acked ≤ 2000000
theorem Qt.eq {S : LS} {m m' : Int} (h : Qt S m) (e : m = m') : Qt S m' := e ▸ h
theorem Qt.outF {S : LS} {m : Int} (h : Qt S m) : outF S = [] ∧ Qt (outS S) m := by
  have e : (outL S (min 4 S.waits.length)).2.2 = [] := by rw [h.w]; rfl
  refine ⟨?_, ⟨?_, outS_owed h.w, h.n, h.k⟩⟩
  · unfold Link.outF; rw [if_neg (by rw [h.o]; intro h; cases h.2), e]
  · show (outL S _).1 = []
    exact List.eq_nil_of_length_eq_zero (by rw [outL_len, h.w]; rfl)
section
variable {g : Glob} {w : World} {l : List As} {p : Nat} {vw : Value} {S : LS}
theorem tickQ (H : Sat g w (Pt p (linkC S vw) 104 :: Sl 106 3 enO vw S.waits :: l)) (m : Int) (hq : Qt S m) (hm : m ≤ 2000000000) :
    Fc Try.prog 31 #[.pointer (some ⟨p, 0, none⟩), .int .i64 5] w (fun u w' => ∃ S', u = .int .i64 0 ∧ Qt S' (m + 5) ∧ Sat g w' (Pt p (linkC S' vw) 104 :: Sl 106 3 enO vw S'.waits :: l)) := by
  have h1 := hq.n
  refine (tick H 5 (by omega) (by decide)).imp ?_
  rintro u w' ⟨e, S', rfl, (⟨rfl, _, _, hS⟩ | ⟨_, h, _⟩), H⟩
  · refine ⟨S', rfl, ?_, H⟩
    subst hS
    exact ⟨hq.w, hq.o, by show 0 ≤ S.now + 5 ∧ S.now + 5 ≤ m + 5; omega, hq.k⟩
  · exact absurd ⟨by omega, by omega⟩ h
theorem outQ (H : Sat g w (Pt p (linkC S vw) 104 :: Sl 106 3 enO vw S.waits :: l)) (m : Int) (hq : Qt S m) (hm : m ≤ 2000000000) :
    Fc Try.prog 32 #[.pointer (some ⟨p, 0, none⟩)] w (fun u w' => ∃ S', Qt S' m ∧ Sat g w' (Sl 49 5 enF u [] :: Pt p (linkC S' vw) 104 :: Sl 106 3 enO vw S'.waits :: l)) := by
  have h1 := hq.n
  have h2 := hq.k
  refine (out H (by omega) (by omega) (by rw [hq.w]; nofun) (by rw [hq.w]; decide)).imp ?_
  intro u w' H
  rw [hq.outF.1] at H
  exact ⟨_, hq.outF.2, H⟩
theorem out1 (H : Sat g w (Pt p (linkC S vw) 104 :: Sl 106 3 enO vw S.waits :: l)) {T : LS} (s : List UInt8) (hT : S = { T with waits := T.waits ++ [⟨s, false, 0⟩] }) (m : Int) (hq : Qt T m) (hm : m ≤ 2000000000) :
    Fc Try.prog 32 #[.pointer (some ⟨p, 0, none⟩)] w (fun u w' => ∃ fs, fs.length = 1 ∧ Sat g w' (Sl 49 5 enF u fs :: Pt p (linkC (outS S) vw) 104 :: Sl 106 3 enO vw (outS S).waits :: l)) := by
  have h1 := hq.n
  have h2 := hq.k
  have hw : S.waits = [⟨s, false, 0⟩] := by rw [hT]; show T.waits ++ _ = _; rw [hq.w]; rfl
  have hn : S.now = T.now := by rw [hT]
  have hk : S.acked = T.acked := by rw [hT]
  refine (out H (by omega) (by omega) (by rw [hw]; intro x hx; rw [List.mem_singleton.1 hx]; exact ⟨Int.le_refl _, by show (0 : Int) ≤ 1099511627776; omega⟩) (by rw [hw]; show 1 ≤ 2000000; omega)).imp ?_
  intro u w' H
  refine ⟨_, ?_, H⟩
  have e : outL S 1 = _ := outL_go (i := 0) (x := ⟨s, false, 0⟩) (by rw [hw]; rfl) (by unfold rests; simp)
  have e2 : (outL S 1).2.2.length = 1 := by rw [e]; rfl
  rcases outF_cases S with h | h
  · rw [h, hw]; exact e2
  · rw [h]; rfl
end
theorem linkSoon (w : World) (v : Value) (xs : List LSt) (hx : Rd enSt okSt 8 w v xs) (hl : xs.length ≤ 1048576) : Fc Try.prog 9 #[v] w (fun v w' => v = .bool true ∧ Below w.heap.size w w') := by
  refine Fc.of Try.func9 rfl (by kernel_rfl) ?_
  have H := Sat.start w
  have hx := hx.fz
  refine CallP.mk (Fc.imp (Go.Proofs.Ytepceieglhfnoaa.Link.paired _) ?_)
  rintro _ w1 ⟨p1, ⟨a1, ⟨b1, ⟨rfl, H'⟩⟩⟩⟩
  refine H.mergeK H' ?_
  clear H H'
  intro H
  refine cF rfl ?_
  refine rLenF hx rfl ?_
  refine LoopP.rule (α := Nat × JS) (0, ⟨PS0, 0, .slice none 0 0, .slice none 0 0, .slice none 0 0, .slice none 0 0, .slice none 0 0, .slice none 0 0, .slice none 0 0⟩) (fun x_ => [(16, .int .i64 x_.1)]) (fun x_ w_ => (x_.1 ≤ xs.length) ∧ (Sofar x_.2 x_.1) ∧ Sat (froz w) w_ ((pcs p1 a1 b1 x_.2.va x_.2.vb x_.2.vx x_.2.v0 x_.2.v1 x_.2.u0 x_.2.u1 x_.2.s []))) (fun x_ => xs.length - x_.1) ?_ ?_ ?_
  · repeat first | exact mt_nil | refine mt_cons rfl ?_ | refine mt_i rfl (by first | omega | (simp only; omega) | (simp; omega) | (simp; done)) ?_
  · try simp only
    refine ⟨?_, ?_⟩
    · omega
    refine ⟨?_, ?_⟩
    · exact Sofar.start
    exact H
  clear H
  rintro ⟨i, y⟩ f_ w_ ⟨hi, hS, H⟩
  try simp only at hi hS H ⊢
  have h1 := hS.t0; have h2 := hS.t1; have h3 := hS.oa; have h4 := hS.ob; have h5 := hS.air; have hI := hS.inv
  obtain ⟨k1, k2, k3, k4, k5, k6, k7, k8⟩ := step hI
  rcases Nat.lt_or_ge i xs.length with hlt | hge
  · refine cT (vLt_T (by omega)) ?_
    refine bk ?_
    obtain ⟨x1, hx1⟩ : ∃ x, (xs)[(i)]? = some x := ⟨_, List.getElem?_eq_getElem (by omega)⟩
    obtain ⟨b2, o1, E1, F1, hok1⟩ := FSl.elt hx hx1
    refine rIxE E1 rfl rfl rfl ?_
    refine rLdA (H.fat F1) 0 rfl rfl rfl ?_
    refine rAllocS H rfl ?_
    clear H
    intro p2 w2 H
    clear w_
    refine rStAS H 0 rfl rfl rfl rfl ?_
    clear H
    intro w3 H
    clear w2
    refine rLdA (H.at 0 rfl) 0 rfl rfl rfl ?_
    refine H.fronts [10, 10, 10, 10, 10, 10, 10, 10, 10, 10] ?_
    clear H
    intro H
    refine CallP.mk (Fc.imp (Go.Proofs.Ytepceieglhfnoaa.Link.does H _ ?_ _ hI ?_ ?_ ?_ ?_) ?_)
    · exact hok1
    · omega
    · omega
    · omega
    · omega
    clear H
    rintro _ w2 ⟨y1, ⟨rfl, ⟨h6, H⟩⟩⟩
    refine cF rfl ?_
    refine eqI64 (by omega) ?_
    refine Nxt.mk ((i + 1, y1)) (mt_i rfl (by first | omega | (simp only; omega) | (simp; omega)) (mt_nil)) ?_ ?_
    · refine ⟨?_, ?_⟩
      · assumption
      refine ⟨?_, ?_⟩
      · exact hS.next h6
      refine H.firsts 10 ?_
      clear H
      intro H
      exact H
    omega
  · obtain ⟨n, hn⟩ : ∃ n, n = y.s.a.waits.length + y.s.b.waits.length := ⟨_, rfl⟩
    obtain ⟨m, hm⟩ : ∃ m, m = 2 * n + 4 := ⟨_, rfl⟩
    have hkm : 2 * ((y.s.a.waits.length : Int) + (y.s.b.waits.length : Int)) + 4 = (m : Int) := by omega
    refine cF (vLt_F (by omega)) ?_
    refine drawtS H [] (.op 0 .pure (.op 1 .pure (.op 2 .pure (.op 3 .pure (.op 6 .pure (.op 7 .pure (.op 8 .pure (.op 9 .pure (.op 4 .held (.op 10 .held (.op 5 .forced (.op 11 .free (.op 12 .pure (.op 13 .pure .nil)))))))))))))) mixed (by kernel_rfl) ?_
    clear H
    intro w2 H
    clear w_
    refine tk (fun wx HS => rFieldAt rfl ⟨rfl, rfl⟩) ?_
    refine tk (fun wx HS => rIxArr 1 0 (by omega) (by omega) rfl rfl ⟨rfl, rfl⟩) ?_
    refine tk (fun wx HS => rFieldAt rfl ⟨rfl, rfl⟩) ?_
    refine tk (fun wx HS => rIxArr 1 1 (by omega) (by omega) rfl rfl ⟨rfl, rfl⟩) ?_
    refine tk (fun wx HS => rLd (HS.at 0 rfl) 0 rfl rfl rfl ⟨rfl, rfl⟩) ?_
    refine tk (fun wx HS => rLd (HS.at 0 rfl) 1 rfl rfl rfl ⟨rfl, rfl⟩) ?_
    refine H.fronts [2, 2] ?_
    clear H
    intro H
    refine CallP.mk (Fc.imp (Go.Proofs.Ytepceieglhfnoaa.Link.waits H) ?_)
    rintro _ _ ⟨rfl, rfl⟩
    refine H.fronts [9, 9, 9, 9, 9, 9, 9, 8, 8, 9] ?_
    clear H
    intro H
    refine KeepP.mk (H) ?_
    refine H.fronts [4, 4] ?_
    clear H
    intro H
    refine CallP.mk (Fc.imp (Go.Proofs.Ytepceieglhfnoaa.Link.waits H) ?_)
    rintro _ _ ⟨rfl, rfl⟩
    refine eqI64 (by omega) ?_
    refine drawtS H [] (.op 0 .pure (.op 1 .pure (.op 2 .pure (.op 3 .pure (.op 4 .free (.op 5 .pure (.op 6 .pure (.op 7 .pure (.op 8 .pure (.op 9 .pure (.op 10 .pure (.op 12 .pure (.op 13 .pure (.op 14 .pure (.op 15 .pure (.hold (.op 11 .held (.op 16 .held (.op 17 .free (.op 18 .pure (.op 19 .pure (.op 20 .pure (.op 21 .pure (.op 22 .pure (.op 23 .pure (.op 24 .pure (.op 26 .pure (.op 27 .pure (.op 28 .pure (.op 29 .pure (.hold (.op 25 .held (.op 30 .held (.op 31 .free (.op 32 .pure (.op 33 .pure (.op 34 .pure (.op 35 .pure (.op 36 .pure (.op 37 .pure (.op 38 .pure (.op 41 .pure (.op 42 .pure (.op 43 .pure (.op 44 .pure (.hold (.op 39 .held (.op 45 .held (.op 40 .forced (.op 46 .free (.op 47 .pure (.op 48 .pure (.op 49 .pure .nil))))))))))))))))))))))))))))))))))))))))))))))))))))) mixed (by kernel_rfl) ?_
    clear H
    intro w3 H
    clear w2
    refine eqI64 (by omega) ?_
    refine eqI64 (by omega) ?_
    refine H.fronts [9, 9, 9, 9, 9, 6, 6, 9, 9, 9] ?_
    clear H
    intro H
    refine CallP.mk (Fc.imp (Go.Proofs.Ytepceieglhfnoaa.Link.calm2 H _ _ hkm _ hI ?_ ?_ ?_ ?_) ?_)
    · omega
    · omega
    · omega
    · omega
    clear H
    rintro _ w2 ⟨z1, ⟨rfl, ⟨h6, H⟩⟩⟩
    have F := fine hS (by omega) hn hm (by assumption)
    have c1l := F.wal
    have c2l := F.wbl
    have c5 := F.ga
    have c6 := F.gb
    have c7 := F.la
    have c8 := F.lb
    refine tk (fun wx HS => rFieldAt rfl ⟨rfl, rfl⟩) ?_
    refine tk (fun wx HS => rIxArr 1 1 (by omega) (by omega) rfl rfl ⟨rfl, rfl⟩) ?_
    refine tk (fun wx HS => rFieldAt rfl ⟨rfl, rfl⟩) ?_
    refine tk (fun wx HS => rIxArr 1 0 (by omega) (by omega) rfl rfl ⟨rfl, rfl⟩) ?_
    refine rHold H [] ?_
    refine tk (fun wx HS => rLd (HS.at 0 rfl) 6 rfl rfl rfl ⟨rfl, rfl⟩) ?_
    refine tk (fun wx HS => rLd (HS.at 0 rfl) 3 rfl rfl rfl ⟨rfl, rfl⟩) ?_
    refine CallP.mk (Fc.imp (Go.Proofs.Ytepceieglhfnoaa.Link.eqS _ _ _ _ _ (H.rdo 9 rfl ?_) (H.rdo 6 rfl ?_)) ?_)
    · (simp; done)
    · (simp; done)
    rintro _ w4 ⟨b2, ⟨rfl, ⟨h7, H'⟩⟩⟩
    refine H.mergeK H' ?_
    clear H H'
    intro H
    refine br_f (not_F (h7.2 (by assumption))) ?_
    refine tk (fun wx HS => rFieldAt rfl ⟨rfl, rfl⟩) ?_
    refine tk (fun wx HS => rIxArr 1 0 (by omega) (by omega) rfl rfl ⟨rfl, rfl⟩) ?_
    refine tk (fun wx HS => rFieldAt rfl ⟨rfl, rfl⟩) ?_
    refine tk (fun wx HS => rIxArr 1 1 (by omega) (by omega) rfl rfl ⟨rfl, rfl⟩) ?_
    refine rHold H [] ?_
    refine tk (fun wx HS => rLd (HS.at 0 rfl) 5 rfl rfl rfl ⟨rfl, rfl⟩) ?_
    refine tk (fun wx HS => rLd (HS.at 0 rfl) 4 rfl rfl rfl ⟨rfl, rfl⟩) ?_
    refine CallP.mk (Fc.imp (Go.Proofs.Ytepceieglhfnoaa.Link.eqS _ _ _ _ _ (H.rdo 8 rfl ?_) (H.rdo 7 rfl ?_)) ?_)
    · (simp; done)
    · (simp; done)
    rintro _ w5 ⟨b3, ⟨rfl, ⟨h8, H'⟩⟩⟩
    refine H.mergeK H' ?_
    clear H H'
    intro H
    refine br_f (not_F (h8.2 (by assumption))) ?_
    refine tk (fun wx HS => rFieldAt rfl ⟨rfl, rfl⟩) ?_
    refine tk (fun wx HS => rIxArr 1 0 (by omega) (by omega) rfl rfl ⟨rfl, rfl⟩) ?_
    refine tk (fun wx HS => rFieldAt rfl ⟨rfl, rfl⟩) ?_
    refine tk (fun wx HS => rIxArr 1 1 (by omega) (by omega) rfl rfl ⟨rfl, rfl⟩) ?_
    refine rHold H [] ?_
    refine tk (fun wx HS => rLd (HS.at 0 rfl) 0 rfl rfl rfl ⟨rfl, rfl⟩) ?_
    refine tk (fun wx HS => rLd (HS.at 0 rfl) 1 rfl rfl rfl ⟨rfl, rfl⟩) ?_
    refine H.fronts [2, 2] ?_
    clear H
    intro H
    refine CallP.mk (Fc.imp (Go.Proofs.Ytepceieglhfnoaa.Link.waits H) ?_)
    rintro _ _ ⟨rfl, rfl⟩
    refine H.fronts [9, 9, 9, 9, 9, 9, 9, 8, 8, 9] ?_
    clear H
    intro H
    refine KeepP.mk (H) ?_
    refine H.fronts [4, 4] ?_
    clear H
    intro H
    refine CallP.mk (Fc.imp (Go.Proofs.Ytepceieglhfnoaa.Link.waits H) ?_)
    rintro _ _ ⟨rfl, rfl⟩
    refine eqI64 (by omega) ?_
    refine cF (vLt_F (by omega)) ?_
    obtain ⟨M, hM⟩ : ∃ M : Int, M = 1000000000 := ⟨_, rfl⟩
    have qa : Qt z1.s.a (M + 5 * ((0 : Nat) : Int)) := ⟨F.wa, F.oa, by have := F.na; omega, F.ka⟩
    have qb : Qt z1.s.b (M + 5 * ((0 : Nat) : Int)) := ⟨F.wb, F.ob, by have := F.nb; omega, F.kb⟩
    refine LoopP.rule (α := Nat × LS × LS) (0, z1.s.a, z1.s.b) (fun x_ => [(88, .int .i64 x_.1)]) (fun x_ w_ => (x_.1 ≤ 3) ∧ (Qt x_.2.1 (M + 5 * (x_.1 : Int))) ∧ (Qt x_.2.2 (M + 5 * (x_.1 : Int))) ∧ Sat (froz w) w_ ([Pt p1 [.pointer (some ⟨a1, 0, none⟩), .pointer (some ⟨b1, 0, none⟩), z1.vx, z1.v0, z1.v1, z1.u0, z1.u1] 74, Pt a1 (linkC x_.2.1 z1.va) 104, Sl 106 3 enO z1.va x_.2.1.waits, Pt b1 (linkC x_.2.2 z1.vb) 104, Sl 106 3 enO z1.vb x_.2.2.waits])) (fun x_ => 3 - x_.1) ?_ ?_ ?_
    · repeat first | exact mt_nil | refine mt_cons rfl ?_ | refine mt_i rfl (by first | omega | (simp only; omega) | (simp; omega) | (simp; done)) ?_
    · try simp only
      refine ⟨?_, ?_⟩
      · omega
      refine ⟨?_, ?_⟩
      · assumption
      refine ⟨?_, ?_⟩
      · assumption
      refine H.fronts [1, 1, 4, 4, 4] ?_
      clear H
      intro H
      refine H.firsts 5 ?_
      clear H
      intro H
      exact H
    clear H
    rintro ⟨j, S, T⟩ f_ w_ ⟨hj, hSq, hTq, H⟩
    try simp only at hj hSq hTq H ⊢
    have hs1 := hSq.n; have hs2 := hSq.k
    have hsl : S.waits.length = 0 := by rw [hSq.w]; rfl
    rcases Nat.lt_or_ge j 3 with hj3 | hj3
    · refine cT (vLt_T (by omega)) ?_
      refine bk ?_
      refine drawtS H [] (.op 0 .pure (.op 1 .pure (.op 2 .pure (.op 3 .pure (.op 4 .held (.op 5 .free (.op 6 .pure (.op 7 .pure (.op 8 .pure (.op 9 .pure (.op 10 .pure (.op 11 .pure (.hold (.op 12 .held (.op 13 .free (.op 14 .pure (.op 15 .pure (.op 16 .pure (.op 17 .pure (.op 18 .pure (.op 19 .pure (.op 20 .pure (.op 24 .pure (.op 25 .pure (.op 26 .pure (.op 27 .pure (.hold (.op 21 .held (.op 28 .held (.op 22 .forced (.op 23 .pure (.op 29 .free (.op 30 .pure (.op 31 .pure (.op 32 .pure (.op 33 .pure .nil)))))))))))))))))))))))))))))))))))) mixed (by kernel_rfl) ?_
      clear H
      intro w6 H
      clear w_
      refine tk (fun wx HS => rFieldAt rfl ⟨rfl, rfl⟩) ?_
      refine tk (fun wx HS => rIxArr 1 0 (by omega) (by omega) rfl rfl ⟨rfl, rfl⟩) ?_
      refine tk (fun wx HS => rLd (HS.at 0 rfl) 0 rfl rfl rfl ⟨rfl, rfl⟩) ?_
      refine H.fronts [2, 2] ?_
      clear H
      intro H
      refine CallP.mk (Fc.imp (Go.Proofs.Ytepceieglhfnoaa.Link.tickQ H _ hSq ?_) ?_)
      · omega
      clear H
      rintro _ w7 ⟨S'1, ⟨rfl, ⟨h9, H⟩⟩⟩
      refine br_f (vNe_F (by omega)) ?_
      refine tk (fun wx HS => rFieldAt rfl ⟨rfl, rfl⟩) ?_
      refine tk (fun wx HS => rIxArr 1 1 (by omega) (by omega) rfl rfl ⟨rfl, rfl⟩) ?_
      refine rHold H [] ?_
      refine tk (fun wx HS => rLd (HS.at 2 rfl) 1 rfl rfl rfl ⟨rfl, rfl⟩) ?_
      refine H.fronts [4, 4] ?_
      clear H
      intro H
      refine CallP.mk (Fc.imp (Go.Proofs.Ytepceieglhfnoaa.Link.tickQ H _ hTq ?_) ?_)
      · omega
      clear H
      rintro _ w8 ⟨S'2, ⟨rfl, ⟨h10, H⟩⟩⟩
      refine br_f (vNe_F (by omega)) ?_
      refine tk (fun wx HS => rFieldAt rfl ⟨rfl, rfl⟩) ?_
      refine tk (fun wx HS => rIxArr 1 0 (by omega) (by omega) rfl rfl ⟨rfl, rfl⟩) ?_
      refine tk (fun wx HS => rFieldAt rfl ⟨rfl, rfl⟩) ?_
      refine tk (fun wx HS => rIxArr 1 1 (by omega) (by omega) rfl rfl ⟨rfl, rfl⟩) ?_
      refine rHold H [3, 2] ?_
      refine tk (fun wx HS => rLd (HS.at 2 rfl) 0 rfl rfl rfl ⟨rfl, rfl⟩) ?_
      refine tk (fun wx HS => rLd (HS.at 2 rfl) 1 rfl rfl rfl ⟨rfl, rfl⟩) ?_
      refine H.fronts [3, 3] ?_
      clear H
      intro H
      refine CallP.mk (Fc.imp (Go.Proofs.Ytepceieglhfnoaa.Link.outQ H _ h9 ?_) ?_)
      · omega
      clear H
      rintro v' w9 ⟨S'3, ⟨h11, H⟩⟩
      refine KeepP.mk (H.drop 2 (fun H => H.drop 1 (fun H => H.drop 0 (fun H => H)))) ?_
      obtain ⟨a2, c1, V1⟩ := H.form 0 rfl
      refine tk (fun wx HS => rLenV V1 rfl ⟨rfl, rfl⟩) ?_
      refine H.fronts [4, 4] ?_
      clear H
      intro H
      refine CallP.mk (Fc.imp (Go.Proofs.Ytepceieglhfnoaa.Link.outQ H _ h10 ?_) ?_)
      · omega
      clear H
      rintro v' w10 ⟨S'4, ⟨h12, H⟩⟩
      obtain ⟨a3, c2, V2⟩ := H.form 0 rfl
      refine tk (fun wx HS => rLenV V2 rfl ⟨rfl, rfl⟩) ?_
      refine eqI64 (by simp only [List.length_append, List.length_set, List.length_cons, List.length_nil]; omega) ?_
      refine cF (vLt_F (by (simp only [List.length_append, List.length_set, List.length_cons, List.length_nil]; omega))) ?_
      refine eqI64 (by omega) ?_
      refine Nxt.mk ((j + 1, S'3, S'4)) (mt_i rfl (by first | omega | (simp only; omega) | (simp; omega)) (mt_nil)) ?_ ?_
      · refine ⟨?_, ?_⟩
        · assumption
        refine ⟨?_, ?_⟩
        · exact Qt.eq (by assumption) (by push_cast; omega)
        refine ⟨?_, ?_⟩
        · exact Qt.eq (by assumption) (by push_cast; omega)
        refine H.fronts [2, 2, 5, 5, 6] ?_
        clear H
        intro H
        refine H.firsts 5 ?_
        clear H
        intro H
        exact H
      omega
    · refine cF (vLt_F (by omega)) ?_
      refine rFieldAt rfl ?_
      refine rIxArr 1 0 (by omega) (by omega) rfl rfl ?_
      refine rLd (H.at 0 rfl) 0 rfl rfl rfl ?_
      refine H.fronts [2, 2] ?_
      clear H
      intro H
      refine CallP.mk (Fc.imp (Go.Proofs.Ytepceieglhfnoaa.Link.offer H _ ?_ ?_) ?_)
      · (simp only [List.length_append, List.length_set, List.length_cons, List.length_nil]; omega)
      · omega
      clear H
      rintro _ w6 ⟨e1, ⟨S'1, ⟨v'1, ⟨rfl, ⟨(⟨h9, ⟨h10, h11⟩⟩ | ⟨h12, ⟨h13, h14⟩⟩), H⟩⟩⟩⟩⟩
      · first | exact absurd (by assumption : 64 < ([120] : List UInt8).length) (by decide) | skip
        refine br_t (vEq_T (by assumption)) ?_
        refine rFieldAt rfl ?_
        refine rIxArr 1 0 (by omega) (by omega) rfl rfl ?_
        refine rLd (H.at 2 rfl) 0 rfl rfl rfl ?_
        refine CallP.mk (Fc.imp (Go.Proofs.Ytepceieglhfnoaa.Link.out1 H _ h11 _ hSq ?_) ?_)
        · omega
        clear H
        rintro v' w7 ⟨fs1, ⟨h12, H⟩⟩
        refine rLenS H 0 rfl rfl ?_
        refine Done.mk ?_
        refine ⟨?_, ?_⟩
        · exact congrArg Value.bool (vEq_T (by omega))
        exact H.finish
      first | exact absurd (by assumption : 64 < ([120] : List UInt8).length) (by decide) | skip
end Go.Proofs.Ytepceieglhfnoaa.Link
