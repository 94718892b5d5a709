/- The law OwnTurns. -/
import Derived.Test.YtcgenmddojgbpaaOwnTurnsA
import Derived.Test.YtcgenmddojgbpaaOpen
set_option maxRecDepth 100000
set_option maxHeartbeats 4000000
set_option linter.unusedVariables false
set_option linter.unusedSimpArgs false
namespace Go.Proofs.Ytcgenmddojgbpaa.OwnT
open Go Go.Proofs.Ytcgenmddojgbpaa.Eng Go.RowKit
open Ref Ring Turns Super
def okA (_ : Int) : Prop := True
theorem fitsI (cs : List Value) (h : fitsL [.int .i64] cs) : ∃ x, cs = enI x ∧ okA x := by
  obtain ⟨_, _, rfl, ⟨a, rfl, _⟩, rfl⟩ := h
  exact ⟨a, rfl, trivial⟩
theorem fitsK (cs : List Value) (h : fitsL [.bool, .bool] cs) : ∃ x, cs = enK x ∧ okK x := by
  obtain ⟨_, _, rfl, ⟨a, rfl⟩, _, _, rfl, ⟨b, rfl⟩, rfl⟩ := h
  exact ⟨(a, b), rfl, trivial⟩
theorem idn_in (ns : Nds) (x : Int) : (∀ j, j < ns.length → idn ns j ≠ x) ∨ ∃ i, i < ns.length ∧ idn ns i = x ∧ ∀ j, j < i → idn ns j ≠ x := by
  have key : ∀ n, (∀ j, j < n → idn ns j ≠ x) ∨ ∃ i, i < n ∧ idn ns i = x ∧ ∀ j, j < i → idn ns j ≠ x := by
    intro n
    induction n with
    | zero => exact .inl fun j hj => absurd hj (Nat.not_lt_zero j)
    | succ n ih =>
      rcases ih with h | ⟨i, h1, h2, h3⟩
      · by_cases e : idn ns n = x
        · exact .inr ⟨n, by omega, e, h⟩
        · refine .inl fun j hj => ?_
          rcases Nat.lt_or_ge j n with h4 | h4
          · exact h j h4
          · obtain rfl : j = n := by omega
            exact e
      · exact .inr ⟨i, by omega, h2, h3⟩
  exact key ns.length
theorem addAny {g : Glob} {w : World} {l : List As} {r n : Nat} {m : Nm} {ns : Nds} (H : Sat g w (Pt r [fsv ns, .int .i64 n] 39 :: Nd m 98 :: l)) (hR : RgOk m ns) (hn : n = ns.length) (hl : ns.length ≤ 100000000000000) (id : Int) :
    Fc Try.prog 13 #[.pointer (some ⟨r, 0, none⟩), .int .i64 id] w (fun v w' => ∃ b m' ns' n' i, v = .bool b ∧ RgOk m' ns' ∧ n' = ns'.length ∧ n' ≤ n + 1 ∧ i < ns'.length ∧ idn ns' i = id ∧ (∀ j, j < i → idn ns' j ≠ id) ∧ Sat g w' (Pt r [fsv ns', .int .i64 (n' : Nat)] 39 :: Nd m' 98 :: l)) := by
  rcases idn_in ns id with hid | ⟨i, hii, hid, hno⟩
  · exact (addN H hR hn hl id hid).imp fun v w' ⟨q, m', ns', n', e, h1, h2, h3, H⟩ => ⟨true, m', ns', n', ns.length, e, h2, h3, by rw [h3, h1, List.length_append, List.length_singleton]; omega, by rw [h1, List.length_append, List.length_singleton]; omega, by rw [h1]; exact idn_last ns (q, id), fun j hj => by rw [h1, idn_app hj]; exact hid j hj, H⟩
  · exact (addY H hR hn hl id i hii hid hno).imp fun v w' ⟨e, H⟩ => ⟨false, m, ns, n, i, e, hR, hn, by omega, hii, hid, hno, H⟩
theorem ownTurns (w : World) (v1 : Value) (ids : List Int) (v2 : Value) (needs : List Int) (v3 : Value) (kids : List (Bool × Bool)) (F : Int) (hi : Rd enI okA 1 w v1 ids) (hil : ids.length * 8 ≤ 140737488351232) (hn : Rd enI okA 1 w v2 needs) (hnl : needs.length * 8 ≤ 140737488351232) (hk : Rd enK okK 2 w v3 kids) (hkl : kids.length * 2 ≤ 140737488351232) (_ : I64 F) : Fc Try.prog 4 #[v1, v2, v3, .int .i64 F] w (fun v w' => v = .bool true ∧ Below w.heap.size w w') := by
  refine Fc.of Try.func4 rfl (by kernel_rfl) ?_
  have H := (Sat.start w).nd0 98
  have hi := hi.fz
  have hn := hn.fz
  have hk := hk.fz
  refine rAllocS H rfl ?_
  clear H
  intro p1 w1 H
  refine rLenF hi rfl ?_
  have H2 : Sat (froz w) w1 (Pt p1 [fsv [], .int .i64 ((0 : Nat) : Int)] 39 :: Nd nm0 98 :: []) := H
  clear H
  have H := H2
  clear H2
  refine LoopP.rule (α := Nat × Nm × Nds × Nat) (0, nm0, [], 0) (fun x_ => [(29, .int .i64 x_.1)]) (fun x_ w_ => (x_.1 ≤ ids.length) ∧ (RgOk x_.2.1 x_.2.2.1) ∧ (x_.2.2.2 = x_.2.2.1.length) ∧ (x_.2.2.2 ≤ x_.1) ∧ Sat (froz w) w_ ([Pt p1 [fsv x_.2.2.1, .int .i64 x_.2.2.2] 39, Nd x_.2.1 98])) (fun x_ => ids.length - x_.1) ?_ ?_ ?_
  · repeat first | exact mt_nil | refine mt_cons rfl ?_ | refine mt_i rfl (by first | omega | (simp only; omega) | (simp; omega) | (simp; done)) ?_
  · try simp only
    refine ⟨?_, ?_⟩
    · omega
    refine ⟨?_, ?_⟩
    · exact ⟨List.nodup_nil, fun i hi => absurd hi (Nat.not_lt_zero i)⟩
    refine ⟨?_, ?_⟩
    · rfl
    refine ⟨?_, ?_⟩
    · omega
    exact H
  clear H
  rintro ⟨j, m, ns, n⟩ f_ w_ ⟨hj, hR, hns, hnj, H⟩
  try simp only at hj hR hns hnj H ⊢
  rcases Nat.lt_or_ge j ids.length with hlt | hge
  · obtain ⟨x, hxj⟩ : ∃ x, ids[j]? = some x := ⟨_, List.getElem?_eq_getElem hlt⟩
    refine cT (vLt_T (by omega)) ?_
    refine bk ?_
    obtain ⟨b1, o1, E1, F1, hok1⟩ := FSl.elt hi hxj
    refine rIxE E1 rfl rfl rfl ?_
    refine rLd (H.fat F1) 0 rfl rfl rfl ?_
    refine CallP.mk (Fc.imp (Go.Proofs.Ytcgenmddojgbpaa.OwnT.addAny H ?_ ?_ ?_ _) ?_)
    · assumption
    · assumption
    · omega
    clear H
    rintro _ w2 ⟨b2, ⟨m'1, ⟨ns'1, ⟨n'1, ⟨i1, ⟨rfl, ⟨h1, ⟨h2, ⟨h3, ⟨h4, ⟨h5, ⟨h6, H⟩⟩⟩⟩⟩⟩⟩⟩⟩⟩⟩⟩
    refine eqI64 (by omega) ?_
    refine Nxt.mk ((j + 1, m'1, ns'1, n'1)) (mt_i rfl (by first | omega | (simp only; omega) | (simp; omega)) (mt_nil)) ?_ ?_
    · refine ⟨?_, ?_⟩
      · assumption
      refine ⟨?_, ?_⟩
      · assumption
      refine ⟨?_, ?_⟩
      · assumption
      refine ⟨?_, ?_⟩
      · (simp only [List.length_append, List.length_set, List.length_cons, List.length_nil]; omega)
      exact H
    omega
  · refine cF (vLt_F (by omega)) ?_
    refine CallP.mk (Fc.imp (Go.Proofs.Ytcgenmddojgbpaa.OwnT.addAny H ?_ ?_ ?_ _) ?_)
    · assumption
    · assumption
    · omega
    clear H
    rintro _ w2 ⟨b1, ⟨m'1, ⟨ns'1, ⟨n'1, ⟨i1, ⟨rfl, ⟨h1, ⟨h2, ⟨h3, ⟨h4, ⟨h5, ⟨h6, H⟩⟩⟩⟩⟩⟩⟩⟩⟩⟩⟩⟩
    refine CallP.mk (Fc.imp (Go.Proofs.Ytcgenmddojgbpaa.Ring.addY H ?_ ?_ ?_ _ (i1) h4 ?_ ?_) ?_)
    · assumption
    · assumption
    · omega
    · assumption
    · assumption
    clear H
    rintro _ w3 ⟨rfl, H⟩
    refine cF rfl ?_
    refine CallP.mk (Fc.imp (Go.Proofs.Ytcgenmddojgbpaa.Ring.all H ?_ ?_ ?_) ?_)
    · assumption
    · assumption
    · omega
    clear H
    rintro v' w4 ⟨ys1, ⟨h7, ⟨h8, H⟩⟩⟩
    refine H.fronts [2, 2] ?_
    clear H
    intro H
    refine CallP.mk (Fc.imp (Go.Proofs.Ytcgenmddojgbpaa.Ring.all H ?_ ?_ ?_) ?_)
    · assumption
    · assumption
    · omega
    clear H
    rintro va' w5 ⟨ys2, ⟨h9, ⟨h10, H⟩⟩⟩
    refine rLenS H 0 rfl rfl ?_
    refine LoopP.rule (α := Nat × List Int) (0, ys2) (fun x_ => [(42, .int .i64 x_.1)]) (fun x_ w_ => (x_.1 ≤ ys2.length) ∧ (x_.2.length = ys2.length) ∧ Sat (froz w) w_ ([Sl 3 1 enI va' x_.2, Pt p1 [fsv ns'1, .int .i64 n'1] 39, Nd m'1 98, Sl 3 1 enI v' ys1])) (fun x_ => ys2.length - x_.1) ?_ ?_ ?_
    · repeat first | exact mt_nil | refine mt_cons rfl ?_ | refine mt_i rfl (by first | omega | (simp only; omega) | (simp; omega) | (simp; done)) ?_
    · try simp only
      refine ⟨?_, ?_⟩
      · omega
      refine ⟨?_, ?_⟩
      · (constructor <;> omega)
      exact H
    clear H
    rintro ⟨i, ls⟩ f_ w_ ⟨hii, hls, H⟩
    try simp only at hii hls H ⊢
    clear h4 h5 h6 hge
    rcases Nat.lt_or_ge i ys2.length with hlt | hge
    · refine cT (vLt_T (by omega)) ?_
      refine bk ?_
      obtain ⟨x1, hx1⟩ : ∃ x, (ls)[(i)]? = some x := ⟨_, List.getElem?_eq_getElem (by omega)⟩
      obtain ⟨b2, o1, E1⟩ := H.elt 0 rfl (i) (by omega)
      refine rIxE E1 rfl rfl rfl ?_
      refine rStE H 0 rfl E1 hx1 0 (-1) rfl rfl rfl rfl ?_
      clear H
      intro w6 H
      clear w_
      refine eqI64 (by omega) ?_
      refine Nxt.mk ((i + 1, ls.set i (-1))) (mt_i rfl (by first | omega | (simp only; omega) | (simp; omega)) (mt_nil)) ?_ ?_
      · refine ⟨?_, ?_⟩
        · assumption
        refine ⟨?_, ?_⟩
        · (simp only [List.length_append, List.length_set, List.length_cons, List.length_nil]; omega)
        exact H
      omega
    · refine cF (vLt_F (by omega)) ?_
      refine CallP.mk (Fc.imp (Go.Proofs.Ytcgenmddojgbpaa.Ref.copyI _ _ _ (H.rd hn) ?_) ?_)
      · omega
      rintro vb' w6 H'
      refine H.mergeK H' ?_
      clear H H'
      intro H
      refine CallP.mk (Fc.imp (Go.Proofs.Ytcgenmddojgbpaa.Super.copyKid _ _ _ (H.rd hk) ?_) ?_)
      · assumption
      rintro vc' w7 H'
      refine H.mergeK H' ?_
      clear H H'
      intro H
      refine CallP.mk (Fc.imp (Go.Proofs.Ytcgenmddojgbpaa.Super.shareAny _ _ _ (H.rdo 1 rfl ?_)) ?_)
      · (simp; done)
      rintro _ w8 ⟨u1, ⟨t1, ⟨e1, ⟨rfl, H'⟩⟩⟩⟩
      refine H.mergeK H' ?_
      clear H H'
      intro H
      refine CallP.mk (Fc.imp (Go.Proofs.Ytcgenmddojgbpaa.Super.planAny _ _ _ _ (H.rdo 0 rfl ?_)) ?_)
      · (simp; done)
      rintro vd' w9 H'
      refine H.mergeK H' ?_
      clear H H'
      intro H
      refine CallP.mk (Fc.imp (Go.Proofs.Ytcgenmddojgbpaa.Super.pastAny _ _ _ (H.rdo 1 rfl ?_)) ?_)
      · (simp; done)
      rintro ve' w10 H'
      refine H.mergeK H' ?_
      clear H H'
      intro H
      refine rLenF hk rfl ?_
      refine rMakeS (en := enB) (s := 1) H (false) ((kids.length)) ((kids.length)) 1 rfl rfl rfl (fun _ => rfl) (by omega) (by omega) (by omega) (by omega) (by omega) ?_
      intro v4
      clear H
      intro w11 H
      clear w10
      refine rLenS H 0 rfl rfl ?_
      refine LoopP.rule (α := Nat × List Bool) (0, List.replicate kids.length false) (fun x_ => [(65, .int .i64 x_.1)]) (fun x_ w_ => (x_.1 ≤ kids.length) ∧ (x_.2.length = kids.length) ∧ (∀ u, u < x_.1 → x_.2[u]? = (kids[u]?).map (·.2)) ∧ Sat (froz w) w_ ([Sl 4 1 enB v4 x_.2, Sl 45 2 enK vc' kids, Sl 3 1 enI vb' needs, Pt p1 [fsv ns'1, .int .i64 n'1] 39, Nd m'1 98, Sl 3 1 enI v' ys1])) (fun x_ => kids.length - x_.1) ?_ ?_ ?_
      · repeat first | exact mt_nil | refine mt_cons rfl ?_ | refine mt_i rfl (by first | omega | (simp only; omega) | (simp; omega) | (simp; done)) ?_
      · try simp only
        refine ⟨?_, ?_⟩
        · omega
        refine ⟨?_, ?_⟩
        · (simp; done)
        refine ⟨?_, ?_⟩
        · (intro u hu; exact absurd hu (Nat.not_lt_zero u))
        refine H.fronts [6, 6, 6, 5, 5, 5] ?_
        clear H
        intro H
        refine H.firsts 6 ?_
        clear H
        intro H
        exact H
      clear H
      rintro ⟨q, kp⟩ f_ w_ ⟨hq, hkp, hke, H⟩
      try simp only at hq hkp hke H ⊢
      have hrl : (List.replicate kids.length false).length = kids.length := List.length_replicate
      rcases Nat.lt_or_ge q kids.length with hqlt | hqge
      · obtain ⟨y, hy⟩ : ∃ y, kids[q]? = some y := ⟨_, List.getElem?_eq_getElem hqlt⟩
        have hke2 : ∀ u, u < q + 1 → (kp.set q y.2)[u]? = (kids[u]?).map (·.2) := fun u hu => by
          rw [List.getElem?_set]
          by_cases e : q = u
          · subst e; rw [if_pos rfl, if_pos (by omega), hy]; rfl
          · rw [if_neg e]; exact hke u (by omega)
        refine cT (vLt_T (by omega)) ?_
        refine bk ?_
        obtain ⟨b2, o1, E1, F1, hok1⟩ := FSl.elt hk hy
        refine rIxE E1 rfl rfl rfl ?_
        refine rFieldAt rfl ?_
        refine rLd (H.fat F1) 1 rfl rfl rfl ?_
        obtain ⟨x1, hx1⟩ : ∃ x, (kp)[(q)]? = some x := ⟨_, List.getElem?_eq_getElem (by omega)⟩
        obtain ⟨b3, o2, E2⟩ := H.elt 0 rfl (q) (by omega)
        refine rIxE E2 rfl rfl rfl ?_
        refine rStE H 0 rfl E2 hx1 0 (y.snd) rfl rfl rfl rfl ?_
        clear H
        intro w10 H
        clear w_
        refine eqI64 (by omega) ?_
        refine Nxt.mk ((q + 1, kp.set q y.snd)) (mt_i rfl (by first | omega | (simp only; omega) | (simp; omega)) (mt_nil)) ?_ ?_
        · refine ⟨?_, ?_⟩
          · assumption
          refine ⟨?_, ?_⟩
          · (simp only [List.length_append, List.length_set, List.length_cons, List.length_nil]; omega)
          refine ⟨?_, ?_⟩
          · exact hke2
          exact H
        omega
      · have hkq : kp = kids.map (·.2) := List.ext_getElem? fun u => by
          rcases Nat.lt_or_ge u kids.length with h | h
          · rw [hke u (by omega), List.getElem?_map]
          · rw [List.getElem?_eq_none (by omega), List.getElem?_eq_none (by simpa using h)]
        rcases Nat.lt_or_ge 8 kids.length with h8 | h8
        · refine cF (vLt_F (by omega)) ?_
          refine CallP.mk (Fc.imp (Go.Proofs.Ytcgenmddojgbpaa.Super.newBad _ _ _ (H.rdo 0 rfl ?_) ?_) ?_)
          · (simp; done)
          · omega
          rintro _ w10 ⟨e2, ⟨rfl, ⟨h4, H'⟩⟩⟩
          refine H.mergeK H' ?_
          clear H H'
          intro H
          refine rLenS H 0 rfl rfl ?_
          refine LoopP.rule (α := Nat × List Bool) (0, kp) (fun x_ => [(84, .int .i64 x_.1)]) (fun x_ w_ => (x_.1 ≤ kids.length) ∧ (x_.2.length = kids.length) ∧ Sat (froz w) w_ ([Sl 4 1 enB v4 x_.2, Sl 45 2 enK vc' kids, Sl 3 1 enI vb' needs, Pt p1 [fsv ns'1, .int .i64 n'1] 39, Nd m'1 98, Sl 3 1 enI v' ys1])) (fun x_ => kids.length - x_.1) ?_ ?_ ?_
          · repeat first | exact mt_nil | refine mt_cons rfl ?_ | refine mt_i rfl (by first | omega | (simp only; omega) | (simp; omega) | (simp; done)) ?_
          · try simp only
            refine ⟨?_, ?_⟩
            · omega
            refine ⟨?_, ?_⟩
            · assumption
            exact H
          clear H
          rintro ⟨a, kq⟩ f_ w_ ⟨ha, hkq2, H⟩
          try simp only at ha hkq2 H ⊢
          refine cI (fun c1 => ?_) (fun c1 => ?_)
          · replace c1 := vLt_t (c1)
            refine bk ?_
            obtain ⟨x1, hx1⟩ : ∃ x, (kq)[(a)]? = some x := ⟨_, List.getElem?_eq_getElem (by omega)⟩
            obtain ⟨b2, o1, E1⟩ := H.elt 0 rfl (a) (by omega)
            refine rIxE E1 rfl rfl rfl ?_
            refine rLd (H.el 0 rfl E1 hx1) 0 rfl rfl rfl ?_
            refine rIxE E1 rfl rfl rfl ?_
            refine rStE H 0 rfl E1 hx1 0 (!x1) rfl rfl rfl rfl ?_
            clear H
            intro w12 H
            clear w_
            refine eqI64 (by omega) ?_
            refine Nxt.mk ((a + 1, kq.set a !x1)) (mt_i rfl (by first | omega | (simp only; omega) | (simp; omega)) (mt_nil)) ?_ ?_
            · refine ⟨?_, ?_⟩
              · omega
              refine ⟨?_, ?_⟩
              · (simp only [List.length_append, List.length_set, List.length_cons, List.length_nil]; omega)
              exact H
            omega
          replace c1 := vLt_f (c1)
          refine br_f (vEq_F (by assumption)) ?_
          refine cF rfl ?_
          refine rLenF hk rfl ?_
          refine cF (vLe_F (by omega)) ?_
          refine H.fronts [4, 4] ?_
          clear H
          intro H
          refine CallP.mk (Fc.imp (Go.Proofs.Ytcgenmddojgbpaa.Ring.all H ?_ ?_ ?_) ?_)
          · assumption
          · assumption
          · omega
          clear H
          rintro vf' w12 ⟨ys3, ⟨h5, ⟨h6, H⟩⟩⟩
          refine CallP.mk (Fc.imp (Go.Proofs.Ytcgenmddojgbpaa.Ref.eqI _ _ _ _ _ (H.rdo 0 rfl ?_) (H.rdo 6 rfl ?_) ?_) ?_)
          · (simp; done)
          · (simp; done)
          · omega
          rintro _ w13 ⟨b2, ⟨rfl, ⟨h11, H'⟩⟩⟩
          refine H.mergeK H' ?_
          clear H H'
          intro H
          refine br (fun c2 => ?_) (fun c2 => ?_)
          · replace c2 := h11.1 (c2)
            refine CallP.mk (Fc.imp (Go.Proofs.Ytcgenmddojgbpaa.Ref.eqI _ _ _ _ _ (H.rdo 5 rfl ?_) (H.rd hn) ?_) ?_)
            · (simp; done)
            · omega
            rintro _ w14 ⟨b3, ⟨rfl, ⟨h12, H'⟩⟩⟩
            refine H.mergeK H' ?_
            clear H H'
            intro H
            refine br (fun c3 => ?_) (fun c3 => ?_)
            · replace c3 := h12.1 (c3)
              refine CallP.mk (Fc.imp (Go.Proofs.Ytcgenmddojgbpaa.Super.eqKid _ _ _ _ _ (H.rdo 4 rfl ?_) (H.rd hk) ?_) ?_)
              · (simp; done)
              · omega
              rintro _ w15 ⟨b4, ⟨rfl, ⟨h13, H'⟩⟩⟩
              refine H.mergeK H' ?_
              clear H H'
              intro H
              refine Done.mk ?_
              refine ⟨?_, ?_⟩
              · exact congrArg Value.bool (Iff.mpr (by assumption) rfl)
              exact H.finish
            replace c3 := iff_f h12 (c3)
            refine Done.mk ?_
            exact absurd rfl (by assumption)
          replace c2 := iff_f h11 (c2)
          refine Done.mk ?_
          exact absurd (h5.trans h7.symm) (by assumption)
        · refine cF (vLt_F (by omega)) ?_
          refine CallP.mk (Fc.imp (Go.Proofs.Ytcgenmddojgbpaa.Super.newOk _ _ _ (H.rdo 0 rfl ?_) ?_) ?_)
          · (simp; done)
          · omega
          rintro _ w10 ⟨p2, ⟨kv1, ⟨ks1, ⟨rfl, ⟨h4, H'⟩⟩⟩⟩⟩
          refine H.mergeK H' ?_
          clear H H'
          intro H
          refine rLenS H 2 rfl rfl ?_
          refine LoopP.rule (α := Nat × List Bool) (0, kp) (fun x_ => [(84, .int .i64 x_.1)]) (fun x_ w_ => (x_.1 ≤ kids.length) ∧ (x_.2.length = kids.length) ∧ Sat (froz w) w_ ([Pt p2 (supC ⟨2, 9, 9, ks1, [], 0, false⟩ kv1 (.slice none 0 0)) 102, Sl 45 2 enK kv1 ks1, Sl 4 1 enB v4 x_.2, Sl 45 2 enK vc' kids, Sl 3 1 enI vb' needs, Pt p1 [fsv ns'1, .int .i64 n'1] 39, Nd m'1 98, Sl 3 1 enI v' ys1])) (fun x_ => kids.length - x_.1) ?_ ?_ ?_
          · repeat first | exact mt_nil | refine mt_cons rfl ?_ | refine mt_i rfl (by first | omega | (simp only; omega) | (simp; omega) | (simp; done)) ?_
          · try simp only
            refine ⟨?_, ?_⟩
            · omega
            refine ⟨?_, ?_⟩
            · assumption
            exact H
          clear H
          rintro ⟨a, kq⟩ f_ w_ ⟨ha, hkq2, H⟩
          try simp only at ha hkq2 H ⊢
          have hk8 : ks1.length ≤ 8 := by rw [h4, List.length_map]; omega
          refine cI (fun c1 => ?_) (fun c1 => ?_)
          · replace c1 := vLt_t (c1)
            refine bk ?_
            obtain ⟨x1, hx1⟩ : ∃ x, (kq)[(a)]? = some x := ⟨_, List.getElem?_eq_getElem (by omega)⟩
            obtain ⟨b2, o1, E1⟩ := H.elt 2 rfl (a) (by omega)
            refine rIxE E1 rfl rfl rfl ?_
            refine rLd (H.el 2 rfl E1 hx1) 0 rfl rfl rfl ?_
            refine rIxE E1 rfl rfl rfl ?_
            refine rStE H 2 rfl E1 hx1 0 (!x1) rfl rfl rfl rfl ?_
            clear H
            intro w12 H
            clear w_
            refine eqI64 (by omega) ?_
            refine Nxt.mk ((a + 1, kq.set a !x1)) (mt_i rfl (by first | omega | (simp only; omega) | (simp; omega)) (mt_nil)) ?_ ?_
            · refine ⟨?_, ?_⟩
              · omega
              refine ⟨?_, ?_⟩
              · (simp only [List.length_append, List.length_set, List.length_cons, List.length_nil]; omega)
              exact H
            omega
          replace c1 := vLt_f (c1)
          refine br_t (vEq_T (by omega)) ?_
          refine rPtrNotNil rfl ?_
          refine cT rfl ?_
          refine CallP.mk (Fc.imp (Go.Proofs.Ytcgenmddojgbpaa.Super.kids H ?_) ?_)
          · assumption
          clear H
          rintro vf' w12 H
          refine rLenS H 0 rfl rfl ?_
          have hkk1 : ks1.length = kids.length := by rw [h4, List.length_map, hkp]
          refine LoopP.rule (α := Nat × List (Bool × Bool)) (0, ks1) (fun x_ => [(106, .int .i64 x_.1)]) (fun x_ w_ => (x_.1 ≤ kids.length) ∧ (x_.2.length = kids.length) ∧ Sat (froz w) w_ ([Sl 45 2 enK vf' x_.2, Pt p2 (supC ⟨2, 9, 9, ks1, [], 0, false⟩ kv1 (.slice none 0 0)) 102, Sl 45 2 enK kv1 ks1, Sl 45 2 enK vc' kids, Sl 3 1 enI vb' needs, Pt p1 [fsv ns'1, .int .i64 n'1] 39, Nd m'1 98, Sl 3 1 enI v' ys1])) (fun x_ => kids.length - x_.1) ?_ ?_ ?_
          · repeat first | exact mt_nil | refine mt_cons rfl ?_ | refine mt_i rfl (by first | omega | (simp only; omega) | (simp; omega) | (simp; done)) ?_
          · try simp only
            refine ⟨?_, ?_⟩
            · omega
            refine ⟨?_, ?_⟩
            · assumption
            refine H.fronts [8, 8, 8, 8, 8, 7, 7, 7] ?_
            clear H
            intro H
            refine H.firsts 8 ?_
            clear H
            intro H
            exact H
          clear H
          rintro ⟨c, tl⟩ f_ w_ ⟨hc, htl, H⟩
          try simp only at hc htl H ⊢
          refine cI (fun c2 => ?_) (fun c2 => ?_)
          · replace c2 := vLt_t (c2)
            refine bk ?_
            refine rBuild rfl rfl rfl ?_
            obtain ⟨x1, hx1⟩ : ∃ x, (tl)[(c)]? = some x := ⟨_, List.getElem?_eq_getElem (by omega)⟩
            obtain ⟨b2, o1, E1⟩ := H.elt 0 rfl (c) (by omega)
            refine rIxE E1 rfl rfl rfl ?_
            refine rStEA H 0 rfl E1 hx1 0 ⟨(false), (false)⟩ rfl rfl rfl rfl ?_
            clear H
            intro w13 H
            clear w_
            refine eqI64 (by omega) ?_
            refine Nxt.mk ((c + 1, tl.set c (false, false))) (mt_i rfl (by first | omega | (simp only; omega) | (simp; omega)) (mt_nil)) ?_ ?_
            · refine ⟨?_, ?_⟩
              · omega
              refine ⟨?_, ?_⟩
              · (simp only [List.length_append, List.length_set, List.length_cons, List.length_nil]; omega)
              exact H
            omega
          replace c2 := vLt_f (c2)
          refine H.fronts [2, 2] ?_
          clear H
          intro H
          refine CallP.mk (Fc.imp (Go.Proofs.Ytcgenmddojgbpaa.Super.kids H ?_) ?_)
          · assumption
          clear H
          rintro vg' w13 H
          refine rLenS H 0 rfl rfl ?_
          refine rLenF hk rfl ?_
          refine cF (vNe_F (by (simp only [List.length_append, List.length_set, List.length_cons, List.length_nil]; omega))) ?_
          refine rLenS H 0 rfl rfl ?_
          refine LoopP.rule (α := Nat) (0) (fun x_ => [(123, .int .i64 x_)]) (fun x_ w_ => (x_ ≤ kids.length) ∧ Sat (froz w) w_ ([Sl 45 2 enK vg' ks1, Pt p2 (supC ⟨2, 9, 9, ks1, [], 0, false⟩ kv1 (.slice none 0 0)) 102, Sl 45 2 enK kv1 ks1, Sl 45 2 enK vc' kids, Sl 3 1 enI vb' needs, Pt p1 [fsv ns'1, .int .i64 n'1] 39, Nd m'1 98, Sl 3 1 enI v' ys1])) (fun x_ => kids.length - x_) ?_ ?_ ?_
          · repeat first | exact mt_nil | refine mt_cons rfl ?_ | refine mt_i rfl (by first | omega | (simp only; omega) | (simp; omega) | (simp; done)) ?_
          · try simp only
            refine ⟨?_, ?_⟩
            · omega
            refine H.fronts [8, 8, 8, 8, 8, 7, 7, 7] ?_
            clear H
            intro H
            refine H.firsts 8 ?_
            clear H
            intro H
            exact H
          clear H
          rintro d f_ w_ ⟨hd, H⟩
          try simp only at hd H ⊢
          rcases Nat.lt_or_ge d kids.length with hdlt | hdge
          · obtain ⟨y, hy⟩ : ∃ y, kids[d]? = some y := ⟨_, List.getElem?_eq_getElem hdlt⟩
            have hy1 : ks1[d]? = some (true, y.2) := by rw [h4, hkq, List.getElem?_map, List.getElem?_map, hy]; rfl
            refine cT (vLt_T (by omega)) ?_
            refine bk ?_
            obtain ⟨b2, o1, E1⟩ := H.elt 0 rfl (d) (by omega)
            refine rIxE E1 rfl rfl rfl ?_
            refine rLdA (H.el 0 rfl E1 hy1) 0 rfl rfl rfl ?_
            refine rAllocS H rfl ?_
            clear H
            intro p3 w14 H
            clear w_
            refine rStAS H 0 rfl rfl rfl rfl ?_
            clear H
            intro w15 H
            clear w14
            refine drawzS H [] [(0, .pure), (1, .held), (2, .pure), (3, .pure), (4, .pure), (5, .pure), (6, .held), (7, .pure), (8, .pure), (9, .pure), (10, .held), (11, .pure), (12, .pure)] mixed (by kernel_rfl) (by kernel_rfl) ?_
            clear H
            intro w14 H
            clear w15
            refine tk (fun wx HS => rFieldAt rfl ⟨rfl, rfl⟩) ?_
            refine tk (fun wx HS => rLd (HS.at 0 rfl) 1 rfl rfl rfl ⟨rfl, rfl⟩) ?_
            obtain ⟨b3, o2, E2, F1, hok1⟩ := FSl.elt hk hy
            refine tk (fun wx HS => rIxE E2 rfl rfl rfl ⟨rfl, rfl⟩) ?_
            refine tk (fun wx HS => rFieldAt rfl ⟨rfl, rfl⟩) ?_
            refine tk (fun wx HS => rLd (HS.fat F1) 1 rfl rfl rfl ⟨rfl, rfl⟩) ?_
            refine tk (fun wx HS => rBoolNe rfl ⟨rfl, rfl⟩) ?_
            refine br (fun c3 => ?_) (fun c3 => ?_)
            · replace c3 := not_t (c3)
              refine cT rfl ?_
              refine Done.mk ?_
              exact absurd c3 (by simp)
            replace c3 := not_f (c3)
            refine tk (fun wx HS => rFieldAt rfl ⟨rfl, rfl⟩) ?_
            refine tk (fun wx HS => rLd (HS.at 0 rfl) 0 rfl rfl rfl ⟨rfl, rfl⟩) ?_
            refine cF rfl ?_
            refine eqI64 (by omega) ?_
            refine Nxt.mk (d + 1) (mt_i rfl (by first | omega | (simp only; omega) | (simp; omega)) (mt_nil)) ?_ ?_
            · refine ⟨?_, ?_⟩
              · assumption
              refine H.fronts [8, 8, 8, 8, 8, 8, 8, 8] ?_
              clear H
              intro H
              refine H.firsts 8 ?_
              clear H
              intro H
              exact H
            omega
          · refine cF (vLt_F (by omega)) ?_
            refine H.fronts [6, 6] ?_
            clear H
            intro H
            refine CallP.mk (Fc.imp (Go.Proofs.Ytcgenmddojgbpaa.Ring.all H ?_ ?_ ?_) ?_)
            · assumption
            · assumption
            · omega
            clear H
            rintro vh' w14 ⟨ys3, ⟨h5, ⟨h6, H⟩⟩⟩
            refine CallP.mk (Fc.imp (Go.Proofs.Ytcgenmddojgbpaa.Ref.eqI _ _ _ _ _ (H.rdo 0 rfl ?_) (H.rdo 8 rfl ?_) ?_) ?_)
            · (simp; done)
            · (simp; done)
            · omega
            rintro _ w15 ⟨b2, ⟨rfl, ⟨h11, H'⟩⟩⟩
            refine H.mergeK H' ?_
            clear H H'
            intro H
            refine br (fun c3 => ?_) (fun c3 => ?_)
            · replace c3 := h11.1 (c3)
              refine CallP.mk (Fc.imp (Go.Proofs.Ytcgenmddojgbpaa.Ref.eqI _ _ _ _ _ (H.rdo 7 rfl ?_) (H.rd hn) ?_) ?_)
              · (simp; done)
              · omega
              rintro _ w16 ⟨b3, ⟨rfl, ⟨h12, H'⟩⟩⟩
              refine H.mergeK H' ?_
              clear H H'
              intro H
              refine br (fun c4 => ?_) (fun c4 => ?_)
              · replace c4 := h12.1 (c4)
                refine CallP.mk (Fc.imp (Go.Proofs.Ytcgenmddojgbpaa.Super.eqKid _ _ _ _ _ (H.rdo 6 rfl ?_) (H.rd hk) ?_) ?_)
                · (simp; done)
                · omega
                rintro _ w17 ⟨b4, ⟨rfl, ⟨h13, H'⟩⟩⟩
                refine H.mergeK H' ?_
                clear H H'
                intro H
                refine Done.mk ?_
                refine ⟨?_, ?_⟩
                · exact congrArg Value.bool (Iff.mpr (by assumption) rfl)
                exact H.finish
              replace c4 := iff_f h12 (c4)
              refine Done.mk ?_
              exact absurd rfl (by assumption)
            replace c3 := iff_f h11 (c3)
            refine Done.mk ?_
            exact absurd (h5.trans h7.symm) (by assumption)
end Go.Proofs.Ytcgenmddojgbpaa.OwnT
