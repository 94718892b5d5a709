/- The law MemApart. -/
import Derived.Test.YthonhibocgnegaaMemBytesW
set_option maxRecDepth 100000
set_option maxHeartbeats 4000000
set_option linter.unusedVariables false
set_option linter.unusedSimpArgs false
namespace Go.Proofs.Ythonhibocgnegaa.Mem
open Go Go.Proofs.Ythonhibocgnegaa.Eng Go.RowKit
theorem rem_pos {a b : Int} (h : 0 ≤ a) : vRem a b = a % b := by unfold vRem; exact Int.tmod_eq_emod_of_nonneg h
theorem rem_ways {a b : Int} (hb : 0 < b) (h : a < 0) : (vRem a b = 0 ∧ a % b = 0) ∨ (vRem a b < 0 ∧ a % b = vRem a b + b) := by
  unfold vRem
  rw [Int.tmod_eq_emod]
  have h1 := Int.emod_nonneg a (Int.ne_of_gt hb)
  have h2 := Int.emod_lt_of_pos a hb
  by_cases hd : b ∣ a
  · left
    have := Int.emod_eq_zero_of_dvd hd
    rw [if_pos (.inr hd)]
    omega
  · right
    rw [if_neg (by rintro (h' | h'); omega; exact hd h')]
    have : (b.natAbs : Int) = b := by omega
    rw [this]
    omega
theorem rest (n m : Int) (hn : -9223372036854775808 ≤ n ∧ n ≤ 9223372036854775807) (hm : 0 < m ∧ m ≤ 9223372036854775807) (w : World) : Fc Try.prog 14 #[.int .i64 n, .int .i64 m] w (fun v w' => v = .int .i64 (n % m) ∧ w = w') := by
  refine Fc.of Try.func14 rfl (by kernel_rfl) ?_
  have H := Sat.start w
  have h1 := Int.emod_nonneg n (Int.ne_of_gt hm.1)
  have h2 := Int.emod_lt_of_pos n hm.1
  rcases Int.lt_or_le n 0 with hlt | hge
  · have hw := rem_ways hm.1 hlt
    refine DivP.mk (by omega) ?_
    refine EqP.keep ?_
    refine cI (fun c1 => ?_) (fun c1 => ?_)
    · replace c1 := vLt_t (c1)
      refine eqI64 (by omega) ?_
      refine Done.mk ?_
      refine ⟨?_, ?_⟩
      · refine int_eq ?_
        omega
      rfl
    replace c1 := vLt_f (c1)
    refine Done.mk ?_
    refine ⟨?_, ?_⟩
    · refine int_eq ?_
      omega
    rfl
  · refine DivP.mk (by omega) ?_
    refine eqRem (by omega) ?_
    refine cF (vLt_F (by assumption)) ?_
    refine Done.mk ?_
    exact ⟨rfl, rfl⟩
theorem ow_comm {xs as' bs' : List UInt8} {a b : Nat} (ha : a + as'.length ≤ xs.length) (hb : b + bs'.length ≤ xs.length) (h : a + as'.length ≤ b ∨ b + bs'.length ≤ a) : ow (ow xs a as') b bs' = ow (ow xs b bs') a as' := by
  apply List.ext_getElem?
  intro q
  rw [ow_get (by rw [ow_len ha]; exact hb), ow_get ha, ow_get (by rw [ow_len hb]; exact ha), ow_get hb]
  by_cases h1 : a ≤ q ∧ q < a + as'.length
  · by_cases h2 : b ≤ q ∧ q < b + bs'.length
    · omega
    · rw [if_neg h2, if_pos h1, if_pos h1]
  · rw [if_neg h1, if_neg h1]
/-- What a store of the bytes zs at B does. -/
def StR (ps ps' : List Page) (B : Int) (zs : List UInt8) (e : Int) : Prop := ((e = 23 ∧ ps' = ps ∧ ¬ (B + zs.length ≤ 256 * ps.length)) ∨ (e = 0 ∧ B + zs.length ≤ 256 * ps.length ∧ flat ps' = ow (flat ps) B.toNat zs)) ∧ ps'.length = ps.length
theorem store55 {g : Glob} {w : World} {l : List As} {p : Nat} {v mo : Value} {ps : List Page} (H : Sat g w (Pt p [v, mo] 48 :: Sl 51 256 enP v ps :: l)) (base u : Int) (hp : ps.length ≤ 8) (hb : 0 ≤ base ∧ base ≤ 4294967295) (hu : -9223372036854775808 ≤ u ∧ u ≤ 9223372036854775807) :
    Fc Try.prog 15 #[.pointer (some ⟨p, 0, none⟩), .int .u8 55, .int .i64 base, .int .i64 0, .int .i64 u] w (fun r w' => ∃ e ps', r = .int .i64 e ∧ StR ps ps' base (leB 8 u) e ∧ ps'.length ≤ 8 ∧ Sat g w' (Pt p [v, mo] 48 :: Sl 51 256 enP v ps' :: l)) := by
  refine Fc.imp (store H 55 base 0 u hp (by omega) (by rw [w55]; omega) (by omega) hu) ?_
  rintro r w' ⟨e, ps', hr, h, hl, HS⟩
  refine ⟨e, ps', hr, ⟨?_, hl⟩, by omega, HS⟩
  rw [w55, show base % 4294967296 + 0 = base by omega] at h
  rw [leB_len]
  exact h
theorem apart {ps1 ps2 p1 p2 q1 q2 : List Page} {A B e1 e2 e3 e4 : Int} {as' bs' : List UInt8} (hf : flat ps1 = flat ps2) (hA : 0 ≤ A) (hB : 0 ≤ B) (hd : A + as'.length ≤ B ∨ B + bs'.length ≤ A)
    (h1 : StR ps1 p1 A as' e1) (h2 : StR p1 p2 B bs' e2) (h3 : StR ps2 q1 B bs' e3) (h4 : StR q1 q2 A as' e4) : e1 = e4 ∧ e2 = e3 ∧ flat p2 = flat q2 ∧ p2.length = ps1.length := by
  have hl := congrArg List.length hf
  rw [flat_length, flat_length] at hl
  have fl := flat_length ps1
  obtain ⟨h1, l1⟩ := h1
  obtain ⟨h2, l2⟩ := h2
  obtain ⟨h3, l3⟩ := h3
  obtain ⟨h4, l4⟩ := h4
  rcases h1 with ⟨a1, b1, c1⟩ | ⟨a1, b1, c1⟩ <;> rcases h4 with ⟨a4, b4, c4⟩ | ⟨a4, b4, c4⟩
  · rcases h2 with ⟨a2, b2, c2⟩ | ⟨a2, b2, c2⟩ <;> rcases h3 with ⟨a3, b3, c3⟩ | ⟨a3, b3, c3⟩
    · exact ⟨by omega, by omega, by rw [b2, b1, b4, b3, hf], by omega⟩
    · omega
    · omega
    · exact ⟨by omega, by omega, by rw [c2, b1, b4, c3, hf], by omega⟩
  · omega
  · omega
  · rcases h2 with ⟨a2, b2, c2⟩ | ⟨a2, b2, c2⟩ <;> rcases h3 with ⟨a3, b3, c3⟩ | ⟨a3, b3, c3⟩
    · exact ⟨by omega, by omega, by rw [b2, c1, c4, b3, hf], by omega⟩
    · omega
    · omega
    · refine ⟨by omega, by omega, ?_, by omega⟩
      rw [c2, c1, c4, c3, hf]
      rw [hf] at fl
      exact ow_comm (by omega) (by omega) (by omega)
theorem memApart (ys : List UInt8) (a b u v : Int) (hy : ys.length ≤ 9223372036854775807) (ha : -9223372036854775808 ≤ a ∧ a ≤ 9223372036854775807) (hb : -9223372036854775808 ≤ b ∧ b ≤ 9223372036854775807) (hu : -9223372036854775808 ≤ u ∧ u ≤ 9223372036854775807) (hv : -9223372036854775808 ≤ v ∧ v ≤ 9223372036854775807) (w : World) :
    Fc Try.prog 5 #[.string (bs ys), .int .i64 a, .int .i64 b, .int .i64 u, .int .i64 v] w (fun v w' => v = .bool true ∧ Below w.heap.size w w') := by
  refine Fc.of Try.func5 rfl (by kernel_rfl) ?_
  have H := Sat.start w
  have h55 := w55
  have hl8 := leB_len 8
  refine CallP.mk (Fc.imp (Go.Proofs.Ythonhibocgnegaa.Mem.of _ _ _ ?_) ?_)
  · assumption
  rintro _ w1 (⟨h1, ⟨p1, ⟨v1, ⟨ps1, ⟨rfl, ⟨h2, ⟨h3, H'⟩⟩⟩⟩⟩⟩⟩ | ⟨h4, ⟨rfl, H'⟩⟩)
  · refine H.mergeK H' ?_
    clear H H'
    intro H
    refine CallP.mk (Fc.imp (Go.Proofs.Ythonhibocgnegaa.Mem.of _ _ _ ?_) ?_)
    · assumption
    rintro _ w2 (⟨h4, ⟨p2, ⟨v2, ⟨ps2, ⟨rfl, ⟨h5, ⟨h6, H'⟩⟩⟩⟩⟩⟩⟩ | ⟨h7, ⟨rfl, H'⟩⟩)
    · refine H.mergeK H' ?_
      clear H H'
      intro H
      refine br_f (vNe_F (by omega)) ?_
      refine br_f (vNe_F (by omega)) ?_
      refine rPtrNil rfl ?_
      refine rPtrNil rfl ?_
      refine cF rfl ?_
      refine CallP.mk (Fc.imp (Go.Proofs.Ythonhibocgnegaa.Mem.rest _ _ ?_ ?_ _) ?_)
      · assumption
      · omega
      rintro _ _ ⟨rfl, rfl⟩
      refine CallP.mk (Fc.imp (Go.Proofs.Ythonhibocgnegaa.Mem.rest _ _ ?_ ?_ _) ?_)
      · assumption
      · omega
      rintro _ _ ⟨rfl, rfl⟩
      refine eqI64 (by omega) ?_
      refine br (fun c1 => ?_) (fun c1 => ?_)
      · replace c1 := vLt_t (c1)
        refine eqI64 (by omega) ?_
        refine cI (fun c2 => ?_) (fun c2 => ?_)
        · replace c2 := vLt_t (c2)
          refine Done.mk ?_
          exact ⟨rfl, H.finish⟩
        replace c2 := vLt_f (c2)
        refine H.fronts [3, 3] ?_
        clear H
        intro H
        refine CallP.mk (Fc.imp (Go.Proofs.Ythonhibocgnegaa.Mem.store55 H _ _ ?_ ?_ ?_) ?_)
        · assumption
        · omega
        · assumption
        clear H
        rintro _ w3 ⟨e1, ⟨ps'1, ⟨rfl, ⟨h7, ⟨h8, H⟩⟩⟩⟩⟩
        refine CallP.mk (Fc.imp (Go.Proofs.Ythonhibocgnegaa.Mem.store55 H _ _ ?_ ?_ ?_) ?_)
        · assumption
        · omega
        · assumption
        clear H
        rintro _ w4 ⟨e2, ⟨ps'2, ⟨rfl, ⟨h9, ⟨h10, H⟩⟩⟩⟩⟩
        refine H.fronts [3, 3] ?_
        clear H
        intro H
        refine CallP.mk (Fc.imp (Go.Proofs.Ythonhibocgnegaa.Mem.store55 H _ _ ?_ ?_ ?_) ?_)
        · assumption
        · omega
        · assumption
        clear H
        rintro _ w5 ⟨e3, ⟨ps'3, ⟨rfl, ⟨h11, ⟨h12, H⟩⟩⟩⟩⟩
        refine CallP.mk (Fc.imp (Go.Proofs.Ythonhibocgnegaa.Mem.store55 H _ _ ?_ ?_ ?_) ?_)
        · assumption
        · omega
        · assumption
        clear H
        rintro _ w6 ⟨e4, ⟨ps'4, ⟨rfl, ⟨h13, ⟨h14, H⟩⟩⟩⟩⟩
        refine br (fun c3 => ?_) (fun c3 => ?_)
        · replace c3 := vEq_t (c3)
          refine br (fun c4 => ?_) (fun c4 => ?_)
          · replace c4 := vEq_t (c4)
            refine H.fronts [3, 3] ?_
            clear H
            intro H
            refine CallP.mk (Fc.imp (Go.Proofs.Ythonhibocgnegaa.Mem.all H ?_) ?_)
            · assumption
            clear H
            rintro _ w7 ⟨rfl, H⟩
            refine H.fronts [3, 3] ?_
            clear H
            intro H
            refine CallP.mk (Fc.imp (Go.Proofs.Ythonhibocgnegaa.Mem.all H ?_) ?_)
            · assumption
            clear H
            rintro _ w8 ⟨rfl, H⟩
            refine rStrEq ?_
            refine br (fun c5 => ?_) (fun c5 => ?_)
            · replace c5 := dec_t (c5)
              refine H.fronts [3, 3] ?_
              clear H
              intro H
              refine CallP.mk (Fc.imp (Go.Proofs.Ythonhibocgnegaa.Mem.all H ?_) ?_)
              · assumption
              clear H
              rintro _ w9 ⟨rfl, H⟩
              refine rLenStr rfl ?_
              refine rLenStr rfl ?_
              refine Done.mk ?_
              refine ⟨?_, ?_⟩
              · exact congrArg Value.bool (vEq_T (by have e5 := (apart (h2.trans h5.symm) (by omega) (by omega) (by rw [leB_len, leB_len]; omega) h7 h9 h11 h13).2.2.2; have e6 := congrArg List.length h2; rw [flat_length] at e6; rw [flat_length]; omega))
              exact H.finish
            replace c5 := dec_f (c5)
            refine Done.mk ?_
            exact absurd (apart (h2.trans h5.symm) (by omega) (by omega) (by rw [leB_len, leB_len]; omega) h7 h9 h11 h13).2.2.1 (by assumption)
          replace c4 := vEq_f (c4)
          refine Done.mk ?_
          exact absurd (apart (h2.trans h5.symm) (by omega) (by omega) (by rw [leB_len, leB_len]; omega) h7 h9 h11 h13).2.1 (by assumption)
        replace c3 := vEq_f (c3)
        refine Done.mk ?_
        exact absurd (apart (h2.trans h5.symm) (by omega) (by omega) (by rw [leB_len, leB_len]; omega) h7 h9 h11 h13).1 (by assumption)
      replace c1 := vLt_f (c1)
      refine cF rfl ?_
      refine H.fronts [3, 3] ?_
      clear H
      intro H
      refine CallP.mk (Fc.imp (Go.Proofs.Ythonhibocgnegaa.Mem.store55 H _ _ ?_ ?_ ?_) ?_)
      · assumption
      · omega
      · assumption
      clear H
      rintro _ w3 ⟨e1, ⟨ps'1, ⟨rfl, ⟨h7, ⟨h8, H⟩⟩⟩⟩⟩
      refine CallP.mk (Fc.imp (Go.Proofs.Ythonhibocgnegaa.Mem.store55 H _ _ ?_ ?_ ?_) ?_)
      · assumption
      · omega
      · assumption
      clear H
      rintro _ w4 ⟨e2, ⟨ps'2, ⟨rfl, ⟨h9, ⟨h10, H⟩⟩⟩⟩⟩
      refine H.fronts [3, 3] ?_
      clear H
      intro H
      refine CallP.mk (Fc.imp (Go.Proofs.Ythonhibocgnegaa.Mem.store55 H _ _ ?_ ?_ ?_) ?_)
      · assumption
      · omega
      · assumption
      clear H
      rintro _ w5 ⟨e3, ⟨ps'3, ⟨rfl, ⟨h11, ⟨h12, H⟩⟩⟩⟩⟩
      refine CallP.mk (Fc.imp (Go.Proofs.Ythonhibocgnegaa.Mem.store55 H _ _ ?_ ?_ ?_) ?_)
      · assumption
      · omega
      · assumption
      clear H
      rintro _ w6 ⟨e4, ⟨ps'4, ⟨rfl, ⟨h13, ⟨h14, H⟩⟩⟩⟩⟩
      refine br (fun c2 => ?_) (fun c2 => ?_)
      · replace c2 := vEq_t (c2)
        refine br (fun c3 => ?_) (fun c3 => ?_)
        · replace c3 := vEq_t (c3)
          refine H.fronts [3, 3] ?_
          clear H
          intro H
          refine CallP.mk (Fc.imp (Go.Proofs.Ythonhibocgnegaa.Mem.all H ?_) ?_)
          · assumption
          clear H
          rintro _ w7 ⟨rfl, H⟩
          refine H.fronts [3, 3] ?_
          clear H
          intro H
          refine CallP.mk (Fc.imp (Go.Proofs.Ythonhibocgnegaa.Mem.all H ?_) ?_)
          · assumption
          clear H
          rintro _ w8 ⟨rfl, H⟩
          refine rStrEq ?_
          refine br (fun c4 => ?_) (fun c4 => ?_)
          · replace c4 := dec_t (c4)
            refine H.fronts [3, 3] ?_
            clear H
            intro H
            refine CallP.mk (Fc.imp (Go.Proofs.Ythonhibocgnegaa.Mem.all H ?_) ?_)
            · assumption
            clear H
            rintro _ w9 ⟨rfl, H⟩
            refine rLenStr rfl ?_
            refine rLenStr rfl ?_
            refine Done.mk ?_
            refine ⟨?_, ?_⟩
            · exact congrArg Value.bool (vEq_T (by have e5 := (apart (h2.trans h5.symm) (by omega) (by omega) (by rw [leB_len, leB_len]; omega) h7 h9 h11 h13).2.2.2; have e6 := congrArg List.length h2; rw [flat_length] at e6; rw [flat_length]; omega))
            exact H.finish
          replace c4 := dec_f (c4)
          refine Done.mk ?_
          exact absurd (apart (h2.trans h5.symm) (by omega) (by omega) (by rw [leB_len, leB_len]; omega) h7 h9 h11 h13).2.2.1 (by assumption)
        replace c3 := vEq_f (c3)
        refine Done.mk ?_
        exact absurd (apart (h2.trans h5.symm) (by omega) (by omega) (by rw [leB_len, leB_len]; omega) h7 h9 h11 h13).2.1 (by assumption)
      replace c2 := vEq_f (c2)
      refine Done.mk ?_
      exact absurd (apart (h2.trans h5.symm) (by omega) (by omega) (by rw [leB_len, leB_len]; omega) h7 h9 h11 h13).1 (by assumption)
    refine H.mergeK H' ?_
    clear H H'
    intro H
    refine br_t (vNe_T (by exact absurd h1 (by assumption))) ?_
    refine cT rfl ?_
    refine br_t (vEq_T (by exact absurd h1 (by assumption))) ?_
    refine Done.mk ?_
    exact absurd h1 (by assumption)
  refine H.mergeK H' ?_
  clear H H'
  intro H
  refine CallP.mk (Fc.imp (Go.Proofs.Ythonhibocgnegaa.Mem.of _ _ _ ?_) ?_)
  · assumption
  rintro _ w2 (⟨h1, ⟨p1, ⟨v1, ⟨ps1, ⟨rfl, ⟨h2, ⟨h3, H'⟩⟩⟩⟩⟩⟩⟩ | ⟨h5, ⟨rfl, H'⟩⟩)
  · refine H.mergeK H' ?_
    clear H H'
    intro H
    refine br_t (vNe_T (by exact absurd h1 (by assumption))) ?_
    refine cT rfl ?_
    refine br_t (vEq_T (by exact absurd h1 (by assumption))) ?_
    refine Done.mk ?_
    exact absurd h1 (by assumption)
  refine H.mergeK H' ?_
  clear H H'
  intro H
  refine br_t (vNe_T (by omega)) ?_
  refine cT rfl ?_
  refine br_t (vEq_T (by omega)) ?_
  refine Done.mk ?_
  refine ⟨?_, ?_⟩
  · exact congrArg Value.bool (vEq_T (by omega))
  exact H.finish
end Go.Proofs.Ythonhibocgnegaa.Mem
