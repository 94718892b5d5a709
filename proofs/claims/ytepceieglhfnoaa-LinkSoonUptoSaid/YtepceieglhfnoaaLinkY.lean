/- The link's law: rounds. -/
import Derived.Test.YtepceieglhfnoaaLinkX
set_option maxRecDepth 100000
set_option maxHeartbeats 4000000
set_option linter.unusedVariables false
set_option linter.unusedSimpArgs false
namespace Go.Proofs.Ytepceieglhfnoaa.Link
open Go Go.Proofs.Ytepceieglhfnoaa.Eng Go.RowKit
def tk3 (S : LS) : LS := { S with now := S.now + 3 }
theorem rnd {S R : LS} {o o2 g g2 : List (List UInt8)} {i j t : Int} {old l : List Fr} (B : Bnd o o2 i j) (h : J S R o o2 g g2 i j t old)
    (hl : l = old ++ outF (tk3 S) ++ outF (tk3 R) ∨ l = old ++ outF (tk3 R) ++ outF (tk3 S)) (hJ : J (outS (tk3 S)) (outS (tk3 R)) o o2 g g2 i j (t + 3) l) :
    ∃ q, q = Link.go i (outS (tk3 S), outS (tk3 R)) l ∧ S.acked + min 4 S.waits.length ≤ q.2.came ∧ (S.waits ≠ [] → q.2.owed = true) ∧ (R.waits ≠ [] ∨ R.owed = true → R.came ≤ q.1.acked) ∧
      (S.waits = [] → R.waits = [] → old = [] → q.2.owed = false) ∧ S.acked ≤ q.1.acked ∧ R.came ≤ q.2.came := by
  have hcS : 0 ≤ S.came := by have := h.rs.ack0; have := h.rs.ack; omega
  have hcR : 0 ≤ R.came := by have := h.sr.ack0; have := h.sr.ack; omega
  have D1 : Dir (tk3 S) R o g i j (t + 3) := h.sr.tick (by omega) rfl
  have D2 : Dir (tk3 R) S o2 g2 j i (t + 3) := h.rs.tick (by omega) rfl
  have s1 := sent D1 hcS fun x hx => by have h1 := (h.sr.at_ x hx).2; have h2 := h.sr.now; show x.at' + 3 ≤ S.now + 3; omega
  have s2 := sent D2 hcR fun x hx => by have h1 := (h.rs.at_ x hx).2; have h2 := h.rs.now; show x.at' + 3 ≤ R.now + 3; omega
  obtain ⟨_, _, _, M⟩ := J.go B l [] _ _ g g2 (by rw [List.append_nil]; exact hJ)
  have hac := h.sr.ack
  refine ⟨_, rfl, ?_, ?_, ?_, ?_, M.a1, M.c2⟩
  · by_cases hw : S.waits = []
    · have hac' : S.acked ≤ (outS (tk3 R)).came := hac
      rw [hw]; exact Int.le_trans (by simpa using hac') M.c2
    · obtain ⟨d1, d2, d3⟩ := s1.data hw
      have key : ∀ l1 l2, l = l1 ++ outF (tk3 S) ++ l2 → S.acked + min 4 S.waits.length ≤ (Link.go i (outS (tk3 S), outS (tk3 R)) l).2.came := fun l1 l2 e => by
        subst e
        obtain ⟨g3, g4, h1, m1⟩ := J.go B l1 (outF (tk3 S) ++ l2) _ _ g g2 (by rw [← List.append_assoc]; exact hJ)
        obtain ⟨c1, _⟩ := J.chase B (outF (tk3 S)) l2 _ _ g3 g4 S.acked h1 (fun f hf => ⟨s1.src f hf, d1 f hf⟩) d2 (Int.le_trans hac m1.c2)
        obtain ⟨g5, g6, h2, m2⟩ := J.go B (outF (tk3 S)) l2 _ _ g3 g4 h1
        obtain ⟨_, _, _, m3⟩ := J.go B l2 [] _ _ g5 g6 (by rw [List.append_nil]; exact h2)
        rw [go_app, go_app]
        have e2 : ((min 4 S.waits.length : Nat) : Int) = ((outF (tk3 S)).length : Int) := by rw [d3]; rfl
        have := m3.c2
        have c1' : S.acked + ((outF (tk3 S)).length : Int) ≤ (Link.go i (Link.go i (outS (tk3 S), outS (tk3 R)) l1) (outF (tk3 S))).2.came := c1
        have c2' : (Link.go i (Link.go i (outS (tk3 S), outS (tk3 R)) l1) (outF (tk3 S))).2.came ≤ (Link.go i (Link.go i (Link.go i (outS (tk3 S), outS (tk3 R)) l1) (outF (tk3 S))) l2).2.came := this
        omega
      rcases hl with e | e
      · exact key old _ e
      · exact key (old ++ outF (tk3 R)) [] (by rw [List.append_nil]; exact e)
  · intro hw
    obtain ⟨d1, d2, d3⟩ := s1.data hw
    have key : ∀ l1 l2, l = l1 ++ outF (tk3 S) ++ l2 → (Link.go i (outS (tk3 S), outS (tk3 R)) l).2.owed = true := fun l1 l2 e => by
      subst e
      obtain ⟨g3, g4, h1, m1⟩ := J.go B l1 (outF (tk3 S) ++ l2) _ _ g g2 (by rw [← List.append_assoc]; exact hJ)
      obtain ⟨_, c1⟩ := J.chase B (outF (tk3 S)) l2 _ _ g3 g4 S.acked h1 (fun f hf => ⟨s1.src f hf, d1 f hf⟩) d2 (Int.le_trans hac m1.c2)
      obtain ⟨g5, g6, h2, m2⟩ := J.go B (outF (tk3 S)) l2 _ _ g3 g4 h1
      obtain ⟨_, _, _, m3⟩ := J.go B l2 [] _ _ g5 g6 (by rw [List.append_nil]; exact h2)
      rw [go_app, go_app]
      exact m3.o2 (c1 (s1.any_ (.inl hw)))
    rcases hl with e | e
    · exact key old _ e
    · exact key (old ++ outF (tk3 R)) [] (by rw [List.append_nil]; exact e)
  · intro hw
    have hne := s2.any_ hw
    obtain ⟨f, r, hfr⟩ : ∃ f r, outF (tk3 R) = f :: r := by
      cases hh : outF (tk3 R) with
      | nil => exact absurd hh hne
      | cons f r => exact ⟨f, r, rfl⟩
    have hfm : f ∈ outF (tk3 R) := by rw [hfr]; exact List.mem_cons_self ..
    have ha := s2.ack f hfm
    have key : ∀ l1 l2, l = l1 ++ f :: l2 → R.came ≤ (Link.go i (outS (tk3 S), outS (tk3 R)) l).1.acked := fun l1 l2 e => by
      subst e
      have := J.tells B hJ (s2.src f hfm)
      rw [ha] at this; exact this
    rcases hl with e | e
    · exact key (old ++ outF (tk3 S)) r (by rw [e, hfr])
    · exact key old (r ++ outF (tk3 S)) (by rw [e, hfr]; simp)
  · intro hw hw2 ho
    have hq := J.quiet B l [] _ _ g g2 (by rw [List.append_nil]; exact hJ) fun f hf hs => by
      subst ho
      have hm : f ∈ outF (tk3 S) ∨ f ∈ outF (tk3 R) := by
        rcases hl with e | e
        · rw [e, List.nil_append] at hf; exact List.mem_append.1 hf
        · rw [e, List.nil_append] at hf; exact (List.mem_append.1 hf).symm
      rcases hm with hm | hm
      · exact (s1.non_ hw).1 f hm
      · have := s2.src f hm; have := B.ij; omega
    rw [hq]
    exact outS_owed (S := tk3 R) hw2
/-! ## The pair -/
noncomputable def deliver : PS → List Fr → PS
  | s, [] => s
  | s, f :: r => deliver (comesM s f r) r
theorem deliver_inv {t : Int} : ∀ (l : List Fr) (s : PS), Inv s t → s.air = l → s.oa.length ≤ 1099511627776 → s.ob.length ≤ 1099511627776 → Inv (deliver s l) t ∧ (deliver s l).air = [] ∧ (deliver s l).oa = s.oa ∧ (deliver s l).ob = s.ob := by
  intro l
  induction l with
  | nil => intro s I h _ _; exact ⟨I, h, rfl, rfl⟩
  | cons f r ih =>
    intro s I h h1 h2
    obtain ⟨J, _⟩ := I.comes (f := f) (rest := r) (by rw [h]; exact List.mem_cons_self ..) (fun x hx => by rw [h]; exact List.mem_cons_of_mem _ hx) h1 h2
    have e : (comesM s f r).air = r ∧ (comesM s f r).oa = s.oa ∧ (comesM s f r).ob = s.ob := by unfold comesM; split <;> exact ⟨rfl, rfl, rfl⟩
    obtain ⟨k1, k2, k3, k4⟩ := ih _ J e.1 (by rw [e.2.1]; exact h1) (by rw [e.2.2]; exact h2)
    exact ⟨k1, k2, k3.trans e.2.1, k4.trans e.2.2⟩
theorem deliver_go : ∀ (l : List Fr) (s : PS), (∀ f ∈ l, (f.src = 0 ∧ f.dst = 1) ∨ (f.src = 1 ∧ f.dst = 0)) → Link.go 0 (s.a, s.b) l = ((deliver s l).a, (deliver s l).b) ∧ Link.go 1 (s.b, s.a) l = ((deliver s l).b, (deliver s l).a) := by
  intro l
  induction l with
  | nil => intro s _; exact ⟨rfl, rfl⟩
  | cons f r ih =>
    intro s h
    obtain ⟨k1, k2⟩ := ih (comesM s f r) fun x hx => h x (List.mem_cons_of_mem _ hx)
    show Link.go 0 (if f.src = 0 then _ else _) r = _ ∧ Link.go 1 (if f.src = 1 then _ else _) r = _
    rcases h f (List.mem_cons_self ..) with ⟨a, b⟩ | ⟨a, b⟩
    · have e : comesM s f r = { s with b := (inR s.b f).1, gb := s.gb ++ (inR s.b f).2.1, air := r } := if_neg (by omega)
      rw [if_pos a, if_neg (by omega)]
      rw [e] at k1 k2
      rw [show deliver s (f :: r) = deliver (comesM s f r) r from rfl, e]
      exact ⟨k1, k2⟩
    · have e : comesM s f r = { s with a := (inR s.a f).1, ga := s.ga ++ (inR s.a f).2.1, air := r } := if_pos b
      rw [if_neg (by omega), if_pos a]
      rw [e] at k1 k2
      rw [show deliver s (f :: r) = deliver (comesM s f r) r from rfl, e]
      exact ⟨k1, k2⟩
def tickM (s : PS) : PS := { s with a := tk3 s.a, b := tk3 s.b }
def sendM (s : PS) : PS := sendsB (sendsA (tickM s))
noncomputable def roundM (s : PS) : PS := deliver (sendM s) (sendM s).air
noncomputable def roundsM : Nat → PS → PS
  | 0, s => s
  | n + 1, s => roundsM n (roundM s)
theorem Inv.jab {s : PS} {t : Int} (I : Inv s t) : J s.a s.b s.oa s.ob s.gb s.ga 0 1 t s.air := ⟨I.ab, I.ba, I.air⟩
theorem Inv.jba {s : PS} {t : Int} (I : Inv s t) : J s.b s.a s.ob s.oa s.ga s.gb 1 0 t s.air := ⟨I.ba, I.ab, fun f hf => (I.air f hf).symm⟩
/-- What a round does. -/
structure Rd1 (s s' : PS) (t : Int) : Prop where
  inv : Inv s' (t + 3)
  air : s'.air = []
  oa : s'.oa = s.oa
  ob : s'.ob = s.ob
  ca : s.a.acked + min 4 s.a.waits.length ≤ s'.b.came
  cb : s.b.acked + min 4 s.b.waits.length ≤ s'.a.came
  wa : s.a.waits ≠ [] → s'.b.owed = true
  wb : s.b.waits ≠ [] → s'.a.owed = true
  ta : s.b.owed = true → s.b.came ≤ s'.a.acked
  tb : s.a.owed = true → s.a.came ≤ s'.b.acked
  qa : s.a.waits = [] → s.b.waits = [] → s.air = [] → s'.b.owed = false
  qb : s.b.waits = [] → s.a.waits = [] → s.air = [] → s'.a.owed = false
  ma : s.a.acked ≤ s'.a.acked
  mb : s.b.acked ≤ s'.b.acked
theorem round1 {s : PS} {t : Int} (I : Inv s t) (ht : 0 ≤ t) (ha : s.oa.length ≤ 1099511627776) (hb : s.ob.length ≤ 1099511627776) : Rd1 s (roundM s) t := by
  have I1 : Inv (tickM s) (t + 3) := I.tick (by omega) rfl rfl
  have I2 : Inv (sendM s) (t + 3) := (I1.sendsA (by omega)).sendsB (by omega)
  obtain ⟨d1, d2, d3, d4⟩ := deliver_inv (sendM s).air (sendM s) I2 rfl ha hb
  have hsd : ∀ f ∈ (sendM s).air, (f.src = 0 ∧ f.dst = 1) ∨ (f.src = 1 ∧ f.dst = 0) := fun f hf => by
    rcases I2.air f hf with h | h
    · exact .inl ⟨h.1, h.2.1⟩
    · exact .inr ⟨h.1, h.2.1⟩
  obtain ⟨g1, g2⟩ := deliver_go (sendM s).air (sendM s) hsd
  obtain ⟨p, hp, a1, a2, a3, a4, a5, a6⟩ := rnd ⟨.inl ⟨rfl, rfl⟩, ha, hb⟩ I.jab (.inl rfl : (sendM s).air = s.air ++ outF (tk3 s.a) ++ outF (tk3 s.b) ∨ _) I2.jab
  obtain ⟨q, hq, b1, b2, b3, b4, b5, b6⟩ := rnd ⟨.inr ⟨rfl, rfl⟩, hb, ha⟩ I.jba (.inr rfl : _ ∨ (sendM s).air = s.air ++ outF (tk3 s.a) ++ outF (tk3 s.b)) I2.jba
  have ep : p = ((roundM s).a, (roundM s).b) := hp.trans g1
  have eq : q = ((roundM s).b, (roundM s).a) := hq.trans g2
  subst ep
  subst eq
  exact ⟨d1, d2, d3, d4, a1, b1, a2, b2, fun h => a3 (.inr h), fun h => b3 (.inr h), a4, b4, a5, b5⟩
end Go.Proofs.Ytepceieglhfnoaa.Link
