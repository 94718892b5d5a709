/- The pair of ends: what holds of it, and what each step does to it. -/
import Derived.Test.YtepceieglhfnoaaLinkQ
set_option maxRecDepth 100000
set_option maxHeartbeats 4000000
set_option linter.unusedVariables false
set_option linter.unusedSimpArgs false
namespace Go.Proofs.Ytepceieglhfnoaa.Link
open Go Go.Proofs.Ytepceieglhfnoaa.Eng Go.RowKit
structure PS where
  a : LS
  b : LS
  air : List Fr
  oa : List (List UInt8)
  ob : List (List UInt8)
  ga : List (List UInt8)
  gb : List (List UInt8)
structure Inv (s : PS) (t : Int) : Prop where
  ab : Dir s.a s.b s.oa s.gb 0 1 t
  ba : Dir s.b s.a s.ob s.ga 1 0 t
  air : ∀ f ∈ s.air, OkFr s.a s.oa 0 1 f ∨ OkFr s.b s.ob 1 0 f
theorem Inv.came {s : PS} {t : Int} (I : Inv s t) : 0 ≤ s.a.came ∧ 0 ≤ s.b.came := by
  have := I.ab.ack0; have := I.ab.ack; have := I.ba.ack0; have := I.ba.ack; omega
def sendsA (s : PS) : PS := { s with a := outS s.a, air := s.air ++ outF s.a }
def sendsB (s : PS) : PS := { s with b := outS s.b, air := s.air ++ outF s.b }
theorem Inv.sendsA {s : PS} {t : Int} (I : Inv s t) (ht : 0 ≤ t) : Inv (sendsA s) t := by
  have hc := I.came
  refine ⟨I.ab.out ht, I.ba.recv rfl fun k _ => by show ge { s.a with .. } k = _; unfold ge; split <;> rfl, fun f hf => ?_⟩
  rcases List.mem_append.1 hf with hf | hf
  · rcases I.air f hf with h | h
    · exact .inl (h.mono (Int.le_refl _) I.ab.out_hi.1 fun _ _ h => h)
    · exact .inr h
  · exact .inl (I.ab.outFr hc.1 f hf).2
theorem Inv.sendsB {s : PS} {t : Int} (I : Inv s t) (ht : 0 ≤ t) : Inv (sendsB s) t := by
  have hc := I.came
  refine ⟨I.ab.recv rfl fun k _ => by show ge { s.b with .. } k = _; unfold ge; split <;> rfl, I.ba.out ht, fun f hf => ?_⟩
  rcases List.mem_append.1 hf with hf | hf
  · rcases I.air f hf with h | h
    · exact .inl h
    · exact .inr (h.mono (Int.le_refl _) I.ba.out_hi.1 fun _ _ h => h)
  · exact .inr (I.ba.outFr hc.2 f hf).2
theorem Inv.airSub {s : PS} {t : Int} (I : Inv s t) {l : List Fr} (h : ∀ f ∈ l, f ∈ s.air) : Inv { s with air := l } t := ⟨I.ab, I.ba, fun f hf => I.air f (h f hf)⟩
theorem chk_of {S : LS} {off : List (List UInt8)} {i j : Int} {f : Fr} (h : OkFr S off i j f) (hij : (i = 0 ∧ j = 1) ∨ (i = 1 ∧ j = 0)) (hc : S.came ≤ 1099511627776) (hh : S.highest ≤ 1099511627776) (hs : ∀ s ∈ off, s.length ≤ 64) : Frame.chkF (toF f) = 0 := by
  obtain ⟨h1, h2, h3, h4, h5⟩ := h
  have hb : f.body.length ≤ 64 := by
    rcases h5 with ⟨_, h⟩ | ⟨_, _, h⟩
    · rw [h]; decide
    · exact hs _ (List.mem_of_getElem? h)
  unfold Frame.chkF
  rw [if_pos ?_, if_pos (show (toF f).body.length ≤ 64 from hb)]
  show (0 ≤ f.src ∧ f.src < 3) ∧ (0 ≤ f.dst ∧ f.dst < 3) ∧ f.src ≠ f.dst ∧ (0 ≤ f.seq ∧ f.seq ≤ 1099511627776) ∧ (0 ≤ f.ack ∧ f.ack ≤ 1099511627776) ∧ ¬ (f.seq = 0 ∧ f.body ≠ [])
  rcases h5 with ⟨h6, h7⟩ | ⟨h6, h7, h8⟩
  · exact ⟨by omega, by omega, by omega, by omega, by omega, fun x => x.2 h7⟩
  · exact ⟨by omega, by omega, by omega, by omega, by omega, fun x => by have := x.1; omega⟩
/-- A frame of S comes to R. -/
structure Came (R : LS) (f : Fr) (R' : LS) (gs : List (List UInt8)) : Prop where
  ok : (inR R f).2.2 = 0
  st : (inR R f).1 = R'
  out : (inR R f).2.1 = gs
theorem arrive {S R : LS} {off got off2 got2 : List (List UInt8)} {i j t : Int} (D : Dir S R off got i j t) (E : Dir R S off2 got2 j i t) {f : Fr} (hf : OkFr S off i j f) (hij : (i = 0 ∧ j = 1) ∨ (i = 1 ∧ j = 0)) (hb : off.length ≤ 1099511627776) (hb2 : off2.length ≤ 1099511627776) :
    (inR R f).2.2 = 0 ∧ Dir S (inR R f).1 off (got ++ (inR R f).2.1) i j t ∧ Dir (inR R f).1 S off2 got2 j i t ∧ R.came ≤ (inR R f).1.came ∧ (inR R f).1.highest = R.highest ∧ (f.seq ≤ R.came + 1 → f.seq ≤ (inR R f).1.came) ∧ (inR R f).1.acked = max R.acked f.ack ∧ ((inR R f).1.owed = true → R.owed = true ∨ f.seq ≠ 0) ∧ (f.seq ≠ 0 → (inR R f).1.owed = true) ∧ (f.seq = 0 → (inR R f).1.owed = R.owed) := by
  have h1 : Frame.chkF (toF f) = 0 := chk_of hf hij (by have := E.came; have := E.high; omega) (by have := D.high; omega) D.small
  have h2 : f.src = R.other ∧ f.dst = R.me := ⟨hf.1.trans E.ot.symm, hf.2.1.trans E.me.symm⟩
  obtain ⟨e1, e2⟩ := E.acks (f := f) hf.2.2.2.1 hf.2.2.1
  obtain ⟨a1, a2, a3, a4, a5, a6, a7⟩ := inA_same R f
  have D1 : Dir S (inA R f) off got i j t := D.recv a5 fun k _ => a7 k
  have hc0 : 0 ≤ R.came := by have := D.ack0; have := D.ack; omega
  by_cases h3 : f.seq = 0
  · rw [inR_ack h1 h2 h3]
    exact ⟨rfl, by rw [List.append_nil]; exact D1, e1, by show R.came ≤ _; rw [a5]; exact Int.le_refl _, a4, fun _ => by show f.seq ≤ (inA R f).came; rw [a5]; omega, e2, fun h => .inl (a6 ▸ h), fun h => absurd h3 h, fun _ => a6⟩
  · rw [inR_ok h1 h2 h3]
    obtain ⟨b1, b2, b3⟩ := inE_same (inA R f) f
    have hf1 : OkFr S off i j f := hf
    obtain ⟨d1, d2, d3⟩ := D1.comes hf1 h3 (cnt (inE (inA R f) f)) (Nat.le_refl _)
    have DS := drn_spec _ (inE (inA R f) f) [] (Nat.le_refl _)
    refine ⟨rfl, d1, e1.same (b1.trans DS.same), by rw [a5] at d2; exact d2, by show (drn _ _ _).1.highest = _; rw [DS.same.highest, b1.highest, a4], fun h => ?_, by show (drn _ _ _).1.acked = _; rw [DS.same.acked, b1.acked, e2], fun _ => .inr h3, fun _ => by show (drn _ _ _).1.owed = _; rw [DS.owed, b3], fun h => absurd h h3⟩
    show f.seq ≤ (drn _ _ _).1.came
    rw [a5] at d2 d3
    rcases Int.lt_or_le R.came f.seq with h5 | h5
    · have := d3 (by omega); omega
    · omega
noncomputable def comesM (s : PS) (f : Fr) (rest : List Fr) : PS :=
  if f.dst = 0 then { s with a := (inR s.a f).1, ga := s.ga ++ (inR s.a f).2.1, air := rest } else { s with b := (inR s.b f).1, gb := s.gb ++ (inR s.b f).2.1, air := rest }
theorem Inv.comes {s : PS} {t : Int} (I : Inv s t) {f : Fr} {rest : List Fr} (hf : f ∈ s.air) (hr : ∀ g ∈ rest, g ∈ s.air) (ha : s.oa.length ≤ 1099511627776) (hb : s.ob.length ≤ 1099511627776) :
    Inv (comesM s f rest) t ∧ ((f.dst = 0 ∧ (inR s.a f).2.2 = 0) ∨ (f.dst = 1 ∧ (inR s.b f).2.2 = 0)) := by
  rcases I.air f hf with h | h
  · obtain ⟨h1, h2, h3, h4, h5, _⟩ := arrive I.ab I.ba h (.inl ⟨rfl, rfl⟩) ha hb
    have hd : f.dst = 1 := h.2.1
    refine ⟨?_, .inr ⟨hd, h1⟩⟩
    unfold comesM
    rw [if_neg (by omega)]
    refine ⟨h2, h3, fun g hg => ?_⟩
    rcases I.air g (hr g hg) with k | k
    · exact .inl k
    · exact .inr (k.mono h4 (by show s.b.highest ≤ (inR s.b f).1.highest; omega) fun _ _ h => h)
  · obtain ⟨h1, h2, h3, h4, h5, _⟩ := arrive I.ba I.ab h (.inr ⟨rfl, rfl⟩) hb ha
    have hd : f.dst = 0 := h.2.1
    refine ⟨?_, .inl ⟨hd, h1⟩⟩
    unfold comesM
    rw [if_pos hd]
    refine ⟨h3, h2, fun g hg => ?_⟩
    rcases I.air g (hr g hg) with k | k
    · exact .inl (k.mono h4 (by show s.a.highest ≤ (inR s.a f).1.highest; omega) fun _ _ h => h)
    · exact .inr k
theorem Inv.offerA {s : PS} {t : Int} (I : Inv s t) (ht : 0 ≤ t) {x : List UInt8} (hx : x.length ≤ 64) {S : LS} (e : S = { s.a with waits := s.a.waits ++ [⟨x, false, 0⟩] }) : Inv { s with a := S, oa := s.oa ++ [x] } t := by
  refine ⟨I.ab.offer hx e ht, I.ba.recv (by subst e; rfl) fun k _ => by subst e; unfold ge; split <;> rfl, fun f hf => ?_⟩
  rcases I.air f hf with h | h
  · exact .inl (h.mono (by subst e; exact Int.le_refl _) (by subst e; exact Int.le_refl _) fun k x h => get_more _ _ _ h)
  · exact .inr h
theorem Inv.offerB {s : PS} {t : Int} (I : Inv s t) (ht : 0 ≤ t) {x : List UInt8} (hx : x.length ≤ 64) {S : LS} (e : S = { s.b with waits := s.b.waits ++ [⟨x, false, 0⟩] }) : Inv { s with b := S, ob := s.ob ++ [x] } t := by
  refine ⟨I.ab.recv (by subst e; rfl) fun k _ => by subst e; unfold ge; split <;> rfl, I.ba.offer hx e ht, fun f hf => ?_⟩
  rcases I.air f hf with h | h
  · exact .inl h
  · exact .inr (h.mono (by subst e; exact Int.le_refl _) (by subst e; exact Int.le_refl _) fun k x h => get_more _ _ _ h)
theorem Inv.tick {s : PS} {t n : Int} (I : Inv s t) (hn : 0 ≤ n) {S T : LS} (e : S = { s.a with now := s.a.now + n }) (e2 : T = { s.b with now := s.b.now + n }) : Inv { s with a := S, b := T } (t + n) := by
  refine ⟨(I.ab.tick hn e).recv (by subst e2; rfl) fun k _ => by subst e2; unfold ge; split <;> rfl, (I.ba.tick hn e2).recv (by subst e; rfl) fun k _ => by subst e; unfold ge; split <;> rfl, fun f hf => ?_⟩
  rcases I.air f hf with h | h
  · exact .inl (h.mono (by subst e; exact Int.le_refl _) (by subst e; exact Int.le_refl _) fun _ _ h => h)
  · exact .inr (h.mono (by subst e2; exact Int.le_refl _) (by subst e2; exact Int.le_refl _) fun _ _ h => h)
def PS0 : PS := ⟨newS 0 1, newS 1 0, [], [], [], [], []⟩
theorem Inv.start : Inv PS0 0 := by
  have d : ∀ i j : Int, Dir (newS i j) (newS j i) [] [] i j 0 := fun i j =>
    ⟨rfl, rfl, rfl, nofun, Int.le_refl _, Int.le_refl _, Int.le_refl _, Int.le_refl _, by show (0 : Int) ≤ 0 + 4; omega, rfl, rfl, nofun, fun k hk h => by
      rcases four hk with rfl | rfl | rfl | rfl <;> cases h⟩
  exact ⟨d 0 1, d 1 0, nofun⟩
theorem step {s : PS} {t : Int} (I : Inv s t) : s.ga.length ≤ s.ob.length ∧ s.gb.length ≤ s.oa.length ∧ s.ga = s.ob.take s.ga.length ∧ s.gb = s.oa.take s.gb.length ∧ (s.oa.length : Int) - s.a.waits.length ≤ s.gb.length ∧ (s.ob.length : Int) - s.b.waits.length ≤ s.ga.length ∧ s.a.waits.length ≤ s.oa.length ∧ s.b.waits.length ≤ s.ob.length := by
  have a1 := I.ab.glen; have a2 := I.ab.wlen; have a3 := I.ab.came; have a4 := I.ab.high; have a5 := I.ab.ack; have a6 := I.ab.ack0; have a7 := I.ab.got
  have b1 := I.ba.glen; have b2 := I.ba.wlen; have b3 := I.ba.came; have b4 := I.ba.high; have b5 := I.ba.ack; have b6 := I.ba.ack0; have b7 := I.ba.got
  refine ⟨by omega, by omega, ?_, ?_, by omega, by omega, by omega, by omega⟩
  · rw [show s.ga.length = s.a.came.toNat by omega]; exact b7
  · rw [show s.gb.length = s.b.came.toNat by omega]; exact a7
end Go.Proofs.Ytepceieglhfnoaa.Link
