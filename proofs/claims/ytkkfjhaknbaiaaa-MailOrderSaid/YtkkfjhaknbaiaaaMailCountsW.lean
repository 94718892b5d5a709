/- The walk of the law MailCounts. -/
import Derived.Test.YtkkfjhaknbaiaaaMail2
set_option maxRecDepth 100000
set_option linter.unusedVariables false
set_option linter.unusedSimpArgs false
namespace Go.Proofs.Ytkkfjhaknbaiaaa.Mail
open Go Go.Proofs.Ytkkfjhaknbaiaaa.Eng Go.RowKit
structure Step where
  kind : Int
  mask : Int
  x : Letter
def enS (s : Step) : List Value := [.int .i64 s.kind, .int .u64 s.mask, .int .i64 s.x.node, .int .i64 s.x.num, .int .i64 s.x.tag, .string (bs s.x.body)]
def okS (s : Step) : Prop := okL s.x
theorem fitsStep (cs : List Value) (h : fitsL [.int .i64, .int .u64, .int .i64, .int .i64, .int .i64, .str] cs) : ∃ x, cs = enS x ∧ okS x := by
  obtain ⟨_, _, rfl, ⟨k, rfl, _⟩, _, _, rfl, ⟨m, rfl, _⟩, _, _, rfl, ⟨a, rfl, ha⟩, _, _, rfl, ⟨b, rfl, hb⟩, _, _, rfl, ⟨c, rfl, hc⟩, _, _, rfl, ⟨s, rfl, hs⟩, rfl⟩ := h
  exact ⟨⟨k, m, ⟨a, b, c, s⟩⟩, rfl, ha, hb, hc, hs⟩
theorem putS_sum {room lost lost' : Int} {ls ls' : List Letter} {x : Letter} {b : Bool} (he : (lost', ls', b) = putS room lost ls x) (h : (ls.length : Int) ≤ room) :
    (ls'.length : Int) ≤ room ∧ (ls'.length : Int) + lost' = ls.length + lost + 1 ∧ lost ≤ lost' ∧ (b = decide (lost' = lost)) := by
  unfold putS at he
  split at he
  · injection he with h1 h2; injection h2 with h2 h3; subst h1; subst h2; subst h3
    exact ⟨h, by omega, by omega, (decide_eq_false (by omega)).symm⟩
  · rename_i hn
    injection he with h1 h2; injection h2 with h2 h3; subst h1; subst h2; subst h3
    simp only [List.length_append, List.length_cons, List.length_nil]
    exact ⟨by omega, by omega, by omega, by simp⟩
theorem takeS_len {mask : Int} {ls ls' : List Letter} {y : Letter} {b : Bool} (h : TakeS mask ls y b ls') : (b = false ∧ ls'.length = ls.length) ∨ (b = true ∧ ls'.length + 1 = ls.length) := by
  rcases h with ⟨h1, h2, _⟩ | ⟨k, h1, h2, _, _, h3⟩
  · exact .inl ⟨h1, by rw [h2]⟩
  · have := (List.getElem?_eq_some_iff.1 h2).1
    exact .inr ⟨h1, by rw [h3, List.length_eraseIdx, if_pos this]; omega⟩
theorem mailCounts (w : World) (room : Int) (vl : Value) (xs : List Step) (_ : i64 room) (hx : Rd enS okS 6 w vl xs) (hy : xs.length * 56 ≤ 140737488351232) : Fc Try.prog 8 #[.int .i64 room, vl] w (fun v w' => v = .bool true ∧ Below w.heap.size w w') := by
  refine Fc.of Try.func8 rfl (by kernel_rfl) ?_
  have hxl := hx.len
  refine CallP.mk (Fc.imp (mailNew room w) ?_)
  rintro _ w1 (⟨_, rfl, rfl⟩ | ⟨hroom, rfl, G, B⟩)
  · refine br_t (by rw [vNe_iff]; rfl) ?_
    refine cT (rfl) ?_
    refine rPtrNil rfl ?_
    exact Done.mk ⟨congrArg Value.bool (by rw [vEq_iff]; rfl), Below.refl _ _⟩
  refine br_f (by rw [vNe_iff]; rfl) ?_
  refine rPtrNil rfl ?_
  refine cF (rfl) ?_
  refine rLenR hx rfl ?_
  refine LoopP.rule (α := Nat × Nat × Nat) (0, 0, 0) (fun a => [(7, .int .i64 a.2.1), (8, .int .i64 a.2.2), (34, .int .i64 a.1)]) (fun a w' => a.1 ≤ xs.length ∧ a.2.1 ≤ a.1 ∧ Below w.heap.size w w' ∧ ∃ fp lost ls, Bx w' w.heap.size fp room lost ls ∧ 0 ≤ lost ∧ (ls.length : Int) ≤ room ∧ (a.2.1 : Int) = a.2.2 + ls.length + lost ∧ ∀ k, fp k → w.heap.size ≤ k) (fun a => xs.length - a.1) (mt_cons rfl (mt_cons rfl (mt_cons rfl mt_nil))) ⟨Nat.zero_le _, Nat.le_refl _, G, _, _, _, B, Int.le_refl _, by simp; omega, by simp, fun k hk => by omega⟩ ?_
  clear G B
  rintro ⟨i, came, tk⟩ f w2 ⟨hi, hci, G, fp, lost, ls, B, hl0, hl2, hsum, hfp⟩
  dsimp only at hi hci hsum
  refine cI (fun h1 => ?_) (fun h1 => ?_)
  · have h1 := vLt_t h1
    refine bk ?_
    have hlt : i < xs.length := by omega
    refine rIdxE 6 (sG hx G) i xs[i] rfl (List.getElem?_eq_getElem hlt) rfl rfl ?_
    intro b o hat hok
    obtain ⟨⟨kind, mask, x⟩, hst⟩ : ∃ s, s = xs[i] := ⟨_, rfl⟩
    rw [← hst] at hat hok
    refine rLoadA0 hat rfl rfl rfl ?_
    refine rAlloc rfl ?_
    intro w3 n3
    refine rStoreA n3.blk rfl rfl rfl ?_
    intro w4 u4 b4
    have hsz := G.size
    have B4 := B.ev (Ev.new n3 (fun _ => False)) (fun _ _ h => h)
    have B5 := B4.ev (Ev.upd u4 (fp := fun k => k = w2.heap.size) rfl) (fun k hk e => by have := B.lt hk; omega)
    have G4 := gU (gN G n3) u4 hsz
    clear B B4 n3 u4 G hat
    refine rFieldAt rfl ?_
    refine rLoad0 b4.at rfl rfl ?_
    refine DivP.mk (by decide) ?_
    refine cond_join (α := Nat × Nat) (fun a => [(7, .int .i64 a.1), (8, .int .i64 a.2)]) (fun a w' => a.1 ≤ i + 1 ∧ Below w.heap.size w w' ∧ ∃ fp lost ls, Bx w' w.heap.size fp room lost ls ∧ 0 ≤ lost ∧ (ls.length : Int) ≤ room ∧ (a.1 : Int) = a.2 + ls.length + lost ∧ ∀ k, fp k → w.heap.size ≤ k) (fun hb => ?_) (fun hb => ?_) ?_
    · refine CallP.mk (Fc.imp (lostOf B5) ?_)
      rintro _ w5 ⟨rfl, rfl⟩
      refine rFieldAt rfl ?_
      refine rLoadA b4.at 2 rfl rfl ?_
      refine CallP.mk (Fc.imp (put (x := x) B5 hok ⟨hl0, by omega⟩ (by omega) hl2) ?_)
      rintro _ w5 ⟨b', lost', ls', fp', rfl, he, B6, E6, F6⟩
      obtain ⟨p1, p2, p3, p4⟩ := putS_sum he hl2
      refine CallP.mk (Fc.imp (lostOf B6) ?_)
      rintro _ w6 ⟨rfl, rfl⟩
      refine rBoolNe rfl ?_
      refine cF (by rw [p4, vEq_iff]; simp) ?_
      exact Jn.mk (came + 1, tk) (mt_i rfl (by dsimp only; rw [wi64 (by omega)]; omega) (mt_cons rfl mt_nil)) ⟨by omega, gE G4 E6 hfp, fp', lost', ls', B6, by omega, p1, by omega, F6.low hfp (by have := G4.size; omega)⟩
    · refine rFieldAt rfl ?_
      refine rLoad b4.at 1 rfl rfl ?_
      refine CallP.mk (Fc.imp (take (mask := mask) B5 (by omega)) ?_)
      rintro _ w5 ⟨y, b', ls', rfl, ht, B6, E6⟩
      have G6 := gE G4 E6 hfp
      refine rAlloc rfl ?_
      intro w6 n6
      refine rStoreA n6.blk rfl rfl rfl ?_
      intro w7 u7 b7
      have h6 := G6.size
      have B7 := (B6.ev (Ev.new n6 (fun _ => False)) (fun _ _ h => h)).ev (Ev.upd u7 (fp := fun k => k = w5.heap.size) rfl) (fun k hk e => by have := B6.lt hk; omega)
      have G7 := gU (gN G6 n6) u7 h6
      have hlen := takeS_len ht
      refine cI (fun hb' => ?_) (fun hb' => ?_)
      · rcases hlen with ⟨e, _⟩ | ⟨_, e⟩
        · rw [e] at hb'; cases hb'
        · exact Jn.mk (came, tk + 1) (mt_cons rfl (mt_i rfl (by dsimp only; rw [wi64 (by omega)]; omega) mt_nil)) ⟨by omega, G7, fp, lost, ls', B7, hl0, by omega, by omega, hfp⟩
      · rcases hlen with ⟨_, e⟩ | ⟨e, _⟩
        · exact Jn.mk (came, tk) (mt_cons rfl (mt_cons rfl mt_nil)) ⟨by omega, G7, fp, lost, ls', B7, hl0, by omega, by omega, hfp⟩
        · rw [e] at hb'; cases hb'
    clear B5 G4 b4 hsum hfp hl0 hl2
    rintro ⟨came', tk'⟩ f2 w5 ⟨hc, G5, fp2, lost2, ls2, B5, hl0, hl2, hsum, hfp⟩
    dsimp only at hc hsum
    refine CallP.mk (Fc.imp (all B5 (by omega)) ?_)
    rintro u1 w6 ⟨o1, g6⟩
    refine rLenR (o1.rd (ok := fun _ => True) (fun _ _ => trivial) (by decide)) rfl ?_
    refine br_f (by rw [vLt_iff]; first | (simp; done) | (simp; omega)) ?_
    have B6 := B5.next g6
    have G6 := gB G5 g6
    refine CallP.mk (Fc.imp (all B6 (by omega)) ?_)
    rintro u2 w7 ⟨o2, g7⟩
    refine rLenR (o2.rd (ok := fun _ => True) (fun _ _ => trivial) (by decide)) rfl ?_
    have B7 := B6.next g7
    have G7 := gB G6 g7
    refine CallP.mk (Fc.imp (lostOf B7) ?_)
    rintro _ w8 ⟨rfl, rfl⟩
    refine cF (by rw [vNe_iff, wi64 (n := (tk' : Int) + ls2.length) (by omega), wi64 (by omega)]; simp; omega) ?_
    exact Nxt.mk (i + 1, came', tk') (mt_cons rfl (mt_cons rfl (mt_i rfl (by dsimp only; rw [wi64 (by omega)]; omega) mt_nil))) ⟨by omega, by omega, G7, fp2, lost2, ls2, B7, hl0, hl2, hsum, hfp⟩ (by show xs.length - (i + 1) < xs.length - i; omega)
  have h1 := vLt_f h1
  exact Done.mk ⟨rfl, G⟩
end Go.Proofs.Ytkkfjhaknbaiaaa.Mail
