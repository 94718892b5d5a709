/- The walk of the law OwnMails. -/
import Derived.Test.YtnkjebohlnnjbaaMail1
set_option maxRecDepth 100000
set_option linter.unusedVariables false
set_option linter.unusedSimpArgs false
namespace Go.Proofs.Ytnkjebohlnnjbaa.Mail
open Go Go.Proofs.Ytnkjebohlnnjbaa.Eng Go.RowKit
theorem putS_len {room lost : Int} {ls : List Letter} {x : Letter} (h : (ls.length : Int) ≤ room) : ((putS room lost ls x).2.1.length : Int) ≤ room ∧ lost ≤ (putS room lost ls x).1 ∧ (putS room lost ls x).1 ≤ lost + 1 := by
  unfold putS
  split
  · exact ⟨h, by dsimp only; omega, by dsimp only; omega⟩
  · rename_i hn
    refine ⟨?_, Int.le_refl _, by dsimp only; omega⟩
    simp only [List.length_append, List.length_cons, List.length_nil]
    omega
theorem ownMails (w : World) (vl : Value) (xs : List Letter) (hx : Rd enL okL 4 w vl xs) (hy : xs.length * 40 ≤ 140737488351232) : Fc Try.prog 3 #[vl] w (fun v w' => v = .bool true ∧ Below w.heap.size w w') := by
  refine Fc.of Try.func3 rfl (by kernel_rfl) ?_
  have hxl := hx.len
  refine CallP.mk (Fc.imp (mailNew 16 w) ?_)
  rintro _ w1 (⟨hb, _⟩ | ⟨_, rfl, G, B⟩)
  · exact absurd (by decide) hb
  refine br_f (by rw [vNe_iff]; rfl) ?_
  refine rPtrNil rfl ?_
  refine cF (rfl) ?_
  refine rLenR hx rfl ?_
  refine LoopP.rule (α := Nat) 0 (fun i => [(22, .int .i64 i)]) (fun i w' => i ≤ xs.length ∧ Below w.heap.size w w' ∧ ∃ fp lost ls, Bx w' w.heap.size fp 16 lost ls ∧ 0 ≤ lost ∧ lost ≤ i ∧ (ls.length : Int) ≤ 16 ∧ ∀ k, fp k → w.heap.size ≤ k) (fun i => xs.length - i) (mt_cons rfl mt_nil) ⟨Nat.zero_le _, G, _, _, _, B, by decide, by decide, by decide, fun k hk => by omega⟩ ?_
  clear G B
  rintro i f w2 ⟨hi, G, fp, lost, ls, B, hl0, hl1, hl2, hfp⟩
  refine cI (fun h1 => ?_) (fun h1 => ?_)
  · have h1 := vLt_t h1
    refine bk ?_
    have hlt : i < xs.length := by omega
    refine rIdxE 4 (sG hx G) i xs[i] rfl (List.getElem?_eq_getElem hlt) rfl rfl ?_
    intro b o hat hok
    refine rLoadA0 hat rfl rfl rfl ?_
    refine rAlloc rfl ?_
    intro w3 n3
    refine rStoreA n3.blk rfl rfl rfl ?_
    intro w4 u4 b4
    have hsz := G.size
    have B4 := B.ev (Ev.new n3 (fun _ => False)) (fun _ _ h => h)
    have B5 := B4.ev (Ev.upd u4 (fp := fun k => k = w2.heap.size) rfl) (fun k hk e => by have := B.lt hk; omega)
    have G4 := gU (gN G n3) u4 hsz
    refine rLoadA0 b4.at rfl rfl rfl ?_
    refine CallP.mk (Fc.imp (put B5 hok ⟨hl0, by omega⟩ (by decide) hl2) ?_)
    rintro _ w5 ⟨b, lost', ls', fp', rfl, he, B6, E6, F6⟩
    have hp := putS_len (lost := lost) (x := xs[i]) hl2
    rw [← he] at hp
    dsimp only at hp
    exact Nxt.mk (i + 1) (mt_i rfl (by rw [wi64 (by omega)]; omega) mt_nil) ⟨by omega, gE G4 E6 hfp, fp', lost', ls', B6, by omega, by omega, hp.1, F6.low hfp (by have := G4.size; omega)⟩ (by omega)
  have h1 := vLt_f h1
  have hlost : lost < 9223372036854775807 := by omega
  clear hi h1
  have hls : ls.length ≤ 16 := by omega
  have hs2 := G.size
  refine CallP.mk (Fc.imp (all B (by omega)) ?_)
  rintro u1 w3 ⟨o1, g1⟩
  replace B := B.next g1
  replace G := gB G g1
  have hu1 : ∀ k, u1.ownBlock = some k → w.heap.size ≤ k ∧ k < w3.heap.size := fun k hk => by
    have h1 := o1.lt hk
    exact ⟨Nat.le_trans hs2 h1.1, h1.2⟩
  refine CallP.mk (Fc.imp (all B (by omega)) ?_)
  rintro u2 w4 ⟨o2, g2⟩
  have hlt2 : ∀ k, fp k → k < w3.heap.size := fun k hk => B.lt hk
  replace B := B.next g2
  have hz3 := G.size
  replace G := gB G g2
  replace o1 := oB o1 g2
  clear g1 g2
  refine rLenR (o2.rd (ok := fun _ => True) (fun _ _ => trivial) (by decide)) rfl ?_
  refine LoopP.rule (α := Nat) 0 (fun i => [(36, .int .i64 i)]) (fun i w' => i ≤ ls.length ∧ Below w.heap.size w w' ∧ Bx w' w.heap.size fp 16 lost ls ∧ Own w2.heap.size w' 30 4 enL u1 ls ∧ ∃ zs : List Letter, zs.length = ls.length ∧ Own w3.heap.size w' 30 4 enL u2 zs) (fun i => ls.length - i) (mt_cons rfl mt_nil) ⟨Nat.zero_le _, G, B, o1, ls, rfl, o2⟩ ?_
  clear G B o1 o2
  rintro j f2 w5 ⟨hj, G, B, o1, zs, hzs, o2⟩
  refine cI (fun h2 => ?_) (fun h2 => ?_)
  · have h2 := vLt_t h2
    refine bk ?_
    refine rBuild rfl rfl rfl ?_
    obtain ⟨g, cap, cur, hv, hlo, hb, hle, hst⟩ := o2.store j (by omega)
    subst hv
    refine rIdx 4 j (j * 4) rfl (by omega) (by omega) rfl rfl ?_
    refine rStoreAL (vs := enL ⟨0, 0, 63, [115, 112, 111, 105, 108, 116]⟩) hb rfl hle rfl ?_
    intro w6 u6 b6
    have hng : ∀ k, k < w3.heap.size → k ≠ g := fun k hk e => by omega
    exact Nxt.mk (j + 1) (mt_i rfl (by rw [wi64 (by omega)]; omega) mt_nil) ⟨by omega, gU G u6 (by omega), B.ev (Ev.upd u6 (fp := fun k => k = g) rfl) (fun k hk => hng k (hlt2 k hk)), oU o1 u6 (fun e => hng _ (hu1 _ e).2 rfl), _, by rw [List.length_set]; exact hzs, hst w6 _ b6⟩ (by omega)
  have h2 := vLt_f h2
  clear hj h2
  refine rBuild rfl rfl rfl ?_
  refine rBuildSlice (z := .agg #[.int .i64 0, .int .i64 0, .int .i64 0, .string (bs [])]) (sz := 4) rfl rfl rfl (by decide) ?_
  intro w6 n6
  have hs6 := n6.size
  refine rAppO (ys := [(⟨0, 0, 0, []⟩ : Letter)]) (.agg #[.int .i64 0, .int .i64 0, .int .i64 0, .string (bs [])]) 40 (oN (o2.mono (Nat.zero_le _)) n6) n6.blk.at rfl (fun y _ => enL_one y) rfl rfl rfl (by decide) (by omega) (by omega) (Nat.zero_le _) ?_
  intro v7 w7 _ g7
  have hg7 : ∀ k, u2.ownBlock = some k → w3.heap.size ≤ k := fun k hk => (o2.lt hk).1
  have G7 := gG (gN G n6) g7 (fun k hk => Nat.le_trans hz3 (hg7 k hk))
  have B7 := (B.ev (Ev.new n6 (fun _ => False)) (fun _ _ h => h)).ev (Ev.gr g7 (fp := fun k => w3.heap.size ≤ k) hg7) (fun k hk h => by have := hlt2 k hk; omega)
  have o7 := oE (oN o1 n6) (Ev.gr g7 (fp := fun k => w3.heap.size ≤ k) hg7) (fun k hk h => by have := (hu1 k hk).2; omega)
  clear n6 g7 G B o1
  refine CallP.mk (Fc.imp (all B7 (by omega)) ?_)
  rintro u3 w8 ⟨o3, g8⟩
  replace B7 := B7.next g8
  have G8 := gB G7 g8
  replace o7 := oB o7 g8
  refine CallP.mk (Fc.imp (eqLetters _ (o3.rd (ok := fun _ => True) (fun _ _ => trivial) (by decide)).wide' (o7.rd (ok := fun _ => True) (fun _ _ => trivial) (by decide)).wide') ?_)
  rintro _ w9 ⟨rfl, g9⟩
  replace B7 := B7.next g9
  have G9 := gB G8 g9
  refine br_t (by exact decide_eq_true rfl) ?_
  refine rBuild rfl rfl rfl ?_
  refine CallP.mk (Fc.imp (put (x := ⟨0, 0, 64, []⟩) B7 (by unfold okL i64; decide) ⟨hl0, hlost⟩ (by decide) hl2) ?_)
  rintro _ w10 ⟨b, lost', ls', fp', rfl, he, B10, E10, F10⟩
  rw [putS, if_pos (.inr (.inr (.inl (by decide))))] at he
  have hb : b = false := by injection he with _ h; injection h
  refine rBoolEq rfl ?_
  exact Done.mk ⟨congrArg Value.bool (by rw [hb]; rfl), gE G9 E10 hfp⟩
end Go.Proofs.Ytnkjebohlnnjbaa.Mail
