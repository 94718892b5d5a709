/- Package mail: letters, a box: New, Put, All; two lists of letters compared. -/
import Derived.Test.YtkkfjhaknbaiaaaEv
import Derived.Test.YtkkfjhaknbaiaaaPlanZ
import Derived.Test.YtkkfjhaknbaiaaaOpen
import Derived.Test.YtkkfjhaknbaiaaaRows
set_option maxRecDepth 100000
set_option linter.unusedVariables false
set_option linter.unusedSimpArgs false
namespace Go.Proofs.Ytkkfjhaknbaiaaa.Mail
open Go Go.Proofs.Ytkkfjhaknbaiaaa.Eng Go.RowKit
theorem mixed : (Try.prog).follows .mixedOrders = true := by kernel_rfl
structure Letter where
  node : Int
  num : Int
  tag : Int
  body : List UInt8
  deriving DecidableEq
def enL (l : Letter) : List Value := [.int .i64 l.node, .int .i64 l.num, .int .i64 l.tag, .string (bs l.body)]
def i64 (x : Int) : Prop := -9223372036854775808 ≤ x ∧ x ≤ 9223372036854775807
def okL (l : Letter) : Prop := i64 l.node ∧ i64 l.num ∧ i64 l.tag ∧ l.body.length ≤ 9223372036854775807
theorem enL_len (l : Letter) : (enL l).length = 4 := rfl
theorem fitsLetter (cs : List Value) (h : fitsL [.int .i64, .int .i64, .int .i64, .str] cs) : ∃ x, cs = enL x ∧ okL x := by
  obtain ⟨_, _, rfl, ⟨a, rfl, ha⟩, _, _, rfl, ⟨b, rfl, hb⟩, _, _, rfl, ⟨c, rfl, hc⟩, _, _, rfl, ⟨s, rfl, hs⟩, rfl⟩ := h
  exact ⟨⟨a, b, c, s⟩, rfl, ha, hb, hc, hs⟩
theorem enL_one (l : Letter) : ((enL l).all (·.oneCell')) = true := rfl
/-- A letter that may lie in a box. -/
def fine (l : Letter) : Prop := okL l ∧ 0 ≤ l.tag ∧ l.tag ≤ 63 ∧ l.body.length ≤ 32
instance (l : Letter) : Decidable (fine l) := by unfold fine okL i64; exact inferInstance
/-- A box at block p. -/
def Bx (w : World) (p : Nat) (fp : Nat → Prop) (room lost : Int) (ls : List Letter) : Prop :=
  ∃ v, Blk w p [.int .i64 room, .int .i64 lost, v] 96 ∧ Own 0 w 49 4 enL v ls ∧ v.ownBlock ≠ some p ∧ (∀ l ∈ ls, fine l) ∧ fp = fun k => k = p ∨ v.ownBlock = some k
section
variable {w w' : World} {p : Nat} {fp f : Nat → Prop} {room lost : Int} {ls : List Letter}
theorem Bx.lt (h : Bx w p fp room lost ls) {k : Nat} (hk : fp k) : k < w.heap.size := by
  obtain ⟨v, h1, h2, h3, h4, rfl⟩ := h
  rcases hk with rfl | hk
  · exact h1.lt
  · exact (h2.lt hk).2
theorem Bx.ev (h : Bx w p fp room lost ls) (x : Ev w w' f) (ha : Ap fp f) : Bx w' p fp room lost ls := by
  obtain ⟨v, h1, h2, h3, h4, rfl⟩ := h
  exact ⟨v, kE h1 x (ha p (.inl rfl)), oE h2 x (fun k hk => ha k (.inr hk)), h3, h4, rfl⟩
theorem Bx.next (h : Bx w p fp room lost ls) (x : Below w.heap.size w w') : Bx w' p fp room lost ls := h.ev (Ev.below x (fun _ => False)) (fun _ _ h => h)
end
theorem mailNew (room : Int) (w : World) : Fc Try.prog 22 #[.int .i64 room] w (fun v w' =>
    (¬ (1 ≤ room ∧ room ≤ 16) ∧ v = .tuple #[.pointer none, .int .i64 1] ∧ w = w') ∨
    ((1 ≤ room ∧ room ≤ 16) ∧ v = .tuple #[.pointer (some ⟨w.heap.size, 0, none⟩), .int .i64 0] ∧ Below w.heap.size w w' ∧ Bx w' w.heap.size (fun k => k = w.heap.size) room 0 [])) := by
  refine Fc.of Try.func22 rfl (by kernel_rfl) ?_
  refine br (fun h1 => ?_) (fun h1 => ?_)
  · have h1 := vLt_t h1
    refine cT (rfl) ?_
    exact Done.mk (.inl ⟨by omega, rfl, rfl⟩)
  have h1 := vLt_f h1
  refine cI (fun h2 => ?_) (fun h2 => ?_)
  · have h2 := vLt_t h2
    exact Done.mk (.inl ⟨by omega, rfl, rfl⟩)
  have h2 := vLt_f h2
  refine rBuild rfl rfl rfl ?_
  refine rBox ?_
  intro w1 n1
  refine Done.mk (.inr ⟨by omega, rfl, n1.below, .slice none 0 0, n1.blk, Own.nil _ _ _ enL_len, nofun, nofun, ?_⟩)
  funext k
  simp [Value.ownBlock]
/-- What Put makes of a box. -/
def putS (room lost : Int) (ls : List Letter) (x : Letter) : Int × List Letter × Bool :=
  if (ls.length : Int) = room ∨ x.tag < 0 ∨ 63 < x.tag ∨ 32 < x.body.length then (lost + 1, ls, false) else (lost, ls ++ [x], true)
theorem put {w : World} {p : Nat} {fp : Nat → Prop} {room lost : Int} {ls : List Letter} {x : Letter} (h : Bx w p fp room lost ls) (hx : okL x) (hl : 0 ≤ lost ∧ lost < 9223372036854775807) (hr : room ≤ 16) (hroom : (ls.length : Int) ≤ room) :
    Fc Try.prog 23 #[.pointer (some ⟨p, 0, none⟩), .agg (enL x).toArray] w (fun v w' => ∃ b lost' ls' fp', v = .bool b ∧ (lost', ls', b) = putS room lost ls x ∧ Bx w' p fp' room lost' ls' ∧ Ev w w' fp ∧ Fr w fp fp') := by
  obtain ⟨v, hp, ho, hne, hf, rfl⟩ := h
  refine Fc.of Try.func23 rfl (by kernel_rfl) ?_
  refine rBox ?_
  intro w1 n1
  have p1 := kN hp n1
  have o1 := oN ho n1
  have b1 := n1.blk
  have E1 : Ev w w1 (fun k => k = p ∨ v.ownBlock = some k) := Ev.new n1 _
  have hv := ho.form
  have hltp := hp.lt
  have hlen : (ls.length : Int) ≤ 16 := by omega
  clear n1
  refine drawz (fun wx => Blk wx p [.int .i64 room, .int .i64 lost, v] 96 ∧ Blk wx w.heap.size (enL x) 49) [(0, .pure), (1, .pure), (2, .pure), (3, .held), (4, .pure), (5, .pure), (6, .pure), (7, .pure), (8, .held), (9, .pure), (10, .pure), (11, .pure), (12, .held), (13, .pure), (14, .pure), (15, .pure), (16, .pure), (17, .held), (18, .pure), (19, .pure), (20, .pure), (21, .pure), (22, .held), (23, .pure), (24, .pure), (25, .pure)] mixed (by kernel_rfl) (by kernel_rfl) (fun wd hd => ⟨⟨kS p1 (by rw [hd]; exact Still.drew _), kS b1 (by rw [hd]; exact Still.drew _)⟩, ?_⟩)
  have st : Still w1 wd := by rw [hd]; exact Still.drew _
  replace p1 := kS p1 st
  replace o1 := oS o1 st
  replace b1 : Blk wd w.heap.size (enL x) 49 := kS b1 st
  replace E1 := E1.trans (Ev.still st (fun _ => False)) (fun _ h => h) (fun _ _ h => h.elim)
  clear st hd
  refine tk (fun wx hS => rFieldAt rfl ⟨rfl, rfl⟩) ?_
  refine tk (v := v) (fun wx hS => rLoad hS.1.at 2 rfl rfl ⟨rfl, rfl⟩) ?_
  obtain ⟨va, vc, hve⟩ := hv
  refine tk (v := .int .i64 ls.length) (fun wx hS => by subst hve; exact rLenSl rfl ⟨rfl, rfl⟩) ?_
  refine tk (fun wx hS => rFieldAt rfl ⟨rfl, rfl⟩) ?_
  refine tk (fun wx hS => rLoad0 hS.1.at rfl rfl ⟨rfl, rfl⟩) ?_
  refine br (fun hA => ?_) (fun hA => ?_)
  · have hA := vEq_t hA
    refine cT (rfl) ?_
    refine rFieldAt rfl ?_
    refine rLoad p1.at 1 rfl rfl ?_
    refine rFieldAt rfl ?_
    refine rStoreL p1 (bl rfl) rfl rfl ?_
    intro w2 u2 b2
    refine Done.mk ⟨false, lost + 1, ls, _, rfl, by rw [putS, if_pos (.inl hA)], ⟨v, by rw [← wi64 (n := lost + 1) (by omega)]; exact b2, oU o1 u2 (fun e => hne e), hne, hf, rfl⟩, E1.trans (Ev.upd u2 (fp := fun k => k = p) rfl) (fun _ h => h) (fun _ _ h => .inl h), Fr.refl _ _⟩
  have hA := vEq_f hA
  refine tk (fun wx hS => rFieldAt rfl ⟨rfl, rfl⟩) ?_
  refine tk (fun wx hS => rLoad hS.2.at 2 rfl rfl ⟨rfl, rfl⟩) ?_
  refine br (fun hB => ?_) (fun hB => ?_)
  · have hB := vLt_t hB
    refine cT (rfl) ?_
    refine rFieldAt rfl ?_
    refine rLoad p1.at 1 rfl rfl ?_
    refine rFieldAt rfl ?_
    refine rStoreL p1 (bl rfl) rfl rfl ?_
    intro w2 u2 b2
    refine Done.mk ⟨false, lost + 1, ls, _, rfl, by rw [putS, if_pos (.inr (.inl hB))], ⟨v, by rw [← wi64 (n := lost + 1) (by omega)]; exact b2, oU o1 u2 (fun e => hne e), hne, hf, rfl⟩, E1.trans (Ev.upd u2 (fp := fun k => k = p) rfl) (fun _ h => h) (fun _ _ h => .inl h), Fr.refl _ _⟩
  have hB := vLt_f hB
  refine tk (fun wx hS => rFieldAt rfl ⟨rfl, rfl⟩) ?_
  refine tk (fun wx hS => rLoad hS.2.at 2 rfl rfl ⟨rfl, rfl⟩) ?_
  refine br (fun hC => ?_) (fun hC => ?_)
  · have hC := vLt_t hC
    refine cT (rfl) ?_
    refine rFieldAt rfl ?_
    refine rLoad p1.at 1 rfl rfl ?_
    refine rFieldAt rfl ?_
    refine rStoreL p1 (bl rfl) rfl rfl ?_
    intro w2 u2 b2
    refine Done.mk ⟨false, lost + 1, ls, _, rfl, by rw [putS, if_pos (.inr (.inr (.inl hC)))], ⟨v, by rw [← wi64 (n := lost + 1) (by omega)]; exact b2, oU o1 u2 (fun e => hne e), hne, hf, rfl⟩, E1.trans (Ev.upd u2 (fp := fun k => k = p) rfl) (fun _ h => h) (fun _ _ h => .inl h), Fr.refl _ _⟩
  have hC := vLt_f hC
  refine tk (fun wx hS => rFieldAt rfl ⟨rfl, rfl⟩) ?_
  refine tk (fun wx hS => rLoad hS.2.at 3 rfl rfl ⟨rfl, rfl⟩) ?_
  refine tk (fun wx hS => rLenStr rfl ⟨rfl, rfl⟩) ?_
  refine cI (fun hD => ?_) (fun hD => ?_)
  · have hD := vLt_t hD
    refine rFieldAt rfl ?_
    refine rLoad p1.at 1 rfl rfl ?_
    refine rFieldAt rfl ?_
    refine rStoreL p1 (bl rfl) rfl rfl ?_
    intro w2 u2 b2
    refine Done.mk ⟨false, lost + 1, ls, _, rfl, by rw [putS, if_pos (.inr (.inr (.inr (by omega))))], ⟨v, by rw [← wi64 (n := lost + 1) (by omega)]; exact b2, oU o1 u2 (fun e => hne e), hne, hf, rfl⟩, E1.trans (Ev.upd u2 (fp := fun k => k = p) rfl) (fun _ h => h) (fun _ _ h => .inl h), Fr.refl _ _⟩
  have hD := vLt_f hD
  have hgood : ¬ ((ls.length : Int) = room ∨ x.tag < 0 ∨ 63 < x.tag ∨ 32 < x.body.length) := by omega
  refine drawz (fun wx => Blk wx p [.int .i64 room, .int .i64 lost, v] 96 ∧ Blk wx w.heap.size (enL x) 49) [(0, .pure), (1, .pure), (2, .pure), (3, .pure), (4, .held), (5, .held), (6, .forced), (7, .forced), (8, .pure), (9, .pure), (10, .free)] mixed (by kernel_rfl) (by kernel_rfl) (fun wf hwf => ⟨⟨kS p1 (by rw [hwf]; exact Still.drew _), kS b1 (by rw [hwf]; exact Still.drew _)⟩, ?_⟩)
  have st : Still wd wf := by rw [hwf]; exact Still.drew _
  replace p1 := kS p1 st
  replace o1 := oS o1 st
  replace b1 : Blk wf w.heap.size (enL x) 49 := kS b1 st
  replace E1 := E1.trans (Ev.still st (fun _ => False)) (fun _ h => h) (fun _ _ h => h.elim)
  clear st hwf
  refine tk (fun wx hS => rFieldAt rfl ⟨rfl, rfl⟩) ?_
  refine tk (v := v) (fun wx hS => rLoad hS.1.at 2 rfl rfl ⟨rfl, rfl⟩) ?_
  refine tk (fun wx hS => rLoadA0 hS.2.at rfl rfl rfl ⟨rfl, rfl⟩) ?_
  refine rBuildSlice (z := .agg #[.int .i64 0, .int .i64 0, .int .i64 0, .string (bs [])]) (sz := 4) rfl rfl rfl (by decide) ?_
  intro w3 n3
  have E3 := E1.trans (Ev.new n3 (fun _ => False)) (fun _ h => h) (fun _ _ h => h.elim)
  have p3 := kN p1 n3
  have o3 := oN o1 n3
  have b3 := kN b1 n3
  refine KeepP.mk (⟨p3, b3⟩) ?_
  have hsz3 := n3.size
  refine rAppO (ys := [x]) (.agg #[.int .i64 0, .int .i64 0, .int .i64 0, .string (bs [])]) 40 o3 n3.blk.at rfl (fun y _ => enL_one y) rfl rfl rfl (by decide) (by omega) (by omega) (Nat.zero_le _) ?_
  intro v4 w4 o4 g4
  have p4 := kG p3 g4 hne
  have b4 := kG b3 g4 (fun e => by have := (ho.lt e).2; omega)
  refine KeepP.mk (⟨p4, b4⟩) ?_
  refine tk (fun wx hS => rFieldAt rfl ⟨rfl, rfl⟩) ?_
  refine rStoreL p4 (bl rfl) rfl o4.one ?_
  intro w5 u5 b5
  have E4 := E3.trans (Ev.gr g4 (fp := fun k => k = p ∨ v.ownBlock = some k) (fun k hk => .inr hk)) (fun _ h => h) (fun _ _ h => h)
  have hne4 : v4.ownBlock ≠ some p := fun e => by
    rcases g4.at_ with h | h | ⟨k, h, hk⟩
    · exact hne (h ▸ e)
    · rw [h] at e; cases e
    · rw [h] at e; obtain rfl := Option.some.inj e
      have := E3.size; omega
  refine Done.mk ⟨true, lost, ls ++ [x], _, rfl, by rw [putS, if_neg hgood], ⟨v4, b5, oU o4 u5 hne4, hne4, fun l hl => ?_, rfl⟩, E4.trans (Ev.upd u5 (fp := fun k => k = p) rfl) (fun _ h => h) (fun _ _ h => .inl h), fun k hk => ?_⟩
  · rcases List.mem_append.1 hl with h | h
    · exact hf l h
    · obtain rfl : l = x := by simpa using h
      exact ⟨hx, by omega, by omega, by omega⟩
  · rcases hk with h | h
    · exact .inl (.inl h)
    · rcases g4.at_ with e | e | ⟨j, e, hj⟩
      · exact .inl (.inr (e ▸ h))
      · rw [e] at h; cases h
      · rw [e] at h; obtain rfl := Option.some.inj h
        exact .inr (Nat.le_trans (by have := E3.size; omega) hj)
/-- A copy of an own row of letters is a new row. -/
theorem clone {w : World} {v : Value} {ls : List Letter} (ho : Own 0 w 49 4 enL v ls) (hl : ls.length ≤ 1000000000) : Fc Try.prog 47 #[v] w (fun u w' => Own w.heap.size w' 49 4 enL u ls ∧ Below w.heap.size w w') := by
  refine Fc.of Try.func47 rfl (by kernel_rfl) ?_
  rcases ho.1.2 with ⟨rfl, h0⟩ | ⟨g, cap, cur, rfl, hlo, hg, hnc, hcm, hcs, htk⟩
  · refine rSlNil rfl ?_
    refine cT (rfl) ?_
    have : ls = [] := List.eq_nil_of_length_eq_zero h0
    subst this
    exact Done.mk ⟨Own.nil _ _ _ enL_len, Below.refl _ _⟩
  refine rSlNil rfl ?_
  refine cF (rfl) ?_
  refine rBuildSlice (z := .agg #[.int .i64 0, .int .i64 0, .int .i64 0, .string (bs [])]) (sz := 4) rfl rfl rfl (by decide) ?_
  intro w1 n1
  have o1 : Own w.heap.size w1 49 4 enL (.slice (some ⟨w.heap.size, 0, none⟩) 0 0) ([] : List Letter) := ⟨n1.own 0 4 rfl (by decide), enL_len⟩
  have hat : At w g 0 (ls.flatMap enL) := ⟨cur, _, _, hg, fun i x hx => by
    rw [← htk, List.getElem?_take] at hx
    split at hx
    · rw [Nat.zero_add]; simpa using hx
    · cases hx⟩
  have hsz := n1.size
  refine rAppO (ys := ls) (.agg #[.int .i64 0, .int .i64 0, .int .i64 0, .string (bs [])]) 40 o1 (aN hat n1) rfl (fun y _ => enL_one y) rfl rfl rfl (by decide) (by simp only [List.length_nil]; omega) (by simp only [List.length_nil]; omega) (by omega) ?_
  intro v2 w2 o2 g2
  rw [List.nil_append] at o2
  exact Done.mk ⟨o2, gG (gN (Below.refl _ _) n1) g2 (fun k hk => by obtain rfl := Option.some.inj hk; exact Nat.le_refl _)⟩
theorem all {w : World} {p : Nat} {fp : Nat → Prop} {room lost : Int} {ls : List Letter} (h : Bx w p fp room lost ls) (hl : ls.length ≤ 1000000000) :
    Fc Try.prog 26 #[.pointer (some ⟨p, 0, none⟩)] w (fun u w' => Own w.heap.size w' 49 4 enL u ls ∧ Below w.heap.size w w') := by
  obtain ⟨v, hp, ho, hne, hf, rfl⟩ := h
  refine Fc.of Try.func26 rfl (by kernel_rfl) ?_
  refine rFieldAt rfl ?_
  refine rLoad hp.at 2 rfl rfl ?_
  refine CallP.mk (Fc.imp (clone ho hl) ?_)
  rintro u w' ⟨h1, h2⟩
  exact Done.mk ⟨h1, h2⟩
/-- Two slices of letters compared. -/
theorem eqLetters {v u : Value} {xs ys : List Letter} {ok : Letter → Prop} (w : World) (hx : Rd enL ok 4 w v xs) (hy : Rd enL ok 4 w u ys) : Fc Try.prog 28 #[v, u] w (fun r w' => r = .bool (decide (xs = ys)) ∧ Below w.heap.size w w') := by
  refine Fc.of Try.func28 rfl (by kernel_rfl) ?_
  refine rLenR hx rfl ?_
  refine rLenR hy rfl ?_
  refine cI (fun h1 => ?_) (fun h1 => ?_)
  · have h1 := vNe_t h1
    exact Done.mk ⟨congrArg Value.bool (decide_eq_false (fun e => h1 (by rw [e]))).symm, Below.refl _ _⟩
  have h1 := vNe_f h1
  have hlen : xs.length = ys.length := by omega
  refine rLenR hx rfl ?_
  have hxl := hx.len
  refine LoopP.rule (α := Nat) 0 (fun i => [(14, .int .i64 i)]) (fun i w' => Below w.heap.size w w' ∧ i ≤ xs.length ∧ xs.take i = ys.take i) (fun i => xs.length - i) (mt_cons rfl mt_nil) ⟨Below.refl _ _, Nat.zero_le _, by simp⟩ ?_
  rintro i f w1 ⟨G, hi, heq⟩
  refine cI (fun h2 => ?_) (fun h2 => ?_)
  · have h2 := vLt_t h2
    refine bk ?_
    have hlt : i < xs.length := by omega
    have hx1 := sG hx G
    have hy1 := sG hy G
    obtain ⟨b, o, hat, _, _, hb, hidx⟩ := hx1.place 4 i xs[i] (List.getElem?_eq_getElem hlt) (t := 45) (e := 49) (P := Try.prog) rfl rfl
    obtain ⟨b', o', hat', _, _, hb', hidx'⟩ := hy1.place 4 i ys[i] (List.getElem?_eq_getElem (by omega)) (t := 45) (e := 49) (P := Try.prog) rfl rfl
    refine hidx rfl ?_
    refine rLoadA0 hat rfl rfl rfl ?_
    refine rAlloc rfl ?_
    intro w2 n2
    refine rStoreA n2.blk rfl rfl rfl ?_
    intro w3 u3 b3
    have hsz := G.size
    have hat3 := aU (aN hat' n2) u3 (by omega)
    have G3 := gU (gN G n2) u3 hsz
    clear n2 u3
    refine drawz (fun wx => Blk wx w1.heap.size (enL xs[i]) 49 ∧ At wx b' o' (enL ys[i])) [(0, .held), (1, .pure), (2, .pure), (3, .pure), (4, .held), (5, .pure)] mixed (by kernel_rfl) (by kernel_rfl) (fun wd hd => ⟨⟨kS b3 (by rw [hd]; exact Still.drew _), aS hat3 (by rw [hd]; exact Still.drew _)⟩, ?_⟩)
    have G4 := gS G3 (by rw [hd]; exact Still.drew _ : Still _ wd)
    refine tk (fun wx hS => rLoadA0 hS.1.at rfl rfl rfl ⟨rfl, rfl⟩) ?_
    refine tk (fun wx hS => hidx' rfl ⟨rfl, rfl⟩) ?_
    refine tk (fun wx hS => rLoadA0 hS.2 rfl rfl rfl ⟨rfl, rfl⟩) ?_
    refine tk (v := .bool (!(vEq xs[i].node ys[i].node && (vEq xs[i].num ys[i].num && true) && (vEq xs[i].tag ys[i].tag && (((bs xs[i].body).toList == (bs ys[i].body).toList) && true))))) (fun wx hS => rStructNe (by kernel_rfl) (by kernel_rfl) ⟨rfl, rfl⟩) ?_
    have hdec : (vEq xs[i].node ys[i].node && (vEq xs[i].num ys[i].num && true) && (vEq xs[i].tag ys[i].tag && (((bs xs[i].body).toList == (bs ys[i].body).toList) && true))) = decide (xs[i] = ys[i]) := by
      rw [bs_toList, bs_toList, vEq_iff, vEq_iff, vEq_iff, Bool.eq_iff_iff]
      cases xs[i]; cases ys[i]
      simp [and_assoc]
    refine cI (fun h3 => ?_) (fun h3 => ?_)
    · rw [hdec] at h3
      exact Done.mk ⟨congrArg Value.bool (decide_eq_false (fun e => by subst e; simp at h3)).symm, G4⟩
    rw [hdec] at h3
    have h3 : xs[i] = ys[i] := by simpa using h3
    refine Nxt.mk (i + 1) (mt_i rfl (by rw [wi64 (by omega)]; omega) mt_nil) ⟨G4, by omega, ?_⟩ (by omega)
    rw [List.take_add_one, List.take_add_one, heq, List.getElem?_eq_getElem hlt, List.getElem?_eq_getElem (by omega), h3]
  have h2 := vLt_f h2
  have : i = xs.length := by omega
  subst this
  rw [List.take_length, hlen, List.take_length] at heq
  exact Done.mk ⟨congrArg Value.bool (decide_eq_true heq).symm, G⟩
end Go.Proofs.Ytkkfjhaknbaiaaa.Mail
