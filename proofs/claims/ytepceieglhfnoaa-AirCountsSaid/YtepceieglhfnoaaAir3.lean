/- Package air: Take, Drop, Twice, Turn. -/
import Derived.Test.YtepceieglhfnoaaAir2
set_option maxRecDepth 100000
set_option maxHeartbeats 4000000
set_option linter.unusedVariables false
set_option linter.unusedSimpArgs false
namespace Go.Proofs.Ytepceieglhfnoaa.Air
open Go Go.Proofs.Ytepceieglhfnoaa.Eng Go.RowKit
theorem take {g : Glob} {w : World} {l : List As} {p : Nat} {v : Value} {ws : List Way} (H : Sat g w (Pt p [v] 35 :: Sl 88 2 enW v ws :: l)) (k : Int) (hn : ws.length ≤ 40) :
    Fc Try.prog 15 #[.pointer (some ⟨p, 0, none⟩), .int .i64 k] w (fun u w' => ∃ a s e v' ws', u = .tuple #[.int .i64 a, .string (bs s), .int .i64 e] ∧ ((e = 0 ∧ 0 ≤ k ∧ k < ws.length ∧ ws' = ws.eraseIdx k.toNat) ∨ (e ≠ 0 ∧ ws' = ws)) ∧ Sat g w' (Pt p [v'] 35 :: Sl 88 2 enW v' ws' :: l)) := by
  refine Fc.of Try.func15 rfl (by kernel_rfl) ?_
  refine CallP.mk (Fc.imp (Go.Proofs.Ytepceieglhfnoaa.Air.has H _) ?_)
  rintro _ _ ⟨⟨b1, ⟨rfl, h1⟩⟩, rfl⟩
  refine cI (fun c1 => ?_) (fun c1 => ?_)
  · replace c1 := iff_f h1 (not_t (c1))
    refine Done.mk ?_
    exact ⟨0, [], 13, v, ws, rfl, .inr ⟨by omega, rfl⟩, H⟩
  replace c1 := h1.1 (not_f (c1))
  refine rFieldAt rfl ?_
  refine rLd (H.at 0 rfl) 0 rfl rfl rfl ?_
  obtain ⟨x1, hx1⟩ : ∃ x, (ws)[(k).toNat]? = some x := ⟨_, List.getElem?_eq_getElem (by omega)⟩
  obtain ⟨b2, o1, E1⟩ := H.elt 1 rfl (k).toNat (by omega)
  refine rIxE E1 (by omega) rfl rfl ?_
  refine rLdA (H.el 1 rfl E1 hx1) 0 rfl rfl rfl ?_
  refine rAllocS H rfl ?_
  clear H
  intro p1 w1 H
  refine rStAS H 0 rfl rfl rfl rfl ?_
  clear H
  intro w2 H
  clear w1
  refine rFieldAt rfl ?_
  refine rLd (H.at 1 rfl) 0 rfl rfl rfl ?_
  refine eqI64 (by omega) ?_
  refine H.fronts [2] ?_
  clear H
  intro H
  refine CallP.mk (Fc.imp (Go.Proofs.Ytepceieglhfnoaa.Air.delete H _ ?_ ?_) ?_)
  · omega
  · omega
  clear H
  rintro v' w1 H
  refine rFieldAt rfl ?_
  refine rStS H 2 rfl rfl rfl (H.one 0 rfl) ?_
  clear H
  intro w3 H
  clear w1
  refine drawzS H [] [(0, .pure), (1, .held), (2, .pure), (3, .held), (4, .pure), (5, .pure), (6, .pure)] mixed (by kernel_rfl) (by kernel_rfl) ?_
  clear H
  intro w1 H
  clear w3
  refine tk (fun wx HS => rFieldAt rfl ⟨rfl, rfl⟩) ?_
  refine tk (fun wx HS => rLd (HS.at 1 rfl) 0 rfl rfl rfl ⟨rfl, rfl⟩) ?_
  refine tk (fun wx HS => rFieldAt rfl ⟨rfl, rfl⟩) ?_
  refine tk (fun wx HS => rLd (HS.at 1 rfl) 1 rfl rfl rfl ⟨rfl, rfl⟩) ?_
  refine Done.mk ?_
  refine ⟨x1.dest, x1.text, 0, v', ws.eraseIdx k.toNat, ?_⟩
  refine ⟨?_, ?_⟩
  · rfl
  refine ⟨?_, ?_⟩
  · refine (Or.inl ?_)
    refine ⟨?_, ?_⟩
    · omega
    refine ⟨?_, ?_⟩
    · omega
    refine ⟨?_, ?_⟩
    · omega
    rfl
  refine H.fronts [0, 2] ?_
  clear H
  intro H
  refine H.drop 2 ?_
  clear H
  intro H
  exact H
theorem drop {g : Glob} {w : World} {l : List As} {p : Nat} {v : Value} {ws : List Way} (H : Sat g w (Pt p [v] 35 :: Sl 88 2 enW v ws :: l)) (k : Int) (hn : ws.length ≤ 40) :
    Fc Try.prog 16 #[.pointer (some ⟨p, 0, none⟩), .int .i64 k] w (fun u w' => ∃ e v' ws', u = .int .i64 e ∧ ((e = 0 ∧ 0 ≤ k ∧ k < ws.length ∧ ws' = ws.eraseIdx k.toNat) ∨ (e ≠ 0 ∧ ws' = ws)) ∧ Sat g w' (Pt p [v'] 35 :: Sl 88 2 enW v' ws' :: l)) := by
  refine Fc.of Try.func16 rfl (by kernel_rfl) ?_
  refine CallP.mk (Fc.imp (Go.Proofs.Ytepceieglhfnoaa.Air.take H _ ?_) ?_)
  · assumption
  clear H
  rintro _ w1 ⟨a1, ⟨s1, ⟨e1, ⟨v'1, ⟨ws'1, ⟨rfl, ⟨(⟨h1, ⟨h2, ⟨h3, h4⟩⟩⟩ | ⟨h5, h6⟩), H⟩⟩⟩⟩⟩⟩⟩
  · refine Done.mk ?_
    refine ⟨e1, v'1, ws'1, ?_⟩
    refine ⟨?_, ?_⟩
    · refine int_eq ?_
      omega
    refine ⟨?_, ?_⟩
    · refine (Or.inl ?_)
      refine ⟨?_, ?_⟩
      · assumption
      refine ⟨?_, ?_⟩
      · assumption
      refine ⟨?_, ?_⟩
      · assumption
      assumption
    exact H
  refine Done.mk ?_
  refine ⟨e1, v'1, ws'1, ?_⟩
  refine ⟨?_, ?_⟩
  · refine int_eq ?_
    omega
  refine ⟨?_, ?_⟩
  · refine (Or.inr ?_)
    refine ⟨?_, ?_⟩
    · assumption
    assumption
  exact H
theorem twice {g : Glob} {w : World} {l : List As} {p : Nat} {v : Value} {ws : List Way} (H : Sat g w (Pt p [v] 35 :: Sl 88 2 enW v ws :: l)) (k : Int) (hn : ws.length ≤ 40) (ht : ∀ x ∈ ws, x.text.length ≤ 100) :
    Fc Try.prog 17 #[.pointer (some ⟨p, 0, none⟩), .int .i64 k] w (fun u w' => ∃ e v' ws', u = .int .i64 e ∧ ((e = 0 ∧ (∃ x, ws' = ws ++ [x] ∧ x.text.length ≤ 100) ∧ ws.length < 40) ∨ (e ≠ 0 ∧ ws' = ws)) ∧ Sat g w' (Pt p [v'] 35 :: Sl 88 2 enW v' ws' :: l)) := by
  refine Fc.of Try.func17 rfl (by kernel_rfl) ?_
  refine CallP.mk (Fc.imp (Go.Proofs.Ytepceieglhfnoaa.Air.has H _) ?_)
  rintro _ _ ⟨⟨b1, ⟨rfl, h1⟩⟩, rfl⟩
  refine cI (fun c1 => ?_) (fun c1 => ?_)
  · replace c1 := iff_f h1 (not_t (c1))
    refine Done.mk ?_
    exact ⟨13, v, ws, rfl, .inr ⟨by omega, rfl⟩, H⟩
  replace c1 := h1.1 (not_f (c1))
  refine rFieldAt rfl ?_
  refine rLd (H.at 0 rfl) 0 rfl rfl rfl ?_
  obtain ⟨x1, hx1⟩ : ∃ x, (ws)[(k).toNat]? = some x := ⟨_, List.getElem?_eq_getElem (by omega)⟩
  obtain ⟨b2, o1, E1⟩ := H.elt 1 rfl (k).toNat (by omega)
  refine rIxE E1 (by omega) rfl rfl ?_
  refine rLdA (H.el 1 rfl E1 hx1) 0 rfl rfl rfl ?_
  refine rAllocS H rfl ?_
  clear H
  intro p1 w1 H
  refine rStAS H 0 rfl rfl rfl rfl ?_
  clear H
  intro w2 H
  clear w1
  refine rFieldAt rfl ?_
  refine rLd (H.at 0 rfl) 0 rfl rfl rfl ?_
  refine rFieldAt rfl ?_
  refine rLd (H.at 0 rfl) 1 rfl rfl rfl ?_
  refine H.fronts [2, 2] ?_
  clear H
  intro H
  refine CallP.mk (Fc.imp (Go.Proofs.Ytepceieglhfnoaa.Air.put H _ _ ?_ ?_) ?_)
  · assumption
  · exact Nat.le_trans (ht _ (List.mem_of_getElem? hx1)) (by decide)
  clear H
  rintro _ w1 ⟨e1, ⟨v'1, ⟨ws'1, ⟨rfl, ⟨(⟨h2, ⟨h3, ⟨h4, ⟨h5, h6⟩⟩⟩⟩ | ⟨h7, ⟨h8, h9⟩⟩), H⟩⟩⟩⟩⟩
  · refine Done.mk ?_
    refine ⟨e1, v'1, ws'1, ?_⟩
    refine ⟨?_, ?_⟩
    · refine int_eq ?_
      omega
    refine ⟨?_, ?_⟩
    · exact .inl ⟨by assumption, ⟨_, by assumption, by assumption⟩, by assumption⟩
    refine H.drop 2 ?_
    clear H
    intro H
    exact H
  refine Done.mk ?_
  refine ⟨e1, v'1, ws'1, ?_⟩
  refine ⟨?_, ?_⟩
  · refine int_eq ?_
    omega
  refine ⟨?_, ?_⟩
  · refine (Or.inr ?_)
    refine ⟨?_, ?_⟩
    · assumption
    assumption
  refine H.drop 2 ?_
  clear H
  intro H
  exact H
theorem eq_step {α : Type} {xs ys : List α} {i : Nat} (h : ∀ q, q < i → xs[q]? = ys[q]?) (h1 : xs[i]? = ys[i]?) : ∀ q, q < i + 1 → xs[q]? = ys[q]? := fun q hq => by
  rcases Nat.lt_or_ge q i with h2 | h2
  · exact h q h2
  · rw [show q = i by omega]; exact h1
theorem eq_all {α : Type} {xs ys : List α} {i : Nat} (h1 : xs.length ≤ i) (h2 : ys.length ≤ i) (h : ∀ q, q < i → xs[q]? = ys[q]?) : xs = ys := by
  apply List.ext_getElem?
  intro q
  rcases Nat.lt_or_ge q i with h3 | h3
  · exact h q h3
  · rw [List.getElem?_eq_none (by omega), List.getElem?_eq_none (by omega)]
def turnT (t : List UInt8) (a bits : Int) : List UInt8 := t.set ((vRem a t.length + t.length) % t.length).toNat (UInt8.ofNat ((t[((vRem a t.length + t.length) % t.length).toNat]?.getD 0).toNat ^^^ (bits % 256).toNat))
theorem set_self {α : Type} {xs : List α} {i : Nat} {x : α} (h : xs[i]? = some x) : xs.set i x = xs := by
  apply List.ext_getElem?
  intro q
  rw [List.getElem?_set]
  split
  · rename_i e; subst e; rw [if_pos (List.getElem?_eq_some_iff.1 h).1, h]
  · rfl
theorem rem_bd {a b : Int} (hb : 0 < b) : -b < vRem a b ∧ vRem a b < b := by
  unfold vRem
  have h1 := Int.tmod_lt_of_pos a hb
  have h2 := Int.tmod_lt_of_pos (-a) hb
  rw [Int.neg_tmod] at h2
  omega
theorem rem_nn {a b : Int} (ha : 0 ≤ a) (hb : 0 < b) : 0 ≤ vRem a b ∧ vRem a b < b := by
  unfold vRem
  exact ⟨Int.tmod_nonneg b ha, Int.tmod_lt_of_pos a hb⟩
theorem turn {g : Glob} {w : World} {l : List As} {p : Nat} {v : Value} {ws : List Way} (H : Sat g w (Pt p [v] 35 :: Sl 88 2 enW v ws :: l)) (k a bits : Int) (hn : ws.length ≤ 40) (ht : ∀ x ∈ ws, x.text.length ≤ 100) :
    Fc Try.prog 18 #[.pointer (some ⟨p, 0, none⟩), .int .i64 k, .int .i64 a, .int .i64 bits] w (fun u w' => ∃ e ws', u = .int .i64 e ∧ ((e = 0 ∧ 0 ≤ k ∧ k < ws.length ∧ ∃ x, ws[k.toNat]? = some x ∧ ws' = ws.set k.toNat ⟨x.dest, if x.text.length = 0 then x.text else turnT x.text a bits⟩) ∨ (e = 13 ∧ ¬ (0 ≤ k ∧ k < ws.length) ∧ ws' = ws)) ∧ Sat g w' (Pt p [v] 35 :: Sl 88 2 enW v ws' :: l)) := by
  refine Fc.of Try.func18 rfl (by kernel_rfl) ?_
  refine CallP.mk (Fc.imp (Go.Proofs.Ytepceieglhfnoaa.Air.has H _) ?_)
  rintro _ _ ⟨⟨b1, ⟨rfl, h1⟩⟩, rfl⟩
  refine cI (fun c1 => ?_) (fun c1 => ?_)
  · replace c1 := iff_f h1 (not_t (c1))
    refine Done.mk ?_
    exact ⟨13, ws, rfl, .inr ⟨rfl, by assumption, rfl⟩, H⟩
  replace c1 := h1.1 (not_f (c1))
  refine rFieldAt rfl ?_
  refine rLd (H.at 0 rfl) 0 rfl rfl rfl ?_
  obtain ⟨x1, hx1⟩ : ∃ x, (ws)[(k).toNat]? = some x := ⟨_, List.getElem?_eq_getElem (by omega)⟩
  obtain ⟨b2, o1, E1⟩ := H.elt 1 rfl (k).toNat (by omega)
  refine rIxE E1 (by omega) rfl rfl ?_
  refine rFieldAt rfl ?_
  refine rLd (H.el 1 rfl E1 hx1) 1 rfl rfl rfl ?_
  refine rLenStr rfl ?_
  have htx := ht _ (List.mem_of_getElem? hx1)
  rcases Nat.eq_zero_or_pos x1.text.length with h0 | h0
  · refine cT (vEq_T (by omega)) ?_
    refine Done.mk ?_
    exact ⟨0, ws, rfl, .inl ⟨rfl, c1.1, c1.2, x1, hx1, by rw [if_pos h0]; exact (set_self hx1).symm⟩, H⟩
  · have hb1 := rem_bd (a := a) (b := (x1.text.length : Int)) (by omega)
    have hb2 := Int.emod_nonneg (vRem a x1.text.length + x1.text.length) (b := (x1.text.length : Int)) (by omega)
    have hb3 := Int.emod_lt_of_pos (vRem a x1.text.length + x1.text.length) (b := (x1.text.length : Int)) (by omega)
    refine cF (vEq_F (by omega)) ?_
    refine rFieldAt rfl ?_
    refine rLd (H.el 1 rfl E1 hx1) 1 rfl rfl rfl ?_
    refine rStrBytesS H rfl rfl rfl ?_
    intro v1
    clear H
    intro w1 H
    refine DivP.mk (by omega) ?_
    refine EqP.keep ?_
    refine eqI64 (by omega) ?_
    refine DivP.mk (by omega) ?_
    refine eqRem (by omega) ?_
    obtain ⟨b3, o2, E2⟩ := H.eltb 0 rfl (((vRem a (↑x1.text.length : Int) + (↑x1.text.length : Int)) % (↑x1.text.length : Int)).toNat) (by omega)
    refine rIxE E2 (by omega) rfl rfl ?_
    obtain ⟨x2, hx2⟩ : ∃ x, (x1.text)[((vRem a (↑x1.text.length : Int) + (↑x1.text.length : Int)) % (↑x1.text.length : Int)).toNat]? = some x := ⟨_, List.getElem?_eq_getElem (by omega)⟩
    have hb4 := byteLt hx2
    refine rLd (H.elb 0 rfl E2 hx2) 0 rfl rfl rfl ?_
    refine rConvU8M rfl rfl ?_
    (refine eqXorU8 ((x2.toNat)) ((bits % 256).toNat) (by omega) (by omega) (by omega) (by omega) ?_; intro hB)
    refine rIxE E2 (by omega) rfl rfl ?_
    refine rStB H 0 rfl E2 (by omega) (UInt8.ofNat ((x2.toNat ^^^ (bits % 256).toNat))) rfl (congrArg (Value.int .u8) (byteIs (by omega))) ?_
    clear H
    intro w2 H
    clear w1
    refine rBytesStrB H 0 rfl rfl rfl rfl ?_
    refine rFieldAt rfl ?_
    refine rStE H 2 rfl E1 hx1 1 ⟨(x1).dest, (x1.text.set ((vRem a (↑x1.text.length : Int) + (↑x1.text.length : Int)) % (↑x1.text.length : Int)).toNat (UInt8.ofNat (x2.toNat ^^^ (bits % 256).toNat)))⟩ rfl rfl rfl rfl ?_
    clear H
    intro w1 H
    clear w2
    refine Done.mk ?_
    refine ⟨0, ws.set k.toNat { dest := x1.dest, text := x1.text.set ((vRem a (↑x1.text.length : Int) + (↑x1.text.length : Int)) % (↑x1.text.length : Int)).toNat (UInt8.ofNat (x2.toNat ^^^ (bits % 256).toNat)) }, ?_⟩
    refine ⟨?_, ?_⟩
    · refine int_eq ?_
      omega
    refine ⟨?_, ?_⟩
    · exact .inl ⟨rfl, c1.1, c1.2, x1, hx1, by rw [if_neg (by omega)]; unfold turnT; rw [hx2]; rfl⟩
    refine H.fronts [2, 2] ?_
    clear H
    intro H
    refine H.drop 2 ?_
    clear H
    intro H
    exact H
theorem eqS (w : World) (u v : Value) (xs ys : List (List UInt8)) (hx : Rd (fun s : List UInt8 => [.string (bs s)]) (fun _ => True) 1 w u xs) (hy : Rd (fun s : List UInt8 => [.string (bs s)]) (fun _ => True) 1 w v ys) (hl : xs.length ≤ 1000) :
    Fc Try.prog 20 #[u, v] w (fun r w' => ∃ b, r = .bool b ∧ (b = true ↔ xs = ys) ∧ Sat (froz w) w' []) := by
  refine Fc.of Try.func20 rfl (by kernel_rfl) ?_
  have H := Sat.start w
  have hx := hx.fz
  have hy := hy.fz
  refine rLenF hx rfl ?_
  refine rLenF hy rfl ?_
  refine cI (fun c1 => ?_) (fun c1 => ?_)
  · replace c1 := vNe_t (c1)
    refine Done.mk ?_
    exact ⟨false, rfl, ⟨nofun, fun h => absurd (congrArg List.length h) (by omega)⟩, H⟩
  replace c1 := vNe_f (c1)
  refine rLenF hx rfl ?_
  refine LoopP.rule (α := Nat) (0) (fun x_ => [(14, .int .i64 x_)]) (fun x_ w_ => (x_ ≤ xs.length) ∧ (∀ q, q < x_ → xs[q]? = ys[q]?) ∧ Sat (froz w) w_ ([])) (fun x_ => xs.length - x_) ?_ ?_ ?_
  · repeat first | exact mt_nil | refine mt_cons rfl ?_ | refine mt_i rfl (by first | omega | (simp only; omega) | (simp; omega) | (simp; done)) ?_
  · try simp only
    refine ⟨?_, ?_⟩
    · omega
    refine ⟨?_, ?_⟩
    · (intro q hq; exact absurd hq (Nat.not_lt_zero q))
    exact H
  clear H
  rintro i f_ w_ ⟨hi, he, H⟩
  try simp only at hi he H ⊢
  refine cI (fun c2 => ?_) (fun c2 => ?_)
  · replace c2 := vLt_t (c2)
    refine bk ?_
    obtain ⟨x1, hx1⟩ : ∃ x, (xs)[(i)]? = some x := ⟨_, List.getElem?_eq_getElem (by omega)⟩
    obtain ⟨b1, o1, E1, F1, hok1⟩ := FSl.elt hx hx1
    refine rIxE E1 rfl rfl rfl ?_
    refine rLd (H.fat F1) 0 rfl rfl rfl ?_
    obtain ⟨x2, hx2⟩ : ∃ x, (ys)[(i)]? = some x := ⟨_, List.getElem?_eq_getElem (by omega)⟩
    obtain ⟨b2, o2, E2, F2, hok2⟩ := FSl.elt hy hx2
    refine rIxE E2 rfl rfl rfl ?_
    refine rLd (H.fat F2) 0 rfl rfl rfl ?_
    refine rStrNe ?_
    refine cI (fun c3 => ?_) (fun c3 => ?_)
    · replace c3 := dec_f (not_t (c3))
      refine Done.mk ?_
      refine ⟨false, ?_⟩
      refine ⟨?_, ?_⟩
      · exact congrArg Value.bool (rfl)
      refine ⟨?_, ?_⟩
      · exact ⟨nofun, fun h => absurd (by subst h; exact Option.some.inj (hx1.symm.trans hx2)) (by assumption)⟩
      exact H
    replace c3 := dec_t (not_f (c3))
    refine eqI64 (by omega) ?_
    refine Nxt.mk (i + 1) (mt_i rfl (by first | omega | (simp only; omega) | (simp; omega)) (mt_nil)) ?_ ?_
    · refine ⟨?_, ?_⟩
      · omega
      refine ⟨?_, ?_⟩
      · exact eq_step (by assumption) (by rw [hx1, hx2]; exact congrArg some (by assumption))
      exact H
    omega
  replace c2 := vLt_f (c2)
  refine Done.mk ?_
  exact ⟨true, rfl, ⟨fun _ => eq_all (by omega) (by omega) he, fun _ => rfl⟩, H⟩
end Go.Proofs.Ytepceieglhfnoaa.Air
