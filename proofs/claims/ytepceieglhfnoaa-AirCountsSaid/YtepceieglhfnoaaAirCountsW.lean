/- The law AirCounts. -/
import Derived.Test.YtepceieglhfnoaaAir3
set_option maxRecDepth 100000
set_option maxHeartbeats 4000000
set_option linter.unusedVariables false
set_option linter.unusedSimpArgs false
namespace Go.Proofs.Ytepceieglhfnoaa.Air
open Go Go.Proofs.Ytepceieglhfnoaa.Eng Go.RowKit
theorem rem_pos {a b : Int} (h : 0 ≤ a) : vRem a b = a % b := by unfold vRem; exact Int.tmod_eq_emod_of_nonneg h
theorem rem_ways {a b : Int} (hb : 0 < b) (h : a < 0) : (vRem a b = 0 ∧ a % b = 0) ∨ (vRem a b < 0 ∧ a % b = vRem a b + b) := by
  unfold vRem
  rw [Int.tmod_eq_emod]
  have h1 := Int.emod_nonneg a (Int.ne_of_gt hb)
  have h2 := Int.emod_lt_of_pos a hb
  by_cases hd : b ∣ a
  · left
    have := Int.emod_eq_zero_of_dvd hd
    rw [if_pos (.inr hd)]
    omega
  · right
    rw [if_neg (by rintro (h' | h'); omega; exact hd h')]
    have : (b.natAbs : Int) = b := by omega
    rw [this]
    omega
theorem rest (n m : Int) (hn : I64 n) (hm : 0 < m ∧ m ≤ 9223372036854775807) (w : World) : Fc Try.prog 25 #[.int .i64 n, .int .i64 m] w (fun v w' => v = .int .i64 (n % m) ∧ w = w') := by
  refine Fc.of Try.func25 rfl (by kernel_rfl) ?_
  have H := Sat.start w
  have h1 := Int.emod_nonneg n (Int.ne_of_gt hm.1)
  have h2 := Int.emod_lt_of_pos n hm.1
  rcases Int.lt_or_le n 0 with hlt | hge
  · have hw := rem_ways hm.1 hlt
    refine DivP.mk (by omega) ?_
    refine EqP.keep ?_
    refine cI (fun c1 => ?_) (fun c1 => ?_)
    · replace c1 := vLt_t (c1)
      refine eqI64 (by omega) ?_
      refine Done.mk ?_
      refine ⟨?_, ?_⟩
      · refine int_eq ?_
        omega
      rfl
    replace c1 := vLt_f (c1)
    refine Done.mk ?_
    refine ⟨?_, ?_⟩
    · refine int_eq ?_
      omega
    rfl
  · refine DivP.mk (by omega) ?_
    refine eqRem (by omega) ?_
    refine cF (vLt_F (by assumption)) ?_
    refine Done.mk ?_
    exact ⟨rfl, rfl⟩
theorem step (n m : Int) (hn : I64 n) (hm : 0 < m ∧ m ≤ 9223372036854775807) (w : World) : Fc Try.prog 14 #[.int .i64 n, .int .i64 m] w (fun v w' => v = .int .i64 (n % m) ∧ w = w') := by
  refine Fc.of Try.func14 rfl (by kernel_rfl) ?_
  have H := Sat.start w
  refine CallP.mk (Fc.imp (Go.Proofs.Ytepceieglhfnoaa.Air.rest _ _ ?_ ?_ _) ?_)
  · assumption
  · assumption
  rintro _ _ ⟨rfl, rfl⟩
  refine Done.mk ?_
  exact ⟨rfl, rfl⟩
structure AStep where
  kind : Int
  a : Int
  b : Int
  c : Int
  s : List UInt8
def enA (x : AStep) : List Value := [.int .i64 x.kind, .int .i64 x.a, .int .i64 x.b, .int .i64 x.c, .string (bs x.s)]
def okA (x : AStep) : Prop := I64 x.kind ∧ x.s.length ≤ 9223372036854775807
theorem fitsA (cs : List Value) (h : fitsL [.int .i64, .int .i64, .int .i64, .int .i64, .str] cs) : ∃ x, cs = enA x ∧ okA x := by
  obtain ⟨_, _, rfl, ⟨a, rfl, ha⟩, _, _, rfl, ⟨b, rfl, _⟩, _, _, rfl, ⟨c, rfl, _⟩, _, _, rfl, ⟨d, rfl, _⟩, _, _, rfl, ⟨l, rfl, hl⟩, rfl⟩ := h
  exact ⟨⟨a, b, c, d, l⟩, rfl, ha, hl⟩
/-- What is known of what is on its way. -/
def Good (ws : List Way) : Prop := ws.length ≤ 40 ∧ ∀ x ∈ ws, x.text.length ≤ 100
theorem Good.erase {ws : List Way} (h : Good ws) (i : Nat) : Good (ws.eraseIdx i) := ⟨Nat.le_trans (List.length_eraseIdx_le ..) h.1, fun x hx => h.2 x (List.mem_of_mem_eraseIdx hx)⟩
theorem Good.snoc {ws : List Way} {x : Way} (h : Good ws) (hl : ws.length < 40) (hx : x.text.length ≤ 100) : Good (ws ++ [x]) := ⟨by simp; omega, fun y hy => by
  rcases List.mem_append.1 hy with hy | hy
  · exact h.2 y hy
  · rw [List.mem_singleton.1 hy]; exact hx⟩
theorem turnT_len (t : List UInt8) (a bits : Int) : (turnT t a bits).length = t.length := by unfold turnT; rw [List.length_set]
theorem Good.set {ws : List Way} {x : Way} {i : Nat} (h : Good ws) (hx : x.text.length ≤ 100) : Good (ws.set i x) := ⟨by rw [List.length_set]; exact h.1, fun y hy => by
  rcases List.mem_or_eq_of_mem_set hy with hy | rfl
  · exact h.2 y hy
  · exact hx⟩
section
variable {g : Glob} {w : World} {l : List As} {p : Nat} {v : Value} {ws : List Way}
theorem put2 (H : Sat g w (Pt p [v] 35 :: Sl 88 2 enW v ws :: l)) (to : Int) (t : List UInt8) (hG : Good ws) (ht : t.length ≤ 9223372036854775807) :
    Fc Try.prog 13 #[.pointer (some ⟨p, 0, none⟩), .int .i64 to, .string (bs t)] w (fun u w' => ∃ e v' ws', u = .int .i64 e ∧ ((e = 0 ∧ ws'.length = ws.length + 1) ∨ (e ≠ 0 ∧ ws'.length = ws.length)) ∧ Good ws' ∧ Sat g w' (Pt p [v'] 35 :: Sl 88 2 enW v' ws' :: l)) := by
  refine (put H to t hG.1 ht).imp fun u w' => ?_
  rintro ⟨e, v', ws', h1, h2, h3⟩
  rcases h2 with ⟨h4, rfl, h5, h6, _⟩ | ⟨h4, rfl, _⟩
  · exact ⟨e, v', _, h1, .inl ⟨h4, by simp⟩, hG.snoc h5 h6, h3⟩
  · exact ⟨e, v', _, h1, .inr ⟨h4, rfl⟩, hG, h3⟩
theorem take2 (H : Sat g w (Pt p [v] 35 :: Sl 88 2 enW v ws :: l)) (k : Int) (hG : Good ws) :
    Fc Try.prog 15 #[.pointer (some ⟨p, 0, none⟩), .int .i64 k] w (fun u w' => ∃ a s e v' ws', u = .tuple #[.int .i64 a, .string (bs s), .int .i64 e] ∧ ((e = 0 ∧ ws.length = ws'.length + 1) ∨ (e ≠ 0 ∧ ws'.length = ws.length)) ∧ Good ws' ∧ Sat g w' (Pt p [v'] 35 :: Sl 88 2 enW v' ws' :: l)) := by
  refine (take H k hG.1).imp fun u w' => ?_
  rintro ⟨a, s, e, v', ws', h1, h2, h3⟩
  rcases h2 with ⟨h4, h5, h6, rfl⟩ | ⟨h4, rfl⟩
  · exact ⟨a, s, e, v', _, h1, .inl ⟨h4, by rw [List.length_eraseIdx, if_pos (by omega)]; omega⟩, hG.erase _, h3⟩
  · exact ⟨a, s, e, v', _, h1, .inr ⟨h4, rfl⟩, hG, h3⟩
theorem drop2 (H : Sat g w (Pt p [v] 35 :: Sl 88 2 enW v ws :: l)) (k : Int) (hG : Good ws) :
    Fc Try.prog 16 #[.pointer (some ⟨p, 0, none⟩), .int .i64 k] w (fun u w' => ∃ e v' ws', u = .int .i64 e ∧ ((e = 0 ∧ ws.length = ws'.length + 1) ∨ (e ≠ 0 ∧ ws'.length = ws.length)) ∧ Good ws' ∧ Sat g w' (Pt p [v'] 35 :: Sl 88 2 enW v' ws' :: l)) := by
  refine (drop H k hG.1).imp fun u w' => ?_
  rintro ⟨e, v', ws', h1, h2, h3⟩
  rcases h2 with ⟨h4, h5, h6, rfl⟩ | ⟨h4, rfl⟩
  · exact ⟨e, v', _, h1, .inl ⟨h4, by rw [List.length_eraseIdx, if_pos (by omega)]; omega⟩, hG.erase _, h3⟩
  · exact ⟨e, v', _, h1, .inr ⟨h4, rfl⟩, hG, h3⟩
theorem twice2 (H : Sat g w (Pt p [v] 35 :: Sl 88 2 enW v ws :: l)) (k : Int) (hG : Good ws) :
    Fc Try.prog 17 #[.pointer (some ⟨p, 0, none⟩), .int .i64 k] w (fun u w' => ∃ e v' ws', u = .int .i64 e ∧ ((e = 0 ∧ ws'.length = ws.length + 1) ∨ (e ≠ 0 ∧ ws'.length = ws.length)) ∧ Good ws' ∧ Sat g w' (Pt p [v'] 35 :: Sl 88 2 enW v' ws' :: l)) := by
  refine (twice H k hG.1 hG.2).imp fun u w' => ?_
  rintro ⟨e, v', ws', h1, h2, h3⟩
  rcases h2 with ⟨h4, ⟨x, rfl, h6⟩, h5⟩ | ⟨h4, rfl⟩
  · exact ⟨e, v', _, h1, .inl ⟨h4, by simp⟩, hG.snoc h5 h6, h3⟩
  · exact ⟨e, v', _, h1, .inr ⟨h4, rfl⟩, hG, h3⟩
theorem turn2 (H : Sat g w (Pt p [v] 35 :: Sl 88 2 enW v ws :: l)) (k a bits : Int) (hG : Good ws) :
    Fc Try.prog 18 #[.pointer (some ⟨p, 0, none⟩), .int .i64 k, .int .i64 a, .int .i64 bits] w (fun u w' => ∃ e ws', u = .int .i64 e ∧ ws'.length = ws.length ∧ Good ws' ∧ ((e = 0 ∧ 0 ≤ k ∧ k < ws.length ∧ ∃ x, ws[k.toNat]? = some x ∧ ws' = ws.set k.toNat ⟨x.dest, if x.text.length = 0 then x.text else turnT x.text a bits⟩) ∨ (e = 13 ∧ ¬ (0 ≤ k ∧ k < ws.length) ∧ ws' = ws)) ∧ Sat g w' (Pt p [v] 35 :: Sl 88 2 enW v ws' :: l)) := by
  refine (turn H k a bits hG.1 hG.2).imp fun u w' => ?_
  rintro ⟨e, ws', h1, h2, h3⟩
  rcases h2 with ⟨h4, h5, h6, x, hx, rfl⟩ | ⟨h4, h5, rfl⟩
  · have hxt := hG.2 x (List.mem_of_getElem? hx)
    refine ⟨e, _, h1, by rw [List.length_set], hG.set ?_, .inl ⟨h4, h5, h6, x, hx, rfl⟩, h3⟩
    split
    · exact hxt
    · rw [turnT_len]; exact hxt
  · exact ⟨e, _, h1, rfl, hG, .inr ⟨h4, h5, rfl⟩, h3⟩
end
theorem turnT_twice (t : List UInt8) (a bits : Int) (h : t.length ≠ 0) : turnT (turnT t a bits) a bits = t := by
  obtain ⟨p, hp⟩ : ∃ p, p = ((vRem a t.length + t.length) % t.length).toNat := ⟨_, rfl⟩
  have h1 := Int.emod_nonneg (vRem a t.length + t.length) (b := (t.length : Int)) (by omega)
  have h2 := Int.emod_lt_of_pos (vRem a t.length + t.length) (b := (t.length : Int)) (by omega)
  obtain ⟨x, hx⟩ : ∃ x, t[p]? = some x := ⟨_, List.getElem?_eq_getElem (by omega)⟩
  have e1 : turnT t a bits = t.set p (UInt8.ofNat (x.toNat ^^^ (bits % 256).toNat)) := by unfold turnT; rw [← hp, hx]; rfl
  have e2 : turnT (turnT t a bits) a bits = (turnT t a bits).set p (UInt8.ofNat ((UInt8.ofNat (x.toNat ^^^ (bits % 256).toNat)).toNat ^^^ (bits % 256).toNat)) := by
    show (turnT t a bits).set ((vRem a (turnT t a bits).length + (turnT t a bits).length) % (turnT t a bits).length).toNat _ = _
    rw [turnT_len, ← hp, e1, List.getElem?_set_self (List.getElem?_eq_some_iff.1 hx).1]; rfl
  rw [e2, e1, List.set_set]
  have hb := x.toNat_lt
  have hm : (bits % 256).toNat < 256 := by omega
  have hxr : x.toNat ^^^ (bits % 256).toNat < 256 := Nat.xor_lt_two_pow (n := 8) hb hm
  have : UInt8.ofNat ((UInt8.ofNat (x.toNat ^^^ (bits % 256).toNat)).toNat ^^^ (bits % 256).toNat) = x := by
    rw [UInt8.toNat_ofNat', Nat.mod_eq_of_lt hxr, Nat.xor_assoc, Nat.xor_self, Nat.xor_zero]; simp
  rw [this]
  exact set_self hx
theorem back {ws ws1 ws2 : List Way} {k : Nat} {a b : Int} {x1 x2 : Way} (h1 : ws[k]? = some x1) (e1 : ws1 = ws.set k ⟨x1.dest, if x1.text.length = 0 then x1.text else turnT x1.text a b⟩) (h2 : ws1[k]? = some x2) (e2 : ws2 = ws1.set k ⟨x2.dest, if x2.text.length = 0 then x2.text else turnT x2.text a b⟩) : ws2.map (fun x : Way => x.text) = ws.map (fun x : Way => x.text) := by
  subst e1
  rw [List.getElem?_set_self (List.getElem?_eq_some_iff.1 h1).1] at h2
  obtain rfl := Option.some.inj h2
  rw [e2, List.set_set, List.map_set]
  have : (if (if x1.text.length = 0 then x1.text else turnT x1.text a b).length = 0 then (if x1.text.length = 0 then x1.text else turnT x1.text a b) else turnT (if x1.text.length = 0 then x1.text else turnT x1.text a b) a b) = x1.text := by
    by_cases h : x1.text.length = 0
    · simp [h]
    · rw [if_neg h, turnT_len, if_neg h]; exact turnT_twice _ a b h
  dsimp only
  rw [this]
  exact set_self (by rw [List.getElem?_map, h1]; rfl)
theorem airCounts (w : World) (v : Value) (xs : List AStep) (k a b : Int) (hx : Rd enA okA 5 w v xs) (hy : xs.length * 48 ≤ 140737488351232) (hk : I64 k) (ha : I64 a) (hb : I64 b) : Fc Try.prog 4 #[v, .int .i64 k, .int .i64 a, .int .i64 b] w (fun v w' => v = .bool true ∧ Below w.heap.size w w') := by
  refine Fc.of Try.func4 rfl (by kernel_rfl) ?_
  have H := Sat.start w
  have hx := hx.fz
  refine rAllocS H rfl ?_
  clear H
  intro p1 w1 H
  replace H := H.sl0 (en := enW) (s := 2) 88 (fun _ => rfl)
  refine H.fronts [0, 1] ?_
  clear H
  intro H
  refine CallP.mk (Fc.imp (Go.Proofs.Ytepceieglhfnoaa.Air.put H _ _ ?_ ?_) ?_)
  · (simp only [List.length_append, List.length_set, List.length_cons, List.length_nil]; omega)
  · (simp only [List.length_append, List.length_set, List.length_cons, List.length_nil]; omega)
  clear H
  rintro _ w2 ⟨e1, ⟨v'1, ⟨ws'1, ⟨rfl, ⟨(⟨h1, ⟨h2, ⟨h3, ⟨h4, h5⟩⟩⟩⟩ | ⟨h6, ⟨h7, h8⟩⟩), H⟩⟩⟩⟩⟩
  · refine cT (vNe_T (by omega)) ?_
    refine Done.mk ?_
    refine ⟨?_, ?_⟩
    · exact congrArg Value.bool ((by omega))
    omega
  refine cF (vNe_F (by omega)) ?_
  refine rLenF hx rfl ?_
  have hw1 : ws'1 = [] := by assumption
  subst hw1
  refine LoopP.rule (α := Nat × Value × List Way × Int) (0, v'1, [], 0) (fun x_ => [(23, .int .i64 x_.1), (10, .int .i64 x_.2.2.2)]) (fun x_ w_ => (x_.1 ≤ xs.length) ∧ (Good x_.2.2.1) ∧ (x_.2.2.2 = (x_.2.2.1.length : Int)) ∧ Sat (froz w) w_ ([Pt p1 [x_.2.1] 35, Sl 88 2 enW x_.2.1 x_.2.2.1])) (fun x_ => xs.length - x_.1) ?_ ?_ ?_
  · repeat first | exact mt_nil | refine mt_cons rfl ?_ | refine mt_i rfl (by first | omega | (simp only; omega) | (simp; omega) | (simp; done)) ?_
  · try simp only
    refine ⟨?_, ?_⟩
    · omega
    refine ⟨?_, ?_⟩
    · exact ⟨by simp, nofun⟩
    refine ⟨?_, ?_⟩
    · rfl
    exact H
  clear H v'1
  rintro ⟨i, vo, ws, m⟩ f_ w_ ⟨hi, hG, hm, H⟩
  try simp only at hi hG hm H ⊢
  have hn := hG.1
  have ht := hG.2
  rcases Nat.lt_or_ge i xs.length with hlt | hge
  · obtain ⟨x1, hx1⟩ : ∃ x, xs[i]? = some x := ⟨_, List.getElem?_eq_getElem hlt⟩
    obtain ⟨_, _, _, _, hkx, hsx⟩ := FSl.elt hx hx1
    refine cT (vLt_T (by omega)) ?_
    refine bk ?_
    obtain ⟨b1, o1, E1, F1, hok1⟩ := FSl.elt hx hx1
    refine rIxE E1 rfl rfl rfl ?_
    refine rLdA (H.fat F1) 0 rfl rfl rfl ?_
    refine rAllocS H rfl ?_
    clear H
    intro p2 w3 H
    clear w_
    refine rStAS H 0 rfl rfl rfl rfl ?_
    clear H
    intro w4 H
    clear w3
    refine rFieldAt rfl ?_
    refine rLd (H.at 0 rfl) 0 rfl rfl rfl ?_
    refine CallP.mk (Fc.imp (Go.Proofs.Ytepceieglhfnoaa.Air.step _ _ ?_ ?_ _) ?_)
    · assumption
    · omega
    rintro _ _ ⟨rfl, rfl⟩
    refine bk ?_
    refine cI (fun c1 => ?_) (fun c1 => ?_)
    · replace c1 := vEq_t (c1)
      refine rFieldAt rfl ?_
      refine rLd (H.at 0 rfl) 1 rfl rfl rfl ?_
      refine rFieldAt rfl ?_
      refine rLd (H.at 0 rfl) 4 rfl rfl rfl ?_
      refine H.fronts [2, 2] ?_
      clear H
      intro H
      refine CallP.mk (Fc.imp (Go.Proofs.Ytepceieglhfnoaa.Air.put2 H _ _ ?_ ?_) ?_)
      · assumption
      · assumption
      clear H
      rintro _ w3 ⟨e2, ⟨v'1, ⟨ws'1, ⟨rfl, ⟨(⟨h1, h2⟩ | ⟨h3, h4⟩), ⟨h5, H⟩⟩⟩⟩⟩⟩
      · have hw40 := (by assumption : Good ws'1).1
        have hlm : (List.map (fun x : Way => x.text) ws'1).length = ws'1.length := List.length_map ..
        refine cT (vEq_T (by assumption)) ?_
        refine eqI64 (by omega) ?_
        refine CallP.mk (Fc.imp (Go.Proofs.Ytepceieglhfnoaa.Air.all H ?_) ?_)
        · assumption
        clear H
        rintro v' w5 H
        refine rLenS H 0 rfl rfl ?_
        refine br_f (vNe_F (by omega)) ?_
        refine cF (vLt_F (by omega)) ?_
        refine eqI64 (by omega) ?_
        refine Nxt.mk ((i + 1, v'1, ws'1, m + 1)) (mt_i rfl (by first | omega | (simp only; omega) | (simp; omega)) (mt_cons rfl (mt_nil))) ?_ ?_
        · refine ⟨?_, ?_⟩
          · assumption
          refine ⟨?_, ?_⟩
          · assumption
          refine ⟨?_, ?_⟩
          · (simp only [List.length_append, List.length_set, List.length_cons, List.length_nil]; omega)
          refine H.fronts [2, 2] ?_
          clear H
          intro H
          refine H.firsts 2 ?_
          clear H
          intro H
          exact H
        omega
      have hw40 := (by assumption : Good ws'1).1
      have hlm : (List.map (fun x : Way => x.text) ws'1).length = ws'1.length := List.length_map ..
      refine cF (vEq_F (by assumption)) ?_
      refine CallP.mk (Fc.imp (Go.Proofs.Ytepceieglhfnoaa.Air.all H ?_) ?_)
      · assumption
      clear H
      rintro v' w5 H
      refine rLenS H 0 rfl rfl ?_
      refine br_f (vNe_F (by omega)) ?_
      refine cF (vLt_F (by omega)) ?_
      refine eqI64 (by omega) ?_
      refine Nxt.mk ((i + 1, v'1, ws'1, m)) (mt_i rfl (by first | omega | (simp only; omega) | (simp; omega)) (mt_cons rfl (mt_nil))) ?_ ?_
      · refine ⟨?_, ?_⟩
        · assumption
        refine ⟨?_, ?_⟩
        · assumption
        refine ⟨?_, ?_⟩
        · (simp only [List.length_append, List.length_set, List.length_cons, List.length_nil]; omega)
        refine H.fronts [2, 2] ?_
        clear H
        intro H
        refine H.firsts 2 ?_
        clear H
        intro H
        exact H
      omega
    replace c1 := vEq_f (c1)
    refine cI (fun c2 => ?_) (fun c2 => ?_)
    · replace c2 := vEq_t (c2)
      refine rFieldAt rfl ?_
      refine rLd (H.at 0 rfl) 1 rfl rfl rfl ?_
      refine H.fronts [2, 2] ?_
      clear H
      intro H
      refine CallP.mk (Fc.imp (Go.Proofs.Ytepceieglhfnoaa.Air.take2 H _ ?_) ?_)
      · assumption
      clear H
      rintro _ w3 ⟨a1, ⟨s1, ⟨e2, ⟨v'1, ⟨ws'1, ⟨rfl, ⟨(⟨h1, h2⟩ | ⟨h3, h4⟩), ⟨h5, H⟩⟩⟩⟩⟩⟩⟩⟩
      · have hw40 := (by assumption : Good ws'1).1
        have hlm : (List.map (fun x : Way => x.text) ws'1).length = ws'1.length := List.length_map ..
        refine cT (vEq_T (by assumption)) ?_
        refine eqI64 (by omega) ?_
        refine CallP.mk (Fc.imp (Go.Proofs.Ytepceieglhfnoaa.Air.all H ?_) ?_)
        · assumption
        clear H
        rintro v' w5 H
        refine rLenS H 0 rfl rfl ?_
        refine br_f (vNe_F (by omega)) ?_
        refine cF (vLt_F (by omega)) ?_
        refine eqI64 (by omega) ?_
        refine Nxt.mk ((i + 1, v'1, ws'1, m - 1)) (mt_i rfl (by first | omega | (simp only; omega) | (simp; omega)) (mt_cons rfl (mt_nil))) ?_ ?_
        · refine ⟨?_, ?_⟩
          · assumption
          refine ⟨?_, ?_⟩
          · assumption
          refine ⟨?_, ?_⟩
          · (simp only [List.length_append, List.length_set, List.length_cons, List.length_nil]; omega)
          refine H.fronts [2, 2] ?_
          clear H
          intro H
          refine H.firsts 2 ?_
          clear H
          intro H
          exact H
        omega
      have hw40 := (by assumption : Good ws'1).1
      have hlm : (List.map (fun x : Way => x.text) ws'1).length = ws'1.length := List.length_map ..
      refine cF (vEq_F (by assumption)) ?_
      refine CallP.mk (Fc.imp (Go.Proofs.Ytepceieglhfnoaa.Air.all H ?_) ?_)
      · assumption
      clear H
      rintro v' w5 H
      refine rLenS H 0 rfl rfl ?_
      refine br_f (vNe_F (by omega)) ?_
      refine cF (vLt_F (by omega)) ?_
      refine eqI64 (by omega) ?_
      refine Nxt.mk ((i + 1, v'1, ws'1, m)) (mt_i rfl (by first | omega | (simp only; omega) | (simp; omega)) (mt_cons rfl (mt_nil))) ?_ ?_
      · refine ⟨?_, ?_⟩
        · assumption
        refine ⟨?_, ?_⟩
        · assumption
        refine ⟨?_, ?_⟩
        · (simp only [List.length_append, List.length_set, List.length_cons, List.length_nil]; omega)
        refine H.fronts [2, 2] ?_
        clear H
        intro H
        refine H.firsts 2 ?_
        clear H
        intro H
        exact H
      omega
    replace c2 := vEq_f (c2)
    refine cI (fun c3 => ?_) (fun c3 => ?_)
    · replace c3 := vEq_t (c3)
      refine rFieldAt rfl ?_
      refine rLd (H.at 0 rfl) 1 rfl rfl rfl ?_
      refine H.fronts [2, 2] ?_
      clear H
      intro H
      refine CallP.mk (Fc.imp (Go.Proofs.Ytepceieglhfnoaa.Air.drop2 H _ ?_) ?_)
      · assumption
      clear H
      rintro _ w3 ⟨e2, ⟨v'1, ⟨ws'1, ⟨rfl, ⟨(⟨h1, h2⟩ | ⟨h3, h4⟩), ⟨h5, H⟩⟩⟩⟩⟩⟩
      · have hw40 := (by assumption : Good ws'1).1
        have hlm : (List.map (fun x : Way => x.text) ws'1).length = ws'1.length := List.length_map ..
        refine cT (vEq_T (by assumption)) ?_
        refine eqI64 (by omega) ?_
        refine CallP.mk (Fc.imp (Go.Proofs.Ytepceieglhfnoaa.Air.all H ?_) ?_)
        · assumption
        clear H
        rintro v' w5 H
        refine rLenS H 0 rfl rfl ?_
        refine br_f (vNe_F (by omega)) ?_
        refine cF (vLt_F (by omega)) ?_
        refine eqI64 (by omega) ?_
        refine Nxt.mk ((i + 1, v'1, ws'1, m - 1)) (mt_i rfl (by first | omega | (simp only; omega) | (simp; omega)) (mt_cons rfl (mt_nil))) ?_ ?_
        · refine ⟨?_, ?_⟩
          · assumption
          refine ⟨?_, ?_⟩
          · assumption
          refine ⟨?_, ?_⟩
          · (simp only [List.length_append, List.length_set, List.length_cons, List.length_nil]; omega)
          refine H.fronts [2, 2] ?_
          clear H
          intro H
          refine H.firsts 2 ?_
          clear H
          intro H
          exact H
        omega
      have hw40 := (by assumption : Good ws'1).1
      have hlm : (List.map (fun x : Way => x.text) ws'1).length = ws'1.length := List.length_map ..
      refine cF (vEq_F (by assumption)) ?_
      refine CallP.mk (Fc.imp (Go.Proofs.Ytepceieglhfnoaa.Air.all H ?_) ?_)
      · assumption
      clear H
      rintro v' w5 H
      refine rLenS H 0 rfl rfl ?_
      refine br_f (vNe_F (by omega)) ?_
      refine cF (vLt_F (by omega)) ?_
      refine eqI64 (by omega) ?_
      refine Nxt.mk ((i + 1, v'1, ws'1, m)) (mt_i rfl (by first | omega | (simp only; omega) | (simp; omega)) (mt_cons rfl (mt_nil))) ?_ ?_
      · refine ⟨?_, ?_⟩
        · assumption
        refine ⟨?_, ?_⟩
        · assumption
        refine ⟨?_, ?_⟩
        · (simp only [List.length_append, List.length_set, List.length_cons, List.length_nil]; omega)
        refine H.fronts [2, 2] ?_
        clear H
        intro H
        refine H.firsts 2 ?_
        clear H
        intro H
        exact H
      omega
    replace c3 := vEq_f (c3)
    refine cI (fun c4 => ?_) (fun c4 => ?_)
    · replace c4 := vEq_t (c4)
      refine rFieldAt rfl ?_
      refine rLd (H.at 0 rfl) 1 rfl rfl rfl ?_
      refine H.fronts [2, 2] ?_
      clear H
      intro H
      refine CallP.mk (Fc.imp (Go.Proofs.Ytepceieglhfnoaa.Air.twice2 H _ ?_) ?_)
      · assumption
      clear H
      rintro _ w3 ⟨e2, ⟨v'1, ⟨ws'1, ⟨rfl, ⟨(⟨h1, h2⟩ | ⟨h3, h4⟩), ⟨h5, H⟩⟩⟩⟩⟩⟩
      · have hw40 := (by assumption : Good ws'1).1
        have hlm : (List.map (fun x : Way => x.text) ws'1).length = ws'1.length := List.length_map ..
        refine cT (vEq_T (by assumption)) ?_
        refine eqI64 (by omega) ?_
        refine CallP.mk (Fc.imp (Go.Proofs.Ytepceieglhfnoaa.Air.all H ?_) ?_)
        · assumption
        clear H
        rintro v' w5 H
        refine rLenS H 0 rfl rfl ?_
        refine br_f (vNe_F (by omega)) ?_
        refine cF (vLt_F (by omega)) ?_
        refine eqI64 (by omega) ?_
        refine Nxt.mk ((i + 1, v'1, ws'1, m + 1)) (mt_i rfl (by first | omega | (simp only; omega) | (simp; omega)) (mt_cons rfl (mt_nil))) ?_ ?_
        · refine ⟨?_, ?_⟩
          · assumption
          refine ⟨?_, ?_⟩
          · assumption
          refine ⟨?_, ?_⟩
          · (simp only [List.length_append, List.length_set, List.length_cons, List.length_nil]; omega)
          refine H.fronts [2, 2] ?_
          clear H
          intro H
          refine H.firsts 2 ?_
          clear H
          intro H
          exact H
        omega
      have hw40 := (by assumption : Good ws'1).1
      have hlm : (List.map (fun x : Way => x.text) ws'1).length = ws'1.length := List.length_map ..
      refine cF (vEq_F (by assumption)) ?_
      refine CallP.mk (Fc.imp (Go.Proofs.Ytepceieglhfnoaa.Air.all H ?_) ?_)
      · assumption
      clear H
      rintro v' w5 H
      refine rLenS H 0 rfl rfl ?_
      refine br_f (vNe_F (by omega)) ?_
      refine cF (vLt_F (by omega)) ?_
      refine eqI64 (by omega) ?_
      refine Nxt.mk ((i + 1, v'1, ws'1, m)) (mt_i rfl (by first | omega | (simp only; omega) | (simp; omega)) (mt_cons rfl (mt_nil))) ?_ ?_
      · refine ⟨?_, ?_⟩
        · assumption
        refine ⟨?_, ?_⟩
        · assumption
        refine ⟨?_, ?_⟩
        · (simp only [List.length_append, List.length_set, List.length_cons, List.length_nil]; omega)
        refine H.fronts [2, 2] ?_
        clear H
        intro H
        refine H.firsts 2 ?_
        clear H
        intro H
        exact H
      omega
    replace c4 := vEq_f (c4)
    refine cT (vEq_T (by omega)) ?_
    refine rFieldAt rfl ?_
    refine rLd (H.at 0 rfl) 1 rfl rfl rfl ?_
    refine rFieldAt rfl ?_
    refine rLd (H.at 0 rfl) 2 rfl rfl rfl ?_
    refine rFieldAt rfl ?_
    refine rLd (H.at 0 rfl) 3 rfl rfl rfl ?_
    refine H.fronts [2, 2] ?_
    clear H
    intro H
    refine CallP.mk (Fc.imp (Go.Proofs.Ytepceieglhfnoaa.Air.turn2 H _ _ _ ?_) ?_)
    · assumption
    clear H
    rintro _ w3 ⟨e2, ⟨ws'1, ⟨rfl, ⟨h1, ⟨h2, ⟨(⟨h3, ⟨h4, ⟨h5, ⟨x2, ⟨h9, h10⟩⟩⟩⟩⟩ | ⟨h11, ⟨h12, h13⟩⟩), H⟩⟩⟩⟩⟩⟩
    · have hw40 := (by assumption : Good ws'1).1
      have hlm : (List.map (fun x : Way => x.text) ws'1).length = ws'1.length := List.length_map ..
      refine CallP.mk (Fc.imp (Go.Proofs.Ytepceieglhfnoaa.Air.all H ?_) ?_)
      · assumption
      clear H
      rintro v' w5 H
      refine rLenS H 0 rfl rfl ?_
      refine br_f (vNe_F (by omega)) ?_
      refine cF (vLt_F (by omega)) ?_
      refine eqI64 (by omega) ?_
      refine Nxt.mk ((i + 1, vo, ws'1, m)) (mt_i rfl (by first | omega | (simp only; omega) | (simp; omega)) (mt_cons rfl (mt_nil))) ?_ ?_
      · refine ⟨?_, ?_⟩
        · assumption
        refine ⟨?_, ?_⟩
        · assumption
        refine ⟨?_, ?_⟩
        · (simp only [List.length_append, List.length_set, List.length_cons, List.length_nil]; omega)
        refine H.fronts [2, 2] ?_
        clear H
        intro H
        refine H.firsts 2 ?_
        clear H
        intro H
        exact H
      omega
    have hw40 := (by assumption : Good ws'1).1
    have hlm : (List.map (fun x : Way => x.text) ws'1).length = ws'1.length := List.length_map ..
    refine CallP.mk (Fc.imp (Go.Proofs.Ytepceieglhfnoaa.Air.all H ?_) ?_)
    · assumption
    clear H
    rintro v' w5 H
    refine rLenS H 0 rfl rfl ?_
    refine br_f (vNe_F (by omega)) ?_
    refine cF (vLt_F (by omega)) ?_
    refine eqI64 (by omega) ?_
    refine Nxt.mk ((i + 1, vo, ws'1, m)) (mt_i rfl (by first | omega | (simp only; omega) | (simp; omega)) (mt_cons rfl (mt_nil))) ?_ ?_
    · refine ⟨?_, ?_⟩
      · assumption
      refine ⟨?_, ?_⟩
      · assumption
      refine ⟨?_, ?_⟩
      · (simp only [List.length_append, List.length_set, List.length_cons, List.length_nil]; omega)
      refine H.fronts [2, 2] ?_
      clear H
      intro H
      refine H.firsts 2 ?_
      clear H
      intro H
      exact H
    omega
  · refine cF (vLt_F (by omega)) ?_
    refine CallP.mk (Fc.imp (Go.Proofs.Ytepceieglhfnoaa.Air.all H ?_) ?_)
    · assumption
    clear H
    rintro v' w3 H
    refine H.fronts [2, 2] ?_
    clear H
    intro H
    refine CallP.mk (Fc.imp (Go.Proofs.Ytepceieglhfnoaa.Air.turn2 H _ _ _ ?_) ?_)
    · assumption
    clear H
    rintro _ w4 ⟨e2, ⟨ws'1, ⟨rfl, ⟨h1, ⟨h2, ⟨(⟨h3, ⟨h4, ⟨h5, ⟨x1, ⟨h9, h10⟩⟩⟩⟩⟩ | ⟨h11, ⟨h12, h13⟩⟩), H⟩⟩⟩⟩⟩⟩
    · refine CallP.mk (Fc.imp (Go.Proofs.Ytepceieglhfnoaa.Air.turn2 H _ _ _ ?_) ?_)
      · assumption
      clear H
      rintro _ w5 ⟨e3, ⟨ws'2, ⟨rfl, ⟨h11, ⟨h12, ⟨(⟨h13, ⟨h14, ⟨h15, ⟨x2, ⟨h16, h17⟩⟩⟩⟩⟩ | ⟨h18, ⟨h19, h20⟩⟩), H⟩⟩⟩⟩⟩⟩
      · refine br_t (vEq_T (by omega)) ?_
        refine br_t (vLe_T (by assumption)) ?_
        refine rBoolEq rfl ?_
        refine br (fun c1 => ?_) (fun c1 => ?_)
        · refine CallP.mk (Fc.imp (Go.Proofs.Ytepceieglhfnoaa.Air.all H ?_) ?_)
          · omega
          clear H
          rintro v' w6 H
          refine CallP.mk (Fc.imp (Go.Proofs.Ytepceieglhfnoaa.Air.eqS _ _ _ _ _ (H.rdo 0 rfl ?_) (H.rdo 3 rfl ?_) ?_) ?_)
          · (simp; done)
          · (simp; done)
          · (simp; omega)
          rintro _ w7 ⟨b1, ⟨rfl, ⟨h18, H'⟩⟩⟩
          refine H.mergeK H' ?_
          clear H H'
          intro H
          refine Done.mk ?_
          refine ⟨?_, ?_⟩
          · exact congrArg Value.bool ((by assumption : b1 = true ↔ List.map (fun x : Way => x.text) ws'2 = List.map (fun x : Way => x.text) ws).2 (back (k := k.toNat) (a := a) (b := b) (x1 := x1) (x2 := x2) (by assumption) (by assumption) (by assumption) (by assumption)))
          exact H.finish
        refine Done.mk ?_
        (exfalso; rw [vEq_T (by omega), vLt_T (by omega)] at c1; cases c1; done)
      refine br_t (vEq_T (by omega)) ?_
      refine br_t (vLe_T (by assumption)) ?_
      refine rBoolEq rfl ?_
      refine br_t ((by omega)) ?_
      refine CallP.mk (Fc.imp (Go.Proofs.Ytepceieglhfnoaa.Air.all H ?_) ?_)
      · omega
      clear H
      rintro v' w6 H
      refine CallP.mk (Fc.imp (Go.Proofs.Ytepceieglhfnoaa.Air.eqS _ _ _ _ _ (H.rdo 0 rfl ?_) (H.rdo 3 rfl ?_) ?_) ?_)
      · omega
      · omega
      · omega
      rintro _ w7 ⟨b1, ⟨rfl, ⟨h13, H'⟩⟩⟩
      refine H.mergeK H' ?_
      clear H H'
      intro H
      refine Done.mk ?_
      refine ⟨?_, ?_⟩
      · exact congrArg Value.bool (h13.2 (by omega))
      omega
    refine CallP.mk (Fc.imp (Go.Proofs.Ytepceieglhfnoaa.Air.turn2 H _ _ _ ?_) ?_)
    · assumption
    clear H
    rintro _ w5 ⟨e3, ⟨ws'2, ⟨rfl, ⟨h3, ⟨h4, ⟨(⟨h5, ⟨h9, ⟨h10, ⟨x1, ⟨h14, h15⟩⟩⟩⟩⟩ | ⟨h16, ⟨h17, h18⟩⟩), H⟩⟩⟩⟩⟩⟩
    · refine br_t (vEq_T (by omega)) ?_
      refine br_t (vLe_T (by assumption)) ?_
      refine rBoolEq rfl ?_
      refine br_t ((by omega)) ?_
      refine CallP.mk (Fc.imp (Go.Proofs.Ytepceieglhfnoaa.Air.all H ?_) ?_)
      · omega
      clear H
      rintro v' w6 H
      refine CallP.mk (Fc.imp (Go.Proofs.Ytepceieglhfnoaa.Air.eqS _ _ _ _ _ (H.rdo 0 rfl ?_) (H.rdo 3 rfl ?_) ?_) ?_)
      · omega
      · omega
      · omega
      rintro _ w7 ⟨b1, ⟨rfl, ⟨h16, H'⟩⟩⟩
      refine H.mergeK H' ?_
      clear H H'
      intro H
      refine Done.mk ?_
      refine ⟨?_, ?_⟩
      · exact congrArg Value.bool (h16.2 (by omega))
      omega
    refine br_t (vEq_T (by omega)) ?_
    refine br (fun c1 => ?_) (fun c1 => ?_)
    · replace c1 := vLe_t (c1)
      refine rBoolEq rfl ?_
      refine br (fun c2 => ?_) (fun c2 => ?_)
      · refine CallP.mk (Fc.imp (Go.Proofs.Ytepceieglhfnoaa.Air.all H ?_) ?_)
        · omega
        clear H
        rintro v' w6 H
        refine CallP.mk (Fc.imp (Go.Proofs.Ytepceieglhfnoaa.Air.eqS _ _ _ _ _ (H.rdo 0 rfl ?_) (H.rdo 3 rfl ?_) ?_) ?_)
        · (simp; done)
        · (simp; done)
        · (simp; omega)
        rintro _ w7 ⟨b1, ⟨rfl, ⟨h5, H'⟩⟩⟩
        refine H.mergeK H' ?_
        clear H H'
        intro H
        refine Done.mk ?_
        refine ⟨?_, ?_⟩
        · exact congrArg Value.bool ((by assumption : b1 = true ↔ List.map (fun x : Way => x.text) ws'2 = List.map (fun x : Way => x.text) ws).2 (by rw [show ws'2 = ws'1 from by assumption, show ws'1 = ws from by assumption]))
        exact H.finish
      refine Done.mk ?_
      (exfalso; rw [vEq_F (by omega), vLt_F (by omega)] at c2; cases c2; done)
    replace c1 := vLe_f (c1)
    refine rBoolEq rfl ?_
    refine br_t (bf_T (vEq_F (by omega))) ?_
    refine CallP.mk (Fc.imp (Go.Proofs.Ytepceieglhfnoaa.Air.all H ?_) ?_)
    · omega
    clear H
    rintro v' w6 H
    refine CallP.mk (Fc.imp (Go.Proofs.Ytepceieglhfnoaa.Air.eqS _ _ _ _ _ (H.rdo 0 rfl ?_) (H.rdo 3 rfl ?_) ?_) ?_)
    · (simp; done)
    · (simp; done)
    · (simp; omega)
    rintro _ w7 ⟨b1, ⟨rfl, ⟨h5, H'⟩⟩⟩
    refine H.mergeK H' ?_
    clear H H'
    intro H
    refine Done.mk ?_
    refine ⟨?_, ?_⟩
    · exact congrArg Value.bool ((by assumption : b1 = true ↔ List.map (fun x : Way => x.text) ws'2 = List.map (fun x : Way => x.text) ws).2 (by rw [show ws'2 = ws'1 from by assumption, show ws'1 = ws from by assumption]))
    exact H.finish
end Go.Proofs.Ytepceieglhfnoaa.Air
