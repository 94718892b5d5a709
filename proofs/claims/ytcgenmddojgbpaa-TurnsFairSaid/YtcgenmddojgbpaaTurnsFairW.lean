/- The law TurnsFair. -/
import Derived.Test.YtcgenmddojgbpaaRing3
import Derived.Test.YtcgenmddojgbpaaOpen
set_option maxRecDepth 100000
set_option maxHeartbeats 4000000
set_option linter.unusedVariables false
set_option linter.unusedSimpArgs false
namespace Go.Proofs.Ytcgenmddojgbpaa.Ring
open Go Go.Proofs.Ytcgenmddojgbpaa.Eng Go.RowKit
open Ref
def okI (_ : Int) : Prop := True
theorem fitsI (cs : List Value) (h : fitsL [.int .i64] cs) : ∃ x, cs = enI x ∧ okI x := by
  obtain ⟨_, _, rfl, ⟨a, rfl, _⟩, rfl⟩ := h
  exact ⟨a, rfl, trivial⟩
def insI (acc : List Int) (x : Int) : List Int := if x ∈ acc then acc else acc ++ [x]
def ddl (l : List Int) : List Int := l.foldl insI []
theorem ddl_succ {l : List Int} {k : Nat} {x : Int} (h : l[k]? = some x) : ddl (l.take (k + 1)) = insI (ddl (l.take k)) x := by
  unfold ddl; rw [List.take_add_one, h, List.foldl_append]; rfl
theorem ddl_in {l : List Int} {k : Nat} {x : Int} (h : l[k]? = some x) (hm : x ∈ ddl (l.take k)) : ddl (l.take (k + 1)) = ddl (l.take k) := by
  rw [ddl_succ h]; exact if_pos hm
theorem ddl_out {l : List Int} {k : Nat} {x : Int} (h : l[k]? = some x) (hm : ¬ x ∈ ddl (l.take k)) : ddl (l.take (k + 1)) = ddl (l.take k) ++ [x] := by
  rw [ddl_succ h]; exact if_neg hm
theorem ddl_ok (l : List Int) : (ddl l).Nodup ∧ (ddl l).length ≤ l.length := by
  have : ∀ (l acc : List Int), acc.Nodup → (l.foldl insI acc).Nodup ∧ (l.foldl insI acc).length ≤ acc.length + l.length := by
    intro l
    induction l with
    | nil => intro acc h; exact ⟨h, Nat.le_refl _⟩
    | cons a l ih =>
      intro acc h
      rw [List.foldl_cons, List.length_cons]
      have h2 : (insI acc a).Nodup ∧ (insI acc a).length ≤ acc.length + 1 := by
        unfold insI
        split
        · exact ⟨h, by omega⟩
        · rename_i hn
          rw [List.nodup_append]
          refine ⟨⟨h, by simp, fun b hb c hc e => ?_⟩, by simp⟩
          obtain rfl : c = a := by simpa using hc
          exact hn (e ▸ hb)
      have := ih _ h2.1
      exact ⟨this.1, by omega⟩
  have := this l [] List.nodup_nil
  simpa [ddl] using this
theorem idn_map {ns : Nds} {i : Nat} (h : i < ns.length) : (ns.map (·.2))[i]? = some (idn ns i) := by
  rw [List.getElem?_map, ns_get h]; rfl
theorem idn_out {ns : Nds} {L : List Int} {x : Int} (h : ns.map (·.2) = L) (hx : ¬ x ∈ L) : ∀ j, j < ns.length → idn ns j ≠ x := fun j hj e =>
  hx (by rw [← h, ← e]; exact List.mem_of_getElem? (idn_map hj))
theorem idn_in {ns : Nds} {L : List Int} {x : Int} (h : ns.map (·.2) = L) (hx : x ∈ L) : ∃ i, i < ns.length ∧ idn ns i = x ∧ ∀ j, j < i → idn ns j ≠ x := by
  have key : ∀ n, (∃ i, i < n ∧ i < ns.length ∧ idn ns i = x) → ∃ i, i < ns.length ∧ idn ns i = x ∧ ∀ j, j < i → idn ns j ≠ x := by
    intro n
    induction n with
    | zero => rintro ⟨i, hi, _⟩; omega
    | succ n ih =>
      rintro ⟨i, hi, h1, h2⟩
      by_cases hc : ∃ i, i < n ∧ i < ns.length ∧ idn ns i = x
      · exact ih hc
      · exact ⟨i, h1, h2, fun j hj e => hc ⟨j, by omega, by omega, e⟩⟩
  rw [← h] at hx
  obtain ⟨i, he⟩ := List.mem_iff_getElem?.1 hx
  have hi' : i < ns.length := by simpa using (List.getElem?_eq_some_iff.1 he).1
  rw [idn_map hi'] at he
  exact key (i + 1) ⟨i, by omega, hi', Option.some.inj he⟩
def rotI (L : List Int) : List Int := match L with
  | [] => []
  | x :: r => r ++ [x]
theorem rot_map (ns : Nds) : (rot ns).map (·.2) = rotI (ns.map (·.2)) := by
  cases ns with
  | nil => rfl
  | cons x r => simp [rot, rotI]
theorem rot_step {L : List Int} {i : Nat} {x : Int} (h : L[i]? = some x) : rotI (L.drop i ++ L.take i) = L.drop (i + 1) ++ L.take (i + 1) := by
  obtain ⟨hl, rfl⟩ := List.getElem?_eq_some_iff.1 h
  rw [List.drop_eq_getElem_cons hl, List.take_add_one, h]
  show List.drop (i + 1) L ++ List.take i L ++ [L[i]] = List.drop (i + 1) L ++ (List.take i L ++ [L[i]])
  rw [List.append_assoc]
def seenF (L : List Int) (i : Nat) (x : Int) : Option Int := if x ∈ L.take i then some 2 else if x ∈ L then some 1 else none
theorem seen_step {L : List Int} {i : Nat} {x : Int} (h : L[i]? = some x) (y : Int) : (if y = x then some 2 else seenF L i y) = seenF L (i + 1) y := by
  have hm : ∀ y, y ∈ L.take (i + 1) ↔ y ∈ L.take i ∨ y = x := fun y => by rw [List.take_add_one, h]; simp
  unfold seenF
  by_cases e : y = x
  · rw [if_pos e, if_pos ((hm y).2 (.inr e))]
  · rw [if_neg e]
    by_cases e2 : y ∈ L.take i
    · rw [if_pos e2, if_pos ((hm y).2 (.inl e2))]
    · rw [if_neg e2, if_neg (fun h => ((hm y).1 h).elim e2 e)]
theorem seen_at {L : List Int} {i : Nat} {x : Int} (hn : L.Nodup) (h : L[i]? = some x) : seenF L i x = some 1 := by
  unfold seenF
  rw [if_neg, if_pos (List.mem_of_getElem? h)]
  intro hm
  obtain ⟨j, he⟩ := List.mem_iff_getElem?.1 hm
  have hj := (List.getElem?_eq_some_iff.1 he).1
  rw [List.length_take] at hj
  rw [List.getElem?_take, if_pos (by omega)] at he
  have hij := (List.getElem?_inj (by omega) hn).1 (he.trans h.symm)
  omega
theorem turnsFair (w : World) (v : Value) (l : List Int) (k : Int) (hx : Rd enI okI 1 w v l) (hl : l.length * 8 ≤ 140737488351232) (hk : I64 k) : Fc Try.prog 5 #[v, .int .i64 k] w (fun v w' => v = .bool true ∧ Below w.heap.size w w') := by
  refine Fc.of Try.func5 rfl (by kernel_rfl) ?_
  have H := (Sat.start w).nd0 98
  have hx := hx.fz
  refine rAllocS H rfl ?_
  clear H
  intro p1 w1 H
  have H2 : Sat (froz w) w1 (Pt p1 [fsv [], .int .i64 ((0 : Nat) : Int)] 39 :: Nd nm0 98 :: []) := H
  clear H
  have H := H2
  clear H2
  have hR0 : RgOk nm0 [] := ⟨List.nodup_nil, fun i hi => absurd hi (Nat.not_lt_zero i)⟩
  have hn0 : 0 = List.length ([] : Nds) := rfl
  have hid0 : ∀ j, j < List.length ([] : Nds) → idn [] j ≠ 0 := fun j hj => absurd hj (Nat.not_lt_zero j)
  refine CallP.mk (Fc.imp (Go.Proofs.Ytcgenmddojgbpaa.Ring.addN H ?_ ?_ ?_ _ ?_) ?_)
  · assumption
  · assumption
  · omega
  · assumption
  clear H
  rintro _ w2 ⟨q1, ⟨m'1, ⟨ns'1, ⟨n'1, ⟨rfl, ⟨h1, ⟨h2, ⟨h3, H⟩⟩⟩⟩⟩⟩⟩⟩
  have hl1 : ns'1.length = 1 := (by rw [h1]; rfl)
  have hx1 : idn ns'1 0 = 0 := (by rw [h1]; rfl)
  refine CallP.mk (Fc.imp (Go.Proofs.Ytcgenmddojgbpaa.Ring.drop1 H ?_ ?_ ?_ _ ?_) ?_)
  · assumption
  · assumption
  · assumption
  · assumption
  clear H
  rintro _ w3 ⟨m'2, ⟨ns'2, ⟨n'2, ⟨rfl, ⟨h4, ⟨h5, ⟨h6, H⟩⟩⟩⟩⟩⟩⟩
  refine cF rfl ?_
  refine rLenF hx rfl ?_
  obtain rfl := List.eq_nil_of_length_eq_zero h4
  clear hR0 hn0 hid0 h1 h2 h3 hl1 hx1
  have hdl := ddl_ok l
  refine LoopP.rule (α := Nat × Nm × Nds × Nat) (0, m'2, [], n'2) (fun x_ => [(30, .int .i64 x_.1)]) (fun x_ w_ => (x_.1 ≤ l.length) ∧ (RgOk x_.2.1 x_.2.2.1) ∧ (x_.2.2.2 = x_.2.2.1.length) ∧ (x_.2.2.1.map (·.2) = ddl (l.take x_.1)) ∧ Sat (froz w) w_ ([Pt p1 [fsv x_.2.2.1, .int .i64 x_.2.2.2] 39, Nd x_.2.1 98])) (fun x_ => l.length - x_.1) ?_ ?_ ?_
  · repeat first | exact mt_nil | refine mt_cons rfl ?_ | refine mt_i rfl (by first | omega | (simp only; omega) | (simp; omega) | (simp; done)) ?_
  · try simp only
    refine ⟨?_, ?_⟩
    · omega
    refine ⟨?_, ?_⟩
    · assumption
    refine ⟨?_, ?_⟩
    · assumption
    refine ⟨?_, ?_⟩
    · rfl
    exact H
  clear H
  rintro ⟨j, m, ns, n⟩ f_ w_ ⟨hj, hR, hn, hd, H⟩
  try simp only at hj hR hn hd H ⊢
  clear h6 h5
  have hdj := ddl_ok (l.take j)
  rw [← hd, List.length_take, List.length_map] at hdj
  rcases Nat.lt_or_ge j l.length with hlt | hge
  · obtain ⟨x, hxj⟩ : ∃ x, l[j]? = some x := ⟨_, List.getElem?_eq_getElem hlt⟩
    by_cases hm : x ∈ ddl (l.take j)
    · have hd2 := ddl_in hxj hm
      rw [← hd] at hd2
      obtain ⟨i, hi, hid, hno⟩ := idn_in hd hm
      refine cT (vLt_T (by omega)) ?_
      refine bk ?_
      obtain ⟨b1, o1, E1, F1, hok1⟩ := FSl.elt hx hxj
      refine rIxE E1 rfl rfl rfl ?_
      refine rLd (H.fat F1) 0 rfl rfl rfl ?_
      refine CallP.mk (Fc.imp (Go.Proofs.Ytcgenmddojgbpaa.Ring.addY H ?_ ?_ ?_ _ (i) hi ?_ ?_) ?_)
      · assumption
      · assumption
      · omega
      · assumption
      · assumption
      clear H
      rintro _ w4 ⟨rfl, H⟩
      refine eqI64 (by omega) ?_
      refine Nxt.mk ((j + 1, m, ns, n)) (mt_i rfl (by first | omega | (simp only; omega) | (simp; omega)) (mt_nil)) ?_ ?_
      · refine ⟨?_, ?_⟩
        · assumption
        refine ⟨?_, ?_⟩
        · assumption
        refine ⟨?_, ?_⟩
        · assumption
        refine ⟨?_, ?_⟩
        · exact hd2.symm
        exact H
      omega
    · have hd2 := ddl_out hxj hm
      rw [← hd] at hd2
      have hid := idn_out hd hm
      refine cT (vLt_T (by omega)) ?_
      refine bk ?_
      obtain ⟨b1, o1, E1, F1, hok1⟩ := FSl.elt hx hxj
      refine rIxE E1 rfl rfl rfl ?_
      refine rLd (H.fat F1) 0 rfl rfl rfl ?_
      refine CallP.mk (Fc.imp (Go.Proofs.Ytcgenmddojgbpaa.Ring.addN H ?_ ?_ ?_ _ ?_) ?_)
      · assumption
      · assumption
      · omega
      · assumption
      clear H
      rintro _ w4 ⟨q2, ⟨m'3, ⟨ns'2, ⟨n'3, ⟨rfl, ⟨h1, ⟨h2, ⟨h3, H⟩⟩⟩⟩⟩⟩⟩⟩
      refine eqI64 (by omega) ?_
      refine Nxt.mk ((j + 1, m'3, ns'2, n'3)) (mt_i rfl (by first | omega | (simp only; omega) | (simp; omega)) (mt_nil)) ?_ ?_
      · refine ⟨?_, ?_⟩
        · assumption
        refine ⟨?_, ?_⟩
        · assumption
        refine ⟨?_, ?_⟩
        · assumption
        refine ⟨?_, ?_⟩
        · (rw [h1, List.map_append, hd2]; rfl)
        exact H
      omega
  · rw [List.take_of_length_le hge] at hd
    generalize hL : ddl l = L at hd hdl
    have hLl : L.length = ns.length := by rw [← hd, List.length_map]
    refine cF (vLt_F (by omega)) ?_
    refine CallP.mk (Fc.imp (Go.Proofs.Ytcgenmddojgbpaa.Ring.all H ?_ ?_ ?_) ?_)
    · assumption
    · assumption
    · omega
    clear H
    rintro v' w4 ⟨ys1, ⟨h1, ⟨h2, H⟩⟩⟩
    refine rMakeMap H ?_
    intro b1
    clear H
    intro w5 H
    clear w4
    refine rLenF hx rfl ?_
    rename Value => vh
    refine LoopP.rule (α := Nat × MF × Nat) (0, fun _ => none, 0) (fun x_ => [(41, .int .i64 x_.1)]) (fun x_ w_ => (x_.1 ≤ l.length) ∧ (x_.2.2 = (ddl (l.take x_.1)).length) ∧ (∀ x, x_.2.1 x = if x ∈ ddl (l.take x_.1) then some 1 else none) ∧ Sat (froz w) w_ ([Mp b1 x_.2.1 x_.2.2, Sl 3 1 enI vh ys1, Pt p1 [fsv ns, .int .i64 n] 39, Nd m 98])) (fun x_ => l.length - x_.1) ?_ ?_ ?_
    · repeat first | exact mt_nil | refine mt_cons rfl ?_ | refine mt_i rfl (by first | omega | (simp only; omega) | (simp; omega) | (simp; done)) ?_
    · try simp only
      refine ⟨?_, ?_⟩
      · omega
      refine ⟨?_, ?_⟩
      · assumption
      refine ⟨?_, ?_⟩
      · exact fun x => rfl
      exact H
    clear H
    rintro ⟨q, f, z⟩ f_ w_ ⟨hq, hz, hf, H⟩
    try simp only at hq hz hf H ⊢
    rcases Nat.lt_or_ge q l.length with hlt | hge2
    · obtain ⟨x, hxq⟩ : ∃ x, l[q]? = some x := ⟨_, List.getElem?_eq_getElem hlt⟩
      by_cases hm : x ∈ ddl (l.take q)
      · have hd2 := ddl_in hxq hm
        have hfx : f x = some 1 := (hf x).trans (if_pos hm)
        have hN : (if f x = none then z + 1 else z) = (ddl (l.take (q + 1))).length := by rw [hfx, if_neg nofun, hd2]; exact hz
        have hF : ∀ y, upd f x (some 1) y = if y ∈ ddl (l.take (q + 1)) then some 1 else none := fun y => by
          unfold upd
          rw [hd2]
          split
          · rename_i e; rw [e, if_pos hm]
          · exact hf y
        refine cT (vLt_T (by omega)) ?_
        refine bk ?_
        obtain ⟨b2, o1, E1, F1, hok1⟩ := FSl.elt hx hxq
        refine rIxE E1 rfl rfl rfl ?_
        refine rLd (H.fat F1) 0 rfl rfl rfl ?_
        refine rMapPut H 0 rfl rfl rfl ?_
        intro n1 hn1
        clear H
        intro w4 H
        clear w_
        refine eqI64 (by omega) ?_
        refine Nxt.mk ((q + 1, fun x_1 => Decidable.rec (fun h => (fun x => f x_1) h) (fun h => (fun x => some 1) h) (x_1.instDecidableEq x), n1)) (mt_i rfl (by first | omega | (simp only; omega) | (simp; omega)) (mt_nil)) ?_ ?_
        · refine ⟨?_, ?_⟩
          · assumption
          refine ⟨?_, ?_⟩
          · exact hn1.trans hN
          refine ⟨?_, ?_⟩
          · exact hF
          exact H
        omega
      · have hd2 := ddl_out hxq hm
        have hfx : f x = none := (hf x).trans (if_neg hm)
        have hN : (if f x = none then z + 1 else z) = (ddl (l.take (q + 1))).length := by rw [hfx, if_pos rfl, hd2, List.length_append, List.length_singleton, hz]
        have hF : ∀ y, upd f x (some 1) y = if y ∈ ddl (l.take (q + 1)) then some 1 else none := fun y => by
          unfold upd
          rw [hd2]
          split
          · rename_i e; rw [e, if_pos (by simp)]
          · rename_i e; rw [hf y]; simp [e]
        refine cT (vLt_T (by omega)) ?_
        refine bk ?_
        obtain ⟨b2, o1, E1, F1, hok1⟩ := FSl.elt hx hxq
        refine rIxE E1 rfl rfl rfl ?_
        refine rLd (H.fat F1) 0 rfl rfl rfl ?_
        refine rMapPut H 0 rfl rfl rfl ?_
        intro n1 hn1
        clear H
        intro w4 H
        clear w_
        refine eqI64 (by omega) ?_
        refine Nxt.mk ((q + 1, fun x_1 => Decidable.rec (fun h => (fun x => f x_1) h) (fun h => (fun x => some 1) h) (x_1.instDecidableEq x), n1)) (mt_i rfl (by first | omega | (simp only; omega) | (simp; omega)) (mt_nil)) ?_ ?_
        · refine ⟨?_, ?_⟩
          · assumption
          refine ⟨?_, ?_⟩
          · exact hn1.trans hN
          refine ⟨?_, ?_⟩
          · exact hF
          exact H
        omega
    · rw [List.take_of_length_le hge2, hL] at hz hf
      rw [hd] at h1
      subst h1
      clear hL hge hdj
      refine cF (vLt_F (by omega)) ?_
      refine rLenS H 1 rfl rfl ?_
      refine rMapLen H 0 rfl rfl ?_
      refine cF (vNe_F (by omega)) ?_
      refine rLenS H 1 rfl rfl ?_
      refine LoopP.rule (α := Nat × Nds × MF × Nat) (0, ns, f, z) (fun x_ => [(55, .int .i64 x_.1)]) (fun x_ w_ => (x_.1 ≤ ys1.length) ∧ (RgOk m x_.2.1) ∧ (n = x_.2.1.length) ∧ (x_.2.1.map (·.2) = ys1.drop x_.1 ++ ys1.take x_.1) ∧ (∀ x, x_.2.2.1 x = seenF ys1 x_.1 x) ∧ Sat (froz w) w_ ([Mp b1 x_.2.2.1 x_.2.2.2, Sl 3 1 enI vh ys1, Pt p1 [fsv x_.2.1, .int .i64 n] 39, Nd m 98])) (fun x_ => ys1.length - x_.1) ?_ ?_ ?_
      · repeat first | exact mt_nil | refine mt_cons rfl ?_ | refine mt_i rfl (by first | omega | (simp only; omega) | (simp; omega) | (simp; done)) ?_
      · try simp only
        refine ⟨?_, ?_⟩
        · omega
        refine ⟨?_, ?_⟩
        · assumption
        refine ⟨?_, ?_⟩
        · assumption
        refine ⟨?_, ?_⟩
        · (rw [hd]; simp)
        refine ⟨?_, ?_⟩
        · assumption
        exact H
      clear H
      rintro ⟨i, ns2, f2, z2⟩ f_ w_ ⟨hi, hR2, hn2, hd3, hf2, H⟩
      try simp only at hi hR2 hn2 hd3 hf2 H ⊢
      clear hf hd hR hn
      rcases Nat.lt_or_ge i ys1.length with hlt | hge3
      · obtain ⟨x, hxi⟩ : ∃ x, ys1[i]? = some x := ⟨_, List.getElem?_eq_getElem hlt⟩
        have hlen2 : ns2.length = ys1.length := by have := congrArg List.length hd3; rw [List.length_map, List.length_append, List.length_drop, List.length_take] at this; omega
        have hx0 : idn ns2 0 = x := by
          have h2 := idn_map (ns := ns2) (i := 0) (by omega)
          rw [hd3, List.getElem?_append_left (by rw [List.length_drop]; omega), List.getElem?_drop, Nat.add_zero, hxi] at h2
          exact (Option.some.inj h2).symm
        have hx1 : idn ns2 ((0 : Int).toNat) = x := hx0
        have hd0 : (0 : Int) = 0 % (n : Int) := by rw [Int.zero_emod]
        have hfx : f2 (idn ns2 0) = some 1 := by rw [hx0, hf2 x]; exact seen_at hdl.1 hxi
        have hn0 : 0 < ns2.length := by omega
        have hd4 : (rot ns2).map (·.2) = ys1.drop (i + 1) ++ ys1.take (i + 1) := by rw [rot_map, hd3, rot_step hxi]
        have hf4 : ∀ y, upd f2 (idn ns2 0) (some 2) y = seenF ys1 (i + 1) y := fun y => by
          rw [hx0, ← seen_step hxi y, ← hf2 y]; rfl
        refine cT (vLt_T (by omega)) ?_
        refine bk ?_
        refine H.fronts [3, 3] ?_
        clear H
        intro H
        refine CallP.mk (Fc.imp (Go.Proofs.Ytcgenmddojgbpaa.Ring.pick H ?_ ?_ ?_ ?_ _ _ hd0) ?_)
        · assumption
        · assumption
        · assumption
        · omega
        clear H
        rintro _ w4 ⟨rfl, H⟩
        refine CallP.mk (Fc.imp (Go.Proofs.Ytcgenmddojgbpaa.Ring.next H ?_ ?_ ?_) ?_)
        · assumption
        · assumption
        · assumption
        clear H
        rintro _ w6 ⟨ns'2, ⟨rfl, ⟨h1, ⟨h3, ⟨h5, H⟩⟩⟩⟩⟩
        refine br_f (vNe_F (by omega)) ?_
        obtain ⟨b2, o1, E1⟩ := H.elt 3 rfl (i) (by omega)
        refine rIxE E1 rfl rfl rfl ?_
        refine rLd (H.el 3 rfl E1 hxi) 0 rfl rfl rfl ?_
        refine br_f (vNe_F (by assumption)) ?_
        refine rMapGetY1 H 2 rfl hfx rfl rfl rfl ?_
        refine cF (vNe_F (by omega)) ?_
        refine rMapPut H 2 rfl rfl rfl ?_
        intro n1 hn1
        clear H
        intro w7 H
        clear w6
        refine eqI64 (by omega) ?_
        refine Nxt.mk ((i + 1, ns'2, fun x => Decidable.rec (fun h => (fun x_1 => f2 x) h) (fun h => (fun x => some 2) h) (x.instDecidableEq (idn ns2 0)), n1)) (mt_i rfl (by first | omega | (simp only; omega) | (simp; omega)) (mt_nil)) ?_ ?_
        · refine ⟨?_, ?_⟩
          · assumption
          refine ⟨?_, ?_⟩
          · assumption
          refine ⟨?_, ?_⟩
          · assumption
          refine ⟨?_, ?_⟩
          · (rw [h1]; exact hd4)
          refine ⟨?_, ?_⟩
          · exact hf4
          refine H.fronts [1, 1, 3, 3] ?_
          clear H
          intro H
          exact H
        omega
      · rw [List.drop_eq_nil_of_le hge3, List.take_of_length_le hge3, List.nil_append] at hd3
        clear hf2
        have hlen2 : ns2.length = ys1.length := by rw [← hd3, List.length_map]
        rcases Nat.eq_zero_or_pos ys1.length with h0 | h0
        · refine cF (vLt_F (by omega)) ?_
          refine H.fronts [3, 3] ?_
          clear H
          intro H
          refine CallP.mk (Fc.imp (Go.Proofs.Ytcgenmddojgbpaa.Ring.all H ?_ ?_ ?_) ?_)
          · assumption
          · assumption
          · omega
          clear H
          rintro v' w4 ⟨ys2, ⟨h1, ⟨h3, H⟩⟩⟩
          refine CallP.mk (Fc.imp (Go.Proofs.Ytcgenmddojgbpaa.Ref.eqI _ _ _ _ _ (H.rdo 0 rfl ?_) (H.rdo 4 rfl ?_) ?_) ?_)
          · (simp; done)
          · (simp; done)
          · omega
          rintro _ w6 ⟨b2, ⟨rfl, ⟨h5, H'⟩⟩⟩
          refine H.mergeK H' ?_
          clear H H'
          intro H
          refine cI (fun c1 => ?_) (fun c1 => ?_)
          · replace c1 := iff_f h5 (not_t (c1))
            refine Done.mk ?_
            exact absurd (h1.trans hd3) c1
          replace c1 := h5.1 (not_f (c1))
          refine H.fronts [2, 2] ?_
          clear H
          intro H
          refine CallP.mk (Fc.imp (Go.Proofs.Ytcgenmddojgbpaa.Ring.pick0 H ?_ ?_ ?_ _) ?_)
          · assumption
          · assumption
          · omega
          clear H
          rintro _ w7 ⟨rfl, H⟩
          refine rLenS H 4 rfl rfl ?_
          refine cT (vEq_T (by omega)) ?_
          refine Done.mk ?_
          exact ⟨rfl, H.finish⟩
        · obtain ⟨d0, hdk⟩ : ∃ d, d = k % (n : Int) := ⟨_, rfl⟩
          have hp := Int.emod_nonneg k (show (n : Int) ≠ 0 by omega)
          have hp2 := Int.emod_lt_of_pos k (show 0 < (n : Int) by omega)
          have hnl : (ys1.length : Int) = n := by omega
          have hn0 : 0 < ns2.length := by omega
          have hkk : d0 = (k % (ys1.length : Int)) % (n : Int) := by rw [hnl, Int.emod_emod, hdk]
          have hkl : k % (ys1.length : Int) = d0 := by rw [hnl, hdk]
          rw [← hdk] at hp hp2
          have hix : ys1[(k % (ys1.length : Int)).toNat]? = some (idn ns2 d0.toNat) := by rw [hkl, ← hd3]; exact idn_map (by omega)
          refine cF (vLt_F (by omega)) ?_
          refine H.fronts [3, 3] ?_
          clear H
          intro H
          refine CallP.mk (Fc.imp (Go.Proofs.Ytcgenmddojgbpaa.Ring.all H ?_ ?_ ?_) ?_)
          · assumption
          · assumption
          · omega
          clear H
          rintro v' w4 ⟨ys2, ⟨h1, ⟨h3, H⟩⟩⟩
          refine CallP.mk (Fc.imp (Go.Proofs.Ytcgenmddojgbpaa.Ref.eqI _ _ _ _ _ (H.rdo 0 rfl ?_) (H.rdo 4 rfl ?_) ?_) ?_)
          · (simp; done)
          · (simp; done)
          · omega
          rintro _ w6 ⟨b2, ⟨rfl, ⟨h5, H'⟩⟩⟩
          refine H.mergeK H' ?_
          clear H H'
          intro H
          refine cI (fun c1 => ?_) (fun c1 => ?_)
          · replace c1 := iff_f h5 (not_t (c1))
            refine Done.mk ?_
            exact absurd (h1.trans hd3) c1
          replace c1 := h5.1 (not_f (c1))
          refine H.fronts [2, 2] ?_
          clear H
          intro H
          refine CallP.mk (Fc.imp (Go.Proofs.Ytcgenmddojgbpaa.Ring.pick H ?_ ?_ ?_ ?_ _ _ hdk) ?_)
          · assumption
          · assumption
          · assumption
          · omega
          clear H
          rintro _ w7 ⟨rfl, H⟩
          refine rLenS H 4 rfl rfl ?_
          refine cF (vEq_F (by omega)) ?_
          refine rLenS H 4 rfl rfl ?_
          refine CallP.mk (Fc.imp (Go.Proofs.Ytcgenmddojgbpaa.Ref.rest _ _ ?_ ?_ _) ?_)
          · assumption
          · omega
          rintro _ _ ⟨rfl, rfl⟩
          refine CallP.mk (Fc.imp (Go.Proofs.Ytcgenmddojgbpaa.Ring.pick H ?_ ?_ ?_ ?_ _ _ hkk) ?_)
          · assumption
          · assumption
          · assumption
          · omega
          clear H
          rintro _ w8 ⟨rfl, H⟩
          refine br_t (vEq_T (by omega)) ?_
          refine CallP.mk (Fc.imp (Go.Proofs.Ytcgenmddojgbpaa.Ref.rest _ _ ?_ ?_ _) ?_)
          · assumption
          · omega
          rintro _ _ ⟨rfl, rfl⟩
          obtain ⟨b3, o1, E1⟩ := H.elt 4 rfl (k % (↑ys1.length : Int)).toNat (by omega)
          refine rIxE E1 (by omega) rfl rfl ?_
          refine rLd (H.el 4 rfl E1 hix) 0 rfl rfl rfl ?_
          refine Done.mk ?_
          refine ⟨?_, ?_⟩
          · exact congrArg Value.bool (vEq_T (by omega))
          exact H.finish
end Go.Proofs.Ytcgenmddojgbpaa.Ring
