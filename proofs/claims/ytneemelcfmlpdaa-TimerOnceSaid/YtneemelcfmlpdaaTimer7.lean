/- The clock made of steps. -/
import Derived.Test.YtneemelcfmlpdaaTimer6
import Derived.Test.YtneemelcfmlpdaaOpen
set_option maxRecDepth 100000
set_option maxHeartbeats 4000000
set_option linter.unusedVariables false
set_option linter.unusedSimpArgs false
namespace Go.Proofs.Ytneemelcfmlpdaa.Timer
open Go Go.Proofs.Ytneemelcfmlpdaa.Eng Go.RowKit
structure TS where
  kind : Int
  a : Int
  b : Int
def enS (x : TS) : List Value := [.int .i64 x.kind, .int .i64 x.a, .int .i64 x.b]
def okS (_ : TS) : Prop := True
theorem fitsS (cs : List Value) (h : fitsL [.int .i64, .int .i64, .int .i64] cs) : ∃ x, cs = enS x ∧ okS x := by
  obtain ⟨_, _, rfl, ⟨a, rfl, _⟩, _, _, rfl, ⟨b, rfl, _⟩, _, _, rfl, ⟨d, rfl, _⟩, rfl⟩ := h
  exact ⟨⟨a, b, d⟩, rfl, trivial⟩
theorem set2_perm {xs : List Tm} {i j : Nat} {a b : Tm} (h1 : xs[i]? = some a) (h2 : xs[j]? = some b) : ((xs.set i b).set j a).Perm xs := by
  obtain ⟨hi, ha⟩ := List.getElem?_eq_some_iff.1 h1
  obtain ⟨hj, hb⟩ := List.getElem?_eq_some_iff.1 h2
  rw [← ha, ← hb]
  exact List.set_set_perm hi hj
theorem swapT_perm (xs : List Tm) (i j : Nat) : (swapT xs i j).Perm xs := by
  unfold swapT
  split
  · rename_i a b h1 h2; exact set2_perm h1 h2
  · exact .refl _
theorem upF_perm : ∀ (n : Nat) (xs : List Tm) (j : Nat), (upF n xs j).Perm xs := by
  intro n
  induction n with
  | zero => intro xs j; exact .refl _
  | succ n ih =>
    intro xs j
    rw [upF]
    split
    · exact .refl _
    · exact (ih _ _).trans (swapT_perm _ _ _)
theorem downF_perm : ∀ (k : Nat) (xs : List Tm) (i n : Nat), (downF k xs i n).1.Perm xs := by
  intro k
  induction k with
  | zero => intro xs i n; exact .refl _
  | succ k ih =>
    intro xs i n
    rw [downF]
    split
    · exact (ih _ _ _).trans (swapT_perm _ _ _)
    · exact .refl _
theorem pushT_perm (xs : List Tm) (x : Tm) : (pushT xs x).Perm (xs ++ [x]) := upF_perm _ _ _
theorem popT_mem {xs : List Tm} {x : Tm} (h : x ∈ popT xs) : x ∈ xs :=
  ((downF_perm _ _ _ _).trans (swapT_perm _ _ _)).mem_iff.1 (List.mem_of_mem_take h)
theorem pushT_mem {xs : List Tm} {x y : Tm} (h : y ∈ pushT xs x) : y ∈ xs ∨ y = x := by
  have := (pushT_perm xs x).mem_iff.1 h
  simpa using this
theorem tickT_mem : ∀ (n : Nat) (now : Int) (xs : List Tm), xs.length = n → (∀ x ∈ (tickT now xs).2, x ∈ xs) ∧ (∀ t, (tickT now xs).2[0]? = some t → now < t.due) ∧ (tickT now xs).2.length ≤ n ∧ (tickT now xs).1.length ≤ n := by
  intro n
  induction n with
  | zero =>
    intro now xs h
    obtain rfl := List.eq_nil_of_length_eq_zero h
    exact ⟨fun x h => (by cases h), fun t h => (by cases h), Nat.le_refl _, Nat.le_refl _⟩
  | succ n ih =>
    intro now xs h
    obtain ⟨t, ht⟩ : ∃ t, xs[0]? = some t := ⟨_, List.getElem?_eq_getElem (by omega)⟩
    by_cases hd : t.due ≤ now
    · rw [tickT_go ht hd]
      obtain ⟨a1, a2, a3, a4⟩ := ih now (popT xs) (by rw [popT_len]; omega)
      exact ⟨fun x h => popT_mem (a1 x h), a2, Nat.le_succ_of_le a3, by show (tickT now (popT xs)).1.length + 1 ≤ _; omega⟩
    · rw [tickT_stop ht hd]
      refine ⟨fun x h => h, fun u hu => ?_, Nat.le_of_eq h, Nat.zero_le _⟩
      rw [ht] at hu
      obtain rfl := Option.some.inj hu
      omega
structure Cl where
  now : Int
  turn : Int
  set : List Tm
def setC (s : Cl) (id wait : Int) : Cl := ⟨s.now, (setT s.now s.turn s.set id wait).2.1, (setT s.now s.turn s.set id wait).2.2⟩
def tkC (s : Cl) (n : Int) : Cl := ⟨(tickC s.now s.set n).2.2.1, s.turn, (tickC s.now s.set n).2.2.2⟩
def stepC (s : Cl) (x : TS) : Cl := if 0 < x.kind then tkC (setC s x.a x.b) (x.kind % 8) else setC s x.a x.b
structure ClOk (s : Cl) (k : Nat) : Prop where
  now : 0 ≤ s.now ∧ s.now ≤ 1099511627776
  turn : 0 ≤ s.turn ∧ s.turn ≤ k
  len : s.set.length ≤ 32
  due : ∀ t ∈ s.set, t.due ≤ 1099511627776
  head : ∀ t, s.set[0]? = some t → s.now < t.due
theorem setT_ways {P : Int × Int × List Tm → Prop} {now turn : Int} {xs : List Tm} {id wait : Int} (h1 : ∀ e, e ≠ 0 → P (e, turn, xs)) (h2 : ¬ wait < 1 → ¬ 1099511627776 < wait → fnd xs id < 0 → xs.length ≠ 32 → wait ≤ 1099511627776 - now → P (0, turn + 1, pushT xs ⟨id, now + wait, turn + 1⟩)) : P (setT now turn xs id wait) := by
  unfold setT
  split
  · exact h1 _ (by decide)
  split
  · exact h1 _ (by decide)
  split
  · exact h1 _ (by decide)
  split
  · exact h1 _ (by decide)
  exact h2 (by omega) (by omega) (by omega) (by omega) (by omega)
/-- What is at the head after a push: the head before, or the new one. -/
theorem upF_head : ∀ (n : Nat) (xs : List Tm) (j : Nat) (t : Tm), (upF n xs j)[0]? = some t → xs[0]? = some t ∨ xs[j]? = some t := by
  intro n
  induction n with
  | zero => intro xs j t h; exact .inl h
  | succ n ih =>
    intro xs j t h
    rw [upF] at h
    split at h
    · exact .inl h
    · rename_i hc
      have hj : j ≠ 0 := fun h => hc (.inl h)
      have hq : lessAt xs j ((j - 1) / 2) ≠ false := fun h => hc (.inr h)
      unfold lessAt at hq
      split at hq
      · rename_i a b ha hb
        rcases ih _ _ _ h with h1 | h1
        · rw [swapT_of hb ha, List.getElem?_set_ne (by omega), List.getElem?_set] at h1
          split at h1
          · split at h1
            · right; rw [← h1]; exact ha
            · cases h1
          · exact .inl h1
        · have hlt := (List.getElem?_eq_some_iff.1 hb).1
          rw [swapT_of hb ha, List.getElem?_set_ne (by omega), List.getElem?_set_self hlt] at h1
          right; rw [← h1]; exact ha
      · exact absurd rfl hq
theorem pushT_head {xs : List Tm} {x t : Tm} (h : (pushT xs x)[0]? = some t) : xs[0]? = some t ∨ t = x := by
  have hx : (xs ++ [x])[xs.length]? = some x := by rw [List.getElem?_append_right (Nat.le_refl _)]; simp
  rcases upF_head _ _ _ _ h with h1 | h1
  · cases xs with
    | nil => right; exact (Option.some.inj h1).symm
    | cons a r => left; simpa using h1
  · rw [hx] at h1; exact .inr (Option.some.inj h1).symm
theorem ClOk.set {s : Cl} {k : Nat} (h : ClOk s k) (id wait : Int) : ClOk (setC s id wait) (k + 1) := by
  unfold setC
  refine setT_ways (P := fun r => ClOk ⟨s.now, r.2.1, r.2.2⟩ (k + 1)) (fun e _ => ⟨h.now, ⟨h.turn.1, by have := h.turn.2; show s.turn ≤ _; omega⟩, h.len, h.due, h.head⟩) fun h1 h2 h3 h4 h5 => ?_
  refine ⟨h.now, ⟨by have := h.turn.1; show 0 ≤ s.turn + 1; omega, by have := h.turn.2; show s.turn + 1 ≤ _; omega⟩, by show (pushT _ _).length ≤ 32; rw [pushT_len]; have := h.len; omega, fun t ht => ?_, fun t ht => ?_⟩
  · rcases pushT_mem ht with h6 | h6
    · exact h.due t h6
    · rw [h6]; show s.now + wait ≤ _; omega
  · rcases pushT_head ht with h6 | h6
    · exact h.head t h6
    · rw [h6]; show s.now < s.now + wait; omega
theorem ClOk.tick {s : Cl} {k : Nat} (h : ClOk s k) (n : Int) : ClOk (tkC s n) k := by
  unfold tkC tickC
  split
  · exact h
  · rename_i hc
    obtain ⟨a1, a2, a3, _⟩ := tickT_mem _ (s.now + n) s.set rfl
    have h1 := h.now
    exact ⟨⟨by show 0 ≤ s.now + n; omega, by show s.now + n ≤ _; omega⟩, h.turn, Nat.le_trans a3 h.len, fun t ht => h.due t (a1 t ht), a2⟩
theorem ClOk.step {s : Cl} {k : Nat} (h : ClOk s k) (x : TS) : ClOk (stepC s x) (k + 1) := by
  unfold stepC
  split
  · exact (h.set _ _).tick _
  · exact h.set _ _
def clockL (l : List TS) : Cl := l.foldl stepC ⟨0, 0, []⟩
theorem clockL_nil : clockL [] = ⟨0, 0, []⟩ := rfl
theorem clockL_ok (l : List TS) : ClOk (clockL l) l.length := by
  unfold clockL
  have : ∀ (l : List TS) (s : Cl) (k : Nat), ClOk s k → ClOk (l.foldl stepC s) (k + l.length) := by
    intro l
    induction l with
    | nil => intro s k h; exact h
    | cons a l ih => intro s k h; rw [List.foldl_cons, List.length_cons, show k + (l.length + 1) = (k + 1) + l.length by omega]; exact ih _ _ (h.step a)
  have h0 : ClOk ⟨0, 0, []⟩ 0 := ⟨⟨by decide, by decide⟩, ⟨by decide, by decide⟩, Nat.zero_le _, fun t h => (by cases h), fun t h => (by cases h)⟩
  simpa using this l _ 0 h0
theorem clockL_succ {l : List TS} {k : Nat} {x : TS} (h : l[k]? = some x) : clockL (l.take (k + 1)) = stepC (clockL (l.take k)) x := by
  unfold clockL
  rw [List.take_add_one, h, List.foldl_append]; rfl
theorem stepC_a {n t e t' : Int} {xs ys : List Tm} {x : TS} (h : ¬ 0 < x.kind) (h1 : setT n t xs x.a x.b = (e, t', ys)) : stepC ⟨n, t, xs⟩ x = ⟨n, t', ys⟩ := by
  unfold stepC setC; rw [if_neg h, h1]
theorem stepC_b {n t e t' n' e' : Int} {os : List Int} {xs ys zs : List Tm} {x : TS} (h : 0 < x.kind) (h1 : setT n t xs x.a x.b = (e, t', ys)) (h2 : tickC n ys (x.kind % 8) = (e', os, n', zs)) : stepC ⟨n, t, xs⟩ x = ⟨n', t', zs⟩ := by
  unfold stepC setC tkC; rw [if_pos h, h1, h2]
theorem clock (w : World) (v : Value) (l : List TS) (hx : Rd enS okS 3 w v l) (hl : l.length ≤ 100000000000000) (n0 t0 : Int) (x0 : List Tm) (hc : clockL l = ⟨n0, t0, x0⟩) : Fc Try.prog 6 #[v] w (fun r w' => ∃ c vc, r = .pointer (some ⟨c, 0, none⟩) ∧ Sat (froz w) w' [Pt c [.int .i64 n0, .int .i64 t0, vc] 48, Sl 52 3 enT vc x0]) := by
  refine Fc.of Try.func6 rfl (by kernel_rfl) ?_
  have H := Sat.start w
  have hx := hx.fz
  refine CallP.mk (Fc.imp (Go.Proofs.Ytneemelcfmlpdaa.Timer.new _) ?_)
  rintro _ w1 ⟨c1, ⟨v1, ⟨rfl, H'⟩⟩⟩
  refine H.mergeK H' ?_
  clear H H'
  intro H
  refine rPtrNil rfl ?_
  refine cF rfl ?_
  refine rLenF hx rfl ?_
  refine LoopP.rule (α := Nat × Int × Int × List Tm × Value) (0, 0, 0, [], v1) (fun x_ => [(11, .int .i64 x_.1)]) (fun x_ w_ => (x_.1 ≤ l.length) ∧ (clockL (l.take x_.1) = ⟨x_.2.1, x_.2.2.1, x_.2.2.2.1⟩) ∧ Sat (froz w) w_ ([Pt c1 [.int .i64 x_.2.1, .int .i64 x_.2.2.1, x_.2.2.2.2] 48, Sl 52 3 enT x_.2.2.2.2 x_.2.2.2.1])) (fun x_ => l.length - x_.1) ?_ ?_ ?_
  · repeat first | exact mt_nil | refine mt_cons rfl ?_ | refine mt_i rfl (by first | omega | (simp only; omega) | (simp; omega) | (simp; done)) ?_
  · try simp only
    refine ⟨?_, ?_⟩
    · omega
    refine ⟨?_, ?_⟩
    · exact clockL_nil
    exact H
  clear H
  rintro ⟨k, nw, tu, xs, vc⟩ f_ w_ ⟨hk, hs, H⟩
  try simp only at hk hs H ⊢
  have hok := clockL_ok (l.take k)
  rw [hs] at hok
  have ho1 := hok.now
  have ho2 := hok.turn
  have ho3 := hok.len
  simp only [List.length_take] at ho1 ho2 ho3
  clear hok
  rcases Nat.lt_or_ge k l.length with hlt | hge
  · obtain ⟨a, ha⟩ : ∃ a, l[k]? = some a := ⟨_, List.getElem?_eq_getElem hlt⟩
    have hsu := clockL_succ ha
    rw [hs] at hsu
    by_cases hkd : 0 < a.kind
    · refine cT (vLt_T (by omega)) ?_
      refine bk ?_
      obtain ⟨b1, o1, E1, F1, hok1⟩ := FSl.elt hx ha
      refine rIxE E1 rfl rfl rfl ?_
      refine rLdA (H.fat F1) 0 rfl rfl rfl ?_
      refine rAllocS H rfl ?_
      clear H
      intro p1 w2 H
      clear w_
      refine rStAS H 0 rfl rfl rfl rfl ?_
      clear H
      intro w3 H
      clear w2
      refine rFieldAt rfl ?_
      refine rLd (H.at 0 rfl) 1 rfl rfl rfl ?_
      refine rFieldAt rfl ?_
      refine rLd (H.at 0 rfl) 2 rfl rfl rfl ?_
      refine H.fronts [2, 2] ?_
      clear H
      intro H
      refine CallP.mk (Fc.imp (Go.Proofs.Ytneemelcfmlpdaa.Timer.set H _ _ ?_ ?_ ?_) ?_)
      · assumption
      · assumption
      · omega
      clear H
      rintro _ w2 ⟨e1, ⟨turn'1, ⟨v'1, ⟨ys1, ⟨rfl, ⟨h1, ⟨h2, ⟨h3, ⟨h4, H⟩⟩⟩⟩⟩⟩⟩⟩⟩
      refine rFieldAt rfl ?_
      refine rLd (H.at 2 rfl) 0 rfl rfl rfl ?_
      refine cT (vLt_T (by assumption)) ?_
      refine rFieldAt rfl ?_
      refine rLd (H.at 2 rfl) 0 rfl rfl rfl ?_
      refine DivP.mk (by decide) ?_
      refine eqRem (by omega) ?_
      refine CallP.mk (Fc.imp (Go.Proofs.Ytneemelcfmlpdaa.Timer.tick H _ ?_ ?_) ?_)
      · assumption
      · assumption
      clear H
      rintro _ w4 ⟨e2, ⟨os1, ⟨now'1, ⟨v'2, ⟨ys2, ⟨o2, ⟨rfl, ⟨h5, ⟨h6, ⟨h7, ⟨h8, ⟨h9, H⟩⟩⟩⟩⟩⟩⟩⟩⟩⟩⟩⟩
      refine eqI64 (by omega) ?_
      refine Nxt.mk ((k + 1, now'1, turn'1, ys2, v'2)) (mt_i rfl (by first | omega | (simp only; omega) | (simp; omega)) (mt_nil)) ?_ ?_
      · refine ⟨?_, ?_⟩
        · assumption
        refine ⟨?_, ?_⟩
        · (rw [hsu]; exact stepC_b hkd (by assumption) (by assumption))
        refine H.fronts [2, 2] ?_
        clear H
        intro H
        refine H.firsts 2 ?_
        clear H
        intro H
        exact H
      omega
    · refine cT (vLt_T (by omega)) ?_
      refine bk ?_
      obtain ⟨b1, o1, E1, F1, hok1⟩ := FSl.elt hx ha
      refine rIxE E1 rfl rfl rfl ?_
      refine rLdA (H.fat F1) 0 rfl rfl rfl ?_
      refine rAllocS H rfl ?_
      clear H
      intro p1 w2 H
      clear w_
      refine rStAS H 0 rfl rfl rfl rfl ?_
      clear H
      intro w3 H
      clear w2
      refine rFieldAt rfl ?_
      refine rLd (H.at 0 rfl) 1 rfl rfl rfl ?_
      refine rFieldAt rfl ?_
      refine rLd (H.at 0 rfl) 2 rfl rfl rfl ?_
      refine H.fronts [2, 2] ?_
      clear H
      intro H
      refine CallP.mk (Fc.imp (Go.Proofs.Ytneemelcfmlpdaa.Timer.set H _ _ ?_ ?_ ?_) ?_)
      · assumption
      · assumption
      · omega
      clear H
      rintro _ w2 ⟨e1, ⟨turn'1, ⟨v'1, ⟨ys1, ⟨rfl, ⟨h1, ⟨h2, ⟨h3, ⟨h4, H⟩⟩⟩⟩⟩⟩⟩⟩⟩
      refine rFieldAt rfl ?_
      refine rLd (H.at 2 rfl) 0 rfl rfl rfl ?_
      refine cF (vLt_F (by omega)) ?_
      refine eqI64 (by omega) ?_
      refine Nxt.mk ((k + 1, nw, turn'1, ys1, v'1)) (mt_i rfl (by first | omega | (simp only; omega) | (simp; omega)) (mt_nil)) ?_ ?_
      · refine ⟨?_, ?_⟩
        · assumption
        refine ⟨?_, ?_⟩
        · (rw [hsu]; exact stepC_a hkd (by assumption))
        refine H.firsts 2 ?_
        clear H
        intro H
        exact H
      omega
  · rw [List.take_of_length_le hge, hc] at hs
    obtain ⟨rfl, rfl, rfl⟩ := Cl.mk.inj hs
    refine cF (vLt_F (by omega)) ?_
    refine Done.mk ?_
    refine ⟨c1, vc, ?_⟩
    refine ⟨?_, ?_⟩
    · rfl
    exact H
end Go.Proofs.Ytneemelcfmlpdaa.Timer
