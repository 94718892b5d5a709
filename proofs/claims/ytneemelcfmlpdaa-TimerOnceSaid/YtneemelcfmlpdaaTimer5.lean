/- The heap: Push, Pop, Remove; the clock's find, Set, Drop. -/
import Derived.Test.YtneemelcfmlpdaaTimer4
set_option maxRecDepth 100000
set_option maxHeartbeats 4000000
set_option linter.unusedVariables false
set_option linter.unusedSimpArgs false
namespace Go.Proofs.Ytneemelcfmlpdaa.Timer
open Go Go.Proofs.Ytneemelcfmlpdaa.Eng Go.RowKit
def pushT (xs : List Tm) (x : Tm) : List Tm := upF xs.length (xs ++ [x]) xs.length
theorem pushT_len (xs : List Tm) (x : Tm) : (pushT xs x).length = xs.length + 1 := by unfold pushT; rw [upF_len]; simp
def dn (xs : List Tm) (i n : Nat) : List Tm := (downF n xs i n).1
theorem dn_len (xs : List Tm) (i n : Nat) : (dn xs i n).length = xs.length := (downF_len n xs i n).1
def popT (xs : List Tm) : List Tm := (dn (swapT xs 0 (xs.length - 1)) 0 (xs.length - 1)).take (xs.length - 1)
theorem popT_len (xs : List Tm) : (popT xs).length = xs.length - 1 := by unfold popT; rw [List.length_take, dn_len, swapT_len]; omega
def remS (xs : List Tm) (i n : Nat) : List Tm := if i < (downF n (swapT xs i n) i n).2 then dn (swapT xs i n) i n else upF i (dn (swapT xs i n) i n) i
def remT (xs : List Tm) (i : Nat) : List Tm := (if i = xs.length - 1 then xs else remS xs i (xs.length - 1)).take (xs.length - 1)
theorem remT_len {xs : List Tm} (i : Nat) : (remT xs i).length = xs.length - 1 := by
  have h : ∀ a b, (remS xs a b).length = xs.length := fun a b => by unfold remS; split <;> simp [upF_len, dn_len, swapT_len]
  unfold remT; rw [List.length_take]; split <;> simp [h]
theorem popT_eq {xs ys zs : List Tm} {m : Nat} (h1 : ys = swapT xs 0 (xs.length - 1)) (h2 : ys.length = xs.length) (h3 : downF (xs.length - 1) ys 0 (xs.length - 1) = (zs, m)) (h4 : zs.length = ys.length) : zs.take (zs.length - 1) = popT xs := by
  unfold popT dn; rw [h4, h2, ← h1, h3]
theorem remT_a {xs ys zs : List Tm} {i m : Nat} (h0 : ¬ i = xs.length - 1) (h1 : ys = swapT xs i (xs.length - 1)) (h2 : ys.length = xs.length) (h3 : downF (xs.length - 1) ys i (xs.length - 1) = (zs, m)) (h4 : zs.length = ys.length) (h5 : i < m) : zs.take (zs.length - 1) = remT xs i := by
  unfold remT remS dn; rw [if_neg h0, h4, h2, ← h1, h3, if_pos h5]
theorem remT_b {xs ys zs us : List Tm} {i m : Nat} (h0 : ¬ i = xs.length - 1) (h1 : ys = swapT xs i (xs.length - 1)) (h2 : ys.length = xs.length) (h3 : downF (xs.length - 1) ys i (xs.length - 1) = (zs, m)) (h4 : zs.length = ys.length) (h5 : ¬ i < m) (h6 : us = upF i zs i) (h7 : us.length = zs.length) : us.take (us.length - 1) = remT xs i := by
  unfold remT remS dn; rw [if_neg h0, h7, h4, h2, ← h1, h3, if_neg h5, h6]
theorem remT_c {xs : List Tm} {i : Nat} (h0 : i = xs.length - 1) : xs.take (xs.length - 1) = remT xs i := by
  unfold remT; rw [if_pos h0]
def fnd (xs : List Tm) (id : Int) : Int := match xs.findIdx? (fun t => decide (t.id = id)) with
  | some i => i
  | none => -1
theorem fnd_at {xs : List Tm} {id : Int} {i : Nat} {a : Tm} (h : xs[i]? = some a) (hi : a.id = id) (hn : ∀ (m : Nat) (b : Tm), m < i → xs[m]? = some b → b.id ≠ id) : fnd xs id = i := by
  have e : xs.findIdx? (fun t => decide (t.id = id)) = some i := by
    rw [List.findIdx?_eq_some_iff_getElem]
    obtain ⟨h1, h2⟩ := List.getElem?_eq_some_iff.1 h
    refine ⟨h1, by rw [h2]; exact decide_eq_true hi, fun j hj => ?_⟩
    have := hn j _ hj (List.getElem?_eq_getElem (by omega))
    simpa using this
  unfold fnd; rw [e]
theorem fnd_no {xs : List Tm} {id : Int} (hn : ∀ (m : Nat) (b : Tm), m < xs.length → xs[m]? = some b → b.id ≠ id) : fnd xs id = -1 := by
  have e : xs.findIdx? (fun t => decide (t.id = id)) = none := by
    rw [List.findIdx?_eq_none_iff]
    intro a ha
    obtain ⟨m, h1, h2⟩ := List.mem_iff_getElem.1 ha
    exact decide_eq_false (hn m a h1 (by rw [List.getElem?_eq_getElem h1, h2]))
  unfold fnd; rw [e]
theorem fnd_cases (xs : List Tm) (id : Int) : (fnd xs id = -1 ∧ ∀ t ∈ xs, t.id ≠ id) ∨ ∃ (i : Nat) (t : Tm), fnd xs id = i ∧ i < xs.length ∧ xs[i]? = some t ∧ t.id = id := by
  unfold fnd
  cases h : xs.findIdx? (fun t => decide (t.id = id)) with
  | none =>
    rw [List.findIdx?_eq_none_iff] at h
    exact .inl ⟨rfl, fun t ht => by simpa using h t ht⟩
  | some i =>
    rw [List.findIdx?_eq_some_iff_getElem] at h
    obtain ⟨h1, h2, _⟩ := h
    exact .inr ⟨i, xs[i], rfl, h1, List.getElem?_eq_getElem h1, by simpa using h2⟩
section
variable {g : Glob} {w : World} {l : List As} {c : Nat} {v : Value} {now turn : Int} {xs : List Tm}
theorem hpush (H : Sat g w (Pt c [.int .i64 now, .int .i64 turn, v] 48 :: Sl 52 3 enT v xs :: l)) (a b d : Int) (hl : xs.length ≤ 1000) :
    Fc Try.prog 18 #[.iface 50 (.pointer (some ⟨c, 2, none⟩)), .iface 52 (.agg #[.int .i64 a, .int .i64 b, .int .i64 d])] w (fun r w' => ∃ v' ys, ys = pushT xs ⟨a, b, d⟩ ∧ Sat g w' (Pt c [.int .i64 now, .int .i64 turn, v'] 48 :: Sl 52 3 enT v' ys :: l)) := by
  refine Fc.of Try.func18 rfl (by kernel_rfl) ?_
  have hx : ∃ x : Tm, x = ⟨a, b, d⟩ := ⟨_, rfl⟩
  obtain ⟨x, hx⟩ := hx
  rw [← hx]
  obtain ⟨rfl, rfl, rfl⟩ : x.id = a ∧ x.due = b ∧ x.turn = d := by rw [hx]; exact ⟨rfl, rfl, rfl⟩
  clear hx
  have hn : (xs ++ [x]).length = xs.length + 1 := by simp
  have hJ : (((xs ++ [x]).length : Int) - 1) = (xs.length : Int) := by omega
  refine rMethPtr (f := 43) (by kernel_rfl) rfl rfl ?_
  refine CallP.mk (Fc.imp (Go.Proofs.Ytneemelcfmlpdaa.Timer.push H _ ?_) ?_)
  · omega
  clear H
  rintro v' w1 ⟨v'1, H⟩
  refine rMethVal (f := 39) (by kernel_rfl) rfl rfl (H.at 0 rfl) 2 rfl rfl rfl ?_
  refine CallP.mk (Fc.imp (Go.Proofs.Ytneemelcfmlpdaa.Timer.len _ _ _ (H.rdo 1 rfl ?_)) ?_)
  · (simp; done)
  rintro _ _ ⟨rfl, rfl⟩
  refine eqI64 (by omega) ?_
  refine CallP.mk (Fc.imp (Go.Proofs.Ytneemelcfmlpdaa.Timer.up H _ (xs.length) hJ ?_ ?_) ?_)
  · omega
  · omega
  clear H
  rintro v' w2 ⟨ys1, ⟨h1, ⟨h2, H⟩⟩⟩
  refine Done.mk ?_
  refine ⟨v'1, pushT xs x, ?_⟩
  refine ⟨?_, ?_⟩
  · rfl
  refine H.cg (cgC rfl (cgC (cgSl ?_) (rfl)))
  assumption
theorem hpop (H : Sat g w (Pt c [.int .i64 now, .int .i64 turn, v] 48 :: Sl 52 3 enT v xs :: l)) (hn : 0 < xs.length) (hl : xs.length ≤ 1000) :
    Fc Try.prog 19 #[.iface 50 (.pointer (some ⟨c, 2, none⟩))] w (fun r w' => ∃ v' ys, ys = popT xs ∧ Sat g w' (Pt c [.int .i64 now, .int .i64 turn, v'] 48 :: Sl 52 3 enT v' ys :: l)) := by
  refine Fc.of Try.func19 rfl (by kernel_rfl) ?_
  have hs := swapT_len xs 0 (xs.length - 1)
  have hJ : ((xs.length : Int) - 1) = ((xs.length - 1 : Nat) : Int) := by omega
  refine rMethVal (f := 39) (by kernel_rfl) rfl rfl (H.at 0 rfl) 2 rfl rfl rfl ?_
  refine CallP.mk (Fc.imp (Go.Proofs.Ytneemelcfmlpdaa.Timer.len _ _ _ (H.rdo 1 rfl ?_)) ?_)
  · (simp; done)
  rintro _ _ ⟨rfl, rfl⟩
  refine eqI64 (by omega) ?_
  refine rMethVal (f := 41) (by kernel_rfl) rfl rfl (H.at 0 rfl) 2 rfl rfl rfl ?_
  refine H.fronts [1] ?_
  clear H
  intro H
  refine CallP.mk (Fc.imp (Go.Proofs.Ytneemelcfmlpdaa.Timer.swap H _ _ (0) (xs.length - 1) ?_ hJ ?_ ?_ ?_) ?_)
  · omega
  · assumption
  · omega
  · omega
  clear H
  rintro v' w1 ⟨ys1, ⟨h1, ⟨h2, H⟩⟩⟩
  refine H.fronts [0, 1] ?_
  clear H
  intro H
  refine CallP.mk (Fc.imp (Go.Proofs.Ytneemelcfmlpdaa.Timer.down H _ _ (0) (xs.length - 1) ?_ hJ ?_ ?_ ?_) ?_)
  · omega
  · omega
  · omega
  · omega
  clear H
  rintro _ w2 ⟨ys2, ⟨m1, ⟨h3, ⟨h4, ⟨rfl, H⟩⟩⟩⟩⟩
  refine rMethPtr (f := 42) (by kernel_rfl) rfl rfl ?_
  refine CallP.mk (Fc.imp (Go.Proofs.Ytneemelcfmlpdaa.Timer.pop H ?_ ?_) ?_)
  · omega
  · omega
  clear H
  rintro _ w3 ⟨v'1, ⟨x1, ⟨rfl, ⟨h5, H⟩⟩⟩⟩
  refine Done.mk ?_
  refine ⟨v'1, popT xs, ?_⟩
  refine ⟨?_, ?_⟩
  · rfl
  refine H.cg (cgC rfl (cgC (cgSl ?_) (rfl)))
  exact popT_eq h1 h2 h3 h4
theorem hrem (H : Sat g w (Pt c [.int .i64 now, .int .i64 turn, v] 48 :: Sl 52 3 enT v xs :: l)) (I : Int) (i : Nat) (hI : I = (i : Int)) (hn : i < xs.length) (hl : xs.length ≤ 1000) :
    Fc Try.prog 20 #[.iface 50 (.pointer (some ⟨c, 2, none⟩)), .int .i64 I] w (fun r w' => ∃ v' ys, ys = remT xs i ∧ Sat g w' (Pt c [.int .i64 now, .int .i64 turn, v'] 48 :: Sl 52 3 enT v' ys :: l)) := by
  subst hI
  refine Fc.of Try.func20 rfl (by kernel_rfl) ?_
  have hs := swapT_len xs i (xs.length - 1)
  have hJ : ((xs.length : Int) - 1) = ((xs.length - 1 : Nat) : Int) := by omega
  refine rMethVal (f := 39) (by kernel_rfl) rfl rfl (H.at 0 rfl) 2 rfl rfl rfl ?_
  refine CallP.mk (Fc.imp (Go.Proofs.Ytneemelcfmlpdaa.Timer.len _ _ _ (H.rdo 1 rfl ?_)) ?_)
  · (simp; done)
  rintro _ _ ⟨rfl, rfl⟩
  refine eqI64 (by omega) ?_
  refine cI (fun c1 => ?_) (fun c1 => ?_)
  · replace c1 := vNe_t (c1)
    refine rMethVal (f := 41) (by kernel_rfl) rfl rfl (H.at 0 rfl) 2 rfl rfl rfl ?_
    refine H.fronts [1] ?_
    clear H
    intro H
    refine CallP.mk (Fc.imp (Go.Proofs.Ytneemelcfmlpdaa.Timer.swap H _ _ (i) (xs.length - 1) ?_ hJ ?_ ?_ ?_) ?_)
    · omega
    · assumption
    · omega
    · omega
    clear H
    rintro v' w1 ⟨ys1, ⟨h1, ⟨h2, H⟩⟩⟩
    refine H.fronts [0, 1] ?_
    clear H
    intro H
    refine CallP.mk (Fc.imp (Go.Proofs.Ytneemelcfmlpdaa.Timer.down H _ _ (i) (xs.length - 1) ?_ hJ ?_ ?_ ?_) ?_)
    · omega
    · omega
    · omega
    · omega
    clear H
    rintro _ w2 ⟨ys2, ⟨m1, ⟨h3, ⟨h4, ⟨rfl, H⟩⟩⟩⟩⟩
    refine cI (fun c2 => ?_) (fun c2 => ?_)
    · replace c2 := dec_f (not_t (c2))
      refine CallP.mk (Fc.imp (Go.Proofs.Ytneemelcfmlpdaa.Timer.up H _ (i) ?_ ?_ ?_) ?_)
      · omega
      · omega
      · omega
      clear H
      rintro v' w3 ⟨ys3, ⟨h5, ⟨h6, H⟩⟩⟩
      refine rMethPtr (f := 42) (by kernel_rfl) rfl rfl ?_
      refine CallP.mk (Fc.imp (Go.Proofs.Ytneemelcfmlpdaa.Timer.pop H ?_ ?_) ?_)
      · omega
      · omega
      clear H
      rintro _ w4 ⟨v'1, ⟨x1, ⟨rfl, ⟨h7, H⟩⟩⟩⟩
      refine Done.mk ?_
      refine ⟨v'1, remT xs i, ?_⟩
      refine ⟨?_, ?_⟩
      · rfl
      refine H.cg (cgC rfl (cgC (cgSl ?_) (rfl)))
      exact remT_b (by omega) h1 h2 h3 h4 c2 h5 h6
    replace c2 := dec_t (not_f (c2))
    refine rMethPtr (f := 42) (by kernel_rfl) rfl rfl ?_
    refine CallP.mk (Fc.imp (Go.Proofs.Ytneemelcfmlpdaa.Timer.pop H ?_ ?_) ?_)
    · omega
    · omega
    clear H
    rintro _ w3 ⟨v'1, ⟨x1, ⟨rfl, ⟨h5, H⟩⟩⟩⟩
    refine Done.mk ?_
    refine ⟨v'1, remT xs i, ?_⟩
    refine ⟨?_, ?_⟩
    · rfl
    refine H.cg (cgC rfl (cgC (cgSl ?_) (rfl)))
    exact remT_a (by omega) h1 h2 h3 h4 c2
  replace c1 := vNe_f (c1)
  refine rMethPtr (f := 42) (by kernel_rfl) rfl rfl ?_
  refine CallP.mk (Fc.imp (Go.Proofs.Ytneemelcfmlpdaa.Timer.pop H ?_ ?_) ?_)
  · omega
  · omega
  clear H
  rintro _ w1 ⟨v'1, ⟨x1, ⟨rfl, ⟨h1, H⟩⟩⟩⟩
  refine Done.mk ?_
  refine ⟨v'1, remT xs i, ?_⟩
  refine ⟨?_, ?_⟩
  · rfl
  refine H.cg (cgC rfl (cgC (cgSl ?_) (rfl)))
  exact remT_c (by omega)
theorem find (H : Sat g w (Pt c [.int .i64 now, .int .i64 turn, v] 48 :: Sl 52 3 enT v xs :: l)) (id : Int) (hl : xs.length ≤ 1000) :
    Fc Try.prog 17 #[.pointer (some ⟨c, 0, none⟩), .int .i64 id] w (fun r w' => r = .int .i64 (fnd xs id) ∧ Sat g w' (Pt c [.int .i64 now, .int .i64 turn, v] 48 :: Sl 52 3 enT v xs :: l)) := by
  refine Fc.of Try.func17 rfl (by kernel_rfl) ?_
  refine rFieldAt rfl ?_
  refine rLd (H.at 0 rfl) 2 rfl rfl rfl ?_
  refine rLenS H 1 rfl rfl ?_
  refine LoopP.rule (α := Nat) (0) (fun x_ => [(12, .int .i64 x_)]) (fun x_ w_ => (x_ ≤ xs.length) ∧ (∀ (m : Nat) (b : Tm), m < x_ → xs[m]? = some b → b.id ≠ id) ∧ Sat g w_ ((Pt c [.int .i64 now, .int .i64 turn, v] 48 :: Sl 52 3 enT v xs :: l))) (fun x_ => xs.length - x_) ?_ ?_ ?_
  · repeat first | exact mt_nil | refine mt_cons rfl ?_ | refine mt_i rfl (by first | omega | (simp only; omega) | (simp; omega) | (simp; done)) ?_
  · try simp only
    refine ⟨?_, ?_⟩
    · omega
    refine ⟨?_, ?_⟩
    · (intro m b h; omega)
    exact H
  clear H
  rintro k f_ w_ ⟨hk, hno, H⟩
  try simp only at hk hno H ⊢
  rcases Nat.lt_or_ge k xs.length with hlt | hge
  · obtain ⟨a, ha⟩ : ∃ a, xs[k]? = some a := ⟨_, List.getElem?_eq_getElem hlt⟩
    by_cases hid : a.id = id
    · have e := fnd_at ha hid hno
      refine cT (vLt_T (by omega)) ?_
      refine bk ?_
      obtain ⟨b1, o1, E1⟩ := H.elt 1 rfl (k) (by omega)
      refine rIxE E1 rfl rfl rfl ?_
      refine rLdA (H.el 1 rfl E1 ha) 0 rfl rfl rfl ?_
      refine rAllocS H rfl ?_
      clear H
      intro p1 w1 H
      clear w_
      refine rStAS H 0 rfl rfl rfl rfl ?_
      clear H
      intro w2 H
      clear w1
      refine rFieldAt rfl ?_
      refine rLd (H.at 0 rfl) 0 rfl rfl rfl ?_
      refine cT (vEq_T (by assumption)) ?_
      refine Done.mk ?_
      refine ⟨?_, ?_⟩
      · (rw [e])
      refine H.fronts [2, 2] ?_
      clear H
      intro H
      refine H.drop 2 ?_
      clear H
      intro H
      exact H
    · have hno' : ∀ (m : Nat) (b : Tm), m < k + 1 → xs[m]? = some b → b.id ≠ id := fun m b h1 h2 => by
        rcases Nat.lt_or_ge m k with h3 | h3
        · exact hno m b h3 h2
        · obtain rfl : m = k := by omega
          rw [ha] at h2
          obtain rfl := Option.some.inj h2
          exact hid
      refine cT (vLt_T (by omega)) ?_
      refine bk ?_
      obtain ⟨b1, o1, E1⟩ := H.elt 1 rfl (k) (by omega)
      refine rIxE E1 rfl rfl rfl ?_
      refine rLdA (H.el 1 rfl E1 ha) 0 rfl rfl rfl ?_
      refine rAllocS H rfl ?_
      clear H
      intro p1 w1 H
      clear w_
      refine rStAS H 0 rfl rfl rfl rfl ?_
      clear H
      intro w2 H
      clear w1
      refine rFieldAt rfl ?_
      refine rLd (H.at 0 rfl) 0 rfl rfl rfl ?_
      refine cF (vEq_F (by assumption)) ?_
      refine eqI64 (by omega) ?_
      refine Nxt.mk (k + 1) (mt_i rfl (by first | omega | (simp only; omega) | (simp; omega)) (mt_nil)) ?_ ?_
      · refine ⟨?_, ?_⟩
        · assumption
        refine ⟨?_, ?_⟩
        · exact hno'
        refine H.fronts [2, 2] ?_
        clear H
        intro H
        refine H.drop 2 ?_
        clear H
        intro H
        exact H
      omega
  · have e := fnd_no (xs := xs) (id := id) (fun m b h => hno m b (by omega))
    refine cF (vLt_F (by omega)) ?_
    refine Done.mk ?_
    refine ⟨?_, ?_⟩
    · (rw [e])
    exact H
end
end Go.Proofs.Ytneemelcfmlpdaa.Timer
