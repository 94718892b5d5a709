/- The clock: Set, Drop, New, Now, Next, Tick. -/
import Derived.Test.YtneemelcfmlpdaaTimer5
import Derived.Test.YtneemelcfmlpdaaRefI
set_option maxRecDepth 100000
set_option maxHeartbeats 4000000
set_option linter.unusedVariables false
set_option linter.unusedSimpArgs false
namespace Go.Proofs.Ytneemelcfmlpdaa.Timer
open Go Go.Proofs.Ytneemelcfmlpdaa.Eng Go.RowKit
def setT (now turn : Int) (xs : List Tm) (id wait : Int) : Int × Int × List Tm :=
  if wait < 1 ∨ 1099511627776 < wait then (1, turn, xs) else if 0 ≤ fnd xs id then (14, turn, xs) else if xs.length = 32 then (16, turn, xs) else if 1099511627776 - now < wait then (2, turn, xs) else (0, turn + 1, pushT xs ⟨id, now + wait, turn + 1⟩)
def dropT (xs : List Tm) (id : Int) : Bool × List Tm := if fnd xs id < 0 then (false, xs) else (true, remT xs (fnd xs id).toNat)
def tickF : Nat → Int → List Tm → List Int × List Tm
  | 0, _, xs => ([], xs)
  | f + 1, now, xs => match xs with
    | [] => ([], [])
    | t :: r => if t.due ≤ now then (t.id :: (tickF f now (popT (t :: r))).1, (tickF f now (popT (t :: r))).2) else ([], t :: r)
def tickT (now : Int) (xs : List Tm) : List Int × List Tm := tickF xs.length now xs
def tickC (now : Int) (xs : List Tm) (n : Int) : Int × List Int × Int × List Tm := if n < 0 ∨ 1099511627776 - now < n then (1, [], now, xs) else (0, (tickT (now + n) xs).1, now + n, (tickT (now + n) xs).2)
theorem tickT_nil (now : Int) : tickT now [] = ([], []) := rfl
theorem tickT_go {now : Int} {xs : List Tm} {t : Tm} (h : xs[0]? = some t) (h2 : t.due ≤ now) : tickT now xs = (t.id :: (tickT now (popT xs)).1, (tickT now (popT xs)).2) := by
  cases xs with
  | nil => cases h
  | cons a r =>
    obtain rfl : a = t := by simpa using h
    have e := popT_len (a :: r)
    unfold tickT
    rw [e]
    show tickF (r.length + 1) now (a :: r) = _
    rw [tickF, if_pos h2]
    rfl
theorem tickT_stop {now : Int} {xs : List Tm} {t : Tm} (h : xs[0]? = some t) (h2 : ¬ t.due ≤ now) : tickT now xs = ([], xs) := by
  cases xs with
  | nil => cases h
  | cons a r =>
    obtain rfl : a = t := by simpa using h
    show tickF (r.length + 1) now (a :: r) = _
    rw [tickF, if_neg h2]
open Ref
theorem new (w : World) : Fc Try.prog 14 #[] w (fun r w' => ∃ c v, r = .pointer (some ⟨c, 0, none⟩) ∧ Sat (froz w) w' (Pt c [.int .i64 0, .int .i64 0, v] 48 :: Sl 52 3 enT v [] :: [])) := by
  refine Fc.of Try.func14 rfl (by kernel_rfl) ?_
  have H := Sat.start w
  refine rBuild rfl rfl rfl ?_
  refine rBoxS H ?_
  clear H
  intro p1 w1 H
  refine Done.mk ?_
  refine ⟨p1, Value.slice none 0 0, ?_⟩
  refine ⟨?_, ?_⟩
  · rfl
  replace H := H.sl0 (en := enT) (s := 3) (52) (fun _ => rfl)
  refine H.fronts [0, 1] ?_
  clear H
  intro H
  exact H
section
variable {g : Glob} {w : World} {l : List As} {c : Nat} {v : Value} {now turn : Int} {xs : List Tm}
theorem set (H : Sat g w (Pt c [.int .i64 now, .int .i64 turn, v] 48 :: Sl 52 3 enT v xs :: l)) (id wait : Int) (hl : xs.length ≤ 32) (hn : 0 ≤ now ∧ now ≤ 1099511627776) (ht : 0 ≤ turn ∧ turn ≤ 1000000000000000) :
    Fc Try.prog 7 #[.pointer (some ⟨c, 0, none⟩), .int .i64 id, .int .i64 wait] w (fun r w' => ∃ e turn' v' ys, r = .int .i64 e ∧ setT now turn xs id wait = (e, turn', ys) ∧ ys.length ≤ 32 ∧ 0 ≤ turn' ∧ turn' ≤ turn + 1 ∧ Sat g w' (Pt c [.int .i64 now, .int .i64 turn', v'] 48 :: Sl 52 3 enT v' ys :: l)) := by
  refine Fc.of Try.func7 rfl (by kernel_rfl) ?_
  refine bk ?_
  refine br (fun c1 => ?_) (fun c1 => ?_)
  · replace c1 := vLt_t (c1)
    refine cT rfl ?_
    refine Done.mk ?_
    refine ⟨1, turn, v, xs, ?_⟩
    refine ⟨?_, ?_⟩
    · refine int_eq ?_
      omega
    refine ⟨?_, ?_⟩
    · (unfold setT; rw [if_pos (by omega)])
    refine ⟨?_, ?_⟩
    · assumption
    refine ⟨?_, ?_⟩
    · omega
    refine ⟨?_, ?_⟩
    · omega
    exact H
  replace c1 := vLt_f (c1)
  refine cI (fun c2 => ?_) (fun c2 => ?_)
  · replace c2 := vLt_t (c2)
    refine Done.mk ?_
    refine ⟨1, turn, v, xs, ?_⟩
    refine ⟨?_, ?_⟩
    · refine int_eq ?_
      omega
    refine ⟨?_, ?_⟩
    · (unfold setT; rw [if_pos (by omega)])
    refine ⟨?_, ?_⟩
    · assumption
    refine ⟨?_, ?_⟩
    · omega
    refine ⟨?_, ?_⟩
    · omega
    exact H
  replace c2 := vLt_f (c2)
  refine CallP.mk (Fc.imp (Go.Proofs.Ytneemelcfmlpdaa.Timer.find H _ ?_) ?_)
  · omega
  clear H
  rintro _ w1 ⟨rfl, H⟩
  refine cI (fun c3 => ?_) (fun c3 => ?_)
  · replace c3 := vLe_t (c3)
    refine Done.mk ?_
    refine ⟨14, turn, v, xs, ?_⟩
    refine ⟨?_, ?_⟩
    · refine int_eq ?_
      omega
    refine ⟨?_, ?_⟩
    · (unfold setT; rw [if_neg (by omega), if_pos (by omega)])
    refine ⟨?_, ?_⟩
    · assumption
    refine ⟨?_, ?_⟩
    · omega
    refine ⟨?_, ?_⟩
    · omega
    exact H
  replace c3 := vLe_f (c3)
  refine rFieldAt rfl ?_
  refine rLd (H.at 0 rfl) 2 rfl rfl rfl ?_
  refine rLenS H 1 rfl rfl ?_
  refine cI (fun c4 => ?_) (fun c4 => ?_)
  · replace c4 := vEq_t (c4)
    refine Done.mk ?_
    refine ⟨16, turn, v, xs, ?_⟩
    refine ⟨?_, ?_⟩
    · refine int_eq ?_
      omega
    refine ⟨?_, ?_⟩
    · (unfold setT; rw [if_neg (by omega), if_neg (by omega), if_pos (by omega)])
    refine ⟨?_, ?_⟩
    · assumption
    refine ⟨?_, ?_⟩
    · omega
    refine ⟨?_, ?_⟩
    · omega
    exact H
  replace c4 := vEq_f (c4)
  refine rFieldAt rfl ?_
  refine rLd (H.at 0 rfl) 0 rfl rfl rfl ?_
  refine eqI64 (by omega) ?_
  refine cI (fun c5 => ?_) (fun c5 => ?_)
  · replace c5 := vLt_t (c5)
    refine Done.mk ?_
    refine ⟨2, turn, v, xs, ?_⟩
    refine ⟨?_, ?_⟩
    · refine int_eq ?_
      omega
    refine ⟨?_, ?_⟩
    · (unfold setT; rw [if_neg (by omega), if_neg (by omega), if_neg (by omega), if_pos (by omega)])
    refine ⟨?_, ?_⟩
    · assumption
    refine ⟨?_, ?_⟩
    · omega
    refine ⟨?_, ?_⟩
    · omega
    exact H
  replace c5 := vLt_f (c5)
  refine rFieldAt rfl ?_
  refine rLd (H.at 0 rfl) 1 rfl rfl rfl ?_
  refine eqI64 (by omega) ?_
  refine rFieldAt rfl ?_
  refine rStS H 0 rfl rfl rfl rfl ?_
  clear H
  intro w2 H
  clear w1
  refine drawzS H [] [(0, .pure), (1, .pure), (2, .pure), (3, .pure), (4, .pure), (5, .pure), (6, .pure), (7, .pure), (8, .held), (9, .pure), (10, .pure), (11, .pure), (12, .pure), (13, .pure), (14, .held), (15, .pure), (16, .pure), (17, .free)] mixed (by kernel_rfl) (by kernel_rfl) ?_
  clear H
  intro w1 H
  clear w2
  refine tk (fun wx HS => rFieldAt rfl ⟨rfl, rfl⟩) ?_
  refine tk (fun wx HS => rIface rfl rfl ⟨rfl, rfl⟩) ?_
  refine tk (fun wx HS => rFieldAt rfl ⟨rfl, rfl⟩) ?_
  refine tk (fun wx HS => rLd (HS.at 0 rfl) 0 rfl rfl rfl ⟨rfl, rfl⟩) ?_
  refine eqI64 (by omega) ?_
  refine tk (fun wx HS => rFieldAt rfl ⟨rfl, rfl⟩) ?_
  refine tk (fun wx HS => rLd (HS.at 0 rfl) 1 rfl rfl rfl ⟨rfl, rfl⟩) ?_
  refine tk (fun wx HS => rBuild rfl rfl rfl ⟨rfl, rfl⟩) ?_
  refine tk (fun wx HS => rIface rfl rfl ⟨rfl, rfl⟩) ?_
  refine CallP.mk (Fc.imp (Go.Proofs.Ytneemelcfmlpdaa.Timer.hpush H _ _ _ ?_) ?_)
  · omega
  clear H
  rintro v' w2 ⟨v'1, ⟨ys1, ⟨h1, H⟩⟩⟩
  refine Done.mk ?_
  refine ⟨0, turn + 1, v'1, ys1, ?_⟩
  refine ⟨?_, ?_⟩
  · refine int_eq ?_
    omega
  refine ⟨?_, ?_⟩
  · (unfold setT; rw [if_neg (by omega), if_neg (by omega), if_neg (by omega), if_neg (by omega), h1])
  refine ⟨?_, ?_⟩
  · (rw [h1, pushT_len]; omega)
  refine ⟨?_, ?_⟩
  · omega
  refine ⟨?_, ?_⟩
  · omega
  exact H
theorem drop (H : Sat g w (Pt c [.int .i64 now, .int .i64 turn, v] 48 :: Sl 52 3 enT v xs :: l)) (id : Int) (hl : xs.length ≤ 32) :
    Fc Try.prog 16 #[.pointer (some ⟨c, 0, none⟩), .int .i64 id] w (fun r w' => ∃ b v' ys, r = .bool b ∧ dropT xs id = (b, ys) ∧ Sat g w' (Pt c [.int .i64 now, .int .i64 turn, v'] 48 :: Sl 52 3 enT v' ys :: l)) := by
  refine Fc.of Try.func16 rfl (by kernel_rfl) ?_
  rcases fnd_cases xs id with ⟨h1, h2⟩ | ⟨i, t, h1, h2, h3, h4⟩
  · have e : dropT xs id = (false, xs) := if_pos (by omega)
    refine CallP.mk (Fc.imp (Go.Proofs.Ytneemelcfmlpdaa.Timer.find H _ ?_) ?_)
    · omega
    clear H
    rintro _ w1 ⟨rfl, H⟩
    refine cT (vLt_T (by omega)) ?_
    refine Done.mk ?_
    exact ⟨_, _, _, rfl, e, H⟩
  · have e : dropT xs id = (true, remT xs i) := by unfold dropT; rw [if_neg (by omega), h1]; rfl
    refine CallP.mk (Fc.imp (Go.Proofs.Ytneemelcfmlpdaa.Timer.find H _ ?_) ?_)
    · omega
    clear H
    rintro _ w1 ⟨rfl, H⟩
    refine cF (vLt_F (by omega)) ?_
    refine rFieldAt rfl ?_
    refine rIface rfl rfl ?_
    refine CallP.mk (Fc.imp (Go.Proofs.Ytneemelcfmlpdaa.Timer.hrem H _ (i) h1 ?_ ?_) ?_)
    · assumption
    · omega
    clear H
    rintro v' w2 ⟨v'1, ⟨ys1, ⟨h5, H⟩⟩⟩
    refine Done.mk ?_
    refine ⟨true, v'1, ys1, ?_⟩
    refine ⟨?_, ?_⟩
    · exact congrArg Value.bool (rfl)
    refine ⟨?_, ?_⟩
    · (rw [h5]; exact e)
    exact H
theorem nowC (H : Sat g w (Pt c [.int .i64 now, .int .i64 turn, v] 48 :: l)) :
    Fc Try.prog 12 #[.pointer (some ⟨c, 0, none⟩)] w (fun r w' => r = .int .i64 now ∧ Sat g w' (Pt c [.int .i64 now, .int .i64 turn, v] 48 :: l)) := by
  refine Fc.of Try.func12 rfl (by kernel_rfl) ?_
  refine rFieldAt rfl ?_
  refine rLd (H.at 0 rfl) 0 rfl rfl rfl ?_
  refine Done.mk ?_
  exact ⟨rfl, H⟩
theorem next0 (H : Sat g w (Pt c [.int .i64 now, .int .i64 turn, v] 48 :: Sl 52 3 enT v xs :: l)) (hl : xs.length = 0) :
    Fc Try.prog 13 #[.pointer (some ⟨c, 0, none⟩)] w (fun r w' => r = .tuple #[.int .i64 0, .bool false] ∧ Sat g w' (Pt c [.int .i64 now, .int .i64 turn, v] 48 :: Sl 52 3 enT v xs :: l)) := by
  refine Fc.of Try.func13 rfl (by kernel_rfl) ?_
  refine rFieldAt rfl ?_
  refine rLd (H.at 0 rfl) 2 rfl rfl rfl ?_
  refine rLenS H 1 rfl rfl ?_
  refine cT (vEq_T (by omega)) ?_
  refine Done.mk ?_
  exact ⟨rfl, H⟩
theorem next1 (H : Sat g w (Pt c [.int .i64 now, .int .i64 turn, v] 48 :: Sl 52 3 enT v xs :: l)) (hl : xs.length ≤ 32) (t : Tm) (ht : xs[0]? = some t) (hb : -1099511627776 ≤ t.due - now ∧ t.due - now ≤ 1099511627776) :
    Fc Try.prog 13 #[.pointer (some ⟨c, 0, none⟩)] w (fun r w' => r = .tuple #[.int .i64 (t.due - now), .bool true] ∧ Sat g w' (Pt c [.int .i64 now, .int .i64 turn, v] 48 :: Sl 52 3 enT v xs :: l)) := by
  refine Fc.of Try.func13 rfl (by kernel_rfl) ?_
  have h0 := (List.getElem?_eq_some_iff.1 ht).1
  refine rFieldAt rfl ?_
  refine rLd (H.at 0 rfl) 2 rfl rfl rfl ?_
  refine rLenS H 1 rfl rfl ?_
  refine cF (vEq_F (by omega)) ?_
  refine drawzS H [] [(0, .pure), (1, .pure), (2, .pure), (3, .held), (4, .pure), (5, .pure), (6, .held), (7, .pure), (8, .pure), (9, .pure), (10, .held), (11, .pure), (12, .pure), (13, .pure)] mixed (by kernel_rfl) (by kernel_rfl) ?_
  clear H
  intro w1 H
  refine tk (fun wx HS => rFieldAt rfl ⟨rfl, rfl⟩) ?_
  refine tk (fun wx HS => rLd (HS.at 0 rfl) 2 rfl rfl rfl ⟨rfl, rfl⟩) ?_
  obtain ⟨b1, o1, E1⟩ := H.elt 1 rfl 0 (by omega)
  refine tk (fun wx HS => rIxE E1 rfl rfl rfl ⟨rfl, rfl⟩) ?_
  refine tk (fun wx HS => rFieldAt rfl ⟨rfl, rfl⟩) ?_
  refine tk (fun wx HS => rLd (HS.el 1 rfl E1 ht) 1 rfl rfl rfl ⟨rfl, rfl⟩) ?_
  refine tk (fun wx HS => rFieldAt rfl ⟨rfl, rfl⟩) ?_
  refine tk (fun wx HS => rLd (HS.at 0 rfl) 0 rfl rfl rfl ⟨rfl, rfl⟩) ?_
  refine eqI64 (by omega) ?_
  refine Done.mk ?_
  exact ⟨rfl, H⟩
theorem tick (H : Sat g w (Pt c [.int .i64 now, .int .i64 turn, v] 48 :: Sl 52 3 enT v xs :: l)) (n : Int) (hl : xs.length ≤ 32) (hn : 0 ≤ now ∧ now ≤ 1099511627776) :
    Fc Try.prog 9 #[.pointer (some ⟨c, 0, none⟩), .int .i64 n] w (fun r w' => ∃ e os now' v' ys o, r = .tuple #[o, .int .i64 e] ∧ tickC now xs n = (e, os, now', ys) ∧ ys.length ≤ 32 ∧ os.length ≤ 32 ∧ 0 ≤ now' ∧ now' ≤ 1099511627776 ∧ Sat g w' (Sl 3 1 enI o os :: Pt c [.int .i64 now', .int .i64 turn, v'] 48 :: Sl 52 3 enT v' ys :: l)) := by
  refine Fc.of Try.func9 rfl (by kernel_rfl) ?_
  by_cases hbad : n < 0 ∨ 1099511627776 - now < n
  · have e : tickC now xs n = (1, [], now, xs) := if_pos hbad
    refine br (fun c1 => ?_) (fun c1 => ?_)
    · replace c1 := vLt_t (c1)
      refine cT rfl ?_
      refine Done.mk ?_
      exact ⟨_, _, _, _, _, _, rfl, e, hl, by simp, hn.1, hn.2, H.sl0 (en := enI) (s := 1) 3 (fun _ => rfl)⟩
    replace c1 := vLt_f (c1)
    refine rFieldAt rfl ?_
    refine rLd (H.at 0 rfl) 0 rfl rfl rfl ?_
    refine eqI64 (by omega) ?_
    refine cT (vLt_T (by omega)) ?_
    refine Done.mk ?_
    exact ⟨_, _, _, _, _, _, rfl, e, hl, by simp, hn.1, hn.2, H.sl0 (en := enI) (s := 1) 3 (fun _ => rfl)⟩
  · have e : tickC now xs n = (0, (tickT (now + n) xs).1, now + n, (tickT (now + n) xs).2) := if_neg hbad
    refine br_f (vLt_F (by omega)) ?_
    refine rFieldAt rfl ?_
    refine rLd (H.at 0 rfl) 0 rfl rfl rfl ?_
    refine eqI64 (by omega) ?_
    refine cF (vLt_F (by omega)) ?_
    refine rFieldAt rfl ?_
    refine rLd (H.at 0 rfl) 0 rfl rfl rfl ?_
    refine eqI64 (by omega) ?_
    refine rFieldAt rfl ?_
    refine rStS H 0 rfl rfl rfl rfl ?_
    clear H
    intro w1 H
    refine LoopP.rule (α := List Tm × List Int × Value × Value) (xs, [], v, .slice none 0 0) (fun x_ => [(6, x_.2.2.2)]) (fun x_ w_ => (x_.1.length ≤ xs.length) ∧ (x_.2.1.length + x_.1.length ≤ xs.length) ∧ (x_.2.1 ++ (tickT (now + n) x_.1).1 = (tickT (now + n) xs).1) ∧ ((tickT (now + n) x_.1).2 = (tickT (now + n) xs).2) ∧ Sat g w_ ((Sl 3 1 enI x_.2.2.2 x_.2.1 :: Pt c [.int .i64 (now + n), .int .i64 turn, x_.2.2.1] 48 :: Sl 52 3 enT x_.2.2.1 x_.1 :: l))) (fun x_ => x_.1.length) ?_ ?_ ?_
    · repeat first | exact mt_nil | refine mt_cons rfl ?_ | refine mt_i rfl (by first | omega | (simp only; omega) | (simp; omega) | (simp; done)) ?_
    · try simp only
      refine ⟨?_, ?_⟩
      · omega
      refine ⟨?_, ?_⟩
      · (simp only [List.length_append, List.length_set, List.length_cons, List.length_nil]; omega)
      refine ⟨?_, ?_⟩
      · rfl
      refine ⟨?_, ?_⟩
      · (constructor <;> omega)
      replace H := H.sl0 (en := enI) (s := 1) (3) (fun _ => rfl)
      exact H
    clear H
    rintro ⟨ys, os, vc, vo⟩ f_ w_ ⟨hys, hos, h1, h2, H⟩
    try simp only at hys hos h1 h2 H ⊢
    rcases Nat.eq_zero_or_pos ys.length with h0 | h0
    · obtain rfl := List.eq_nil_of_length_eq_zero h0
      have hl0 : ([] : List Tm).length = 0 := rfl
      rw [tickT_nil, List.append_nil] at h1
      rw [tickT_nil] at h2
      refine drawzS H [] [(0, .pure), (1, .pure), (2, .pure), (3, .held), (4, .pure), (5, .pure), (6, .pure), (7, .pure), (8, .pure), (9, .pure), (10, .held), (11, .pure), (12, .pure), (13, .held), (14, .pure), (15, .pure), (16, .pure), (17, .held), (18, .pure), (19, .pure)] mixed (by kernel_rfl) (by kernel_rfl) ?_
      clear H
      intro w2 H
      clear w_
      refine tk (fun wx HS => rFieldAt rfl ⟨rfl, rfl⟩) ?_
      refine tk (fun wx HS => rLd (HS.at 1 rfl) 2 rfl rfl rfl ⟨rfl, rfl⟩) ?_
      obtain ⟨a1, c1, V1⟩ := H.form 2 rfl
      refine tk (fun wx HS => rLenV V1 rfl ⟨rfl, rfl⟩) ?_
      refine br_f (vLt_F (by omega)) ?_
      refine cF rfl ?_
      refine Done.mk ?_
      exact ⟨_, _, _, _, _, _, rfl, e.trans (by rw [← h1, ← h2]), by omega, by omega, by omega, by omega, H⟩
    · obtain ⟨t, ht⟩ : ∃ t, ys[0]? = some t := ⟨_, List.getElem?_eq_getElem h0⟩
      have hpl := popT_len ys
      by_cases hd : t.due ≤ now + n
      · rw [tickT_go ht hd] at h1 h2
        refine drawzS H [] [(0, .pure), (1, .pure), (2, .pure), (3, .held), (4, .pure), (5, .pure), (6, .pure), (7, .pure), (8, .pure), (9, .pure), (10, .held), (11, .pure), (12, .pure), (13, .held), (14, .pure), (15, .pure), (16, .pure), (17, .held), (18, .pure), (19, .pure)] mixed (by kernel_rfl) (by kernel_rfl) ?_
        clear H
        intro w2 H
        clear w_
        refine tk (fun wx HS => rFieldAt rfl ⟨rfl, rfl⟩) ?_
        refine tk (fun wx HS => rLd (HS.at 1 rfl) 2 rfl rfl rfl ⟨rfl, rfl⟩) ?_
        obtain ⟨a1, c1, V1⟩ := H.form 2 rfl
        refine tk (fun wx HS => rLenV V1 rfl ⟨rfl, rfl⟩) ?_
        refine br_t (vLt_T (by omega)) ?_
        refine tk (fun wx HS => rFieldAt rfl ⟨rfl, rfl⟩) ?_
        refine tk (fun wx HS => rLd (HS.at 1 rfl) 2 rfl rfl rfl ⟨rfl, rfl⟩) ?_
        obtain ⟨b1, o1, E1⟩ := H.elt 2 rfl 0 (by omega)
        refine tk (fun wx HS => rIxE E1 rfl rfl rfl ⟨rfl, rfl⟩) ?_
        refine tk (fun wx HS => rFieldAt rfl ⟨rfl, rfl⟩) ?_
        refine tk (fun wx HS => rLd (HS.el 2 rfl E1 ht) 1 rfl rfl rfl ⟨rfl, rfl⟩) ?_
        refine tk (fun wx HS => rFieldAt rfl ⟨rfl, rfl⟩) ?_
        refine tk (fun wx HS => rLd (HS.at 1 rfl) 0 rfl rfl rfl ⟨rfl, rfl⟩) ?_
        refine cT (vLe_T (by assumption)) ?_
        refine bk ?_
        refine rFieldAt rfl ?_
        refine rLd (H.at 1 rfl) 2 rfl rfl rfl ?_
        refine rIxE E1 rfl rfl rfl ?_
        refine rFieldAt rfl ?_
        refine rLd (H.el 2 rfl E1 ht) 0 rfl rfl rfl ?_
        refine rBuildSliceS H rfl rfl rfl rfl ?_
        clear H
        intro p1 w3 H
        clear w2
        refine rApS (ys := [_]) 8 H 1 rfl (H.at 0 rfl) rfl (fun y _ => rfl) rfl rfl rfl (by omega) (by omega) ?_
        intro v1
        clear H
        intro w2 H
        clear w3
        refine rFieldAt rfl ?_
        refine rIface rfl rfl ?_
        refine H.fronts [3, 3] ?_
        clear H
        intro H
        refine CallP.mk (Fc.imp (Go.Proofs.Ytneemelcfmlpdaa.Timer.hpop H ?_ ?_) ?_)
        · assumption
        · omega
        clear H
        rintro v' w3 ⟨v'1, ⟨ys1, ⟨h3, H⟩⟩⟩
        refine Nxt.mk ((ys1, os ++ [t.id], v'1, v1)) (mt_cons rfl (mt_nil)) ?_ ?_
        · refine ⟨?_, ?_⟩
          · (rw [h3, hpl]; omega)
          refine ⟨?_, ?_⟩
          · (rw [h3, hpl, List.length_append, List.length_singleton]; omega)
          refine ⟨?_, ?_⟩
          · (rw [h3, List.append_assoc]; exact h1)
          refine ⟨?_, ?_⟩
          · (rw [h3]; exact h2)
          refine H.fronts [1, 1, 3] ?_
          clear H
          intro H
          refine H.drop 3 ?_
          clear H
          intro H
          exact H
        (rw [h3, hpl]; omega)
      · rw [tickT_stop ht hd, List.append_nil] at h1
        rw [tickT_stop ht hd] at h2
        refine drawzS H [] [(0, .pure), (1, .pure), (2, .pure), (3, .held), (4, .pure), (5, .pure), (6, .pure), (7, .pure), (8, .pure), (9, .pure), (10, .held), (11, .pure), (12, .pure), (13, .held), (14, .pure), (15, .pure), (16, .pure), (17, .held), (18, .pure), (19, .pure)] mixed (by kernel_rfl) (by kernel_rfl) ?_
        clear H
        intro w2 H
        clear w_
        refine tk (fun wx HS => rFieldAt rfl ⟨rfl, rfl⟩) ?_
        refine tk (fun wx HS => rLd (HS.at 1 rfl) 2 rfl rfl rfl ⟨rfl, rfl⟩) ?_
        obtain ⟨a1, c1, V1⟩ := H.form 2 rfl
        refine tk (fun wx HS => rLenV V1 rfl ⟨rfl, rfl⟩) ?_
        refine br_t (vLt_T (by omega)) ?_
        refine tk (fun wx HS => rFieldAt rfl ⟨rfl, rfl⟩) ?_
        refine tk (fun wx HS => rLd (HS.at 1 rfl) 2 rfl rfl rfl ⟨rfl, rfl⟩) ?_
        obtain ⟨b1, o1, E1⟩ := H.elt 2 rfl 0 (by omega)
        refine tk (fun wx HS => rIxE E1 rfl rfl rfl ⟨rfl, rfl⟩) ?_
        refine tk (fun wx HS => rFieldAt rfl ⟨rfl, rfl⟩) ?_
        refine tk (fun wx HS => rLd (HS.el 2 rfl E1 ht) 1 rfl rfl rfl ⟨rfl, rfl⟩) ?_
        refine tk (fun wx HS => rFieldAt rfl ⟨rfl, rfl⟩) ?_
        refine tk (fun wx HS => rLd (HS.at 1 rfl) 0 rfl rfl rfl ⟨rfl, rfl⟩) ?_
        refine cF (vLe_F (by omega)) ?_
        refine Done.mk ?_
        exact ⟨_, _, _, _, _, _, rfl, e.trans (by rw [← h1, ← h2]), by omega, by omega, by omega, by omega, H⟩
end
end Go.Proofs.Ytneemelcfmlpdaa.Timer
