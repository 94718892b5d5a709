/- The law TimerOnce. -/
import Derived.Test.YtneemelcfmlpdaaTimer8
import Derived.Test.YtneemelcfmlpdaaRefS
import Derived.Test.YtneemelcfmlpdaaMap
set_option maxRecDepth 100000
set_option maxHeartbeats 4000000
set_option linter.unusedVariables false
set_option linter.unusedSimpArgs false
namespace Go.Proofs.Ytneemelcfmlpdaa.Timer
open Go Go.Proofs.Ytneemelcfmlpdaa.Eng Go.RowKit
open Ref
structure MapOf (f : Int → Option Int) (L : List Tm) : Prop where
  ids : (L.map Tm.id).Nodup
  at_ : ∀ id t, f id = some t ↔ ∃ x ∈ L, x.id = id ∧ x.due = t
theorem MapOf.perm {f : Int → Option Int} {L L' : List Tm} (h : MapOf f L) (p : L'.Perm L) : MapOf f L' :=
  ⟨(p.map Tm.id).nodup_iff.2 h.ids, fun id t => (h.at_ id t).trans ⟨fun ⟨x, a, b⟩ => ⟨x, p.mem_iff.2 a, b⟩, fun ⟨x, a, b⟩ => ⟨x, p.mem_iff.1 a, b⟩⟩⟩
theorem MapOf.no {f : Int → Option Int} {L : List Tm} (h : MapOf f L) {id : Int} (hf : f id = none) {x : Tm} (hx : x ∈ L) : x.id ≠ id := fun e => by
  have := (h.at_ id x.due).2 ⟨x, hx, e, rfl⟩
  rw [hf] at this; cases this
theorem MapOf.no_of {f : Int → Option Int} {L : List Tm} (h : MapOf f L) {id : Int} (hn : ∀ x ∈ L, x.id ≠ id) : f id = none := by
  cases hf : f id with
  | none => rfl
  | some t =>
    obtain ⟨x, a, b, _⟩ := (h.at_ id t).1 hf
    exact absurd b (hn x a)
theorem MapOf.put {f : Int → Option Int} {L : List Tm} (h : MapOf f L) {x : Tm} (hf : f x.id = none) : MapOf (upd f x.id (some x.due)) (x :: L) := by
  refine ⟨List.nodup_cons.2 ⟨fun hm => ?_, h.ids⟩, fun id t => ?_⟩
  · obtain ⟨y, a, b⟩ := List.mem_map.1 hm
    exact h.no hf a b
  · by_cases e : id = x.id
    · subst e
      rw [upd_same]
      refine ⟨fun q => ⟨x, List.mem_cons_self .., rfl, Option.some.inj q⟩, fun ⟨y, a, b, c⟩ => ?_⟩
      rcases List.mem_cons.1 a with r | r
      · rw [← c, r]
      · exact absurd b (h.no hf r)
    · rw [upd_ne _ _ e, h.at_]
      refine ⟨fun ⟨y, a, b⟩ => ⟨y, List.mem_cons_of_mem _ a, b⟩, fun ⟨y, a, b, c⟩ => ?_⟩
      rcases List.mem_cons.1 a with r | r
      · exact absurd (by rw [← b, r]) e
      · exact ⟨y, r, b, c⟩
theorem MapOf.del {f : Int → Option Int} {L : List Tm} {x : Tm} (h : MapOf f (x :: L)) : MapOf (upd f x.id none) L := by
  have hn := List.nodup_cons.1 h.ids
  refine ⟨hn.2, fun id t => ?_⟩
  by_cases e : id = x.id
  · subst e
    rw [upd_same]
    exact ⟨nofun, fun ⟨y, a, b, _⟩ => absurd (List.mem_map.2 ⟨y, a, b⟩) hn.1⟩
  · rw [upd_ne _ _ e, h.at_]
    refine ⟨fun ⟨y, a, b, c⟩ => ?_, fun ⟨y, a, b⟩ => ⟨y, List.mem_cons_of_mem _ a, b⟩⟩
    rcases List.mem_cons.1 a with r | r
    · exact absurd (by rw [← b, r]) e
    · exact ⟨y, r, b, c⟩
theorem upd_none {f : Int → Option Int} {k : Int} (h : f k = none) : upd f k none = f := by
  funext x
  unfold upd
  split
  · rename_i e; rw [e, h]
  · rfl
structure Once (nw tu : Int) (xs : List Tm) (f : Int → Option Int) (k : Nat) : Prop where
  ok : ClOk ⟨nw, tu, xs⟩ k
  heap : Heap xs xs.length
  map : MapOf f xs
  due : ∀ x ∈ xs, nw < x.due
theorem Once.more {nw tu : Int} {xs : List Tm} {f : Int → Option Int} {k : Nat} (h : Once nw tu xs f k) : Once nw tu xs f (k + 1) :=
  ⟨⟨h.ok.now, ⟨h.ok.turn.1, by have := h.ok.turn.2; simp only at this ⊢; omega⟩, h.ok.len, h.ok.due, h.ok.head⟩, h.heap, h.map, h.due⟩
theorem once_setY {nw tu t e t' a b : Int} {xs ys : List Tm} {f : Int → Option Int} {k : Nat} (h : Once nw tu xs f k) (hf : f a = some t) (hs : setT nw tu xs a b = (e, t', ys)) : e ≠ 0 ∧ t' = tu ∧ ys = xs := by
  refine setT_ways (P := fun r => r = (e, t', ys) → e ≠ 0 ∧ t' = tu ∧ ys = xs) (fun e0 he h => by cases h; exact ⟨he, rfl, rfl⟩) (fun h1 h2 h3 h4 h5 _ => ?_) hs
  obtain ⟨x, hx, hi, _⟩ := (h.map.at_ a t).1 hf
  rcases fnd_cases xs a with ⟨_, hn⟩ | ⟨i, u, hi, _⟩
  · exact absurd hi (hn x hx)
  · omega
theorem once_setN {nw tu e t' a b : Int} {xs ys : List Tm} {f : Int → Option Int} {k : Nat} (h : Once nw tu xs f k) (hf : f a = none) (hs : setT nw tu xs a b = (e, t', ys)) : (e ≠ 0 ∧ t' = tu ∧ ys = xs) ∨ (e = 0 ∧ 1 ≤ b ∧ nw + b ≤ 1099511627776 ∧ Once nw t' ys (upd f a (some (nw + b))) (k + 1)) := by
  have hc := h.ok.set a b
  unfold setC at hc
  rw [hs] at hc
  refine setT_ways (P := fun r => r = (e, t', ys) → _) (fun e0 he h => by cases h; exact .inl ⟨he, rfl, rfl⟩) (fun h1 h2 h3 h4 h5 he => ?_) hs
  cases he
  have hp := (pushT_perm xs ⟨a, nw + b, tu + 1⟩).trans (List.perm_append_singleton _ _)
  refine .inr ⟨rfl, by omega, by omega, hc, heap_push _ h.heap, (h.map.put (x := ⟨a, nw + b, tu + 1⟩) hf).perm hp, fun x hx => ?_⟩
  rcases pushT_mem hx with r | r
  · exact h.due x r
  · rw [r]; show nw < nw + b; omega
theorem once_dropN {nw tu a : Int} {xs ys : List Tm} {f : Int → Option Int} {k : Nat} {b : Bool} (h : Once nw tu xs f k) (hf : f a = none) (hs : dropT xs a = (b, ys)) : b = false ∧ ys = xs ∧ Once nw tu xs (upd f a none) (k + 1) := by
  rw [upd_none hf]
  rcases fnd_cases xs a with ⟨e, _⟩ | ⟨i, t, e, h1, h2, h3⟩
  · unfold dropT at hs
    rw [if_pos (by omega)] at hs
    cases hs; exact ⟨rfl, rfl, h.more⟩
  · exact absurd h3 (h.map.no hf (List.mem_of_getElem? h2))
theorem once_dropY {nw tu a t : Int} {xs ys : List Tm} {f : Int → Option Int} {k : Nat} {b : Bool} (h : Once nw tu xs f k) (hf : f a = some t) (hs : dropT xs a = (b, ys)) : b = true ∧ Once nw tu ys (upd f a none) (k + 1) := by
  rcases fnd_cases xs a with ⟨_, hn⟩ | ⟨i, u, e, h1, h2, h3⟩
  · obtain ⟨x, hx, hi, _⟩ := (h.map.at_ a t).1 hf
    exact absurd hi (hn x hx)
  · unfold dropT at hs
    rw [if_neg (by omega), e] at hs
    cases hs
    obtain ⟨r1, r2⟩ := rem_ok h.heap h2
    have hm : ∀ x ∈ remT xs i, x ∈ xs := fun x hx => r2.mem_iff.1 (List.mem_cons_of_mem _ hx)
    refine ⟨rfl, ⟨h.ok.now, ⟨h.ok.turn.1, by have := h.ok.turn.2; simp only at this ⊢; omega⟩, by show (remT xs i).length ≤ 32; rw [remT_len]; have := h.ok.len; simp only at this; omega, fun x hx => h.ok.due x (hm x hx), fun x hx => h.due x (hm x (List.mem_of_getElem? hx))⟩, r1, ?_, fun x hx => h.due x (hm x hx)⟩
    have := (h.map.perm r2).del
    rw [h3] at this; exact this
theorem once_tick {nw tu n e n' : Int} {os : List Int} {xs ys : List Tm} {f : Int → Option Int} {k : Nat} (h : Once nw tu xs f k) (hs : tickC nw xs n = (e, os, n', ys)) : (e = 1 ∧ os = [] ∧ n' = nw ∧ ys = xs) ∨ (e = 0 ∧ ∃ ps : List Tm, os = ps.map Tm.id ∧ (∀ x ∈ ps, x.due ≤ n') ∧ MapOf f (ps.drop 0 ++ ys) ∧ ∀ f', MapOf f' ys → Once n' tu ys f' (k + 1)) := by
  have hc := h.ok.tick n
  unfold tkC at hc
  rw [hs] at hc
  unfold tickC at hs
  split at hs
  · cases hs; exact .inl ⟨rfl, rfl, rfl, rfl⟩
  · cases hs
    obtain ⟨ps, a1, a2, a3, a4, a5⟩ := tick_ok _ (nw + n) xs rfl h.heap
    refine .inr ⟨rfl, ps, a1, a3, h.map.perm a2, fun f' hf => ?_⟩
    exact Once.more ⟨hc, a4, hf, a5⟩
theorem once_new : Once 0 0 [] (fun _ => none) 0 :=
  ⟨⟨⟨by decide, by decide⟩, ⟨by decide, by decide⟩, Nat.zero_le _, nofun, nofun⟩, fun c h1 h2 => absurd h2 (Nat.not_lt_zero c), ⟨List.nodup_nil, fun id t => ⟨nofun, fun ⟨_, h, _⟩ => nomatch h⟩⟩, nofun⟩
theorem once_zero {t t' e : Int} {ys : List Tm} (h : setT 0 t [] 0 0 = (e, t', ys)) : e = 1 ∧ t' = t ∧ ys = [] := by
  have : setT 0 t [] 0 0 = (1, t, []) := if_pos (by omega)
  rw [this] at h
  cases h; exact ⟨rfl, rfl, rfl⟩
def okS2 (x : TS) : Prop := -9223372036854775808 ≤ x.kind ∧ x.kind ≤ 9223372036854775807
theorem fitsS2 (cs : List Value) (h : fitsL [.int .i64, .int .i64, .int .i64] cs) : ∃ x, cs = enS x ∧ okS2 x := by
  obtain ⟨_, _, rfl, ⟨a, rfl, ha⟩, _, _, rfl, ⟨b, rfl, _⟩, _, _, rfl, ⟨d, rfl, _⟩, rfl⟩ := h
  exact ⟨⟨a, b, d⟩, rfl, ha⟩
theorem timerOnce (w : World) (v : Value) (l : List TS) (hx : Rd enS okS2 3 w v l) (hl : l.length * 24 ≤ 140737488351232) : Fc Try.prog 5 #[v] w (fun v w' => v = .bool true ∧ Below w.heap.size w w') := by
  refine Fc.of Try.func5 rfl (by kernel_rfl) ?_
  have H := Sat.start w
  have hx := hx.fz
  refine CallP.mk (Fc.imp (Go.Proofs.Ytneemelcfmlpdaa.Timer.new _) ?_)
  rintro _ w1 ⟨c1, ⟨v1, ⟨rfl, H'⟩⟩⟩
  refine H.mergeK H' ?_
  clear H H'
  intro H
  refine rPtrNil rfl ?_
  refine CallP.mk (Fc.imp (Go.Proofs.Ytneemelcfmlpdaa.Timer.set H _ _ ?_ ?_ ?_) ?_)
  · (simp only [List.length_append, List.length_set, List.length_cons, List.length_nil]; omega)
  · omega
  · omega
  clear H
  rintro _ w2 ⟨e1, ⟨turn'1, ⟨v'1, ⟨ys1, ⟨rfl, ⟨h1, ⟨h2, ⟨h3, ⟨h4, H⟩⟩⟩⟩⟩⟩⟩⟩⟩
  obtain ⟨rfl, rfl, rfl⟩ := once_zero h1
  refine cF (vNe_F (by omega)) ?_
  refine rMakeMap H ?_
  intro b1
  clear H
  intro w3 H
  clear w2
  refine rLenF hx rfl ?_
  refine LoopP.rule (α := Nat × Int × Int × List Tm × MF × Nat × Value) (0, 0, 0, [], fun _ => none, 0, v'1) (fun x_ => [(30, .int .i64 x_.1)]) (fun x_ w_ => (x_.1 ≤ l.length) ∧ (Once x_.2.1 x_.2.2.1 x_.2.2.2.1 x_.2.2.2.2.1 x_.1) ∧ Sat (froz w) w_ ([Mp b1 x_.2.2.2.2.1 x_.2.2.2.2.2.1, Pt c1 [.int .i64 x_.2.1, .int .i64 x_.2.2.1, x_.2.2.2.2.2.2] 48, Sl 52 3 enT x_.2.2.2.2.2.2 x_.2.2.2.1])) (fun x_ => l.length - x_.1) ?_ ?_ ?_
  · repeat first | exact mt_nil | refine mt_cons rfl ?_ | refine mt_i rfl (by first | omega | (simp only; omega) | (simp; omega) | (simp; done)) ?_
  · try simp only
    refine ⟨?_, ?_⟩
    · omega
    refine ⟨?_, ?_⟩
    · exact once_new
    exact H
  clear H
  rintro ⟨k, nw, tu, xs, f, n, vc⟩ f_ w_ ⟨hk, hO, H⟩
  try simp only at hk hO H ⊢
  have hn1 := hO.ok.now
  have hn2 := hO.ok.turn
  have hn3 := hO.ok.len
  simp only at hn1 hn2 hn3
  rcases Nat.lt_or_ge k l.length with hlt | hge
  · obtain ⟨a, ha⟩ : ∃ a, l[k]? = some a := ⟨_, List.getElem?_eq_getElem hlt⟩
    have hka : a.kind % 3 = 0 ∨ a.kind % 3 = 1 ∨ a.kind % 3 = 2 := by omega
    rcases hka with hka | hka | hka
    · rcases hf : f a.a with _ | t
      · refine cT (vLt_T (by omega)) ?_
        refine bk ?_
        obtain ⟨b2, o1, E1, F1, hok1⟩ := FSl.elt hx ha
        refine rIxE E1 rfl rfl rfl ?_
        refine rLdA (H.fat F1) 0 rfl rfl rfl ?_
        refine rAllocS H rfl ?_
        clear H
        intro p1 w2 H
        clear w_
        refine rStAS H 0 rfl rfl rfl rfl ?_
        clear H
        intro w4 H
        clear w2
        refine rFieldAt rfl ?_
        refine rLd (H.at 0 rfl) 0 rfl rfl rfl ?_
        refine CallP.mk (Fc.imp (Go.Proofs.Ytneemelcfmlpdaa.Ref.step _ _ ?_ ?_ _) ?_)
        · assumption
        · omega
        rintro _ _ ⟨rfl, rfl⟩
        refine bk ?_
        refine cT (vEq_T (by assumption)) ?_
        refine rFieldAt rfl ?_
        refine rLd (H.at 0 rfl) 1 rfl rfl rfl ?_
        refine rMapGetN H 1 rfl hf rfl rfl rfl ?_
        refine rFieldAt rfl ?_
        refine rLd (H.at 0 rfl) 1 rfl rfl rfl ?_
        refine rFieldAt rfl ?_
        refine rLd (H.at 0 rfl) 2 rfl rfl rfl ?_
        refine H.fronts [3, 3] ?_
        clear H
        intro H
        refine CallP.mk (Fc.imp (Go.Proofs.Ytneemelcfmlpdaa.Timer.set H _ _ ?_ ?_ ?_) ?_)
        · assumption
        · assumption
        · omega
        clear H
        rintro _ w2 ⟨e1, ⟨turn'1, ⟨v'2, ⟨ys1, ⟨rfl, ⟨h5, ⟨h6, ⟨h7, ⟨h8, H⟩⟩⟩⟩⟩⟩⟩⟩⟩
        rcases once_setN hO hf (by assumption) with ⟨he, rfl, rfl⟩ | ⟨rfl, hb1, hb2, hO2⟩
        refine cF (vEq_F (by assumption)) ?_
        refine eqI64 (by omega) ?_
        refine Nxt.mk ((k + 1, nw, turn'1, ys1, f, n, v'2)) (mt_i rfl (by first | omega | (simp only; omega) | (simp; omega)) (mt_nil)) ?_ ?_
        · refine ⟨?_, ?_⟩
          · assumption
          refine ⟨?_, ?_⟩
          · exact hO.more
          refine H.fronts [1, 1, 3] ?_
          clear H
          intro H
          refine H.firsts 3 ?_
          clear H
          intro H
          exact H
        · omega
        refine cT (vEq_T (by omega)) ?_
        refine rFieldAt rfl ?_
        refine rLd (H.at 2 rfl) 2 rfl rfl rfl ?_
        refine cF (vLt_F (by assumption)) ?_
        refine drawzS H [] [(0, .pure), (1, .pure), (2, .held), (3, .pure), (5, .pure), (6, .held), (4, .forced), (7, .pure), (8, .free)] mixed (by kernel_rfl) (by kernel_rfl) ?_
        clear H
        intro w5 H
        clear w2
        refine tk (fun wx HS => rFieldAt rfl ⟨rfl, rfl⟩) ?_
        refine tk (fun wx HS => rLd (HS.at 2 rfl) 1 rfl rfl rfl ⟨rfl, rfl⟩) ?_
        refine tk (fun wx HS => rFieldAt rfl ⟨rfl, rfl⟩) ?_
        refine tk (fun wx HS => rLd (HS.at 2 rfl) 2 rfl rfl rfl ⟨rfl, rfl⟩) ?_
        refine CallP.mk (Fc.imp (Go.Proofs.Ytneemelcfmlpdaa.Timer.nowC H) ?_)
        clear H
        rintro _ w2 ⟨rfl, H⟩
        refine KeepP.mk (H) ?_
        refine eqI64 (by omega) ?_
        refine rMapPut H 3 rfl rfl rfl ?_
        intro n1 hn4
        clear H
        intro w6 H
        clear w2
        refine eqI64 (by omega) ?_
        refine Nxt.mk ((k + 1, nw, turn'1, ys1, fun x => Decidable.rec (fun h => (fun x_1 => f x) h) (fun h => (fun x => some (nw + a.b)) h) (x.instDecidableEq a.a), n1, v'2)) (mt_i rfl (by first | omega | (simp only; omega) | (simp; omega)) (mt_nil)) ?_ ?_
        · refine ⟨?_, ?_⟩
          · assumption
          refine ⟨?_, ?_⟩
          · assumption
          refine H.fronts [1, 1, 3] ?_
          clear H
          intro H
          refine H.firsts 3 ?_
          clear H
          intro H
          exact H
        omega
      · refine cT (vLt_T (by omega)) ?_
        refine bk ?_
        obtain ⟨b2, o1, E1, F1, hok1⟩ := FSl.elt hx ha
        refine rIxE E1 rfl rfl rfl ?_
        refine rLdA (H.fat F1) 0 rfl rfl rfl ?_
        refine rAllocS H rfl ?_
        clear H
        intro p1 w2 H
        clear w_
        refine rStAS H 0 rfl rfl rfl rfl ?_
        clear H
        intro w4 H
        clear w2
        refine rFieldAt rfl ?_
        refine rLd (H.at 0 rfl) 0 rfl rfl rfl ?_
        refine CallP.mk (Fc.imp (Go.Proofs.Ytneemelcfmlpdaa.Ref.step _ _ ?_ ?_ _) ?_)
        · assumption
        · omega
        rintro _ _ ⟨rfl, rfl⟩
        refine bk ?_
        refine cT (vEq_T (by assumption)) ?_
        refine rFieldAt rfl ?_
        refine rLd (H.at 0 rfl) 1 rfl rfl rfl ?_
        refine rMapGetY H 1 rfl hf rfl rfl rfl ?_
        refine rFieldAt rfl ?_
        refine rLd (H.at 0 rfl) 1 rfl rfl rfl ?_
        refine rFieldAt rfl ?_
        refine rLd (H.at 0 rfl) 2 rfl rfl rfl ?_
        refine H.fronts [3, 3] ?_
        clear H
        intro H
        refine CallP.mk (Fc.imp (Go.Proofs.Ytneemelcfmlpdaa.Timer.set H _ _ ?_ ?_ ?_) ?_)
        · assumption
        · assumption
        · omega
        clear H
        rintro _ w2 ⟨e1, ⟨turn'1, ⟨v'2, ⟨ys1, ⟨rfl, ⟨h5, ⟨h6, ⟨h7, ⟨h8, H⟩⟩⟩⟩⟩⟩⟩⟩⟩
        obtain ⟨he, rfl, rfl⟩ := once_setY hO hf (by assumption)
        refine cF (vEq_F (by assumption)) ?_
        refine eqI64 (by omega) ?_
        refine Nxt.mk ((k + 1, nw, turn'1, ys1, f, n, v'2)) (mt_i rfl (by first | omega | (simp only; omega) | (simp; omega)) (mt_nil)) ?_ ?_
        · refine ⟨?_, ?_⟩
          · assumption
          refine ⟨?_, ?_⟩
          · exact hO.more
          refine H.fronts [1, 1, 3] ?_
          clear H
          intro H
          refine H.firsts 3 ?_
          clear H
          intro H
          exact H
        omega
    · rcases hf : f a.a with _ | t
      · refine cT (vLt_T (by omega)) ?_
        refine bk ?_
        obtain ⟨b2, o1, E1, F1, hok1⟩ := FSl.elt hx ha
        refine rIxE E1 rfl rfl rfl ?_
        refine rLdA (H.fat F1) 0 rfl rfl rfl ?_
        refine rAllocS H rfl ?_
        clear H
        intro p1 w2 H
        clear w_
        refine rStAS H 0 rfl rfl rfl rfl ?_
        clear H
        intro w4 H
        clear w2
        refine rFieldAt rfl ?_
        refine rLd (H.at 0 rfl) 0 rfl rfl rfl ?_
        refine CallP.mk (Fc.imp (Go.Proofs.Ytneemelcfmlpdaa.Ref.step _ _ ?_ ?_ _) ?_)
        · assumption
        · omega
        rintro _ _ ⟨rfl, rfl⟩
        refine bk ?_
        refine cF (vEq_F (by omega)) ?_
        refine cT (vEq_T (by assumption)) ?_
        refine rFieldAt rfl ?_
        refine rLd (H.at 0 rfl) 1 rfl rfl rfl ?_
        refine rMapGetN H 1 rfl hf rfl rfl rfl ?_
        refine rFieldAt rfl ?_
        refine rLd (H.at 0 rfl) 1 rfl rfl rfl ?_
        refine H.fronts [3, 3] ?_
        clear H
        intro H
        refine CallP.mk (Fc.imp (Go.Proofs.Ytneemelcfmlpdaa.Timer.drop H _ ?_) ?_)
        · assumption
        clear H
        rintro _ w2 ⟨b3, ⟨v'2, ⟨ys1, ⟨rfl, ⟨h5, H⟩⟩⟩⟩⟩
        obtain ⟨rfl, rfl, hO2⟩ := once_dropN hO hf (by assumption)
        refine rBoolNe rfl ?_
        refine cF rfl ?_
        refine rFieldAt rfl ?_
        refine rLd (H.at 2 rfl) 1 rfl rfl rfl ?_
        refine rMapDel H 3 rfl rfl rfl ?_
        intro n1 hn4
        clear H
        intro w5 H
        clear w2
        refine eqI64 (by omega) ?_
        refine Nxt.mk ((k + 1, nw, tu, ys1, fun x => Decidable.rec (fun h => (fun x_1 => f x) h) (fun h => (fun x => none) h) (x.instDecidableEq a.a), n1, v'2)) (mt_i rfl (by first | omega | (simp only; omega) | (simp; omega)) (mt_nil)) ?_ ?_
        · refine ⟨?_, ?_⟩
          · assumption
          refine ⟨?_, ?_⟩
          · assumption
          refine H.fronts [1, 1, 3] ?_
          clear H
          intro H
          refine H.firsts 3 ?_
          clear H
          intro H
          exact H
        omega
      · refine cT (vLt_T (by omega)) ?_
        refine bk ?_
        obtain ⟨b2, o1, E1, F1, hok1⟩ := FSl.elt hx ha
        refine rIxE E1 rfl rfl rfl ?_
        refine rLdA (H.fat F1) 0 rfl rfl rfl ?_
        refine rAllocS H rfl ?_
        clear H
        intro p1 w2 H
        clear w_
        refine rStAS H 0 rfl rfl rfl rfl ?_
        clear H
        intro w4 H
        clear w2
        refine rFieldAt rfl ?_
        refine rLd (H.at 0 rfl) 0 rfl rfl rfl ?_
        refine CallP.mk (Fc.imp (Go.Proofs.Ytneemelcfmlpdaa.Ref.step _ _ ?_ ?_ _) ?_)
        · assumption
        · omega
        rintro _ _ ⟨rfl, rfl⟩
        refine bk ?_
        refine cF (vEq_F (by omega)) ?_
        refine cT (vEq_T (by assumption)) ?_
        refine rFieldAt rfl ?_
        refine rLd (H.at 0 rfl) 1 rfl rfl rfl ?_
        refine rMapGetY H 1 rfl hf rfl rfl rfl ?_
        refine rFieldAt rfl ?_
        refine rLd (H.at 0 rfl) 1 rfl rfl rfl ?_
        refine H.fronts [3, 3] ?_
        clear H
        intro H
        refine CallP.mk (Fc.imp (Go.Proofs.Ytneemelcfmlpdaa.Timer.drop H _ ?_) ?_)
        · assumption
        clear H
        rintro _ w2 ⟨b3, ⟨v'2, ⟨ys1, ⟨rfl, ⟨h5, H⟩⟩⟩⟩⟩
        obtain ⟨rfl, hO2⟩ := once_dropY hO hf (by assumption)
        refine rBoolNe rfl ?_
        refine cF rfl ?_
        refine rFieldAt rfl ?_
        refine rLd (H.at 2 rfl) 1 rfl rfl rfl ?_
        refine rMapDel H 3 rfl rfl rfl ?_
        intro n1 hn4
        clear H
        intro w5 H
        clear w2
        refine eqI64 (by omega) ?_
        refine Nxt.mk ((k + 1, nw, tu, ys1, fun x => Decidable.rec (fun h => (fun x_1 => f x) h) (fun h => (fun x => none) h) (x.instDecidableEq a.a), n1, v'2)) (mt_i rfl (by first | omega | (simp only; omega) | (simp; omega)) (mt_nil)) ?_ ?_
        · refine ⟨?_, ?_⟩
          · assumption
          refine ⟨?_, ?_⟩
          · assumption
          refine H.fronts [1, 1, 3] ?_
          clear H
          intro H
          refine H.firsts 3 ?_
          clear H
          intro H
          exact H
        omega
    · refine cT (vLt_T (by omega)) ?_
      refine bk ?_
      obtain ⟨b2, o1, E1, F1, hok1⟩ := FSl.elt hx ha
      refine rIxE E1 rfl rfl rfl ?_
      refine rLdA (H.fat F1) 0 rfl rfl rfl ?_
      refine rAllocS H rfl ?_
      clear H
      intro p1 w2 H
      clear w_
      refine rStAS H 0 rfl rfl rfl rfl ?_
      clear H
      intro w4 H
      clear w2
      refine rFieldAt rfl ?_
      refine rLd (H.at 0 rfl) 0 rfl rfl rfl ?_
      refine CallP.mk (Fc.imp (Go.Proofs.Ytneemelcfmlpdaa.Ref.step _ _ ?_ ?_ _) ?_)
      · assumption
      · omega
      rintro _ _ ⟨rfl, rfl⟩
      refine bk ?_
      refine cF (vEq_F (by omega)) ?_
      refine cF (vEq_F (by omega)) ?_
      refine cT (vEq_T (by assumption)) ?_
      refine rFieldAt rfl ?_
      refine rLd (H.at 0 rfl) 2 rfl rfl rfl ?_
      refine H.fronts [3, 3] ?_
      clear H
      intro H
      refine CallP.mk (Fc.imp (Go.Proofs.Ytneemelcfmlpdaa.Timer.tick H _ ?_ ?_) ?_)
      · assumption
      · assumption
      clear H
      rintro _ w2 ⟨e1, ⟨os1, ⟨now'1, ⟨v'2, ⟨ys1, ⟨o2, ⟨rfl, ⟨h5, ⟨h6, ⟨h7, ⟨h8, ⟨h9, H⟩⟩⟩⟩⟩⟩⟩⟩⟩⟩⟩⟩
      rcases once_tick hO (by assumption) with ⟨rfl, rfl, rfl, rfl⟩ | ⟨rfl, ps, rfl, hps, hmo, hO2⟩
      refine cT (vNe_T (by omega)) ?_
      refine rLenS H 0 rfl rfl ?_
      refine cF (vLt_F (by assumption)) ?_
      refine eqI64 (by omega) ?_
      refine Nxt.mk ((k + 1, now'1, tu, ys1, f, n, v'2)) (mt_i rfl (by first | omega | (simp only; omega) | (simp; omega)) (mt_nil)) ?_ ?_
      · refine ⟨?_, ?_⟩
        · assumption
        refine ⟨?_, ?_⟩
        · exact hO.more
        refine H.fronts [2, 2, 4] ?_
        clear H
        intro H
        refine H.firsts 3 ?_
        clear H
        intro H
        exact H
      · omega
      refine cF (vNe_F (by omega)) ?_
      refine rLenS H 0 rfl rfl ?_
      clear hO hn1
      refine LoopP.rule (α := Nat × MF × Nat) (0, f, n) (fun x_ => [(101, .int .i64 x_.1)]) (fun x_ w_ => (x_.1 ≤ ps.length) ∧ (MapOf x_.2.1 (ps.drop x_.1 ++ ys1)) ∧ Sat (froz w) w_ ((Sl 3 1 enI o2 (ps.map Tm.id) :: Mp b1 x_.2.1 x_.2.2 :: Pt c1 [.int .i64 now'1, .int .i64 tu, v'2] 48 :: Sl 52 3 enT v'2 ys1 :: []))) (fun x_ => ps.length - x_.1) ?_ ?_ ?_
      · repeat first | exact mt_nil | refine mt_cons rfl ?_ | refine mt_i rfl (by first | omega | (simp only; omega) | (simp; omega) | (simp; done)) ?_
      · try simp only
        refine ⟨?_, ?_⟩
        · omega
        refine ⟨?_, ?_⟩
        · assumption
        refine H.fronts [2, 2, 4, 3] ?_
        clear H
        intro H
        refine H.firsts 4 ?_
        clear H
        intro H
        exact H
      clear H
      rintro ⟨q, f', n'⟩ f_ w_ ⟨hq, hmq, H⟩
      try simp only at hq hmq H ⊢
      have hml : (ps.map Tm.id).length = ps.length := List.length_map ..
      rcases Nat.lt_or_ge q ps.length with hqlt | hqge
      · obtain ⟨y, hy⟩ : ∃ y, ps[q]? = some y := ⟨_, List.getElem?_eq_getElem hqlt⟩
        have hyi : (ps.map Tm.id)[q]? = some y.id := by rw [List.getElem?_map, hy]; rfl
        have hyd := hps y (List.mem_of_getElem? hy)
        have hdr : ps.drop q = y :: ps.drop (q + 1) := by
          rw [List.drop_eq_getElem_cons hqlt]; congr 1; exact Option.some.inj ((List.getElem?_eq_getElem hqlt).symm.trans hy)
        rw [hdr, List.cons_append] at hmq
        have hfy : f' y.id = some y.due := (hmq.at_ _ _).2 ⟨y, List.mem_cons_self .., rfl, rfl⟩
        have hmd := hmq.del
        refine cT (vLt_T (by omega)) ?_
        refine bk ?_
        obtain ⟨b3, o3, E2⟩ := H.elt 0 rfl (q) (by omega)
        refine rIxE E2 rfl rfl rfl ?_
        refine rLd (H.el 0 rfl E2 hyi) 0 rfl rfl rfl ?_
        refine rMapGetY H 1 rfl hfy rfl rfl rfl ?_
        refine H.fronts [2] ?_
        clear H
        intro H
        refine CallP.mk (Fc.imp (Go.Proofs.Ytneemelcfmlpdaa.Timer.nowC H) ?_)
        clear H
        rintro _ w5 ⟨rfl, H⟩
        refine cF (vLt_F (by assumption)) ?_
        refine rMapDel H 2 rfl rfl rfl ?_
        intro n1 hn1
        clear H
        intro w6 H
        clear w5
        refine eqI64 (by omega) ?_
        refine Nxt.mk ((q + 1, fun x => Decidable.rec (fun h => (fun x_1 => f' x) h) (fun h => (fun x => none) h) (x.instDecidableEq y.id), n1)) (mt_i rfl (by first | omega | (simp only; omega) | (simp; omega)) (mt_nil)) ?_ ?_
        · refine ⟨?_, ?_⟩
          · assumption
          refine ⟨?_, ?_⟩
          · assumption
          refine H.fronts [3, 1, 3, 3] ?_
          clear H
          intro H
          exact H
        omega
      · rw [List.drop_eq_nil_of_le hqge, List.nil_append] at hmq
        have hO3 := hO2 f' hmq
        clear hO2 hmo hps
        refine cF (vLt_F (by omega)) ?_
        refine rRange H 1 rfl rfl ?_
        intro p2
        clear H
        intro w5 H
        clear w_
        refine LoopP.rule (α := Nat × Option (Int × Int)) (n', none) (fun x_ => []) (fun x_ w_ => Sat (froz w) w_ ((Mi b1 p2 f' n' x_.1 x_.2 :: Pt c1 [.int .i64 now'1, .int .i64 tu, v'2] 48 :: Sl 52 3 enT v'2 ys1 :: []))) (fun x_ => x_.1) ?_ ?_ ?_
        · repeat first | exact mt_nil | refine mt_cons rfl ?_ | refine mt_i rfl (by first | omega | (simp only; omega) | (simp; omega) | (simp; done)) ?_
        · try simp only
          refine H.fronts [3, 3, 3] ?_
          clear H
          intro H
          refine H.firsts 3 ?_
          clear H
          intro H
          exact H
        clear H
        rintro ⟨r, z⟩ f_ w_ H
        try simp only at H ⊢
        rcases Nat.eq_zero_or_pos r with hr | hr
        · refine rNextZ H 0 rfl (by omega) ?_
          refine H.miMp 0 rfl ?_
          clear H
          intro H
          refine cF rfl ?_
          refine eqI64 (by omega) ?_
          refine Nxt.mk ((k + 1, now'1, tu, ys1, f', n', v'2)) (mt_i rfl (by first | omega | (simp only; omega) | (simp; omega)) (mt_nil)) ?_ ?_
          · refine ⟨?_, ?_⟩
            · assumption
            refine ⟨?_, ?_⟩
            · assumption
            exact H
          omega
        · have hmd : ∀ x v, f' x = some v → now'1 < v := fun x v hf => by
            obtain ⟨y, g1, _, g3⟩ := (hO3.map.at_ x v).1 hf
            rw [← g3]; exact hO3.due y g1
          refine rNextS H 0 rfl (by omega) ?_
          intro mk1 mv1 n1 hn1 hm1
          clear H
          intro w6 H
          clear w_
          refine cT rfl ?_
          refine bk ?_
          refine rEntry H 0 rfl ?_
          refine H.fronts [1] ?_
          clear H
          intro H
          refine CallP.mk (Fc.imp (Go.Proofs.Ytneemelcfmlpdaa.Timer.nowC H) ?_)
          clear H
          rintro _ w7 ⟨rfl, H⟩
          refine cI (fun c2 => ?_) (fun c2 => ?_)
          · replace c2 := vLe_t (c2)
            refine Done.mk ?_
            exact absurd (hmd _ _ hm1) (by omega)
          replace c2 := vLe_f (c2)
          refine Nxt.mk ((n1, some (mk1, mv1))) (mt_nil) ?_ ?_
          · refine H.fronts [2, 1, 2] ?_
            clear H
            intro H
            exact H
          omega
  · refine cF (vLt_F (by omega)) ?_
    refine Done.mk ?_
    exact ⟨rfl, H.finish⟩
end Go.Proofs.Ytneemelcfmlpdaa.Timer
