/- Package nest: Check, Write, Read. -/
import Derived.Test.YtpobebafdecgaaaNestW
import Derived.Test.YtpobebafdecgaaaNestL
import Derived.Test.YtpobebafdecgaaaInsW
import Derived.Test.YtpobebafdecgaaaInsRd
set_option maxRecDepth 100000
set_option maxHeartbeats 4000000
set_option linter.unusedVariables false
set_option linter.unusedSimpArgs false
namespace Go.Proofs.Ytpobebafdecgaaa.Nest
open Go Go.Proofs.Ytpobebafdecgaaa.Eng Go.RowKit
open Ins
section
variable {g : Glob} {w : World} {l : List As}
theorem map_get {xs : List InsV} {k : Nat} {x : InsV} (h : xs[k]? = some x) : (xs.map InsV.d)[k]? = some x.d := by rw [List.getElem?_map, h]; rfl
theorem dd (x : InsV) : (⟨x.op, x.a, x.b, x.to⟩ : InsD) = x.d := rfl
section
variable {xs : List InsV} {k : Nat} {x : InsV} {r is e : Int} {st st' : NS}
theorem ck1 (hl : xs.length ≤ 200) (hF : SoFar (xs.map InsV.d) k) (hx : xs[k]? = some x) (h : r = chk ⟨x.op, x.a, x.b, x.to⟩) (hr : r ≠ 0) : r = chkB (xs.map InsV.d) := by
  rw [dd] at h
  rw [chkB_chk (by simpa using hl) hF (map_get hx) (h ▸ hr), h]
theorem ck2 (hl : xs.length ≤ 200) (hF : SoFar (xs.map InsV.d) k) (hx : xs[k]? = some x) (h : r = chk ⟨x.op, x.a, x.b, x.to⟩) (hr : r = 0) (hst : stB (xs.map InsV.d) k = st) (hn : nextS st x.op k = (st', is, e)) (he : e ≠ 0) : e = chkB (xs.map InsV.d) := by
  rw [dd, hr] at h
  have hn' : nextS (stB (xs.map InsV.d) k) x.d.op k = (st', is, e) := by rw [hst]; exact hn
  rw [chkB_next (by simpa using hl) hF (map_get hx) h.symm (by rw [hn']; exact he), hn']
theorem ck3 (hx : xs[k]? = some x) (hst : stB (xs.map InsV.d) k = st) (hn : nextS st x.op k = (st', is, e)) : stB (xs.map InsV.d) (k + 1) = st' := by
  rw [stB_succ (map_get hx), hst]; show (nextS st x.op k).1 = _; rw [hn]
theorem ck4 (hF : SoFar (xs.map InsV.d) k) (hx : xs[k]? = some x) (h : r = chk ⟨x.op, x.a, x.b, x.to⟩) (hr : r = 0) (hst : stB (xs.map InsV.d) k = st) (hn : nextS st x.op k = (st', is, e)) (he : e = 0) : SoFar (xs.map InsV.d) (k + 1) := by
  rw [dd, hr] at h
  exact hF.succ (map_get hx) h.symm (by rw [hst]; show (nextS st x.op k).2.2 = 0; rw [hn]; exact he)
theorem ck5 {op last : List Int} {ov : Bool} (hl : xs.length ≤ 200) (hF : SoFar (xs.map InsV.d) k) (hk : k = xs.length) (hst : stB (xs.map InsV.d) k = ⟨op, last, ov⟩) (ho : ov = false) : 3 = chkB (xs.map InsV.d) := by
  rw [chkB_end (by simpa using hl) hF (by simpa using hk), hst, ho]; rfl
theorem ck6 {op last : List Int} {ov : Bool} (hl : xs.length ≤ 200) (hF : SoFar (xs.map InsV.d) k) (hk : k = xs.length) (hst : stB (xs.map InsV.d) k = ⟨op, last, ov⟩) (ho : ov = true) : 0 = chkB (xs.map InsV.d) := by
  rw [chkB_end (by simpa using hl) hF (by simpa using hk), hst, ho]; rfl
end
theorem wr1 {xs : List InsV} {k : Nat} {x : InsV} {ot t1 : List UInt8} (hot : ot = txtL ((xs.map InsV.d).take k)) (hF : SoFar (xs.map InsV.d) (xs.map InsV.d).length) (hx : xs[k]? = some x) (h : t1 = if chk ⟨x.op, x.a, x.b, x.to⟩ = 0 then txt ⟨x.op, x.a, x.b, x.to⟩ else []) : ot ++ t1 = txtL ((xs.map InsV.d).take (k + 1)) := by
  have hlt := (List.getElem?_eq_some_iff.1 hx).1
  obtain ⟨h1, _⟩ := hF k x.d (by simpa using hlt) (map_get hx)
  rw [dd, if_pos h1] at h
  rw [txtL_take (map_get hx), hot, h]
theorem allV_snoc {g : Glob} {ys : List InsV} {y : InsV} (h : ∀ x ∈ ys, okV g x) (hy : okV g y) : ∀ x ∈ ys ++ [y], okV g x := fun x hx => by
  rcases List.mem_append.1 hx with h1 | h1
  · exact h x h1
  · rw [List.mem_singleton.1 h1]; exact hy
theorem rdI_le {s : List UInt8} {x : InsD} {n : Nat} {e : Int} (h : rdI s = (x, n, e)) : n ≤ s.length ∧ (e ≠ 0 ∨ 0 < n) := by
  by_cases he : e = 0
  · subst he
    obtain ⟨h1, _, _, _, h2, _⟩ := rdI_told h
    refine ⟨h1, .inr ?_⟩
    have : 0 < (txt x).length := by unfold txt; simp
    omega
  · refine ⟨?_, .inl he⟩
    unfold rdI at h
    split at h
    · injection h with _ h; injection h with _ h; exact absurd h.symm he
    · injection h with _ h; injection h with h _; omega
theorem check (H : Sat g w l) (v : Value) (xs : List InsV) (hx : FSl g enV (okV g) 4 v xs) : Fc Try.prog 14 #[v] w (fun r w' => (∃ e, r = .int .i64 e ∧ e = chkB (xs.map InsV.d)) ∧ Sat g w' l) := by
  refine Fc.of Try.func14 rfl (by kernel_rfl) ?_
  have hml : (xs.map InsV.d).length = xs.length := List.length_map ..
  refine rLenF hx rfl ?_
  refine cI (fun c1 => ?_) (fun c1 => ?_)
  · replace c1 := vLt_t (c1)
    refine Done.mk ?_
    refine ⟨?_, ?_⟩
    · refine ⟨2, ?_⟩
      refine ⟨?_, ?_⟩
      · refine int_eq ?_
        omega
      exact (chkB_large (by omega)).symm
    exact H
  replace c1 := vLt_f (c1)
  refine CallP.mk (Fc.imp (Go.Proofs.Ytpobebafdecgaaa.Nest.begin_ _) ?_)
  rintro _ w1 ⟨p1, ⟨vo1, ⟨vl1, ⟨rfl, H'⟩⟩⟩⟩
  refine H.mergeK H' ?_
  clear H H'
  intro H
  refine rLenF hx rfl ?_
  refine LoopP.rule (α := Nat × List Int × List Int × Bool × Value × Value) (0, ns0.op, ns0.last, ns0.over, vo1, vl1) (fun x_ => [(15, .int .i64 x_.1)]) (fun x_ w_ => (x_.1 ≤ xs.length) ∧ (stB (xs.map InsV.d) x_.1 = ⟨x_.2.1, x_.2.2.1, x_.2.2.2.1⟩) ∧ (SoFar (xs.map InsV.d) x_.1) ∧ Sat g w_ ((Pt p1 [x_.2.2.2.2.1, x_.2.2.2.2.2, .bool x_.2.2.2.1] 70 :: Sl 3 1 enI x_.2.2.2.2.1 x_.2.1 :: Sl 5 1 enK x_.2.2.2.2.2 x_.2.2.1 :: l))) (fun x_ => xs.length - x_.1) ?_ ?_ ?_
  · repeat first | exact mt_nil | refine mt_cons rfl ?_ | refine mt_i rfl (by first | omega | (simp only; omega) | (simp; omega) | (simp; done)) ?_
  · try simp only
    refine ⟨?_, ?_⟩
    · omega
    refine ⟨?_, ?_⟩
    · rfl
    refine ⟨?_, ?_⟩
    · exact SoFar.zero _
    exact H
  clear H
  rintro ⟨k, op, last, ov, vo, vl⟩ f_ w_ ⟨hk, hst, hF, H⟩
  try simp only at hk hst hF H ⊢
  have hok := stB_ok (xs.map InsV.d) k
  rw [hst] at hok
  refine cI (fun c2 => ?_) (fun c2 => ?_)
  · replace c2 := vLt_t (c2)
    refine bk ?_
    obtain ⟨x1, hx1⟩ : ∃ x, (xs)[(k)]? = some x := ⟨_, List.getElem?_eq_getElem (by omega)⟩
    obtain ⟨b1, o1, E1, F1, hok1⟩ := FSl.elt hx hx1
    have hok1_op := hok1.op
    have hok1_a := hok1.a
    have hok1_b := hok1.b
    have hok1_to := hok1.to
    refine rIxE E1 rfl rfl rfl ?_
    refine rLdA (H.fat F1) 0 rfl rfl rfl ?_
    refine rAllocS H rfl ?_
    clear H
    intro p2 w2 H
    clear w_
    refine rStAS H 0 rfl rfl rfl (by simp only [List.all_cons, List.all_nil, H.one 2 rfl, H.one 3 rfl, FSl.one hok1_to, FSl.one hx]; rfl) ?_
    clear H
    intro w3 H
    clear w2
    refine rLdA (H.at 0 rfl) 0 rfl rfl rfl ?_
    refine CallP.mk (Fc.imp (Go.Proofs.Ytpobebafdecgaaa.Ins.check _ _ _ _ _ _ ?_ (H.rd hok1_to)) ?_)
    · assumption
    rintro _ w2 ⟨⟨r1, ⟨rfl, h1⟩⟩, H'⟩
    refine H.mergeK H' ?_
    clear H H'
    intro H
    refine cI (fun c3 => ?_) (fun c3 => ?_)
    · replace c3 := vNe_t (c3)
      refine Done.mk ?_
      refine ⟨?_, ?_⟩
      · refine ⟨r1, ?_⟩
        refine ⟨?_, ?_⟩
        · refine int_eq ?_
          omega
        exact ck1 (by omega) hF hx1 h1 (by assumption)
      refine H.drop 3 ?_
      clear H
      intro H
      refine H.drop 2 ?_
      clear H
      intro H
      refine H.drop 1 ?_
      clear H
      intro H
      refine H.drop 0 ?_
      clear H
      intro H
      exact H
    replace c3 := vNe_f (c3)
    refine rLdA (H.at 0 rfl) 0 rfl rfl rfl ?_
    refine H.fronts [3, 3, 3] ?_
    clear H
    intro H
    refine CallP.mk (Fc.imp (Go.Proofs.Ytpobebafdecgaaa.Nest.next _ hok H _ _ _ _ _) ?_)
    clear H
    rintro _ w4 ⟨op'1, ⟨last'1, ⟨ov'1, ⟨vo'1, ⟨vl'1, ⟨is1, ⟨e1, ⟨rfl, ⟨h2, H⟩⟩⟩⟩⟩⟩⟩⟩⟩
    refine cI (fun c4 => ?_) (fun c4 => ?_)
    · replace c4 := vNe_t (c4)
      refine Done.mk ?_
      refine ⟨?_, ?_⟩
      · refine ⟨e1, ?_⟩
        refine ⟨?_, ?_⟩
        · refine int_eq ?_
          omega
        exact ck2 (by omega) hF hx1 h1 (by assumption) hst h2 (by assumption)
      refine H.drop 3 ?_
      clear H
      intro H
      refine H.drop 2 ?_
      clear H
      intro H
      refine H.drop 1 ?_
      clear H
      intro H
      refine H.drop 0 ?_
      clear H
      intro H
      exact H
    replace c4 := vNe_f (c4)
    refine eqI64 (by omega) ?_
    refine Nxt.mk ((k + 1, op'1, last'1, ov'1, vo'1, vl'1)) (mt_i rfl (by first | omega | (simp only; omega) | (simp; omega)) (mt_nil)) ?_ ?_
    · refine ⟨?_, ?_⟩
      · omega
      refine ⟨?_, ?_⟩
      · exact ck3 hx1 hst h2
      refine ⟨?_, ?_⟩
      · exact ck4 hF hx1 h1 (by assumption) hst h2 (by assumption)
      refine H.drop 3 ?_
      clear H
      intro H
      exact H
    omega
  replace c2 := vLt_f (c2)
  refine rFieldAt rfl ?_
  refine rLd (H.at 0 rfl) 2 rfl rfl rfl ?_
  refine cI (fun c3 => ?_) (fun c3 => ?_)
  · replace c3 := not_t (c3)
    refine Done.mk ?_
    refine ⟨?_, ?_⟩
    · refine ⟨3, ?_⟩
      refine ⟨?_, ?_⟩
      · refine int_eq ?_
        omega
      exact ck5 (by omega) hF (by omega) hst (by assumption)
    refine H.drop 2 ?_
    clear H
    intro H
    refine H.drop 1 ?_
    clear H
    intro H
    refine H.drop 0 ?_
    clear H
    intro H
    exact H
  replace c3 := not_f (c3)
  refine Done.mk ?_
  refine ⟨?_, ?_⟩
  · refine ⟨0, ?_⟩
    refine ⟨?_, ?_⟩
    · refine int_eq ?_
      omega
    exact ck6 (by omega) hF (by omega) hst (by assumption)
  refine H.drop 2 ?_
  clear H
  intro H
  refine H.drop 1 ?_
  clear H
  intro H
  refine H.drop 0 ?_
  clear H
  intro H
  exact H
theorem write (H : Sat g w l) (v : Value) (xs : List InsV) (hx : FSl g enV (okV g) 4 v xs) : Fc Try.prog 26 #[v] w (fun r w' => ∃ ot e, r = .tuple #[.string (bs ot), .int .i64 e] ∧ e = chkB (xs.map InsV.d) ∧ ot = (if chkB (xs.map InsV.d) = 0 then txtL (xs.map InsV.d) else []) ∧ ot.length ≤ 80000 ∧ Sat g w' l) := by
  refine Fc.of Try.func26 rfl (by kernel_rfl) ?_
  have hml : (xs.map InsV.d).length = xs.length := List.length_map ..
  by_cases hc : chkB (xs.map InsV.d) = 0
  · rw [if_pos hc]
    obtain ⟨hl, hF, _⟩ := chkB_ok hc
    refine CallP.mk (Fc.imp (Go.Proofs.Ytpobebafdecgaaa.Nest.check H _ _ hx) ?_)
    clear H
    rintro _ w1 ⟨⟨e1, ⟨rfl, h1⟩⟩, H⟩
    refine cF (vNe_F (by omega)) ?_
    refine rLenF hx rfl ?_
    refine LoopP.rule (α := Nat × List UInt8) (0, []) (fun x_ => [(17, .int .i64 x_.1), (5, .string (bs x_.2))]) (fun x_ w_ => (x_.1 ≤ xs.length) ∧ (x_.2 = txtL ((xs.map InsV.d).take x_.1)) ∧ (x_.2.length ≤ 400 * x_.1) ∧ Sat g w_ (l)) (fun x_ => xs.length - x_.1) ?_ ?_ ?_
    · repeat first | exact mt_nil | refine mt_cons rfl ?_ | refine mt_i rfl (by first | omega | (simp only; omega) | (simp; omega) | (simp; done)) ?_
    · try simp only
      refine ⟨?_, ?_⟩
      · omega
      refine ⟨?_, ?_⟩
      · rfl
      refine ⟨?_, ?_⟩
      · (constructor <;> omega)
      exact H
    clear H
    rintro ⟨k, ot⟩ f_ w_ ⟨hk, hot, hln, H⟩
    try simp only at hk hot hln H ⊢
    refine cI (fun c1 => ?_) (fun c1 => ?_)
    · replace c1 := vLt_t (c1)
      refine bk ?_
      obtain ⟨x1, hx1⟩ : ∃ x, (xs)[(k)]? = some x := ⟨_, List.getElem?_eq_getElem (by omega)⟩
      obtain ⟨b1, o1, E1, F1, hok1⟩ := FSl.elt hx hx1
      have hok1_op := hok1.op
      have hok1_a := hok1.a
      have hok1_b := hok1.b
      have hok1_to := hok1.to
      refine rIxE E1 rfl rfl rfl ?_
      refine rLdA (H.fat F1) 0 rfl rfl rfl ?_
      refine rAllocS H rfl ?_
      clear H
      intro p1 w2 H
      clear w_
      refine rStAS H 0 rfl rfl rfl (by simp only [List.all_cons, List.all_nil, FSl.one hok1_to, FSl.one hx]; rfl) ?_
      clear H
      intro w3 H
      clear w2
      refine rLdA (H.at 0 rfl) 0 rfl rfl rfl ?_
      refine CallP.mk (Fc.imp (Go.Proofs.Ytpobebafdecgaaa.Ins.write _ _ _ _ _ _ ?_ ?_ (H.rd hok1_to)) ?_)
      · assumption
      · assumption
      rintro _ w2 ⟨t1, ⟨e2, ⟨rfl, ⟨h2, ⟨h3, ⟨h4, H'⟩⟩⟩⟩⟩⟩
      refine H.mergeK H' ?_
      clear H H'
      intro H
      refine rCat (by omega) ?_
      refine eqI64 (by omega) ?_
      refine Nxt.mk ((k + 1, ot ++ t1)) (mt_i rfl (by first | omega | (simp only; omega) | (simp; omega)) (mt_cons rfl (mt_nil))) ?_ ?_
      · refine ⟨?_, ?_⟩
        · omega
        refine ⟨?_, ?_⟩
        · exact wr1 hot hF hx1 h3
        refine ⟨?_, ?_⟩
        · (simp only [List.length_append, List.length_set, List.length_cons, List.length_nil]; omega)
        refine H.drop 0 ?_
        clear H
        intro H
        exact H
      omega
    replace c1 := vLt_f (c1)
    refine Done.mk ?_
    refine ⟨ot, 0, ?_⟩
    refine ⟨?_, ?_⟩
    · (rw [hot, List.take_of_length_le (by simp only [List.length_map]; omega)])
    refine ⟨?_, ?_⟩
    · omega
    refine ⟨?_, ?_⟩
    · (rw [hot, List.take_of_length_le (by simp only [List.length_map]; omega)])
    refine ⟨?_, ?_⟩
    · (rw [hot, List.take_of_length_le (by simp only [List.length_map]; omega)])
      (rw [List.take_of_length_le (by simp only [List.length_map]; omega)] at hot; rw [← hot]; omega)
    exact H
  · rw [if_neg hc]
    refine CallP.mk (Fc.imp (Go.Proofs.Ytpobebafdecgaaa.Nest.check H _ _ hx) ?_)
    clear H
    rintro _ w1 ⟨⟨e1, ⟨rfl, h1⟩⟩, H⟩
    refine cT (vNe_T (by omega)) ?_
    refine Done.mk ?_
    refine ⟨[], e1, ?_⟩
    refine ⟨?_, ?_⟩
    · rfl
    refine ⟨?_, ?_⟩
    · assumption
    refine ⟨?_, ?_⟩
    · rfl
    refine ⟨?_, ?_⟩
    · (simp only [List.length_append, List.length_set, List.length_cons, List.length_nil]; omega)
    exact H
theorem read (H : Sat g w l) (s : List UInt8) (hs : s.length ≤ 9223372036854775807) : Fc Try.prog 25 #[.string (bs s)] w
    (fun v w' => ∃ (g' : Glob) (u : Value) (ys : List InsV) (n : Nat) (e : Int), v = .tuple #[u, .int .i64 n, .int .i64 e] ∧ rdB s = (ys.map InsV.d, n, e) ∧ Ext g g' ∧ FSl g' enV (okV g') 4 u ys ∧ n ≤ s.length ∧ Sat g' w' l) := by
  refine Fc.of Try.func25 rfl (by kernel_rfl) ?_
  refine CallP.mk (Fc.imp (Go.Proofs.Ytpobebafdecgaaa.Nest.begin_ _) ?_)
  rintro _ w1 ⟨p1, ⟨vo1, ⟨vl1, ⟨rfl, H'⟩⟩⟩⟩
  refine H.mergeK H' ?_
  clear H H'
  intro H
  have E := Ext.refl g
  replace H := H.sl0 (en := enV) (s := 4) 37 (fun _ => rfl)
  refine LoopP.rule (α := Glob × Nat × List Int × List Int × Bool × Value × Value × Value × List InsV) (g, 0, ns0.op, ns0.last, ns0.over, vo1, vl1, .slice none 0 0, []) (fun x_ => [(5, x_.2.2.2.2.2.2.2.1), (6, .int .i64 x_.2.1)]) (fun x_ w_ => (Ext g x_.1) ∧ (RdI s (x_.2.2.2.2.2.2.2.2.map InsV.d) x_.2.1 ⟨x_.2.2.1, x_.2.2.2.1, x_.2.2.2.2.1⟩) ∧ (∀ y ∈ x_.2.2.2.2.2.2.2.2, okV x_.1 y) ∧ Sat x_.1 w_ ((Pt p1 [x_.2.2.2.2.2.1, x_.2.2.2.2.2.2.1, .bool x_.2.2.2.2.1] 70 :: Sl 3 1 enI x_.2.2.2.2.2.1 x_.2.2.1 :: Sl 5 1 enK x_.2.2.2.2.2.2.1 x_.2.2.2.1 :: Sl 37 4 enV x_.2.2.2.2.2.2.2.1 x_.2.2.2.2.2.2.2.2 :: l))) (fun x_ => s.length - x_.2.1) ?_ ?_ ?_
  · repeat first | exact mt_nil | refine mt_cons rfl ?_ | refine mt_i rfl (by first | omega | (simp only; omega) | (simp; omega) | (simp; done)) ?_
  · try simp only
    refine ⟨?_, ?_⟩
    · assumption
    refine ⟨?_, ?_⟩
    · exact RdI.zero s
    refine ⟨?_, ?_⟩
    · nofun
    refine H.fronts [0, 3, 3, 3] ?_
    clear H
    intro H
    exact H
  clear H
  rintro ⟨gg, k, op, last, ov, vo, vl, ve, ys⟩ f_ w_ ⟨E, hI, hys, H⟩
  try simp only at E hI hys H ⊢
  have hml : (ys.map InsV.d).length = ys.length := List.length_map ..
  have hks := hI.ks
  have hle := hI.le
  have hok := stB_ok (ys.map InsV.d) (ys.map InsV.d).length
  rw [← hI.st] at hok
  refine rFieldAt rfl ?_
  refine rLd (H.at 0 rfl) 2 rfl rfl rfl ?_
  refine cI (fun c1 => ?_) (fun c1 => ?_)
  · replace c1 := not_t (c1)
    refine bk ?_
    refine rSubL rfl (k) (by omega) (by omega) ?_
    refine CallP.mk (Fc.imp (Go.Proofs.Ytpobebafdecgaaa.Ins.read _ ?_ _) ?_)
    · (simp; omega)
    rintro _ w2 ⟨o1, ⟨a1, ⟨b1, ⟨tv1, ⟨to1, ⟨n1, ⟨e1, ⟨rfl, ⟨h1, ⟨h2, ⟨⟨h3, h4⟩, H'⟩⟩⟩⟩⟩⟩⟩⟩⟩⟩⟩
    refine H.mergeK H' ?_
    clear H H'
    intro H
    obtain ⟨hn1, hn2⟩ := rdI_le h1
    rw [List.length_drop] at hn1
    refine H.frz1 0 okI rfl h2.2.2 ?_
    intro g1 HE hf1
    clear H
    intro H
    replace hys := fun y hy => (hys y hy).ext HE
    replace E := E.trans HE
    clear HE
    refine rAllocS H rfl ?_
    clear H
    intro p2 w3 H
    clear w2
    refine rStAS H 0 rfl rfl rfl (by simp only [List.all_cons, List.all_nil, H.one 2 rfl, H.one 3 rfl, H.one 4 rfl, FSl.one hf1]; rfl) ?_
    clear H
    intro w2 H
    clear w3
    refine cI (fun c2 => ?_) (fun c2 => ?_)
    · replace c2 := vNe_t (c2)
      refine Done.mk ?_
      exact ⟨_, _, [], 0, e1, rfl, hI.bad c1 h1 (by assumption), E, FSl.nil0 _ _ _ _, Nat.zero_le _, H.tl.tl.tl.tl.tl⟩
    replace c2 := vNe_f (c2)
    refine rLenS H 4 rfl rfl ?_
    refine cI (fun c3 => ?_) (fun c3 => ?_)
    · replace c3 := vEq_t (c3)
      refine Done.mk ?_
      exact ⟨_, _, [], 0, 2, rfl, hI.full c1 (by subst_vars; exact h1) (by omega), E, FSl.nil0 _ _ _ _, Nat.zero_le _, H.tl.tl.tl.tl.tl⟩
    replace c3 := vEq_f (c3)
    refine rLdA (H.at 0 rfl) 0 rfl rfl rfl ?_
    refine rLenS H 4 rfl rfl ?_
    refine H.fronts [3, 3, 3] ?_
    clear H
    intro H
    refine CallP.mk (Fc.imp (Go.Proofs.Ytpobebafdecgaaa.Nest.next _ hok H _ _ _ _ _) ?_)
    clear H
    rintro _ w3 ⟨op'1, ⟨last'1, ⟨ov'1, ⟨vo'1, ⟨vl'1, ⟨is1, ⟨e2, ⟨rfl, ⟨h5, H⟩⟩⟩⟩⟩⟩⟩⟩⟩
    refine cI (fun c4 => ?_) (fun c4 => ?_)
    · replace c4 := vNe_t (c4)
      refine Done.mk ?_
      exact ⟨_, _, [], 0, e2, rfl, hI.no c1 (by subst_vars; exact h1) (by omega) (by rw [hml]; exact h5) (by assumption), E, FSl.nil0 _ _ _ _, Nat.zero_le _, H.tl.tl.tl.tl.tl⟩
    replace c4 := vNe_f (c4)
    refine rLdA (H.at 3 rfl) 0 rfl rfl rfl ?_
    refine rBuildSliceS H rfl rfl rfl rfl ?_
    clear H
    intro p3 w4 H
    clear w3
    refine rApS (ys := [⟨o1, a1, b1, tv1, to1⟩]) 48 H 5 rfl (H.at 0 rfl) rfl (fun y hy => by rw [List.mem_singleton.1 hy]; simp only [Go.Proofs.Ytpobebafdecgaaa.Ins.enV, List.all_cons, List.all_nil, H.one 2 rfl, H.one 3 rfl, H.one 5 rfl, FSl.one hf1]; rfl) rfl rfl rfl (by omega) (by omega) ?_
    intro v1
    clear H
    intro w3 H
    clear w4
    refine eqI64 (by omega) ?_
    refine Nxt.mk ((g1, k + n1, op'1, last'1, ov'1, vo'1, vl'1, v1, ys ++ [{ op := o1, a := a1, b := b1, tv := tv1, to := to1 }])) (mt_cons rfl (mt_i rfl (by first | omega | (simp only; omega) | (simp; omega)) (mt_nil))) ?_ ?_
    · refine ⟨?_, ?_⟩
      · assumption
      refine ⟨?_, ?_⟩
      · (rw [List.map_append]; exact hI.step c1 (by subst_vars; exact h1) (by omega) (by rw [hml]; subst_vars; exact h5))
      refine ⟨?_, ?_⟩
      · exact allV_snoc hys ⟨⟨h3, h4⟩, h2.1, h2.2.1, hf1⟩
      refine H.fronts [5, 4, 4, 4] ?_
      clear H
      intro H
      refine H.drop 5 ?_
      clear H
      intro H
      refine H.drop 4 ?_
      clear H
      intro H
      exact H
    (simp only [List.length_append, List.length_set, List.length_cons, List.length_nil]; omega)
  replace c1 := not_f (c1)
  refine Done.mk ?_
  (refine H.frz1 3 (okV gg) rfl hys ?_; intro g1 HE F H; exact ⟨g1, ve, ys, k, 0, rfl, hI.over (by assumption), E.trans HE, FSl.okm F (fun y hy h => h.ext HE), hks, H.tl.tl.tl⟩)
end
end Go.Proofs.Ytpobebafdecgaaa.Nest
