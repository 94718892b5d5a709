/- Package turns: All, Drop of the last one, Next, Pick. -/
import Derived.Test.YtcgenmddojgbpaaRing2
set_option maxRecDepth 100000
set_option maxHeartbeats 4000000
set_option linter.unusedVariables false
set_option linter.unusedSimpArgs false
namespace Go.Proofs.Ytcgenmddojgbpaa.Ring
open Go Go.Proofs.Ytcgenmddojgbpaa.Eng Go.RowKit
open Ref
section
variable {g : Glob} {w : World} {l : List As} {r n : Nat} {m : Nm} {ns : Nds}
theorem addN (H : Sat g w (Pt r [fsv ns, .int .i64 n] 39 :: Nd m 98 :: l)) (hR : RgOk m ns) (hn : n = ns.length) (hl : ns.length ≤ 100000000000000) (id : Int) (hid : ∀ j, j < ns.length → idn ns j ≠ id) :
    Fc Try.prog 13 #[.pointer (some ⟨r, 0, none⟩), .int .i64 id] w (fun v w' => ∃ q m' ns' n', v = .bool true ∧ ns' = ns ++ [(q, id)] ∧ RgOk m' ns' ∧ n' = ns'.length ∧ Sat g w' (Pt r [fsv ns', .int .i64 (n' : Nat)] 39 :: Nd m' 98 :: l)) := by
  rcases Nat.eq_zero_or_pos ns.length with h | h
  · exact addN0 H hR hn h id
  · by_cases h1 : ns.length = 1
    · exact addN1 H hR hn h1 id hid
    · exact addN2 H hR hn (by omega) hl id hid
theorem take_idn {ns : Nds} {k : Nat} (h : k < ns.length) : (ns.take (k + 1)).map (·.2) = (ns.take k).map (·.2) ++ [idn ns k] := by
  rw [List.take_add_one, ns_get h, List.map_append]; rfl
theorem all (H : Sat g w (Pt r [fsv ns, .int .i64 n] 39 :: Nd m 98 :: l)) (hR : RgOk m ns) (hn : n = ns.length) (hl : ns.length ≤ 17592186043910) :
    Fc Try.prog 14 #[.pointer (some ⟨r, 0, none⟩)] w (fun v w' => ∃ ys, ys = ns.map (·.2) ∧ ys.length = ns.length ∧ Sat g w' (Sl 3 1 enI v ys :: Pt r [fsv ns, .int .i64 n] 39 :: Nd m 98 :: l)) := by
  refine Fc.of Try.func14 rfl (by kernel_rfl) ?_
  subst hn
  refine rFieldAt rfl ?_
  refine rLd (H.at 0 rfl) 0 rfl rfl rfl ?_
  refine rFieldAt rfl ?_
  refine rLd (H.at 0 rfl) 1 rfl rfl rfl ?_
  refine LoopP.rule (α := Nat × Value × Value × List Int) (0, fsv ns, .slice none 0 0, []) (fun x_ => [(13, .int .i64 x_.1), (4, x_.2.1), (3, x_.2.2.1)]) (fun x_ w_ => (x_.1 ≤ ns.length) ∧ (x_.1 < ns.length → x_.2.1 = .pointer (some ⟨nbk ns x_.1, 0, none⟩)) ∧ (x_.2.2.2 = (ns.take x_.1).map (·.2)) ∧ Sat g w_ ((Sl 3 1 enI x_.2.2.1 x_.2.2.2 :: Pt r [fsv ns, .int .i64 ns.length] 39 :: Nd m 98 :: l))) (fun x_ => ns.length - x_.1) ?_ ?_ ?_
  · repeat first | exact mt_nil | refine mt_cons rfl ?_ | refine mt_i rfl (by first | omega | (simp only; omega) | (simp; omega) | (simp; done)) ?_
  · try simp only
    refine ⟨?_, ?_⟩
    · omega
    refine ⟨?_, ?_⟩
    · exact fun h => fsvS h
    refine ⟨?_, ?_⟩
    · rfl
    replace H := H.sl0 (en := enI) (s := 1) (3) (fun _ => rfl)
    exact H
  clear H
  rintro ⟨k, lv, vo, os⟩ f_ w_ ⟨hk, hv, hos, H⟩
  try simp only at hk hv hos H ⊢
  have hol : os.length = min k ns.length := by rw [hos, List.length_map, List.length_take]
  rcases Nat.lt_or_ge k ns.length with hlt | hge
  · obtain rfl := hv hlt
    refine H.fronts [2, 2] ?_
    clear H
    intro H
    replace H := rgOpen H hR hlt
    have hnv : k + 1 < ns.length → (.pointer (some ⟨nbk ns (nxi ns.length k), 0, none⟩) : Value) = .pointer (some ⟨nbk ns (k + 1), 0, none⟩) := fun h => by
      have : nxi ns.length k = k + 1 := if_neg (by omega)
      rw [this]
    have hos' : os ++ [idn ns k] = (ns.take (k + 1)).map (·.2) := by rw [take_idn hlt, hos]
    refine cT (vLt_T (by omega)) ?_
    refine bk ?_
    refine rFieldAt rfl ?_
    refine rLd (H.at 0 rfl) 0 rfl rfl rfl ?_
    refine rBuildSliceS H rfl rfl rfl rfl ?_
    clear H
    intro p1 w1 H
    clear w_
    refine rApS (ys := [_]) 8 H 4 rfl (H.at 0 rfl) rfl (fun y _ => rfl) rfl rfl rfl (by omega) (by omega) ?_
    intro v1
    clear H
    intro w2 H
    clear w1
    refine rFieldAt rfl ?_
    refine rLd (H.at 1 rfl) 2 rfl rfl rfl ?_
    refine eqI64 (by omega) ?_
    refine H.drop 0 ?_
    clear H
    intro H
    replace H := rgBack H hR hlt
    refine Nxt.mk ((k + 1, Value.pointer (some { block := nbk ns (nxi (List.length ns) k), off := 0 }), v1, os ++ [idn ns k])) (mt_i rfl (by first | omega | (simp only; omega) | (simp; omega)) (mt_cons rfl (mt_cons rfl (mt_nil)))) ?_ ?_
    · refine ⟨?_, ?_⟩
      · assumption
      refine ⟨?_, ?_⟩
      · assumption
      refine ⟨?_, ?_⟩
      · assumption
      refine H.fronts [1, 1, 2] ?_
      clear H
      intro H
      exact H
    omega
  · have e : os = ns.map (·.2) := by rw [hos, List.take_of_length_le hge]
    have el : os.length = ns.length := by omega
    refine cF (vLt_F (by omega)) ?_
    refine Done.mk ?_
    refine ⟨List.map (fun x => x.snd) ns, ?_⟩
    refine ⟨?_, ?_⟩
    · rfl
    refine ⟨?_, ?_⟩
    · (simp; done)
    refine H.cg (cgC (cgSl ?_) (cgC rfl (cgC rfl (rfl))))
    assumption
theorem drop1 (H : Sat g w (Pt r [fsv ns, .int .i64 n] 39 :: Nd m 98 :: l)) (hR : RgOk m ns) (hn : n = ns.length) (h1 : ns.length = 1) (id : Int) (hid : idn ns 0 = id) :
    Fc Try.prog 24 #[.pointer (some ⟨r, 0, none⟩), .int .i64 id] w (fun v w' => ∃ m' ns' n', v = .bool true ∧ ns'.length = 0 ∧ n' = ns'.length ∧ RgOk m' ns' ∧ Sat g w' (Pt r [fsv ns', .int .i64 (n' : Nat)] 39 :: Nd m' 98 :: l)) := by
  refine Fc.of Try.func24 rfl (by kernel_rfl) ?_
  subst hn
  have hi0 : 0 < ns.length := by omega
  have hno : ∀ j, j < 0 → idn ns j ≠ id := fun j hj => absurd hj (Nat.not_lt_zero j)
  refine CallP.mk (Fc.imp (Go.Proofs.Ytcgenmddojgbpaa.Ring.findY H ?_ ?_ ?_ _ (0) hi0 ?_ ?_) ?_)
  · assumption
  · omega
  · omega
  · assumption
  · assumption
  clear H
  rintro _ w1 ⟨rfl, H⟩
  refine rPtrNil rfl ?_
  replace H := rgOpen (i := 0) H hR (by omega)
  rw [fsvS (by omega)] at H
  have e1 : pvi ns.length 0 = 0 := by unfold pvi; rw [if_pos rfl]; omega
  have e2 : nxi ns.length 0 = 0 := if_pos (by omega)
  rw [e1, e2] at H
  refine cF rfl ?_
  refine drawzS H [] [(0, .pure), (1, .pure), (2, .pure), (3, .held), (4, .pure), (5, .pure), (6, .pure), (7, .held), (8, .pure), (9, .pure), (10, .pure), (11, .held), (12, .pure), (13, .pure), (14, .pure), (15, .held), (16, .pure), (17, .pure), (18, .free), (19, .pure), (20, .pure), (21, .free)] mixed (by kernel_rfl) (by kernel_rfl) ?_
  clear H
  intro w2 H
  clear w1
  refine tk (fun wx HS => rFieldAt rfl ⟨rfl, rfl⟩) ?_
  refine tk (fun wx HS => rLd (HS.at 0 rfl) 1 rfl rfl rfl ⟨rfl, rfl⟩) ?_
  refine tk (fun wx HS => rFieldAt rfl ⟨rfl, rfl⟩) ?_
  refine tk (fun wx HS => rLd (HS.at 0 rfl) 2 rfl rfl rfl ⟨rfl, rfl⟩) ?_
  refine tk (fun wx HS => rFieldAt rfl ⟨rfl, rfl⟩) ?_
  refine tk (fun wx HS => rLd (HS.at 0 rfl) 2 rfl rfl rfl ⟨rfl, rfl⟩) ?_
  refine tk (fun wx HS => rFieldAt rfl ⟨rfl, rfl⟩) ?_
  refine tk (fun wx HS => rLd (HS.at 0 rfl) 1 rfl rfl rfl ⟨rfl, rfl⟩) ?_
  refine tk (fun wx HS => rFieldAt rfl ⟨rfl, rfl⟩) ?_
  refine rStS H 0 rfl rfl rfl rfl ?_
  clear H
  intro w1 H
  clear w2
  refine tk (fun wx HS => rFieldAt rfl ⟨rfl, rfl⟩) ?_
  refine rStS H 0 rfl rfl rfl rfl ?_
  clear H
  intro w2 H
  clear w1
  refine rFieldAt rfl ?_
  refine rLd (H.at 2 rfl) 0 rfl rfl rfl ?_
  refine rPtrEqT rfl rfl ?_
  refine cT rfl ?_
  refine rFieldAt rfl ?_
  refine rLd (H.at 0 rfl) 2 rfl rfl rfl ?_
  refine rFieldAt rfl ?_
  refine rStS H 2 rfl rfl rfl rfl ?_
  clear H
  intro w1 H
  clear w2
  refine rFieldAt rfl ?_
  refine rLd (H.at 2 rfl) 1 rfl rfl rfl ?_
  refine eqI64 (by omega) ?_
  refine rFieldAt rfl ?_
  refine rStS H 2 rfl rfl rfl rfl ?_
  clear H
  intro w2 H
  clear w1
  refine rFieldAt rfl ?_
  refine rLd (H.at 2 rfl) 1 rfl rfl rfl ?_
  refine cT (vEq_T (by omega)) ?_
  refine rFieldAt rfl ?_
  refine rStS H 2 rfl rfl rfl rfl ?_
  clear H
  intro w1 H
  clear w2
  refine H.drop 0 ?_
  clear H
  intro H
  refine H.fronts [1] ?_
  clear H
  intro H
  have ez : ((ns.length : Int) - 1) = ((0 : Nat) : Int) := by omega
  rw [ez] at H
  exact Done.mk ⟨_, [], 0, rfl, rfl, rfl, ⟨List.nodup_nil, fun i hi => absurd hi (Nat.not_lt_zero i)⟩, H⟩
theorem next (H : Sat g w (Pt r [fsv ns, .int .i64 n] 39 :: Nd m 98 :: l)) (hR : RgOk m ns) (hn : n = ns.length) (h0 : 0 < ns.length) :
    Fc Try.prog 26 #[.pointer (some ⟨r, 0, none⟩)] w (fun v w' => ∃ ns', v = .tuple #[.int .i64 (idn ns 0), .bool true] ∧ ns' = rot ns ∧ RgOk m ns' ∧ n = ns'.length ∧ Sat g w' (Pt r [fsv ns', .int .i64 n] 39 :: Nd m 98 :: l)) := by
  refine Fc.of Try.func26 rfl (by kernel_rfl) ?_
  subst hn
  replace H := rgOpen (i := 0) H hR (by omega)
  rw [fsvS (by omega)] at H
  refine rFieldAt rfl ?_
  refine rLd (H.at 2 rfl) 1 rfl rfl rfl ?_
  refine cF (vEq_F (by omega)) ?_
  refine rFieldAt rfl ?_
  refine rLd (H.at 2 rfl) 0 rfl rfl rfl ?_
  refine rFieldAt rfl ?_
  refine rLd (H.at 0 rfl) 0 rfl rfl rfl ?_
  refine rFieldAt rfl ?_
  refine rLd (H.at 2 rfl) 0 rfl rfl rfl ?_
  refine rFieldAt rfl ?_
  refine rLd (H.at 0 rfl) 2 rfl rfl rfl ?_
  refine rFieldAt rfl ?_
  refine rStS H 2 rfl rfl rfl rfl ?_
  clear H
  intro w1 H
  replace H := H.ndBack (hR.cell 0 h0)
  refine H.fronts [1] ?_
  clear H
  intro H
  have ef : fsv (rot ns) = .pointer (some ⟨nbk ns (nxi ns.length 0), 0, none⟩) := by rw [fsvS (by rw [rot_len]; exact h0), (nbk_rot h0).1]
  refine Done.mk ⟨rot ns, rfl, rfl, rot_ok hR, (rot_len ns).symm, ?_⟩
  rw [ef]
  exact H
theorem rem_mod {k n : Int} (hn : 0 < n) : (0 ≤ vRem k n ∧ vRem k n < n ∧ k % n = vRem k n) ∨ (vRem k n < 0 ∧ -n < vRem k n ∧ k % n = vRem k n + n) := by
  rcases Int.lt_or_le k 0 with h | h
  · have h1 : -n < vRem k n := by unfold vRem; have := Int.lt_tmod_of_pos k hn; omega
    rcases rem_ways hn h with ⟨a, b⟩ | ⟨a, b⟩
    · left; omega
    · right; omega
  · left
    have := rem_pos (b := n) h
    have h1 := Int.emod_nonneg k (Int.ne_of_gt hn)
    have h2 := Int.emod_lt_of_pos k hn
    omega
theorem pick0 (H : Sat g w (Pt r [fsv ns, .int .i64 n] 39 :: Nd m 98 :: l)) (hR : RgOk m ns) (hn : n = ns.length) (h0 : ns.length = 0) (k : Int) :
    Fc Try.prog 25 #[.pointer (some ⟨r, 0, none⟩), .int .i64 k] w (fun v w' => v = .tuple #[.int .i64 0, .bool false] ∧ Sat g w' (Pt r [fsv ns, .int .i64 n] 39 :: Nd m 98 :: l)) := by
  refine Fc.of Try.func25 rfl (by kernel_rfl) ?_
  refine rFieldAt rfl ?_
  refine rLd (H.at 0 rfl) 1 rfl rfl rfl ?_
  refine cT (vEq_T (by omega)) ?_
  refine Done.mk ?_
  exact ⟨rfl, H⟩
theorem pick (H : Sat g w (Pt r [fsv ns, .int .i64 n] 39 :: Nd m 98 :: l)) (hR : RgOk m ns) (hn : n = ns.length) (h0 : 0 < ns.length) (hl : ns.length ≤ 17592186043910) (k : Int) (d : Int) (hd : d = k % n) :
    Fc Try.prog 25 #[.pointer (some ⟨r, 0, none⟩), .int .i64 k] w (fun v w' => v = .tuple #[.int .i64 (idn ns d.toNat), .bool true] ∧ Sat g w' (Pt r [fsv ns, .int .i64 n] 39 :: Nd m 98 :: l)) := by
  refine Fc.of Try.func25 rfl (by kernel_rfl) ?_
  subst hn
  have hr := rem_mod (k := k) (n := (ns.length : Int)) (by omega)
  rw [← hd] at hr
  clear hd
  refine rFieldAt rfl ?_
  refine rLd (H.at 0 rfl) 1 rfl rfl rfl ?_
  refine cF (vEq_F (by omega)) ?_
  refine rFieldAt rfl ?_
  refine rLd (H.at 0 rfl) 0 rfl rfl rfl ?_
  refine rFieldAt rfl ?_
  refine rLd (H.at 0 rfl) 1 rfl rfl rfl ?_
  refine DivP.mk (by omega) ?_
  refine EqP.keep ?_
  generalize vRem k ns.length = q at *
  have hfs : fsv ns = .pointer (some ⟨nbk ns 0, 0, none⟩) := fsvS h0
  rw [hfs]
  rcases hr with ⟨r1, r2, r3⟩ | ⟨r1, r2, r3⟩
  · subst r3
    refine LoopP.rule (α := Nat) (0) (fun x_ => [(1, .int .i64 (d - x_)), (6, .pointer (some ⟨nbk ns x_, 0, none⟩))]) (fun x_ w_ => ((x_ : Int) ≤ d) ∧ Sat g w_ ((Pt r [fsv ns, .int .i64 ns.length] 39 :: Nd m 98 :: l))) (fun x_ => d.toNat - x_) ?_ ?_ ?_
    · repeat first | exact mt_nil | refine mt_cons rfl ?_ | refine mt_i rfl (by first | omega | (simp only; omega) | (simp; omega) | (simp; done)) ?_
    · try simp only
      refine ⟨?_, ?_⟩
      · assumption
      exact H
    clear H
    rintro j f_ w_ ⟨hj, H⟩
    try simp only at hj H ⊢
    by_cases hc : (j : Int) < d
    · have hlt : j < ns.length := by omega
      replace H := rgOpen H hR hlt
      have this : nxi ns.length j = j + 1 := if_neg (by omega)
      refine cT (vLt_T (by omega)) ?_
      refine bk ?_
      refine rFieldAt rfl ?_
      refine rLd (H.at 0 rfl) 2 rfl rfl rfl ?_
      refine eqI64 (by omega) ?_
      replace H := rgBack H hR hlt
      rw [this]
      refine Nxt.mk (j + 1) (mt_i rfl (by first | omega | (simp only; omega) | (simp; omega)) (mt_cons rfl (mt_nil))) ?_ ?_
      · refine ⟨?_, ?_⟩
        · assumption
        exact H
      omega
    · have hd2 : d.toNat = j := by omega
      rw [hd2]
      have hlt : j < ns.length := by omega
      refine cF (vLt_F (by omega)) ?_
      refine LoopP.rule (α := Nat) (0) (fun x_ => [(1, .int .i64 (d - j)), (6, .pointer (some ⟨nbk ns j, 0, none⟩))]) (fun x_ w_ => Sat g w_ ((Pt r [fsv ns, .int .i64 ns.length] 39 :: Nd m 98 :: l))) (fun x_ => x_) ?_ ?_ ?_
      · repeat first | exact mt_nil | refine mt_cons rfl ?_ | refine mt_i rfl (by first | omega | (simp only; omega) | (simp; omega) | (simp; done)) ?_
      · try simp only
        exact H
      clear H
      rintro u f_ w_ H
      try simp only at H ⊢
      replace H := rgOpen H hR hlt
      refine cF (vLt_F (by omega)) ?_
      refine rFieldAt rfl ?_
      refine rLd (H.at 0 rfl) 0 rfl rfl rfl ?_
      replace H := rgBack H hR hlt
      refine Done.mk ?_
      refine ⟨?_, ?_⟩
      · rfl
      refine H.cg (cgC (cgPt ?_) (cgC rfl (rfl)))
      (simp; omega)
  · refine LoopP.rule (α := Nat) (0) (fun x_ => [(1, .int .i64 q), (6, .pointer (some ⟨nbk ns 0, 0, none⟩))]) (fun x_ w_ => Sat g w_ ((Pt r [fsv ns, .int .i64 ns.length] 39 :: Nd m 98 :: l))) (fun x_ => x_) ?_ ?_ ?_
    · repeat first | exact mt_nil | refine mt_cons rfl ?_ | refine mt_i rfl (by first | omega | (simp only; omega) | (simp; omega) | (simp; done)) ?_
    · try simp only
      exact H
    clear H
    rintro u f_ w_ H
    try simp only at H ⊢
    refine cF (vLt_F (by omega)) ?_
    refine LoopP.rule (α := Nat) (0) (fun x_ => [(1, .int .i64 (q + x_)), (6, .pointer (some ⟨nbk ns (if x_ = 0 then 0 else ns.length - x_), 0, none⟩))]) (fun x_ w_ => (q + x_ ≤ 0) ∧ Sat g w_ ((Pt r [fsv ns, .int .i64 ns.length] 39 :: Nd m 98 :: l))) (fun x_ => (-q).toNat - x_) ?_ ?_ ?_
    · repeat first | exact mt_nil | refine mt_cons rfl ?_ | refine mt_i rfl (by first | omega | (simp only; omega) | (simp; omega) | (simp; done)) ?_
    · try simp only
      refine ⟨?_, ?_⟩
      · omega
      exact H
    clear H
    rintro j f_ w_ ⟨hj, H⟩
    try simp only at hj H ⊢
    have hlt : (if j = 0 then 0 else ns.length - j) < ns.length := by split <;> omega
    by_cases hc : q + (j : Int) < 0
    · have this : pvi ns.length (if j = 0 then 0 else ns.length - j) = (if j + 1 = 0 then 0 else ns.length - (j + 1)) := by
        rw [if_neg (by omega : ¬ j + 1 = 0)]
        rcases Nat.eq_zero_or_pos j with hz | hz
        · subst hz; rw [if_pos rfl]; exact (if_pos rfl).trans (by omega)
        · rw [if_neg (by omega : ¬ j = 0)]; unfold pvi; rw [if_neg (by omega)]; omega
      replace H := rgOpen H hR hlt
      refine cT (vLt_T (by assumption)) ?_
      refine bk ?_
      refine rFieldAt rfl ?_
      refine rLd (H.at 0 rfl) 1 rfl rfl rfl ?_
      refine eqI64 (by omega) ?_
      replace H := rgBack H hR hlt
      rw [this]
      refine Nxt.mk (j + 1) (mt_i rfl (by first | omega | (simp only; omega) | (simp; omega)) (mt_cons rfl (mt_nil))) ?_ ?_
      · refine ⟨?_, ?_⟩
        · omega
        exact H
      omega
    · have hd2 : d.toNat = (if j = 0 then 0 else ns.length - j) := by rw [if_neg (by omega)]; omega
      rw [hd2]
      replace H := rgOpen H hR hlt
      refine cF (vLt_F (by omega)) ?_
      refine rFieldAt rfl ?_
      refine rLd (H.at 0 rfl) 0 rfl rfl rfl ?_
      replace H := rgBack H hR hlt
      refine Done.mk ?_
      refine ⟨?_, ?_⟩
      · rfl
      refine H.cg (cgC (cgPt ?_) (cgC rfl (rfl)))
      (simp; omega)
end
end Go.Proofs.Ytcgenmddojgbpaa.Ring
