/- Package nest: trees as they lie; copied, deep, size. -/
import Derived.Test.YtpobebafdecgaaaNestT
import Derived.Test.YtpobebafdecgaaaNestC
import Derived.Test.YtpobebafdecgaaaMeth
set_option maxRecDepth 100000
set_option maxHeartbeats 4000000
set_option linter.unusedVariables false
set_option linter.unusedSimpArgs false
namespace Go.Proofs.Ytpobebafdecgaaa.Nest
open Go Go.Proofs.Ytpobebafdecgaaa.Eng Go.RowKit
open Ins
inductive NdV
  | single (x : InsV)
  | block (h : InsV) (wv : Value) (w : List NdV)
  | choice (h : InsV) (wv : Value) (w : List NdV) (ov : Value) (o : List NdV) (both : Bool)
def valN : NdV → Value
  | .single x => .iface 100 (.agg #[.int .u8 x.op, .int .i64 x.a, .int .i64 x.b, x.tv])
  | .block h wv _ => .iface 96 (.agg #[.int .u8 h.op, .int .i64 h.a, .int .i64 h.b, h.tv, wv])
  | .choice h wv _ ov _ both => .iface 98 (.agg #[.int .u8 h.op, .int .i64 h.a, .int .i64 h.b, h.tv, wv, ov, .bool both])
def enN (n : NdV) : List Value := [valN n]
mutual
def dN : NdV → Nd
  | .single x => .single x.d
  | .block h _ w => .block h.d (dNs w)
  | .choice h _ w _ o both => .choice h.d (dNs w) (dNs o) both
def dNs : List NdV → List Nd
  | [] => []
  | n :: r => dN n :: dNs r
end
mutual
def okN (g : Glob) : NdV → Prop
  | .single x => okV g x
  | .block h wv w => okV g h ∧ FSl g enN (fun _ => True) 1 wv w ∧ okNs g w
  | .choice h wv w ov o _ => okV g h ∧ FSl g enN (fun _ => True) 1 wv w ∧ okNs g w ∧ FSl g enN (fun _ => True) 1 ov o ∧ okNs g o
def okNs (g : Glob) : List NdV → Prop
  | [] => True
  | n :: r => okN g n ∧ okNs g r
end
mutual
theorem okN.ext {g g' : Glob} (E : Ext g g') : ∀ n, okN g n → okN g' n
  | .single x, h => by rw [okN] at h ⊢; exact h.ext E
  | .block hd wv w, h => by rw [okN] at h ⊢; exact ⟨h.1.ext E, FSl.ext h.2.1 E, okNs.ext' E w h.2.2⟩
  | .choice hd wv w ov o b, h => by rw [okN] at h ⊢; exact ⟨h.1.ext E, FSl.ext h.2.1 E, okNs.ext' E w h.2.2.1, FSl.ext h.2.2.2.1 E, okNs.ext' E o h.2.2.2.2⟩
theorem okNs.ext' {g g' : Glob} (E : Ext g g') : ∀ l, okNs g l → okNs g' l
  | [], h => trivial
  | n :: r, h => by rw [okNs] at h ⊢; exact ⟨okN.ext E n h.1, okNs.ext' E r h.2⟩
end
theorem okNs.ext {g g' : Glob} {l : List NdV} (h : okNs g l) (E : Ext g g') : okNs g' l := okNs.ext' E l h
theorem okNs.at {g : Glob} : ∀ {l : List NdV} {k : Nat} {n : NdV}, okNs g l → l[k]? = some n → okN g n
  | [], _, _, _, h => by simp at h
  | m :: r, 0, n, h, hk => by rw [okNs] at h; obtain rfl := Option.some.inj hk; exact h.1
  | m :: r, k + 1, n, h, hk => by rw [okNs] at h; exact okNs.at h.2 (by simpa using hk)
theorem okNs.snoc {g : Glob} {n : NdV} : ∀ {l : List NdV}, okNs g l → okN g n → okNs g (l ++ [n])
  | [], _, h => by rw [List.nil_append, okNs]; exact ⟨h, trivial⟩
  | m :: r, h, hn => by rw [okNs] at h; rw [List.cons_append, okNs]; exact ⟨h.1, okNs.snoc h.2 hn⟩
theorem dNs_app : ∀ a b : List NdV, dNs (a ++ b) = dNs a ++ dNs b
  | [], b => by rw [List.nil_append, dNs]; rfl
  | n :: r, b => by rw [List.cons_append, dNs, dNs, dNs_app r b]; rfl
theorem dNs_take {l : List NdV} {k : Nat} {n : NdV} (h : l[k]? = some n) : dNs (l.take (k + 1)) = dNs (l.take k) ++ [dN n] := by
  rw [List.take_add_one, h, dNs_app]; simp [dNs]
theorem dNs_at : ∀ {l : List NdV} {k : Nat} {n : NdV}, l[k]? = some n → dN n ∈ dNs l
  | [], _, _, h => by simp at h
  | m :: r, 0, n, hk => by obtain rfl := Option.some.inj hk; rw [dNs]; exact List.mem_cons_self ..
  | m :: r, k + 1, n, hk => by rw [dNs]; exact List.mem_cons_of_mem _ (dNs_at (by simpa using hk))
theorem deep_mem : ∀ {l : List Nd} {n : Nd}, n ∈ l → deepN n ≤ deepL l
  | [], _, h => by simp at h
  | m :: r, n, h => by
    rw [deepL]
    rcases List.mem_cons.1 h with rfl | h
    · omega
    · have := deep_mem h; omega
theorem size_mem : ∀ {l : List Nd} {n : Nd}, n ∈ l → sizeN n ≤ sizeL l
  | [], _, h => by simp at h
  | m :: r, n, h => by
    rw [sizeL]
    rcases List.mem_cons.1 h with rfl | h
    · omega
    · have := size_mem h; omega
theorem size_at {l : List NdV} {k : Nat} {n : NdV} (h : l[k]? = some n) : SizeOf.sizeOf n < SizeOf.sizeOf l := List.sizeOf_lt_of_mem (List.mem_of_getElem? h)
theorem size_take {xs : List NdV} {k : Nat} : sizeL (dNs (xs.take k)) ≤ sizeL (dNs xs) := by
  conv => rhs; rw [← List.take_append_drop k xs, dNs_app, sizeL_app]
  omega
theorem copied (w : World) (o a b : Int) (tv : Value) (to : List Int) (hx : Rd enI okI 1 w tv to) (hl : to.length ≤ 1000000) : Fc Try.prog 46 #[.agg #[.int .u8 o, .int .i64 a, .int .i64 b, tv]] w
    (fun r w' => ∃ tv', r = .agg #[.int .u8 o, .int .i64 a, .int .i64 b, tv'] ∧ Sat (froz w) w' [Sl 2 1 enI tv' to]) := by
  refine Fc.of Try.func46 rfl (by kernel_rfl) ?_
  have H := Sat.start w
  have hx := hx.fz
  refine rBoxS H ?_
  clear H
  intro p1 w1 H
  refine rAllocS H rfl ?_
  clear H
  intro p2 w2 H
  clear w1
  refine rFieldAt rfl ?_
  refine rLd (H.at 1 rfl) 3 rfl rfl rfl ?_
  replace H := H.sl0 (en := enI) (s := 1) (2) (fun _ => rfl)
  refine rApR 8 H 0 rfl (H.rd hx) (fun y _ => rfl) rfl rfl rfl (by (simp only [List.length_append, List.length_set, List.length_cons, List.length_nil]; omega)) (by (simp only [List.length_append, List.length_set, List.length_cons, List.length_nil]; omega)) ?_
  intro v1
  clear H
  intro w1 H
  clear w2
  refine rFieldAt rfl ?_
  refine rStS H 2 rfl rfl rfl (H.one 0 rfl) ?_
  clear H
  intro w2 H
  clear w1
  refine rLdA (H.at 2 rfl) 0 rfl rfl rfl ?_
  refine rStAS H 1 rfl rfl rfl (by simp only [List.all_cons, List.all_nil, H.one 0 rfl, FSl.one hx]; rfl) ?_
  clear H
  intro w1 H
  clear w2
  refine rdAN (H.at 1 rfl) 0 rfl rfl rfl ?_
  refine Done.mk ?_
  refine ⟨v1, ?_⟩
  refine ⟨?_, ?_⟩
  · rfl
  refine H.firsts 1 ?_
  clear H
  intro H
  exact H
theorem deep : ∀ (n : Nat) (g : Glob) (w : World) (l : List As) (v : Value) (xs : List NdV) (hn : SizeOf.sizeOf xs ≤ n) (H : Sat g w l) (hx : FSl g enN (fun _ => True) 1 v xs) (hok : okNs g xs) (hb : deepL (dNs xs) ≤ 1000), Fc Try.prog 34 #[v] w (fun r w' => (∃ d : Nat, r = .int .i64 (d : Int) ∧ d = deepL (dNs xs)) ∧ Sat g w' l) := by
  intro n
  induction n with
  | zero =>
    intro g w l v xs hn
    exfalso
    cases xs <;> simp at hn
  | succ n ih =>
    intro g w l v xs hn H hx hok hb
    refine Fc.of Try.func34 rfl (by kernel_rfl) ?_
    have hxl := hx.len
    refine rLenF hx rfl ?_
    refine LoopP.rule (α := Nat × Nat) (0, 0) (fun x_ => [(10, .int .i64 x_.1), (3, .int .i64 x_.2)]) (fun x_ w_ => (x_.1 ≤ xs.length) ∧ (x_.2 = deepL (dNs (xs.take x_.1))) ∧ Sat g w_ (l)) (fun x_ => xs.length - x_.1) ?_ ?_ ?_
    · repeat first | exact mt_nil | refine mt_cons rfl ?_ | refine mt_i rfl (by first | omega | (simp only; omega) | (simp; omega) | (simp; done)) ?_
    · try simp only
      refine ⟨?_, ?_⟩
      · omega
      refine ⟨?_, ?_⟩
      · rfl
      exact H
    clear H
    rintro ⟨k, m⟩ f_ w_ ⟨hk, hm, H⟩
    try simp only at hk hm H ⊢
    rcases Nat.lt_or_ge k xs.length with hlt | hge
    · obtain ⟨x, hxk⟩ : ∃ x, xs[k]? = some x := ⟨_, List.getElem?_eq_getElem hlt⟩
      have hsz := size_at hxk
      have hox := hok.at hxk
      have hdm := deep_mem (dNs_at hxk)
      have hst := dNs_take hxk
      cases x with
      | single x =>
        rw [okN] at hox
        refine cT (vLt_T (by omega)) ?_
        refine bk ?_
        obtain ⟨b1, o1, E1, F1, hok1⟩ := FSl.elt hx hxk
        refine rIxE E1 rfl rfl rfl ?_
        refine rLd (H.fat F1) 0 rfl rfl rfl ?_
        refine bk ?_
        refine rAssertF rfl rfl rfl rfl ?_
        refine cF rfl ?_
        refine rAssertF rfl rfl rfl rfl ?_
        refine cF rfl ?_
        refine eqI64 (by omega) ?_
        refine Nxt.mk ((k + 1, m)) (mt_i rfl (by first | omega | (simp only; omega) | (simp; omega)) (mt_cons rfl (mt_nil))) ?_ ?_
        · refine ⟨?_, ?_⟩
          · assumption
          refine ⟨?_, ?_⟩
          · (rw [hst, deepL_app, ← hm, deepL, deepL, dN, deepN]; omega)
          exact H
        omega
      | block hd wv ws =>
        rw [okN] at hox
        obtain ⟨ho1, ho2, ho3⟩ := hox
        have ho4 := ho1.to
        rw [dN, deepN] at hdm
        simp only [NdV.block.sizeOf_spec] at hsz
        refine cT (vLt_T (by omega)) ?_
        refine bk ?_
        obtain ⟨b1, o1, E1, F1, hok1⟩ := FSl.elt hx hxk
        refine rIxE E1 rfl rfl rfl ?_
        refine rLd (H.fat F1) 0 rfl rfl rfl ?_
        refine bk ?_
        refine rAssertT rfl rfl ?_
        refine cT rfl ?_
        refine rAllocS H rfl ?_
        clear H
        intro p1 w1 H
        clear w_
        refine rStAS H 0 rfl rfl rfl (by simp only [List.all_cons, List.all_nil, FSl.one ho4, FSl.one ho2, FSl.one hx]; rfl) ?_
        clear H
        intro w2 H
        clear w1
        refine rFieldAt rfl ?_
        refine rLd (H.at 0 rfl) 4 rfl rfl rfl ?_
        refine CallP.mk (Fc.imp (ih _ _ _ _ _ ?_ H ho2 ?_ ?_) ?_)
        · omega
        · assumption
        · omega
        clear H
        rintro _ w1 ⟨⟨d1, ⟨rfl, h1⟩⟩, H⟩
        refine eqI64 (by omega) ?_
        refine rMax ?_
        refine eqI64 (by omega) ?_
        refine Nxt.mk ((k + 1, (max (↑m : Int) (1 + (↑d1 : Int))).toNat)) (mt_i rfl (by first | omega | (simp only; omega) | (simp; omega)) (mt_i rfl (by first | omega | (simp only; omega) | (simp; omega)) (mt_nil))) ?_ ?_
        · refine ⟨?_, ?_⟩
          · assumption
          refine ⟨?_, ?_⟩
          · (rw [hst, deepL_app, ← hm, deepL, deepL, dN, deepN]; omega)
          refine H.drop 0 ?_
          clear H
          intro H
          exact H
        omega
      | choice hd wv ws ov os both =>
        rw [okN] at hox
        obtain ⟨ho1, ho2, ho3, ho4, ho5⟩ := hox
        have ho6 := ho1.to
        rw [dN, deepN] at hdm
        simp only [NdV.choice.sizeOf_spec] at hsz
        refine cT (vLt_T (by omega)) ?_
        refine bk ?_
        obtain ⟨b1, o1, E1, F1, hok1⟩ := FSl.elt hx hxk
        refine rIxE E1 rfl rfl rfl ?_
        refine rLd (H.fat F1) 0 rfl rfl rfl ?_
        refine bk ?_
        refine rAssertF rfl rfl rfl rfl ?_
        refine cF rfl ?_
        refine rAssertT rfl rfl ?_
        refine cT rfl ?_
        refine rAllocS H rfl ?_
        clear H
        intro p1 w1 H
        clear w_
        refine rStAS H 0 rfl rfl rfl (by simp only [List.all_cons, List.all_nil, FSl.one ho6, FSl.one ho4, FSl.one ho2, FSl.one hx]; rfl) ?_
        clear H
        intro w2 H
        clear w1
        refine drawzS H [] [(0, .pure), (1, .pure), (2, .pure), (3, .held), (6, .pure), (7, .held), (4, .forced), (5, .pure), (8, .free), (9, .pure), (10, .pure), (11, .pure)] mixed (by kernel_rfl) (by kernel_rfl) ?_
        clear H
        intro w1 H
        clear w2
        refine tk (fun wx HS => rFieldAt rfl ⟨rfl, rfl⟩) ?_
        refine tk (fun wx HS => rFieldAt rfl ⟨rfl, rfl⟩) ?_
        refine tk (fun wx HS => rLd (HS.at 0 rfl) 4 rfl rfl rfl ⟨rfl, rfl⟩) ?_
        refine tk (fun wx HS => rFieldAt rfl ⟨rfl, rfl⟩) ?_
        refine tk (fun wx HS => rLd (HS.at 0 rfl) 5 rfl rfl rfl ⟨rfl, rfl⟩) ?_
        refine CallP.mk (Fc.imp (ih _ _ _ _ _ ?_ H ho2 ?_ ?_) ?_)
        · omega
        · assumption
        · omega
        clear H
        rintro _ w2 ⟨⟨d1, ⟨rfl, h1⟩⟩, H⟩
        refine KeepP.mk (H) ?_
        refine eqI64 (by omega) ?_
        refine CallP.mk (Fc.imp (ih _ _ _ _ _ ?_ H ho4 ?_ ?_) ?_)
        · omega
        · assumption
        · omega
        clear H
        rintro _ w3 ⟨⟨d2, ⟨rfl, h2⟩⟩, H⟩
        refine eqI64 (by omega) ?_
        refine tk (fun wx HS => rMax3 ⟨rfl, rfl⟩) ?_
        refine eqI64 (by omega) ?_
        refine Nxt.mk ((k + 1, (max (max (↑m : Int) (1 + (↑d1 : Int))) (1 + (↑d2 : Int))).toNat)) (mt_i rfl (by first | omega | (simp only; omega) | (simp; omega)) (mt_i rfl (by first | omega | (simp only; omega) | (simp; omega)) (mt_nil))) ?_ ?_
        · refine ⟨?_, ?_⟩
          · assumption
          refine ⟨?_, ?_⟩
          · (rw [hst, deepL_app, ← hm, deepL, deepL, dN, deepN]; omega)
          refine H.drop 0 ?_
          clear H
          intro H
          exact H
        omega
    · refine cF (vLt_F (by omega)) ?_
      refine Done.mk ?_
      refine ⟨?_, ?_⟩
      · refine ⟨m, ?_⟩
        refine ⟨?_, ?_⟩
        · (rw [hm, List.take_of_length_le hge])
        (rw [hm, List.take_of_length_le hge])
      exact H
theorem size : ∀ (n : Nat) (g : Glob) (w : World) (l : List As) (v : Value) (xs : List NdV) (hn : SizeOf.sizeOf xs ≤ n) (H : Sat g w l) (hx : FSl g enN (fun _ => True) 1 v xs) (hok : okNs g xs) (hb : sizeL (dNs xs) ≤ 1000), Fc Try.prog 35 #[v] w (fun r w' => (∃ d : Nat, r = .int .i64 (d : Int) ∧ d = sizeL (dNs xs)) ∧ Sat g w' l) := by
  intro n
  induction n with
  | zero =>
    intro g w l v xs hn
    exfalso
    cases xs <;> simp at hn
  | succ n ih =>
    intro g w l v xs hn H hx hok hb
    refine Fc.of Try.func35 rfl (by kernel_rfl) ?_
    have hxl := hx.len
    refine rLenF hx rfl ?_
    refine LoopP.rule (α := Nat × Nat) (0, 0) (fun x_ => [(10, .int .i64 x_.1), (3, .int .i64 x_.2)]) (fun x_ w_ => (x_.1 ≤ xs.length) ∧ (x_.2 = sizeL (dNs (xs.take x_.1))) ∧ (x_.2 ≤ 1000) ∧ Sat g w_ (l)) (fun x_ => xs.length - x_.1) ?_ ?_ ?_
    · repeat first | exact mt_nil | refine mt_cons rfl ?_ | refine mt_i rfl (by first | omega | (simp only; omega) | (simp; omega) | (simp; done)) ?_
    · try simp only
      refine ⟨?_, ?_⟩
      · omega
      refine ⟨?_, ?_⟩
      · rfl
      refine ⟨?_, ?_⟩
      · omega
      exact H
    clear H
    rintro ⟨k, m⟩ f_ w_ ⟨hk, hm, hm2, H⟩
    try simp only at hk hm hm2 H ⊢
    rcases Nat.lt_or_ge k xs.length with hlt | hge
    · obtain ⟨x, hxk⟩ : ∃ x, xs[k]? = some x := ⟨_, List.getElem?_eq_getElem hlt⟩
      have hsz := size_at hxk
      have hox := hok.at hxk
      have hst := dNs_take hxk
      have hdm := size_take (xs := xs) (k := k + 1)
      rw [hst, sizeL_app, ← hm, sizeL, sizeL] at hdm
      cases x with
      | single x =>
        rw [okN] at hox
        refine cT (vLt_T (by omega)) ?_
        refine bk ?_
        obtain ⟨b1, o1, E1, F1, hok1⟩ := FSl.elt hx hxk
        refine rIxE E1 rfl rfl rfl ?_
        refine rLd (H.fat F1) 0 rfl rfl rfl ?_
        refine bk ?_
        refine rAssertF rfl rfl rfl rfl ?_
        refine cF rfl ?_
        refine rAssertF rfl rfl rfl rfl ?_
        refine cF rfl ?_
        refine eqI64 (by omega) ?_
        refine Nxt.mk ((k + 1, m)) (mt_i rfl (by first | omega | (simp only; omega) | (simp; omega)) (mt_cons rfl (mt_nil))) ?_ ?_
        · refine ⟨?_, ?_⟩
          · assumption
          refine ⟨?_, ?_⟩
          · (rw [hst, sizeL_app, ← hm, sizeL, sizeL, dN, sizeN]; omega)
          refine ⟨?_, ?_⟩
          · assumption
          exact H
        omega
      | block hd wv ws =>
        rw [okN] at hox
        obtain ⟨ho1, ho2, ho3⟩ := hox
        have ho4 := ho1.to
        rw [dN, sizeN] at hdm
        simp only [NdV.block.sizeOf_spec] at hsz
        refine cT (vLt_T (by omega)) ?_
        refine bk ?_
        obtain ⟨b1, o1, E1, F1, hok1⟩ := FSl.elt hx hxk
        refine rIxE E1 rfl rfl rfl ?_
        refine rLd (H.fat F1) 0 rfl rfl rfl ?_
        refine bk ?_
        refine rAssertT rfl rfl ?_
        refine cT rfl ?_
        refine rAllocS H rfl ?_
        clear H
        intro p1 w1 H
        clear w_
        refine rStAS H 0 rfl rfl rfl (by simp only [List.all_cons, List.all_nil, FSl.one ho4, FSl.one ho2, FSl.one hx]; rfl) ?_
        clear H
        intro w2 H
        clear w1
        refine rFieldAt rfl ?_
        refine rLd (H.at 0 rfl) 4 rfl rfl rfl ?_
        refine CallP.mk (Fc.imp (ih _ _ _ _ _ ?_ H ho2 ?_ ?_) ?_)
        · omega
        · assumption
        · omega
        clear H
        rintro _ w1 ⟨⟨d1, ⟨rfl, h1⟩⟩, H⟩
        refine eqI64 (by omega) ?_
        refine eqI64 (by omega) ?_
        refine eqI64 (by omega) ?_
        refine Nxt.mk ((k + 1, m + (1 + d1))) (mt_i rfl (by first | omega | (simp only; omega) | (simp; omega)) (mt_i rfl (by first | omega | (simp only; omega) | (simp; omega)) (mt_nil))) ?_ ?_
        · refine ⟨?_, ?_⟩
          · assumption
          refine ⟨?_, ?_⟩
          · (rw [hst, sizeL_app, ← hm, sizeL, sizeL, dN, sizeN]; omega)
          refine ⟨?_, ?_⟩
          · omega
          refine H.drop 0 ?_
          clear H
          intro H
          exact H
        omega
      | choice hd wv ws ov os both =>
        rw [okN] at hox
        obtain ⟨ho1, ho2, ho3, ho4, ho5⟩ := hox
        have ho6 := ho1.to
        rw [dN, sizeN] at hdm
        simp only [NdV.choice.sizeOf_spec] at hsz
        refine cT (vLt_T (by omega)) ?_
        refine bk ?_
        obtain ⟨b1, o1, E1, F1, hok1⟩ := FSl.elt hx hxk
        refine rIxE E1 rfl rfl rfl ?_
        refine rLd (H.fat F1) 0 rfl rfl rfl ?_
        refine bk ?_
        refine rAssertF rfl rfl rfl rfl ?_
        refine cF rfl ?_
        refine rAssertT rfl rfl ?_
        refine cT rfl ?_
        refine rAllocS H rfl ?_
        clear H
        intro p1 w1 H
        clear w_
        refine rStAS H 0 rfl rfl rfl (by simp only [List.all_cons, List.all_nil, FSl.one ho6, FSl.one ho4, FSl.one ho2, FSl.one hx]; rfl) ?_
        clear H
        intro w2 H
        clear w1
        refine drawzS H [] [(0, .pure), (1, .pure), (2, .pure), (3, .held), (6, .pure), (7, .held), (4, .forced), (5, .pure), (8, .free), (9, .pure), (10, .pure), (11, .pure)] mixed (by kernel_rfl) (by kernel_rfl) ?_
        clear H
        intro w1 H
        clear w2
        refine tk (fun wx HS => rFieldAt rfl ⟨rfl, rfl⟩) ?_
        refine tk (fun wx HS => rFieldAt rfl ⟨rfl, rfl⟩) ?_
        refine tk (fun wx HS => rLd (HS.at 0 rfl) 4 rfl rfl rfl ⟨rfl, rfl⟩) ?_
        refine tk (fun wx HS => rFieldAt rfl ⟨rfl, rfl⟩) ?_
        refine tk (fun wx HS => rLd (HS.at 0 rfl) 5 rfl rfl rfl ⟨rfl, rfl⟩) ?_
        refine CallP.mk (Fc.imp (ih _ _ _ _ _ ?_ H ho2 ?_ ?_) ?_)
        · omega
        · assumption
        · omega
        clear H
        rintro _ w2 ⟨⟨d1, ⟨rfl, h1⟩⟩, H⟩
        refine KeepP.mk (H) ?_
        refine eqI64 (by omega) ?_
        refine CallP.mk (Fc.imp (ih _ _ _ _ _ ?_ H ho4 ?_ ?_) ?_)
        · omega
        · assumption
        · omega
        clear H
        rintro _ w3 ⟨⟨d2, ⟨rfl, h2⟩⟩, H⟩
        refine eqI64 (by omega) ?_
        refine eqI64 (by omega) ?_
        refine eqI64 (by omega) ?_
        refine Nxt.mk ((k + 1, m + (1 + d1 + d2))) (mt_i rfl (by first | omega | (simp only; omega) | (simp; omega)) (mt_i rfl (by first | omega | (simp only; omega) | (simp; omega)) (mt_nil))) ?_ ?_
        · refine ⟨?_, ?_⟩
          · assumption
          refine ⟨?_, ?_⟩
          · (rw [hst, sizeL_app, ← hm, sizeL, sizeL, dN, sizeN]; omega)
          refine ⟨?_, ?_⟩
          · omega
          refine H.drop 0 ?_
          clear H
          intro H
          exact H
        omega
    · refine cF (vLt_F (by omega)) ?_
      refine Done.mk ?_
      refine ⟨?_, ?_⟩
      · refine ⟨m, ?_⟩
        refine ⟨?_, ?_⟩
        · (rw [hm, List.take_of_length_le hge])
        (rw [hm, List.take_of_length_le hge])
      exact H
end Go.Proofs.Ytpobebafdecgaaa.Nest
