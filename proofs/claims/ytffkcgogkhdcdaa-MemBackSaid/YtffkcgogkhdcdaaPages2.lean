/- Package mem: Of, Bytes, All. -/
import Derived.Test.YtffkcgogkhdcdaaPages
set_option maxRecDepth 100000
set_option maxHeartbeats 4000000
set_option linter.unusedVariables false
set_option linter.unusedSimpArgs false
namespace Go.Proofs.Ytffkcgogkhdcdaa.Mem
open Go Go.Proofs.Ytffkcgogkhdcdaa.Eng Go.RowKit
def okOf (ys : List UInt8) (most : Int) : Prop := 0 ≤ most ∧ most ≤ 8 ∧ ys.length % 256 = 0 ∧ (ys.length / 256 : Nat) ≤ most
theorem ow_all {xs ys : List UInt8} (h : xs.length = ys.length) : ow xs 0 ys = ys := by
  unfold ow
  rw [List.take_zero, List.nil_append, Nat.zero_add, ← h, List.drop_length, List.append_nil]
theorem of (w : World) (ys : List UInt8) (most : Int) (hy : ys.length ≤ 9223372036854775807) : Fc Try.prog 27 #[.string (bs ys), .int .i64 most] w (fun r w' =>
    (okOf ys most ∧ ∃ p v ps, r = .tuple #[.pointer (some ⟨p, 0, none⟩), .int .i64 0] ∧ flat ps = ys ∧ ps.length ≤ 8 ∧ Sat (froz w) w' [Pt p [v, .int .i64 most] 110, Sl 116 256 enP v ps]) ∨ (¬ okOf ys most ∧ r = .tuple #[.pointer none, .int .i64 1] ∧ Sat (froz w) w' [])) := by
  refine Fc.of Try.func27 rfl (by kernel_rfl) ?_
  have H := Sat.start w
  refine br (fun c1 => ?_) (fun c1 => ?_)
  · replace c1 := vLt_t (c1)
    refine cT rfl ?_
    refine Done.mk ?_
    exact .inr ⟨fun h => by obtain ⟨h1, h2, h3, h4⟩ := h; omega, rfl, H⟩
  replace c1 := vLt_f (c1)
  refine br (fun c2 => ?_) (fun c2 => ?_)
  · replace c2 := vLt_t (c2)
    refine cT rfl ?_
    refine Done.mk ?_
    exact .inr ⟨fun h => by obtain ⟨h1, h2, h3, h4⟩ := h; omega, rfl, H⟩
  replace c2 := vLt_f (c2)
  refine rLenStr rfl ?_
  refine DivP.mk (by decide) ?_
  refine eqRem (by omega) ?_
  refine br (fun c3 => ?_) (fun c3 => ?_)
  · replace c3 := vNe_t (c3)
    refine cT rfl ?_
    refine Done.mk ?_
    exact .inr ⟨fun h => by obtain ⟨h1, h2, h3, h4⟩ := h; omega, rfl, H⟩
  replace c3 := vNe_f (c3)
  refine rLenStr rfl ?_
  refine DivP.mk (by decide) ?_
  refine eqQuo (by omega) (by omega) ?_
  refine cI (fun c4 => ?_) (fun c4 => ?_)
  · replace c4 := vLt_t (c4)
    refine Done.mk ?_
    exact .inr ⟨fun h => by obtain ⟨h1, h2, h3, h4⟩ := h; omega, rfl, H⟩
  replace c4 := vLt_f (c4)
  refine rLenStr rfl ?_
  refine DivP.mk (by decide) ?_
  refine eqQuo (by omega) (by omega) ?_
  refine rMakeS (en := enP) (s := 256) H (zp) (((ys.length) / 256)) (((ys.length) / 256)) 256 rfl rfl rfl enP_len (by omega) (by omega) (by omega) (by omega) (by omega) ?_
  intro v1
  clear H
  intro w1 H
  obtain ⟨a1, c5, rfl⟩ := H.form 0 rfl
  refine rBuild rfl rfl rfl ?_
  refine rBoxS H ?_
  clear H
  intro p1 w2 H
  clear w1
  refine CallP.mk (Fc.imp (Go.Proofs.Ytffkcgogkhdcdaa.Mem.put H _ _ ?_ ?_ ?_) ?_)
  · (simp; omega)
  · omega
  · assumption
  clear H
  rintro _ w1 ⟨e1, ⟨ps'1, ⟨rfl, ⟨(⟨h1, ⟨h2, h3⟩⟩ | ⟨h4, ⟨h5, h6⟩⟩), ⟨h7, H⟩⟩⟩⟩⟩
  · refine Done.mk ?_
    exact absurd ⟨by omega, by rw [List.length_replicate]; omega⟩ h3
  refine Done.mk ?_
  exact .inl ⟨⟨by omega, by omega, by omega, by omega⟩, _, _, _, rfl, Eq.trans (by assumption) (ow_all (by rw [flat_length, List.length_replicate]; omega)), by rw [h7, List.length_replicate]; omega, H⟩
theorem dropY (xs : List UInt8) (k c : Nat) : ((xs.flatMap enY).drop k).take c = ((xs.drop k).take c).flatMap enY := by
  rw [flatY, flatY, ← List.map_drop, ← List.map_drop, ← List.map_take, ← List.map_take]
theorem atY {w : World} {b o : Nat} {xs : List UInt8} (h : At w b o (xs.flatMap enY)) (k c : Nat) : At w b (o + k) (((xs.drop k).take c).flatMap enY) := by
  rw [← dropY]
  exact h.sub k c
theorem flat_part' {ps : List Page} {i k c : Nat} {p : Page} (hp : ps[i]? = some p) (h : k + c ≤ 256) : ((flat ps).drop (256 * i + k)).take c = (p.l.drop k).take c := by
  apply List.ext_getElem?
  intro q
  rw [List.getElem?_take, List.getElem?_take]
  split
  · rw [List.getElem?_drop, List.getElem?_drop, flat_get, show (256 * i + k + q) / 256 = i by omega, show (256 * i + k + q) % 256 = k + q by omega, hp]; rfl
  · rfl
theorem oneY (y : UInt8) : ((enY y).all (·.oneCell')) = true := rfl
theorem rd_step {xs zs : List UInt8} {b m c : Nat} (h : c ≤ m) : (zs ++ (xs.drop b).take c) ++ (xs.drop (b + c)).take (m - c) = zs ++ (xs.drop b).take m := by
  rw [List.append_assoc]
  congr 1
  rw [show m = c + (m - c) by omega, List.take_add, List.drop_drop, Nat.add_sub_cancel_left]
theorem bytes {g : Glob} {w : World} {l : List As} {p : Nat} {v mo : Value} {ps : List Page} (H : Sat g w (Pt p [v, mo] 110 :: Sl 116 256 enP v ps :: l)) (a n : Int) (hp : ps.length ≤ 8) (ha : -9223372036854775808 ≤ a ∧ a ≤ 9223372036854775807) (hn : -9223372036854775808 ≤ n ∧ n ≤ 9223372036854775807) :
    Fc Try.prog 52 #[.pointer (some ⟨p, 0, none⟩), .int .i64 a, .int .i64 n] w (fun r w' => ∃ e zs, r = .tuple #[.string (bs zs), .int .i64 e] ∧ ((e = 23 ∧ zs = [] ∧ ¬ (0 ≤ a ∧ 0 ≤ n ∧ a + n ≤ 256 * ps.length)) ∨ (e = 0 ∧ (0 ≤ a ∧ 0 ≤ n ∧ a + n ≤ 256 * ps.length) ∧ zs = ((flat ps).drop a.toNat).take n.toNat)) ∧ Sat g w' (Pt p [v, mo] 110 :: Sl 116 256 enP v ps :: l)) := by
  refine Fc.of Try.func52 rfl (by kernel_rfl) ?_
  refine rFieldAt rfl ?_
  refine rLd (H.at 0 rfl) 0 rfl rfl rfl ?_
  refine rLenS H 1 rfl rfl ?_
  refine eqI64 (by omega) ?_
  refine br (fun c1 => ?_) (fun c1 => ?_)
  · replace c1 := vLt_t (c1)
    refine cT rfl ?_
    refine Done.mk ?_
    exact ⟨_, _, rfl, .inl ⟨rfl, rfl, by omega⟩, H⟩
  replace c1 := vLt_f (c1)
  refine br (fun c2 => ?_) (fun c2 => ?_)
  · replace c2 := vLt_t (c2)
    refine cT rfl ?_
    refine Done.mk ?_
    exact ⟨_, _, rfl, .inl ⟨rfl, rfl, by omega⟩, H⟩
  replace c2 := vLt_f (c2)
  refine br (fun c3 => ?_) (fun c3 => ?_)
  · replace c3 := vLt_t (c3)
    refine cT rfl ?_
    refine Done.mk ?_
    exact ⟨_, _, rfl, .inl ⟨rfl, rfl, by omega⟩, H⟩
  replace c3 := vLt_f (c3)
  refine eqI64 (by omega) ?_
  refine cI (fun c4 => ?_) (fun c4 => ?_)
  · replace c4 := vLt_t (c4)
    refine Done.mk ?_
    exact ⟨_, _, rfl, .inl ⟨rfl, rfl, by omega⟩, H⟩
  replace c4 := vLt_f (c4)
  refine rMakeS (en := enY) (s := 1) H (0) (0) ((n).toNat) 1 rfl rfl rfl (fun _ => rfl) (by omega) (by omega) (by omega) (by omega) (by omega) ?_
  intro v1
  clear H
  intro w1 H
  refine LoopP.rule (α := Nat × Nat × List UInt8 × Value) (a.toNat, n.toNat, List.replicate 0 0, v1) (fun x_ => [(1, .int .i64 x_.1), (2, .int .i64 x_.2.1), (9, x_.2.2.2)]) (fun x_ w_ => (x_.1 + x_.2.1 ≤ 256 * ps.length) ∧ (x_.2.2.1.length + x_.2.1 ≤ 2048) ∧ (x_.2.2.1 ++ ((flat ps).drop x_.1).take x_.2.1 = ((flat ps).drop a.toNat).take n.toNat) ∧ Sat g w_ ((Sl 5 1 enY x_.2.2.2 x_.2.2.1 :: Pt p [v, mo] 110 :: Sl 116 256 enP v ps :: l))) (fun x_ => x_.2.1) ?_ ?_ ?_
  · repeat first | exact mt_nil | refine mt_cons rfl ?_ | refine mt_i rfl (by first | omega | (simp only; omega) | (simp; omega) | (simp; done)) ?_
  · try simp only
    refine ⟨?_, ?_⟩
    · omega
    refine ⟨?_, ?_⟩
    · (simp; omega)
    refine ⟨?_, ?_⟩
    · (rw [List.replicate_zero, List.nil_append]; done)
    exact H
  clear H
  rintro ⟨b, m, zs, vo⟩ f_ w_ ⟨hb, hz, he, H⟩
  try simp only at hb hz he H ⊢
  rcases Nat.eq_zero_or_pos m with hm | hm
  · subst hm
    refine cF (vLt_F (by omega)) ?_
    refine rBytesStrS H 0 rfl rfl rfl rfl ?_
    refine Done.mk ?_
    exact ⟨_, _, rfl, .inr ⟨rfl, ⟨by omega, by omega, by omega⟩, by rw [← he, List.take_zero, List.append_nil]⟩, H.del 0⟩
  · obtain ⟨k, hk⟩ : ∃ k, k = b % 256 := ⟨_, rfl⟩
    refine cT (vLt_T (by omega)) ?_
    refine bk ?_
    refine rFieldAt rfl ?_
    refine rLd (H.at 1 rfl) 0 rfl rfl rfl ?_
    refine DivP.mk (by decide) ?_
    refine eqQuo (by omega) (by omega) ?_
    obtain ⟨x1, hx1⟩ : ∃ x, (ps)[((b) / 256)]? = some x := ⟨_, List.getElem?_eq_getElem (by omega)⟩
    obtain ⟨b1, o1, E1⟩ := H.elt 2 rfl ((b) / 256) (by omega)
    refine rIxE E1 rfl rfl rfl ?_
    refine DivP.mk (by decide) ?_
    refine eqRem (by omega) ?_
    refine rSlArr (lo := k) (by omega) (by omega) rfl rfl ?_
    rcases Nat.lt_or_ge m (256 - k) with hmk | hmk
    · refine rLenSl rfl ?_
      refine cT (vLt_T (by omega)) ?_
      refine rSlH m rfl rfl (by omega) (by omega) ?_
      
      refine rApS (ys := (x1.l.drop k).take (m)) 1 H 0 rfl (atY (xs := x1.l) (show At _ _ _ (enP x1) from H.el 2 rfl E1 hx1) k (m)) (by rw [List.length_take, List.length_drop, x1.h]; omega) (fun y _ => oneY y) rfl rfl rfl (by omega) (by omega) ?_
      intro vo' w2 H
      have hf := flat_part' (k := k) (c := m) hx1 (by omega)
      rw [show 256 * (b / 256) + k = b by omega] at hf
      have hs := (rd_step (xs := flat ps) (zs := zs) (b := b) (m := m) (c := m) (by omega)).trans he
      rw [hf] at hs
      have hcl : ((x1.l.drop k).take (m)).length = m := by rw [List.length_take, List.length_drop, x1.h]; omega
      refine rLenSl rfl ?_
      refine eqI64 (by omega) ?_
      refine rLenSl rfl ?_
      refine eqI64 (by omega) ?_
      refine Nxt.mk ((b + m, m - m, zs ++ List.take m (List.drop k x1.l), vo')) (mt_i rfl (by first | omega | (simp only; omega) | (simp; omega)) (mt_i rfl (by first | omega | (simp only; omega) | (simp; omega)) (mt_cons rfl (mt_nil)))) ?_ ?_
      · refine ⟨?_, ?_⟩
        · (simp only [List.length_append, List.length_set, List.length_cons, List.length_nil]; omega)
        refine ⟨?_, ?_⟩
        · (simp only [List.length_append, List.length_set, List.length_cons, List.length_nil]; omega)
        refine ⟨?_, ?_⟩
        · assumption
        exact H
      (simp only [List.length_append, List.length_set, List.length_cons, List.length_nil]; omega)
    · refine rLenSl rfl ?_
      refine cF (vLt_F (by omega)) ?_
      refine rApS (ys := (x1.l.drop k).take (256 - k)) 1 H 0 rfl (atY (xs := x1.l) (show At _ _ _ (enP x1) from H.el 2 rfl E1 hx1) k (256 - k)) (by rw [List.length_take, List.length_drop, x1.h]; omega) (fun y _ => oneY y) rfl rfl rfl (by omega) (by omega) ?_
      intro vo' w2 H
      have hf := flat_part' (k := k) (c := 256 - k) hx1 (by omega)
      rw [show 256 * (b / 256) + k = b by omega] at hf
      have hs := (rd_step (xs := flat ps) (zs := zs) (b := b) (m := m) (c := 256 - k) (by omega)).trans he
      rw [hf] at hs
      have hcl : ((x1.l.drop k).take (256 - k)).length = 256 - k := by rw [List.length_take, List.length_drop, x1.h]; omega
      refine rLenSl rfl ?_
      refine eqI64 (by omega) ?_
      refine rLenSl rfl ?_
      refine eqI64 (by omega) ?_
      refine Nxt.mk ((b + (256 - k), m - (256 - k), zs ++ List.take (256 - k) (List.drop k x1.l), vo')) (mt_i rfl (by first | omega | (simp only; omega) | (simp; omega)) (mt_i rfl (by first | omega | (simp only; omega) | (simp; omega)) (mt_cons rfl (mt_nil)))) ?_ ?_
      · refine ⟨?_, ?_⟩
        · (simp only [List.length_append, List.length_set, List.length_cons, List.length_nil]; omega)
        refine ⟨?_, ?_⟩
        · (simp only [List.length_append, List.length_set, List.length_cons, List.length_nil]; omega)
        refine ⟨?_, ?_⟩
        · assumption
        exact H
      (simp only [List.length_append, List.length_set, List.length_cons, List.length_nil]; omega)
end Go.Proofs.Ytffkcgogkhdcdaa.Mem
