/- Texts of this claim, one behind the other. -/
import Derived.Test.YtndhikahjmgamaaGreatDoorM5
import Derived.Test.YtndhikahjmgamaaGreatDoorM3
import Derived.Shelf.Small.Utf8
import Derived.Shelf.Small.Bits
import Derived.Shelf.Small.Strs
import Derived.Shelf.Strconv.Itoa0
import Derived.Shelf.Strings.Search1
import Derived.Shelf.Strings.Search2
import Derived.Shelf.Strings.Search3
import Derived.Shelf.LaysM
import Derived.Shelf.Strings.Shaped
import Derived.Shelf.Strings.Runes
import Derived.Shelf.Strings.IndexAny
import Derived.Shelf.Strings.AsciiSet
import Derived.Shelf.Strings.IndexAnyAll
import Derived.Ground.Names2Prog
import Derived.Shelf.Slices.Clone
import Derived.Ground.SlgnProg
import Derived.Shelf.SlicesE.Clone
import Derived.Test.YtndhikahjmgamaaGreatDoorProg
import Derived.Test.YtndhikahjmgamaaGreatDoorM2
import Derived.Test.YtndhikahjmgamaaGreatDoorM4
/- Package fold: the small functions and the simple rules. -/
set_option maxRecDepth 100000
set_option maxHeartbeats 4000000
set_option linter.unusedVariables false
set_option linter.unusedSimpArgs false
namespace Go.Proofs.YtndhikahjmgamaaGreatDoor.Fold
open Go Go.Proofs.YtndhikahjmgamaaGreatDoor.Eng Go.RowKit
open Ins Nest Leb Bin Valid
theorem i0_map {xs : List InsV} {x : InsV} (h : xs[0]? = some x) : i0 (xs.map InsV.d) = x.d := by
  unfold i0; rw [List.getD_eq_getElem?_getD, List.getElem?_map, h]; rfl
theorem i1_map {xs : List InsV} {x : InsV} (h : xs[1]? = some x) : i1 (xs.map InsV.d) = x.d := by
  unfold i1; rw [List.getD_eq_getElem?_getD, List.getElem?_map, h]; rfl
theorem i2_map {xs : List InsV} {x : InsV} (h : xs[2]? = some x) : i2 (xs.map InsV.d) = x.d := by
  unfold i2; rw [List.getD_eq_getElem?_getD, List.getElem?_map, h]; rfl
theorem shape1 {xs : List InsV} {x : InsV} (h : xs[0]? = some x) : xs.map InsV.d = x.d :: (xs.map InsV.d).drop 1 := by
  cases xs with
  | nil => cases h
  | cons a r => rw [show a = x from Option.some.inj h]; rfl
theorem shape2 {xs : List InsV} {x y : InsV} (h : xs[0]? = some x) (h1 : xs[1]? = some y) : xs.map InsV.d = x.d :: y.d :: (xs.map InsV.d).drop 2 := by
  match xs, h, h1 with
  | a :: b :: r, h, h1 => rw [show a = x from Option.some.inj h, show b = y from Option.some.inj h1]; rfl
theorem len2 {xs : List InsV} {x : InsV} {z : Int} {s : List Int} (hx0 : xs[0]? = some x) (hr : run (xs.map InsV.d) (z :: s) = some []) (h : x.op ≠ 11) : 2 ≤ xs.length := by
  match xs, hx0 with
  | [a], hx0 =>
    obtain rfl : a = x := Option.some.inj hx0
    exact absurd rfl (two_of hr h)
  | a :: b :: r, _ => simp
section
variable {g : Glob} {w : World} {l : List As}
theorem isConstX (H : Sat g w l) (x : InsV) (hx : okV g x) : Fc Tryz.prog 68 #[.agg #[.int .u8 x.op, .int .i64 x.a, .int .i64 x.b, x.tv]] w (fun r w' => ∃ b, r = .bool b ∧ (b = true ↔ (x.op = 65 ∨ x.op = 66)) ∧ Sat g w' l) := by
  refine Fc.of Tryz.func68 rfl (by kernel_rfl) ?_
  refine rBoxS H ?_
  clear H
  intro p1 w1 H
  refine rFieldAt rfl ?_
  refine rLd (H.at 0 rfl) 0 rfl rfl rfl ?_
  refine br (fun c1 => ?_) (fun c1 => ?_)
  · replace c1 := vEq_t (c1)
    refine Done.mk ?_
    refine ⟨true, ?_⟩
    refine ⟨?_, ?_⟩
    · exact congrArg Value.bool (rfl)
    refine ⟨?_, ?_⟩
    · (simp; omega)
    refine H.drop 0 ?_
    clear H
    intro H
    exact H
  replace c1 := vEq_f (c1)
  refine rFieldAt rfl ?_
  refine rLd (H.at 0 rfl) 0 rfl rfl rfl ?_
  refine Done.mk ?_
  refine ⟨vEq x.op 66, ?_⟩
  refine ⟨?_, ?_⟩
  · rfl
  refine ⟨?_, ?_⟩
  · (rw [vEq_iff, decide_eq_true_iff]; omega)
  refine H.drop 0 ?_
  clear H
  intro H
  exact H
theorem isNumberX (H : Sat g w l) (x : InsV) (hx : okV g x) : Fc Tryz.prog 74 #[.agg #[.int .u8 x.op, .int .i64 x.a, .int .i64 x.b, x.tv]] w (fun r w' => ∃ b, r = .bool b ∧ (b = true ↔ x.op = 65) ∧ Sat g w' l) := by
  refine Fc.of Tryz.func74 rfl (by kernel_rfl) ?_
  refine rBoxS H ?_
  clear H
  intro p1 w1 H
  refine rFieldAt rfl ?_
  refine rLd (H.at 0 rfl) 0 rfl rfl rfl ?_
  refine Done.mk ?_
  refine ⟨vEq x.op 65, ?_⟩
  refine ⟨?_, ?_⟩
  · rfl
  refine ⟨?_, ?_⟩
  · (simp [vEq_iff, vNe_iff, vLt_iff, vLe_iff]; done)
  refine H.drop 0 ?_
  clear H
  intro H
  exact H
theorem kindOfX (H : Sat g w l) (x : InsV) (hx : okV g x) : Fc Tryz.prog 71 #[.agg #[.int .u8 x.op, .int .i64 x.a, .int .i64 x.b, x.tv]] w (fun r w' => ∃ k, r = .int .u8 k ∧ k = kOf x.d ∧ Sat g w' l) := by
  refine Fc.of Tryz.func71 rfl (by kernel_rfl) ?_
  refine rBoxS H ?_
  clear H
  intro p1 w1 H
  refine rLdA (H.at 0 rfl) 0 rfl rfl rfl ?_
  refine CallP.mk (Fc.imp (Go.Proofs.YtndhikahjmgamaaGreatDoor.Fold.isNumberX H _ ?_) ?_)
  · assumption
  clear H
  rintro _ w2 ⟨b1, ⟨rfl, ⟨h1, H⟩⟩⟩
  refine cI (fun c1 => ?_) (fun c1 => ?_)
  · replace c1 := h1.1 (c1)
    refine Done.mk ?_
    refine ⟨127, ?_⟩
    refine ⟨?_, ?_⟩
    · refine int_eq ?_
      omega
    refine ⟨?_, ?_⟩
    · exact (if_pos (show x.d.op = 65 from by assumption)).symm
    refine H.drop 0 ?_
    clear H
    intro H
    exact H
  replace c1 := iff_f h1 (c1)
  refine Done.mk ?_
  refine ⟨126, ?_⟩
  refine ⟨?_, ?_⟩
  · refine int_eq ?_
    omega
  refine ⟨?_, ?_⟩
  · exact (if_neg (show ¬ x.d.op = 65 from by assumption)).symm
  refine H.drop 0 ?_
  clear H
  intro H
  exact H
theorem spn_step {l : List InsD} {i : Nat} {x : InsD} {d d2 : Int} {n : Nat} (h : n = i + spn d (l.drop i)) (hx : l[i]? = some x) (hd : d2 = d + dd x) (h0 : d2 ≠ 0) : n = (i + 1) + spn d2 (l.drop (i + 1)) := by
  have hh := List.getElem?_eq_some_iff.1 hx
  rw [h, List.drop_eq_getElem_cons hh.1, hh.2, spn, ← hd, if_neg h0]; omega
theorem spn_end {l : List InsD} {i : Nat} {x : InsD} {d d2 : Int} {n : Nat} (h : n = i + spn d (l.drop i)) (hx : l[i]? = some x) (hd : d2 = d + dd x) (h0 : d2 = 0) : (n : Int) = (i : Int) + 1 := by
  have hh := List.getElem?_eq_some_iff.1 hx
  rw [h, List.drop_eq_getElem_cons hh.1, hh.2, spn, ← hd, if_pos h0]; omega
theorem spn_all {l : List InsD} {i : Nat} {d : Int} {n : Nat} (h : n = i + spn d (l.drop i)) (hi : l.length ≤ i) : n = i := by
  rw [h, List.drop_of_length_le hi]; rfl
theorem spn_le : ∀ (d : Int) (l : List InsD), spn d l ≤ l.length
  | _, [] => Nat.le_refl _
  | d, x :: r => by
    rw [spn]
    split
    · simp
    · have := spn_le (d + dd x) r
      simp; omega
theorem oth_step {l : List InsD} {i : Nat} {x : InsD} {d d2 : Int} {n : Nat} (h : n = i + oth d (l.drop i)) (hx : l[i]? = some x) (hd : d2 = d + dd x) (h0 : ¬ ((x.op = 5 ∧ d = 1) ∨ (x.op = 11 ∧ d = 1))) : n = (i + 1) + oth d2 (l.drop (i + 1)) := by
  have hh := List.getElem?_eq_some_iff.1 hx
  rw [h, List.drop_eq_getElem_cons hh.1, hh.2, oth, if_neg h0, ← hd]; omega
theorem oth_end {l : List InsD} {i : Nat} {x : InsD} {d : Int} {n : Nat} (h : n = i + oth d (l.drop i)) (hx : l[i]? = some x) (h0 : (x.op = 5 ∧ d = 1) ∨ (x.op = 11 ∧ d = 1)) : n = i := by
  have hh := List.getElem?_eq_some_iff.1 hx
  rw [h, List.drop_eq_getElem_cons hh.1, hh.2, oth, if_pos h0]; rfl
theorem oth_all {l : List InsD} {i : Nat} {d : Int} {n : Nat} (h : n = i + oth d (l.drop i)) (hi : l.length ≤ i) : n = i := by
  rw [h, List.drop_of_length_le hi]; rfl
theorem dd_open {x : InsV} (h : x.op = 2 ∨ x.op = 3 ∨ x.op = 4) : dd x.d = 1 := if_pos h
theorem dd_end {x : InsV} (h : x.op = 11) : dd x.d = -1 := by
  have h : x.d.op = 11 := h
  unfold dd; rw [if_neg (by unfold Opn; omega), if_pos h]
theorem dd_no {x : InsV} (h2 : x.op ≠ 2) (h3 : x.op ≠ 3) (h4 : x.op ≠ 4) (h : x.op ≠ 11) : dd x.d = 0 := by
  have h : x.d.op ≠ 11 := h
  unfold dd; rw [if_neg (fun k => by unfold Opn at k; exact k.elim h2 fun k => k.elim h3 h4), if_neg h]
theorem spanX (H : Sat g w l) (v : Value) (xs : List InsV) (hx : FSl g enV (okV g) 4 v xs) (hl : xs.length ≤ 200) : Fc Tryz.prog 75 #[v] w (fun r w' => ∃ n : Nat, r = .int .i64 n ∧ n = spn 0 (xs.map InsV.d) ∧ n ≤ 200 ∧ Sat g w' l) := by
  obtain ⟨n, hn⟩ : ∃ n, n = spn 0 (xs.map InsV.d) := ⟨_, rfl⟩
  have hn2 : n ≤ xs.length := by rw [hn]; have := spn_le 0 (xs.map InsV.d); rw [List.length_map] at this; exact this
  rw [← hn]
  have hn0 : n = 0 + spn 0 ((xs.map InsV.d).drop 0) := by rw [hn]; simp
  refine Fc.of Tryz.func75 rfl (by kernel_rfl) ?_
  refine rLenF hx rfl ?_
  refine LoopP.rule (α := Nat × Int) (0, 0) (fun x_ => [(3, .int .i64 x_.2), (8, .int .i64 x_.1)]) (fun x_ w_ => (x_.1 ≤ xs.length) ∧ (x_.2 ≤ x_.1 ∧ -x_.1 ≤ x_.2) ∧ (n = x_.1 + spn x_.2 ((xs.map InsV.d).drop x_.1)) ∧ Sat g w_ (l)) (fun x_ => xs.length - x_.1) ?_ ?_ ?_
  · repeat first | exact mt_nil | refine mt_cons rfl ?_ | refine mt_i rfl (by first | omega | (simp only; omega) | (simp; omega) | (simp; done)) ?_
  · try simp only
    refine ⟨?_, ?_⟩
    · omega
    refine ⟨?_, ?_⟩
    · refine ⟨?_, ?_⟩
      · omega
      omega
    refine ⟨?_, ?_⟩
    · exact hn0
    exact H
  clear H
  rintro ⟨i, d⟩ f_ w_ ⟨hi, hd, hn, H⟩
  try simp only at hi hd hn H ⊢
  rcases Nat.lt_or_ge i xs.length with hlt | hge
  · obtain ⟨x, hxi⟩ : ∃ x, xs[i]? = some x := ⟨_, List.getElem?_eq_getElem hlt⟩
    have hxo := FSl.all hx x (List.mem_of_getElem? hxi)
    have hxd : (xs.map InsV.d)[i]? = some x.d := by rw [List.getElem?_map, hxi]; rfl
    refine cT (vLt_T (by omega)) ?_
    refine bk ?_
    obtain ⟨b1, o1, E1, F1, hok1⟩ := FSl.elt hx hxi
    have hok1_op := hok1.op
    have hok1_a := hok1.a
    have hok1_b := hok1.b
    have hok1_to := hok1.to
    refine rIxE E1 rfl rfl rfl ?_
    refine rLdA (H.fat F1) 0 rfl rfl rfl ?_
    refine rAllocS H rfl ?_
    clear H
    intro p1 w1 H
    clear w_
    refine rStAS H 0 rfl rfl rfl (by simp only [List.all_cons, List.all_nil, FSl.one hok1_to, FSl.one hx]; rfl) ?_
    clear H
    intro w2 H
    clear w1
    refine rFieldAt rfl ?_
    refine rLd (H.at 0 rfl) 0 rfl rfl rfl ?_
    refine bk ?_
    refine cI (fun c1 => ?_) (fun c1 => ?_)
    · replace c1 := vEq_t (c1)
      refine cT (vEq_T (by assumption)) ?_
      refine eqI64 (by omega) ?_
      refine cI (fun c2 => ?_) (fun c2 => ?_)
      · replace c2 := vEq_t (c2)
        refine eqI64 (by omega) ?_
        refine Done.mk ?_
        refine ⟨i + 1, ?_⟩
        refine ⟨?_, ?_⟩
        · refine int_eq ?_
          (have := spn_end (d2 := 0) hn hxd (by first | (rw [dd_open (by omega)]; omega) | (rw [dd_end (by omega)]; omega) | (rw [dd_no (by omega) (by omega) (by omega) (by omega)]; omega)) rfl; omega)
        refine ⟨?_, ?_⟩
        · (have := spn_end (d2 := 0) hn hxd (by first | (rw [dd_open (by omega)]; omega) | (rw [dd_end (by omega)]; omega) | (rw [dd_no (by omega) (by omega) (by omega) (by omega)]; omega)) rfl; omega)
        refine ⟨?_, ?_⟩
        · (have := spn_end (d2 := 0) hn hxd (by first | (rw [dd_open (by omega)]; omega) | (rw [dd_end (by omega)]; omega) | (rw [dd_no (by omega) (by omega) (by omega) (by omega)]; omega)) rfl; omega)
        refine H.drop 0 ?_
        clear H
        intro H
        exact H
      replace c2 := vEq_f (c2)
      refine eqI64 (by omega) ?_
      refine Nxt.mk ((i + 1, d + 1)) (mt_cons rfl (mt_i rfl (by first | omega | (simp only; omega) | (simp; omega)) (mt_nil))) ?_ ?_
      · refine ⟨?_, ?_⟩
        · assumption
        refine ⟨?_, ?_⟩
        · refine ⟨?_, ?_⟩
          · omega
          omega
        refine ⟨?_, ?_⟩
        · exact spn_step hn hxd (by first | rw [dd_open (by omega)] | (rw [dd_end (by omega)]; omega) | (rw [dd_no (by omega) (by omega) (by omega) (by omega)]; omega)) (by omega)
        refine H.drop 0 ?_
        clear H
        intro H
        exact H
      omega
    replace c1 := vEq_f (c1)
    refine cI (fun c2 => ?_) (fun c2 => ?_)
    · replace c2 := vEq_t (c2)
      refine cT (vEq_T (by assumption)) ?_
      refine eqI64 (by omega) ?_
      refine cI (fun c3 => ?_) (fun c3 => ?_)
      · replace c3 := vEq_t (c3)
        refine eqI64 (by omega) ?_
        refine Done.mk ?_
        refine ⟨i + 1, ?_⟩
        refine ⟨?_, ?_⟩
        · refine int_eq ?_
          (have := spn_end (d2 := 0) hn hxd (by first | (rw [dd_open (by omega)]; omega) | (rw [dd_end (by omega)]; omega) | (rw [dd_no (by omega) (by omega) (by omega) (by omega)]; omega)) rfl; omega)
        refine ⟨?_, ?_⟩
        · (have := spn_end (d2 := 0) hn hxd (by first | (rw [dd_open (by omega)]; omega) | (rw [dd_end (by omega)]; omega) | (rw [dd_no (by omega) (by omega) (by omega) (by omega)]; omega)) rfl; omega)
        refine ⟨?_, ?_⟩
        · (have := spn_end (d2 := 0) hn hxd (by first | (rw [dd_open (by omega)]; omega) | (rw [dd_end (by omega)]; omega) | (rw [dd_no (by omega) (by omega) (by omega) (by omega)]; omega)) rfl; omega)
        refine H.drop 0 ?_
        clear H
        intro H
        exact H
      replace c3 := vEq_f (c3)
      refine eqI64 (by omega) ?_
      refine Nxt.mk ((i + 1, d + 1)) (mt_cons rfl (mt_i rfl (by first | omega | (simp only; omega) | (simp; omega)) (mt_nil))) ?_ ?_
      · refine ⟨?_, ?_⟩
        · assumption
        refine ⟨?_, ?_⟩
        · refine ⟨?_, ?_⟩
          · omega
          omega
        refine ⟨?_, ?_⟩
        · exact spn_step hn hxd (by first | rw [dd_open (by omega)] | (rw [dd_end (by omega)]; omega) | (rw [dd_no (by omega) (by omega) (by omega) (by omega)]; omega)) (by omega)
        refine H.drop 0 ?_
        clear H
        intro H
        exact H
      omega
    replace c2 := vEq_f (c2)
    refine cI (fun c3 => ?_) (fun c3 => ?_)
    · replace c3 := vEq_t (c3)
      refine eqI64 (by omega) ?_
      refine cI (fun c4 => ?_) (fun c4 => ?_)
      · replace c4 := vEq_t (c4)
        refine eqI64 (by omega) ?_
        refine Done.mk ?_
        refine ⟨i + 1, ?_⟩
        refine ⟨?_, ?_⟩
        · refine int_eq ?_
          (have := spn_end (d2 := 0) hn hxd (by first | (rw [dd_open (by omega)]; omega) | (rw [dd_end (by omega)]; omega) | (rw [dd_no (by omega) (by omega) (by omega) (by omega)]; omega)) rfl; omega)
        refine ⟨?_, ?_⟩
        · (have := spn_end (d2 := 0) hn hxd (by first | (rw [dd_open (by omega)]; omega) | (rw [dd_end (by omega)]; omega) | (rw [dd_no (by omega) (by omega) (by omega) (by omega)]; omega)) rfl; omega)
        refine ⟨?_, ?_⟩
        · (have := spn_end (d2 := 0) hn hxd (by first | (rw [dd_open (by omega)]; omega) | (rw [dd_end (by omega)]; omega) | (rw [dd_no (by omega) (by omega) (by omega) (by omega)]; omega)) rfl; omega)
        refine H.drop 0 ?_
        clear H
        intro H
        exact H
      replace c4 := vEq_f (c4)
      refine eqI64 (by omega) ?_
      refine Nxt.mk ((i + 1, d + 1)) (mt_cons rfl (mt_i rfl (by first | omega | (simp only; omega) | (simp; omega)) (mt_nil))) ?_ ?_
      · refine ⟨?_, ?_⟩
        · assumption
        refine ⟨?_, ?_⟩
        · refine ⟨?_, ?_⟩
          · omega
          omega
        refine ⟨?_, ?_⟩
        · exact spn_step hn hxd (by first | rw [dd_open (by omega)] | (rw [dd_end (by omega)]; omega) | (rw [dd_no (by omega) (by omega) (by omega) (by omega)]; omega)) (by omega)
        refine H.drop 0 ?_
        clear H
        intro H
        exact H
      omega
    replace c3 := vEq_f (c3)
    refine cI (fun c4 => ?_) (fun c4 => ?_)
    · replace c4 := vEq_t (c4)
      refine eqI64 (by omega) ?_
      refine cI (fun c5 => ?_) (fun c5 => ?_)
      · replace c5 := vEq_t (c5)
        refine eqI64 (by omega) ?_
        refine Done.mk ?_
        refine ⟨i + 1, ?_⟩
        refine ⟨?_, ?_⟩
        · refine int_eq ?_
          (have := spn_end (d2 := 0) hn hxd (by first | (rw [dd_open (by omega)]; omega) | (rw [dd_end (by omega)]; omega) | (rw [dd_no (by omega) (by omega) (by omega) (by omega)]; omega)) rfl; omega)
        refine ⟨?_, ?_⟩
        · (have := spn_end (d2 := 0) hn hxd (by first | (rw [dd_open (by omega)]; omega) | (rw [dd_end (by omega)]; omega) | (rw [dd_no (by omega) (by omega) (by omega) (by omega)]; omega)) rfl; omega)
        refine ⟨?_, ?_⟩
        · (have := spn_end (d2 := 0) hn hxd (by first | (rw [dd_open (by omega)]; omega) | (rw [dd_end (by omega)]; omega) | (rw [dd_no (by omega) (by omega) (by omega) (by omega)]; omega)) rfl; omega)
        refine H.drop 0 ?_
        clear H
        intro H
        exact H
      replace c5 := vEq_f (c5)
      refine eqI64 (by omega) ?_
      refine Nxt.mk ((i + 1, d - 1)) (mt_cons rfl (mt_i rfl (by first | omega | (simp only; omega) | (simp; omega)) (mt_nil))) ?_ ?_
      · refine ⟨?_, ?_⟩
        · assumption
        refine ⟨?_, ?_⟩
        · refine ⟨?_, ?_⟩
          · omega
          omega
        refine ⟨?_, ?_⟩
        · exact spn_step hn hxd (by first | rw [dd_open (by omega)] | (rw [dd_end (by omega)]; omega) | (rw [dd_no (by omega) (by omega) (by omega) (by omega)]; omega)) (by omega)
        refine H.drop 0 ?_
        clear H
        intro H
        exact H
      omega
    replace c4 := vEq_f (c4)
    refine cI (fun c5 => ?_) (fun c5 => ?_)
    · replace c5 := vEq_t (c5)
      refine eqI64 (by omega) ?_
      refine Done.mk ?_
      refine ⟨i + 1, ?_⟩
      refine ⟨?_, ?_⟩
      · refine int_eq ?_
        (have := spn_end (d2 := 0) hn hxd (by first | (rw [dd_open (by omega)]; omega) | (rw [dd_end (by omega)]; omega) | (rw [dd_no (by omega) (by omega) (by omega) (by omega)]; omega)) rfl; omega)
      refine ⟨?_, ?_⟩
      · (have := spn_end (d2 := 0) hn hxd (by first | (rw [dd_open (by omega)]; omega) | (rw [dd_end (by omega)]; omega) | (rw [dd_no (by omega) (by omega) (by omega) (by omega)]; omega)) rfl; omega)
      refine ⟨?_, ?_⟩
      · (have := spn_end (d2 := 0) hn hxd (by first | (rw [dd_open (by omega)]; omega) | (rw [dd_end (by omega)]; omega) | (rw [dd_no (by omega) (by omega) (by omega) (by omega)]; omega)) rfl; omega)
      refine H.drop 0 ?_
      clear H
      intro H
      exact H
    replace c5 := vEq_f (c5)
    refine eqI64 (by omega) ?_
    refine Nxt.mk ((i + 1, d)) (mt_cons rfl (mt_i rfl (by first | omega | (simp only; omega) | (simp; omega)) (mt_nil))) ?_ ?_
    · refine ⟨?_, ?_⟩
      · assumption
      refine ⟨?_, ?_⟩
      · refine ⟨?_, ?_⟩
        · omega
        omega
      refine ⟨?_, ?_⟩
      · exact spn_step hn hxd (by first | rw [dd_open (by omega)] | (rw [dd_end (by omega)]; omega) | (rw [dd_no (by omega) (by omega) (by omega) (by omega)]; omega)) (by omega)
      refine H.drop 0 ?_
      clear H
      intro H
      exact H
    omega
  · refine cF (vLt_F (by (have := spn_all hn (by rw [List.length_map]; omega); omega))) ?_
    refine rLenF hx rfl ?_
    refine Done.mk ?_
    refine ⟨xs.length, ?_⟩
    refine ⟨?_, ?_⟩
    · refine int_eq ?_
      (have := spn_all hn (by rw [List.length_map]; omega); omega)
    refine ⟨?_, ?_⟩
    · (have := spn_all hn (by rw [List.length_map]; omega); omega)
    refine ⟨?_, ?_⟩
    · (have := spn_all hn (by rw [List.length_map]; omega); omega)
    (have := spn_all hn (by rw [List.length_map]; omega); omega)

theorem otherX (H : Sat g w l) (v : Value) (xs : List InsV) (hx : FSl g enV (okV g) 4 v xs) (hl : xs.length ≤ 200) (hp : 0 < xs.length) : Fc Tryz.prog 76 #[v] w (fun r w' => ∃ n : Nat, r = .int .i64 n ∧ n < xs.length ∧ (oth 0 (xs.map InsV.d) < xs.length → n = oth 0 (xs.map InsV.d)) ∧ Sat g w' l) := by
  obtain ⟨n, hn⟩ : ∃ n, n = oth 0 (xs.map InsV.d) := ⟨_, rfl⟩
  rw [← hn]
  have hn0 : n = 0 + oth 0 ((xs.map InsV.d).drop 0) := by rw [hn]; simp
  refine Fc.of Tryz.func76 rfl (by kernel_rfl) ?_
  refine rLenF hx rfl ?_
  refine LoopP.rule (α := Nat × Int) (0, 0) (fun x_ => [(3, .int .i64 x_.2), (8, .int .i64 x_.1)]) (fun x_ w_ => (x_.1 ≤ xs.length) ∧ (x_.2 ≤ x_.1 ∧ -x_.1 ≤ x_.2) ∧ (n = x_.1 + oth x_.2 ((xs.map InsV.d).drop x_.1)) ∧ Sat g w_ (l)) (fun x_ => xs.length - x_.1) ?_ ?_ ?_
  · repeat first | exact mt_nil | refine mt_cons rfl ?_ | refine mt_i rfl (by first | omega | (simp only; omega) | (simp; omega) | (simp; done)) ?_
  · try simp only
    refine ⟨?_, ?_⟩
    · omega
    refine ⟨?_, ?_⟩
    · refine ⟨?_, ?_⟩
      · omega
      omega
    refine ⟨?_, ?_⟩
    · exact hn0
    exact H
  clear H
  rintro ⟨i, d⟩ f_ w_ ⟨hi, hd, hn, H⟩
  try simp only at hi hd hn H ⊢
  rcases Nat.lt_or_ge i xs.length with hlt | hge
  · obtain ⟨x, hxi⟩ : ∃ x, xs[i]? = some x := ⟨_, List.getElem?_eq_getElem hlt⟩
    have hxo := FSl.all hx x (List.mem_of_getElem? hxi)
    have hxd : (xs.map InsV.d)[i]? = some x.d := by rw [List.getElem?_map, hxi]; rfl
    refine cT (vLt_T (by omega)) ?_
    refine bk ?_
    obtain ⟨b1, o1, E1, F1, hok1⟩ := FSl.elt hx hxi
    have hok1_op := hok1.op
    have hok1_a := hok1.a
    have hok1_b := hok1.b
    have hok1_to := hok1.to
    refine rIxE E1 rfl rfl rfl ?_
    refine rLdA (H.fat F1) 0 rfl rfl rfl ?_
    refine rAllocS H rfl ?_
    clear H
    intro p1 w1 H
    clear w_
    refine rStAS H 0 rfl rfl rfl (by simp only [List.all_cons, List.all_nil, FSl.one hok1_to, FSl.one hx]; rfl) ?_
    clear H
    intro w2 H
    clear w1
    refine rFieldAt rfl ?_
    refine rLd (H.at 0 rfl) 0 rfl rfl rfl ?_
    refine bk ?_
    refine cI (fun c1 => ?_) (fun c1 => ?_)
    · replace c1 := vEq_t (c1)
      refine cT (vEq_T (by assumption)) ?_
      refine eqI64 (by omega) ?_
      refine eqI64 (by omega) ?_
      refine Nxt.mk ((i + 1, d + 1)) (mt_cons rfl (mt_i rfl (by first | omega | (simp only; omega) | (simp; omega)) (mt_nil))) ?_ ?_
      · refine ⟨?_, ?_⟩
        · assumption
        refine ⟨?_, ?_⟩
        · refine ⟨?_, ?_⟩
          · omega
          omega
        refine ⟨?_, ?_⟩
        · exact oth_step hn hxd (by first | rw [dd_open (by omega)] | (rw [dd_end (by omega)]; omega) | (rw [dd_no (by omega) (by omega) (by omega) (by omega)]; omega)) (by show ¬ ((x.op = 5 ∧ d = 1) ∨ (x.op = 11 ∧ d = 1)); omega)
        refine H.drop 0 ?_
        clear H
        intro H
        exact H
      omega
    replace c1 := vEq_f (c1)
    refine cI (fun c2 => ?_) (fun c2 => ?_)
    · replace c2 := vEq_t (c2)
      refine cT (vEq_T (by assumption)) ?_
      refine eqI64 (by omega) ?_
      refine eqI64 (by omega) ?_
      refine Nxt.mk ((i + 1, d + 1)) (mt_cons rfl (mt_i rfl (by first | omega | (simp only; omega) | (simp; omega)) (mt_nil))) ?_ ?_
      · refine ⟨?_, ?_⟩
        · assumption
        refine ⟨?_, ?_⟩
        · refine ⟨?_, ?_⟩
          · omega
          omega
        refine ⟨?_, ?_⟩
        · exact oth_step hn hxd (by first | rw [dd_open (by omega)] | (rw [dd_end (by omega)]; omega) | (rw [dd_no (by omega) (by omega) (by omega) (by omega)]; omega)) (by show ¬ ((x.op = 5 ∧ d = 1) ∨ (x.op = 11 ∧ d = 1)); omega)
        refine H.drop 0 ?_
        clear H
        intro H
        exact H
      omega
    replace c2 := vEq_f (c2)
    refine cI (fun c3 => ?_) (fun c3 => ?_)
    · replace c3 := vEq_t (c3)
      refine eqI64 (by omega) ?_
      refine eqI64 (by omega) ?_
      refine Nxt.mk ((i + 1, d + 1)) (mt_cons rfl (mt_i rfl (by first | omega | (simp only; omega) | (simp; omega)) (mt_nil))) ?_ ?_
      · refine ⟨?_, ?_⟩
        · assumption
        refine ⟨?_, ?_⟩
        · refine ⟨?_, ?_⟩
          · omega
          omega
        refine ⟨?_, ?_⟩
        · exact oth_step hn hxd (by first | rw [dd_open (by omega)] | (rw [dd_end (by omega)]; omega) | (rw [dd_no (by omega) (by omega) (by omega) (by omega)]; omega)) (by show ¬ ((x.op = 5 ∧ d = 1) ∨ (x.op = 11 ∧ d = 1)); omega)
        refine H.drop 0 ?_
        clear H
        intro H
        exact H
      omega
    replace c3 := vEq_f (c3)
    refine cI (fun c4 => ?_) (fun c4 => ?_)
    · replace c4 := vEq_t (c4)
      refine cI (fun c5 => ?_) (fun c5 => ?_)
      · replace c5 := vEq_t (c5)
        refine Done.mk ?_
        exact ⟨i, rfl, hlt, fun _ => (oth_end hn hxd (by show (x.op = 5 ∧ d = 1) ∨ (x.op = 11 ∧ d = 1); omega)).symm, H.tl⟩
      replace c5 := vEq_f (c5)
      refine eqI64 (by omega) ?_
      refine Nxt.mk ((i + 1, d)) (mt_cons rfl (mt_i rfl (by first | omega | (simp only; omega) | (simp; omega)) (mt_nil))) ?_ ?_
      · refine ⟨?_, ?_⟩
        · assumption
        refine ⟨?_, ?_⟩
        · refine ⟨?_, ?_⟩
          · omega
          omega
        refine ⟨?_, ?_⟩
        · exact oth_step hn hxd (by first | rw [dd_open (by omega)] | (rw [dd_end (by omega)]; omega) | (rw [dd_no (by omega) (by omega) (by omega) (by omega)]; omega)) (by show ¬ ((x.op = 5 ∧ d = 1) ∨ (x.op = 11 ∧ d = 1)); omega)
        refine H.drop 0 ?_
        clear H
        intro H
        exact H
      omega
    replace c4 := vEq_f (c4)
    refine cI (fun c5 => ?_) (fun c5 => ?_)
    · replace c5 := vEq_t (c5)
      refine eqI64 (by omega) ?_
      refine cI (fun c6 => ?_) (fun c6 => ?_)
      · replace c6 := vEq_t (c6)
        refine Done.mk ?_
        exact ⟨i, rfl, hlt, fun _ => (oth_end hn hxd (by show (x.op = 5 ∧ d = 1) ∨ (x.op = 11 ∧ d = 1); omega)).symm, H.tl⟩
      replace c6 := vEq_f (c6)
      refine eqI64 (by omega) ?_
      refine Nxt.mk ((i + 1, d - 1)) (mt_cons rfl (mt_i rfl (by first | omega | (simp only; omega) | (simp; omega)) (mt_nil))) ?_ ?_
      · refine ⟨?_, ?_⟩
        · assumption
        refine ⟨?_, ?_⟩
        · refine ⟨?_, ?_⟩
          · omega
          omega
        refine ⟨?_, ?_⟩
        · exact oth_step hn hxd (by first | rw [dd_open (by omega)] | (rw [dd_end (by omega)]; omega) | (rw [dd_no (by omega) (by omega) (by omega) (by omega)]; omega)) (by show ¬ ((x.op = 5 ∧ d = 1) ∨ (x.op = 11 ∧ d = 1)); omega)
        refine H.drop 0 ?_
        clear H
        intro H
        exact H
      omega
    replace c5 := vEq_f (c5)
    refine eqI64 (by omega) ?_
    refine Nxt.mk ((i + 1, d)) (mt_cons rfl (mt_i rfl (by first | omega | (simp only; omega) | (simp; omega)) (mt_nil))) ?_ ?_
    · refine ⟨?_, ?_⟩
      · assumption
      refine ⟨?_, ?_⟩
      · refine ⟨?_, ?_⟩
        · omega
        omega
      refine ⟨?_, ?_⟩
      · exact oth_step hn hxd (by first | rw [dd_open (by omega)] | (rw [dd_end (by omega)]; omega) | (rw [dd_no (by omega) (by omega) (by omega) (by omega)]; omega)) (by show ¬ ((x.op = 5 ∧ d = 1) ∨ (x.op = 11 ∧ d = 1)); omega)
      refine H.drop 0 ?_
      clear H
      intro H
      exact H
    omega
  · refine cF (vLt_F (by omega)) ?_
    refine rLenF hx rfl ?_
    refine eqI64 (by omega) ?_
    refine Done.mk ?_
    exact ⟨xs.length - 1, congrArg (Value.int .i64) (by omega), by omega, fun h => by have := oth_all hn (by rw [List.length_map]; omega); omega, H⟩
theorem RuleR.no {k : Nat} {ls new : List InsD} {gone : Nat} (h : ¬ App k ls) : RuleR k ls gone new false := ⟨⟨fun h => (by cases h), fun h2 => absurd h2 h⟩, fun h => by cases h⟩
theorem RuleR.of {k : Nat} {ls new : List InsD} {gone : Nat} {b : Bool} (h : b = true ↔ App k ls) (t : App k ls → Tn CK ls gone new) : RuleR k ls gone new b := ⟨h, fun hb => t (h.1 hb)⟩

theorem R0 {xs : List InsV} {x : InsV} (hx0 : xs[0]? = some x) : RuleR 0 (xs.map InsV.d) 1 [] (vEq x.op 1) := by
  have e0 := i0_map hx0
  refine RuleR.of ?_ fun hA => ?_
  · show vEq x.op 1 = true ↔ (i0 _).op = 1
    rw [e0, vEq_iff, decide_eq_true_iff]; exact Iff.rfl
  · simp only [App, e0] at hA
    rw [shape1 hx0]; exact Tn.idle hA
theorem rule0 (H : Sat g w l) (v : Value) (xs : List InsV) (hx : FSl g enV (okV g) 4 v xs) (z : Int) (s : List Int) (hr : run (xs.map InsV.d) (z :: s) = some []) (hl : xs.length ≤ 200) (hp : 0 < xs.length) : Fc Tryz.prog 45 #[v] w (fun r w' => ∃ (g' : Glob) (gone : Nat) (nv : Value) (news : List InsV) (b : Bool), r = .tuple #[.agg #[.int .i64 gone, nv], .bool b] ∧ Ext g g' ∧ FSl g' enV (okV g') 4 nv news ∧ RuleR 0 (xs.map InsV.d) gone (news.map InsV.d) b ∧ Sat g' w' l) := by
  obtain ⟨x, hx0⟩ : ∃ x, xs[0]? = some x := ⟨_, List.getElem?_eq_getElem hp⟩
  have hxo := FSl.all hx x (List.mem_of_getElem? hx0)
  have hxo_op := hxo.op
  have hxo_a := hxo.a
  have e0 := i0_map hx0
  refine Fc.of Tryz.func45 rfl (by kernel_rfl) ?_
  refine rAllocS H rfl ?_
  clear H
  intro p1 w1 H
  refine drawzS H [0] [(0, .pure), (1, .pure), (2, .pure), (3, .pure), (4, .held), (5, .pure), (6, .forced), (7, .pure)] mixed (by kernel_rfl) (by kernel_rfl) ?_
  clear H
  intro w2 H
  clear w1
  refine tk (fun wx HS => rBuild rfl rfl rfl ⟨rfl, rfl⟩) ?_
  obtain ⟨b1, o1, E1, F1, hok1⟩ := FSl.elt hx hx0
  have hok1_op := hok1.op
  have hok1_a := hok1.a
  have hok1_b := hok1.b
  have hok1_to := hok1.to
  refine tk (fun wx HS => rIxE E1 rfl rfl rfl ⟨rfl, rfl⟩) ?_
  refine tk (fun wx HS => rFieldAt rfl ⟨rfl, rfl⟩) ?_
  refine tk (fun wx HS => rLd (HS.fat F1) 0 rfl rfl rfl ⟨rfl, rfl⟩) ?_
  refine rStAS H 0 rfl rfl rfl rfl ?_
  clear H
  intro w1 H
  clear w2
  refine KeepP.mk (H.drop 0 (fun H => H)) ?_
  refine rdAN (H.at 0 rfl) 0 rfl rfl rfl ?_
  refine Done.mk ?_
  exact ⟨g, 1, _, [], _, rfl, Ext.refl _, FSl.nil0 _ _ _ _, R0 hx0, H.tl⟩

end
end Go.Proofs.YtndhikahjmgamaaGreatDoor.Fold
/- Package fold: the simple rules. -/
set_option maxRecDepth 100000
set_option maxHeartbeats 4000000
set_option linter.unusedVariables false
set_option linter.unusedSimpArgs false
namespace Go.Proofs.YtndhikahjmgamaaGreatDoor.Fold
open Go Go.Proofs.YtndhikahjmgamaaGreatDoor.Eng Go.RowKit
open Ins Nest Leb Bin Valid
theorem RuleR.yes {k : Nat} {ls new : List InsD} {gone : Nat} (h : App k ls) (t : App k ls → Tn CK ls gone new) : RuleR k ls gone new true := ⟨⟨fun _ => h, fun _ => rfl⟩, fun _ => t h⟩
theorem one_ok {ok : InsV → Prop} {x : InsV} (h : ok x) : ∀ y ∈ [x], ok y := fun y hy => by rw [List.mem_singleton.1 hy]; exact h
section
variable {g : Glob} {w : World} {l : List As}
theorem rule3 (H : Sat g w l) (v : Value) (xs : List InsV) (hx : FSl g enV (okV g) 4 v xs) (z : Int) (s : List Int) (hr : run (xs.map InsV.d) (z :: s) = some []) (hl : xs.length ≤ 200) (hp : 0 < xs.length) : Fc Tryz.prog 48 #[v] w (fun r w' => ∃ (g' : Glob) (gone : Nat) (nv : Value) (news : List InsV) (b : Bool), r = .tuple #[.agg #[.int .i64 gone, nv], .bool b] ∧ Ext g g' ∧ FSl g' enV (okV g') 4 nv news ∧ RuleR 3 (xs.map InsV.d) gone (news.map InsV.d) b ∧ Sat g' w' l) := by
  obtain ⟨x, hx0⟩ : ∃ x, xs[0]? = some x := ⟨_, List.getElem?_eq_getElem hp⟩
  have hxo := FSl.all hx x (List.mem_of_getElem? hx0)
  have hxo_op := hxo.op
  have hxo_a := hxo.a
  have e0 := i0_map hx0
  refine Fc.of Tryz.func48 rfl (by kernel_rfl) ?_
  by_cases h2 : 2 ≤ xs.length
  · skip
    obtain ⟨y, hx1⟩ : ∃ y, xs[1]? = some y := ⟨_, List.getElem?_eq_getElem (by omega)⟩
    have hyo := FSl.all hx y (List.mem_of_getElem? hx1)
    have hyo_op := hyo.op
    have hyo_a := hyo.a
    have e1 := i1_map hx1
    refine rAllocS H rfl ?_
    clear H
    intro p1 w1 H
    obtain ⟨b1, o1, E1, F1, hok1⟩ := FSl.elt hx hx0
    have hok1_op := hok1.op
    have hok1_a := hok1.a
    have hok1_b := hok1.b
    have hok1_to := hok1.to
    refine rIxE E1 rfl rfl rfl ?_
    refine rLdA (H.fat F1) 0 rfl rfl rfl ?_
    refine CallP.mk (Fc.imp (Go.Proofs.YtndhikahjmgamaaGreatDoor.Fold.isConstX H _ ?_) ?_)
    · assumption
    clear H
    rintro _ w2 ⟨b2, ⟨rfl, ⟨h1, H⟩⟩⟩
    refine br (fun c1 => ?_) (fun c1 => ?_)
    · replace c1 := h1.1 (c1)
      refine drawzS H [0] [(0, .pure), (1, .pure), (2, .pure), (3, .pure), (4, .pure), (5, .pure), (6, .pure), (7, .pure), (8, .pure), (9, .pure), (10, .pure), (11, .held), (12, .pure), (13, .pure), (14, .forced), (15, .pure)] mixed (by kernel_rfl) (by kernel_rfl) ?_
      clear H
      intro w3 H
      clear w2
      refine tk (fun wx HS => rBuild rfl rfl rfl ⟨rfl, rfl⟩) ?_
      refine tk (fun wx HS => rLenF hx rfl ⟨rfl, rfl⟩) ?_
      refine br_t (vLt_T (by omega)) ?_
      obtain ⟨b3, o2, E2, F2, hok2⟩ := FSl.elt hx hx1
      have hok2_op := hok2.op
      have hok2_a := hok2.a
      have hok2_b := hok2.b
      have hok2_to := hok2.to
      refine tk (fun wx HS => rIxE E2 rfl rfl rfl ⟨rfl, rfl⟩) ?_
      refine tk (fun wx HS => rFieldAt rfl ⟨rfl, rfl⟩) ?_
      refine tk (fun wx HS => rLd (HS.fat F2) 0 rfl rfl rfl ⟨rfl, rfl⟩) ?_
      refine rStAS H 0 rfl rfl rfl rfl ?_
      clear H
      intro w2 H
      clear w3
      refine KeepP.mk (H.drop 0 (fun H => H)) ?_
      refine rdAN (H.at 0 rfl) 0 rfl rfl rfl ?_
      refine Done.mk ?_
      exact ⟨g, 2, _, [], _, rfl, Ext.refl _, FSl.nil0 _ _ _ _, (by first | exact RuleR.no (by intro hA; simp only [App, e0, e1, IsC, oneOk, List.length_map] at hA; (try simp only [InsV.d] at hA); omega) | exact RuleR.yes (by simp only [App, e0, e1, IsC, oneOk, List.length_map]; (try simp only [InsV.d]); omega) (fun hA => by simp only [App, e0, e1, IsC, oneOk, List.length_map] at hA; (try simp only [InsV.d] at hA); rw [shape2 hx0 hx1]; exact Tn.unused hA.1 hA.2.2) | exact RuleR.of (by rw [vEq_iff, decide_eq_true_iff]; simp only [App, e0, e1, IsC, oneOk, List.length_map]; (try simp only [InsV.d]); omega) (fun hA => by simp only [App, e0, e1, IsC, oneOk, List.length_map] at hA; (try simp only [InsV.d] at hA); rw [shape2 hx0 hx1]; exact Tn.unused hA.1 hA.2.2)), H.tl⟩
    replace c1 := iff_f h1 (c1)
    refine rIxE E1 rfl rfl rfl ?_
    refine rFieldAt rfl ?_
    refine rLd (H.fat F1) 0 rfl rfl rfl ?_
    refine br (fun c2 => ?_) (fun c2 => ?_)
    · replace c2 := vEq_t (c2)
      refine drawzS H [0] [(0, .pure), (1, .pure), (2, .pure), (3, .pure), (4, .pure), (5, .pure), (6, .pure), (7, .pure), (8, .pure), (9, .pure), (10, .pure), (11, .held), (12, .pure), (13, .pure), (14, .forced), (15, .pure)] mixed (by kernel_rfl) (by kernel_rfl) ?_
      clear H
      intro w3 H
      clear w2
      refine tk (fun wx HS => rBuild rfl rfl rfl ⟨rfl, rfl⟩) ?_
      refine tk (fun wx HS => rLenF hx rfl ⟨rfl, rfl⟩) ?_
      refine br_t (vLt_T (by omega)) ?_
      obtain ⟨b3, o2, E2, F2, hok2⟩ := FSl.elt hx hx1
      have hok2_op := hok2.op
      have hok2_a := hok2.a
      have hok2_b := hok2.b
      have hok2_to := hok2.to
      refine tk (fun wx HS => rIxE E2 rfl rfl rfl ⟨rfl, rfl⟩) ?_
      refine tk (fun wx HS => rFieldAt rfl ⟨rfl, rfl⟩) ?_
      refine tk (fun wx HS => rLd (HS.fat F2) 0 rfl rfl rfl ⟨rfl, rfl⟩) ?_
      refine rStAS H 0 rfl rfl rfl rfl ?_
      clear H
      intro w2 H
      clear w3
      refine KeepP.mk (H.drop 0 (fun H => H)) ?_
      refine rdAN (H.at 0 rfl) 0 rfl rfl rfl ?_
      refine Done.mk ?_
      exact ⟨g, 2, _, [], _, rfl, Ext.refl _, FSl.nil0 _ _ _ _, (by first | exact RuleR.no (by intro hA; simp only [App, e0, e1, IsC, oneOk, List.length_map] at hA; (try simp only [InsV.d] at hA); omega) | exact RuleR.yes (by simp only [App, e0, e1, IsC, oneOk, List.length_map]; (try simp only [InsV.d]); omega) (fun hA => by simp only [App, e0, e1, IsC, oneOk, List.length_map] at hA; (try simp only [InsV.d] at hA); rw [shape2 hx0 hx1]; exact Tn.unused hA.1 hA.2.2) | exact RuleR.of (by rw [vEq_iff, decide_eq_true_iff]; simp only [App, e0, e1, IsC, oneOk, List.length_map]; (try simp only [InsV.d]); omega) (fun hA => by simp only [App, e0, e1, IsC, oneOk, List.length_map] at hA; (try simp only [InsV.d] at hA); rw [shape2 hx0 hx1]; exact Tn.unused hA.1 hA.2.2)), H.tl⟩
    replace c2 := vEq_f (c2)
    refine rIxE E1 rfl rfl rfl ?_
    refine rFieldAt rfl ?_
    refine rLd (H.fat F1) 0 rfl rfl rfl ?_
    refine drawzS H [0] [(0, .pure), (1, .pure), (2, .pure), (3, .pure), (4, .pure), (5, .pure), (6, .pure), (7, .pure), (8, .pure), (9, .pure), (10, .pure), (11, .held), (12, .pure), (13, .pure), (14, .forced), (15, .pure)] mixed (by kernel_rfl) (by kernel_rfl) ?_
    clear H
    intro w3 H
    clear w2
    refine tk (fun wx HS => rBuild rfl rfl rfl ⟨rfl, rfl⟩) ?_
    refine br (fun c3 => ?_) (fun c3 => ?_)
    · replace c3 := vEq_t (c3)
      refine tk (fun wx HS => rLenF hx rfl ⟨rfl, rfl⟩) ?_
      refine br_t (vLt_T (by omega)) ?_
      obtain ⟨b3, o2, E2, F2, hok2⟩ := FSl.elt hx hx1
      have hok2_op := hok2.op
      have hok2_a := hok2.a
      have hok2_b := hok2.b
      have hok2_to := hok2.to
      refine tk (fun wx HS => rIxE E2 rfl rfl rfl ⟨rfl, rfl⟩) ?_
      refine tk (fun wx HS => rFieldAt rfl ⟨rfl, rfl⟩) ?_
      refine tk (fun wx HS => rLd (HS.fat F2) 0 rfl rfl rfl ⟨rfl, rfl⟩) ?_
      refine rStAS H 0 rfl rfl rfl rfl ?_
      clear H
      intro w2 H
      clear w3
      refine KeepP.mk (H.drop 0 (fun H => H)) ?_
      refine rdAN (H.at 0 rfl) 0 rfl rfl rfl ?_
      refine Done.mk ?_
      exact ⟨g, 2, _, [], _, rfl, Ext.refl _, FSl.nil0 _ _ _ _, (by first | exact RuleR.no (by intro hA; simp only [App, e0, e1, IsC, oneOk, List.length_map] at hA; (try simp only [InsV.d] at hA); omega) | exact RuleR.yes (by simp only [App, e0, e1, IsC, oneOk, List.length_map]; (try simp only [InsV.d]); omega) (fun hA => by simp only [App, e0, e1, IsC, oneOk, List.length_map] at hA; (try simp only [InsV.d] at hA); rw [shape2 hx0 hx1]; exact Tn.unused hA.1 hA.2.2) | exact RuleR.of (by rw [vEq_iff, decide_eq_true_iff]; simp only [App, e0, e1, IsC, oneOk, List.length_map]; (try simp only [InsV.d]); omega) (fun hA => by simp only [App, e0, e1, IsC, oneOk, List.length_map] at hA; (try simp only [InsV.d] at hA); rw [shape2 hx0 hx1]; exact Tn.unused hA.1 hA.2.2)), H.tl⟩
    replace c3 := vEq_f (c3)
    refine rStAS H 0 rfl rfl rfl rfl ?_
    clear H
    intro w2 H
    clear w3
    refine KeepP.mk (H.drop 0 (fun H => H)) ?_
    refine rdAN (H.at 0 rfl) 0 rfl rfl rfl ?_
    refine Done.mk ?_
    exact ⟨g, 2, _, [], _, rfl, Ext.refl _, FSl.nil0 _ _ _ _, (by first | exact RuleR.no (by intro hA; simp only [App, e0, e1, IsC, oneOk, List.length_map] at hA; (try simp only [InsV.d] at hA); omega) | exact RuleR.yes (by simp only [App, e0, e1, IsC, oneOk, List.length_map]; (try simp only [InsV.d]); omega) (fun hA => by simp only [App, e0, e1, IsC, oneOk, List.length_map] at hA; (try simp only [InsV.d] at hA); rw [shape2 hx0 hx1]; exact Tn.unused hA.1 hA.2.2) | exact RuleR.of (by rw [vEq_iff, decide_eq_true_iff]; simp only [App, e0, e1, IsC, oneOk, List.length_map]; (try simp only [InsV.d]); omega) (fun hA => by simp only [App, e0, e1, IsC, oneOk, List.length_map] at hA; (try simp only [InsV.d] at hA); rw [shape2 hx0 hx1]; exact Tn.unused hA.1 hA.2.2)), H.tl⟩
  · have h11 : x.op = 11 := Decidable.by_contra fun h => h2 (len2 hx0 hr h)
    refine rAllocS H rfl ?_
    clear H
    intro p1 w1 H
    obtain ⟨b1, o1, E1, F1, hok1⟩ := FSl.elt hx hx0
    have hok1_op := hok1.op
    have hok1_a := hok1.a
    have hok1_b := hok1.b
    have hok1_to := hok1.to
    refine rIxE E1 rfl rfl rfl ?_
    refine rLdA (H.fat F1) 0 rfl rfl rfl ?_
    refine CallP.mk (Fc.imp (Go.Proofs.YtndhikahjmgamaaGreatDoor.Fold.isConstX H _ ?_) ?_)
    · assumption
    clear H
    rintro _ w2 ⟨b2, ⟨rfl, ⟨h1, H⟩⟩⟩
    refine br_f (iff_F h1 (by omega)) ?_
    refine rIxE E1 rfl rfl rfl ?_
    refine rFieldAt rfl ?_
    refine rLd (H.fat F1) 0 rfl rfl rfl ?_
    refine br_f (vEq_F (by omega)) ?_
    refine rIxE E1 rfl rfl rfl ?_
    refine rFieldAt rfl ?_
    refine rLd (H.fat F1) 0 rfl rfl rfl ?_
    refine drawzS H [0] [(0, .pure), (1, .pure), (2, .pure), (3, .pure), (4, .pure), (5, .pure), (6, .pure), (7, .pure), (8, .pure), (9, .pure), (10, .pure), (11, .held), (12, .pure), (13, .pure), (14, .forced), (15, .pure)] mixed (by kernel_rfl) (by kernel_rfl) ?_
    clear H
    intro w3 H
    clear w2
    refine tk (fun wx HS => rBuild rfl rfl rfl ⟨rfl, rfl⟩) ?_
    refine br_f (vEq_F (by omega)) ?_
    refine rStAS H 0 rfl rfl rfl rfl ?_
    clear H
    intro w2 H
    clear w3
    refine KeepP.mk (H.drop 0 (fun H => H)) ?_
    refine rdAN (H.at 0 rfl) 0 rfl rfl rfl ?_
    refine Done.mk ?_
    exact ⟨g, 2, _, [], _, rfl, Ext.refl _, FSl.nil0 _ _ _ _, (by first | exact RuleR.no (by intro hA; simp only [App, e0, IsC, oneOk, List.length_map] at hA; (try simp only [InsV.d] at hA); omega) | exact RuleR.yes (by simp only [App, e0, IsC, oneOk, List.length_map]; (try simp only [InsV.d]); omega) (fun hA => by simp only [App, e0, IsC, oneOk, List.length_map] at hA; (try simp only [InsV.d] at hA); omega) | exact RuleR.of (by rw [vEq_iff, decide_eq_true_iff]; simp only [App, e0, IsC, oneOk, List.length_map]; (try simp only [InsV.d]); omega) (fun hA => by simp only [App, e0, IsC, oneOk, List.length_map] at hA; (try simp only [InsV.d] at hA); omega)), H.tl⟩
theorem rule4 (H : Sat g w l) (v : Value) (xs : List InsV) (hx : FSl g enV (okV g) 4 v xs) (z : Int) (s : List Int) (hr : run (xs.map InsV.d) (z :: s) = some []) (hl : xs.length ≤ 200) (hp : 0 < xs.length) : Fc Tryz.prog 49 #[v] w (fun r w' => ∃ (g' : Glob) (gone : Nat) (nv : Value) (news : List InsV) (b : Bool), r = .tuple #[.agg #[.int .i64 gone, nv], .bool b] ∧ Ext g g' ∧ FSl g' enV (okV g') 4 nv news ∧ RuleR 4 (xs.map InsV.d) gone (news.map InsV.d) b ∧ Sat g' w' l) := by
  obtain ⟨x, hx0⟩ : ∃ x, xs[0]? = some x := ⟨_, List.getElem?_eq_getElem hp⟩
  have hxo := FSl.all hx x (List.mem_of_getElem? hx0)
  have hxo_op := hxo.op
  have hxo_a := hxo.a
  have e0 := i0_map hx0
  refine Fc.of Tryz.func49 rfl (by kernel_rfl) ?_
  by_cases h2 : 2 ≤ xs.length
  · skip
    obtain ⟨y, hx1⟩ : ∃ y, xs[1]? = some y := ⟨_, List.getElem?_eq_getElem (by omega)⟩
    have hyo := FSl.all hx y (List.mem_of_getElem? hx1)
    have hyo_op := hyo.op
    have hyo_a := hyo.a
    have e1 := i1_map hx1
    refine rAllocS H rfl ?_
    clear H
    intro p1 w1 H
    refine rLenF hx rfl ?_
    refine br_f (vLt_F (by omega)) ?_
    obtain ⟨b1, o1, E1, F1, hok1⟩ := FSl.elt hx hx0
    have hok1_op := hok1.op
    have hok1_a := hok1.a
    have hok1_b := hok1.b
    have hok1_to := hok1.to
    refine rIxE E1 rfl rfl rfl ?_
    refine rLdA (H.fat F1) 0 rfl rfl rfl ?_
    refine CallP.mk (Fc.imp (Go.Proofs.YtndhikahjmgamaaGreatDoor.Fold.isNumberX H _ ?_) ?_)
    · assumption
    clear H
    rintro _ w2 ⟨b2, ⟨rfl, ⟨h1, H⟩⟩⟩
    refine br (fun c1 => ?_) (fun c1 => ?_)
    · replace c1 := iff_f h1 (not_t (c1))
      refine cT rfl ?_
      refine rBuild rfl rfl rfl ?_
      refine rStAS H 0 rfl rfl rfl rfl ?_
      clear H
      intro w3 H
      clear w2
      refine rdAN (H.at 0 rfl) 0 rfl rfl rfl ?_
      refine Done.mk ?_
      exact ⟨g, 0, _, [], _, rfl, Ext.refl _, FSl.nil0 _ _ _ _, (by first | exact RuleR.no (by intro hA; simp only [App, e0, e1, IsC, oneOk, List.length_map] at hA; (try simp only [InsV.d] at hA); omega) | exact RuleR.yes (by simp only [App, e0, e1, IsC, oneOk, List.length_map]; (try simp only [InsV.d]); omega) (fun hA => by simp only [App, e0, e1, IsC, oneOk, List.length_map] at hA; (try simp only [InsV.d] at hA); omega) | exact RuleR.of (by rw [vEq_iff, decide_eq_true_iff]; simp only [App, e0, e1, IsC, oneOk, List.length_map]; (try simp only [InsV.d]); omega) (fun hA => by simp only [App, e0, e1, IsC, oneOk, List.length_map] at hA; (try simp only [InsV.d] at hA); omega)), H.tl⟩
    replace c1 := h1.1 (not_f (c1))
    obtain ⟨b3, o2, E2, F2, hok2⟩ := FSl.elt hx hx1
    have hok2_op := hok2.op
    have hok2_a := hok2.a
    have hok2_b := hok2.b
    have hok2_to := hok2.to
    refine rIxE E2 rfl rfl rfl ?_
    refine rFieldAt rfl ?_
    refine rLd (H.fat F2) 0 rfl rfl rfl ?_
    refine cI (fun c2 => ?_) (fun c2 => ?_)
    · replace c2 := vNe_t (c2)
      refine rBuild rfl rfl rfl ?_
      refine rStAS H 0 rfl rfl rfl rfl ?_
      clear H
      intro w3 H
      clear w2
      refine rdAN (H.at 0 rfl) 0 rfl rfl rfl ?_
      refine Done.mk ?_
      exact ⟨g, 0, _, [], _, rfl, Ext.refl _, FSl.nil0 _ _ _ _, (by first | exact RuleR.no (by intro hA; simp only [App, e0, e1, IsC, oneOk, List.length_map] at hA; (try simp only [InsV.d] at hA); omega) | exact RuleR.yes (by simp only [App, e0, e1, IsC, oneOk, List.length_map]; (try simp only [InsV.d]); omega) (fun hA => by simp only [App, e0, e1, IsC, oneOk, List.length_map] at hA; (try simp only [InsV.d] at hA); omega) | exact RuleR.of (by rw [vEq_iff, decide_eq_true_iff]; simp only [App, e0, e1, IsC, oneOk, List.length_map]; (try simp only [InsV.d]); omega) (fun hA => by simp only [App, e0, e1, IsC, oneOk, List.length_map] at hA; (try simp only [InsV.d] at hA); omega)), H.tl⟩
    replace c2 := vNe_f (c2)
    refine rIxE E1 rfl rfl rfl ?_
    refine rFieldAt rfl ?_
    refine rLd (H.fat F1) 1 rfl rfl rfl ?_
    refine cI (fun c3 => ?_) (fun c3 => ?_)
    · replace c3 := vEq_t (c3)
      refine rBuild rfl rfl rfl ?_
      refine rStAS H 0 rfl rfl rfl rfl ?_
      clear H
      intro w3 H
      clear w2
      refine rdAN (H.at 0 rfl) 0 rfl rfl rfl ?_
      refine Done.mk ?_
      exact ⟨g, 2, _, [], _, rfl, Ext.refl _, FSl.nil0 _ _ _ _, (by first | exact RuleR.no (by intro hA; simp only [App, e0, e1, IsC, oneOk, List.length_map] at hA; (try simp only [InsV.d] at hA); omega) | exact RuleR.yes (by simp only [App, e0, e1, IsC, oneOk, List.length_map]; (try simp only [InsV.d]); omega) (fun hA => by simp only [App, e0, e1, IsC, oneOk, List.length_map] at hA; (try simp only [InsV.d] at hA); rw [shape2 hx0 hx1]; exact Tn.sure0 hA.2.1 hA.2.2) | exact RuleR.of (by rw [vEq_iff, decide_eq_true_iff]; simp only [App, e0, e1, IsC, oneOk, List.length_map]; (try simp only [InsV.d]); omega) (fun hA => by simp only [App, e0, e1, IsC, oneOk, List.length_map] at hA; (try simp only [InsV.d] at hA); rw [shape2 hx0 hx1]; exact Tn.sure0 hA.2.1 hA.2.2)), H.tl⟩
    replace c3 := vEq_f (c3)
    refine rIxE E2 rfl rfl rfl ?_
    refine rFieldAt rfl ?_
    refine rLd (H.fat F2) 1 rfl rfl rfl ?_
    refine rBuild rfl rfl rfl ?_
    refine rBuildSliceS H rfl rfl rfl rfl ?_
    clear H
    intro p2 w3 H
    clear w2
    refine rBuild rfl rfl rfl ?_
    refine rStAS H 1 rfl rfl rfl rfl ?_
    clear H
    intro w2 H
    clear w3
    refine rdAN (H.at 1 rfl) 0 rfl rfl rfl ?_
    refine Done.mk ?_
    (refine H.ptSl (n := 1) (en := enV) (s := 4) 0 rfl [⟨12, y.a, 0, .slice none 0 0, []⟩] rfl rfl (fun _ => rfl) rfl ?_; intro H1; refine H1.frz1 0 (okV g) rfl (one_ok ⟨show U8 12 by decide, hyo_a, show I64 0 by decide, FSl.nil0 _ _ _ _⟩) ?_; intro g1 HE hf H2; exact ⟨g1, 2, _, [⟨12, y.a, 0, .slice none 0 0, []⟩], _, rfl, HE, hf.okm (fun _ _ h => h.ext HE), (by first | exact RuleR.no (by intro hA; simp only [App, e0, e1, IsC, oneOk, List.length_map] at hA; (try simp only [InsV.d] at hA); omega) | exact RuleR.yes (by simp only [App, e0, e1, IsC, oneOk, List.length_map]; (try simp only [InsV.d]); omega) (fun hA => by simp only [App, e0, e1, IsC, oneOk, List.length_map] at hA; (try simp only [InsV.d] at hA); rw [shape2 hx0 hx1]; exact Tn.sure1 hA.2.1 hA.2.2) | exact RuleR.of (by rw [vEq_iff, decide_eq_true_iff]; simp only [App, e0, e1, IsC, oneOk, List.length_map]; (try simp only [InsV.d]); omega) (fun hA => by simp only [App, e0, e1, IsC, oneOk, List.length_map] at hA; (try simp only [InsV.d] at hA); rw [shape2 hx0 hx1]; exact Tn.sure1 hA.2.1 hA.2.2)), H2.tl⟩)
  · have h11 : x.op = 11 := Decidable.by_contra fun h => h2 (len2 hx0 hr h)
    refine rAllocS H rfl ?_
    clear H
    intro p1 w1 H
    refine rLenF hx rfl ?_
    refine br_t (vLt_T (by omega)) ?_
    refine cT rfl ?_
    refine rBuild rfl rfl rfl ?_
    refine rStAS H 0 rfl rfl rfl rfl ?_
    clear H
    intro w2 H
    clear w1
    refine rdAN (H.at 0 rfl) 0 rfl rfl rfl ?_
    refine Done.mk ?_
    exact ⟨g, 0, _, [], _, rfl, Ext.refl _, FSl.nil0 _ _ _ _, (by first | exact RuleR.no (by intro hA; simp only [App, e0, IsC, oneOk, List.length_map] at hA; (try simp only [InsV.d] at hA); omega) | exact RuleR.yes (by simp only [App, e0, IsC, oneOk, List.length_map]; (try simp only [InsV.d]); omega) (fun hA => by simp only [App, e0, IsC, oneOk, List.length_map] at hA; (try simp only [InsV.d] at hA); omega) | exact RuleR.of (by rw [vEq_iff, decide_eq_true_iff]; simp only [App, e0, IsC, oneOk, List.length_map]; (try simp only [InsV.d]); omega) (fun hA => by simp only [App, e0, IsC, oneOk, List.length_map] at hA; (try simp only [InsV.d] at hA); omega)), H.tl⟩
theorem rule6 (H : Sat g w l) (v : Value) (xs : List InsV) (hx : FSl g enV (okV g) 4 v xs) (z : Int) (s : List Int) (hr : run (xs.map InsV.d) (z :: s) = some []) (hl : xs.length ≤ 200) (hp : 0 < xs.length) : Fc Tryz.prog 51 #[v] w (fun r w' => ∃ (g' : Glob) (gone : Nat) (nv : Value) (news : List InsV) (b : Bool), r = .tuple #[.agg #[.int .i64 gone, nv], .bool b] ∧ Ext g g' ∧ FSl g' enV (okV g') 4 nv news ∧ RuleR 6 (xs.map InsV.d) gone (news.map InsV.d) b ∧ Sat g' w' l) := by
  obtain ⟨x, hx0⟩ : ∃ x, xs[0]? = some x := ⟨_, List.getElem?_eq_getElem hp⟩
  have hxo := FSl.all hx x (List.mem_of_getElem? hx0)
  have hxo_op := hxo.op
  have hxo_a := hxo.a
  have e0 := i0_map hx0
  refine Fc.of Tryz.func51 rfl (by kernel_rfl) ?_
  by_cases h2 : 2 ≤ xs.length
  · skip
    obtain ⟨y, hx1⟩ : ∃ y, xs[1]? = some y := ⟨_, List.getElem?_eq_getElem (by omega)⟩
    have hyo := FSl.all hx y (List.mem_of_getElem? hx1)
    have hyo_op := hyo.op
    have hyo_a := hyo.a
    have e1 := i1_map hx1
    refine rAllocS H rfl ?_
    clear H
    intro p1 w1 H
    refine drawzS H [] [(0, .pure), (1, .pure), (2, .pure), (3, .held), (4, .pure), (5, .pure), (6, .pure), (7, .pure), (8, .pure), (9, .held), (10, .pure), (11, .pure), (12, .pure), (13, .pure), (14, .pure), (15, .pure), (16, .held), (17, .pure), (18, .pure), (19, .pure), (20, .held), (21, .pure), (22, .pure), (23, .pure)] mixed (by kernel_rfl) (by kernel_rfl) ?_
    clear H
    intro w2 H
    clear w1
    obtain ⟨b1, o1, E1, F1, hok1⟩ := FSl.elt hx hx0
    have hok1_op := hok1.op
    have hok1_a := hok1.a
    have hok1_b := hok1.b
    have hok1_to := hok1.to
    refine tk (fun wx HS => rIxE E1 rfl rfl rfl ⟨rfl, rfl⟩) ?_
    refine tk (fun wx HS => rFieldAt rfl ⟨rfl, rfl⟩) ?_
    refine tk (fun wx HS => rLd (HS.fat F1) 0 rfl rfl rfl ⟨rfl, rfl⟩) ?_
    refine br (fun c1 => ?_) (fun c1 => ?_)
    · replace c1 := vEq_t (c1)
      obtain ⟨b2, o2, E2, F2, hok2⟩ := FSl.elt hx hx1
      have hok2_op := hok2.op
      have hok2_a := hok2.a
      have hok2_b := hok2.b
      have hok2_to := hok2.to
      refine tk (fun wx HS => rIxE E2 rfl rfl rfl ⟨rfl, rfl⟩) ?_
      refine tk (fun wx HS => rFieldAt rfl ⟨rfl, rfl⟩) ?_
      refine tk (fun wx HS => rLd (HS.fat F2) 0 rfl rfl rfl ⟨rfl, rfl⟩) ?_
      refine br (fun c2 => ?_) (fun c2 => ?_)
      · replace c2 := vEq_t (c2)
        refine tk (fun wx HS => rIxE E1 rfl rfl rfl ⟨rfl, rfl⟩) ?_
        refine tk (fun wx HS => rFieldAt rfl ⟨rfl, rfl⟩) ?_
        refine tk (fun wx HS => rLd (HS.fat F1) 1 rfl rfl rfl ⟨rfl, rfl⟩) ?_
        refine tk (fun wx HS => rIxE E2 rfl rfl rfl ⟨rfl, rfl⟩) ?_
        refine tk (fun wx HS => rFieldAt rfl ⟨rfl, rfl⟩) ?_
        refine tk (fun wx HS => rLd (HS.fat F2) 1 rfl rfl rfl ⟨rfl, rfl⟩) ?_
        refine rIxE E1 rfl rfl rfl ?_
        refine rFieldAt rfl ?_
        refine rLd (H.fat F1) 1 rfl rfl rfl ?_
        refine rBuild rfl rfl rfl ?_
        refine rBuildSliceS H rfl rfl rfl rfl ?_
        clear H
        intro p2 w1 H
        clear w2
        refine rBuild rfl rfl rfl ?_
        refine rStAS H 1 rfl rfl rfl rfl ?_
        clear H
        intro w2 H
        clear w1
        refine rdAN (H.at 1 rfl) 0 rfl rfl rfl ?_
        refine Done.mk ?_
        (refine H.ptSl (n := 1) (en := enV) (s := 4) 0 rfl [⟨34, x.a, 0, .slice none 0 0, []⟩] rfl rfl (fun _ => rfl) rfl ?_; intro H1; refine H1.frz1 0 (okV g) rfl (one_ok ⟨show U8 34 by decide, hxo_a, show I64 0 by decide, FSl.nil0 _ _ _ _⟩) ?_; intro g1 HE hf H2; exact ⟨g1, 2, _, [⟨34, x.a, 0, .slice none 0 0, []⟩], _, rfl, HE, hf.okm (fun _ _ h => h.ext HE), (by first | exact RuleR.no (by intro hA; simp only [App, e0, e1, IsC, oneOk, List.length_map] at hA; (try simp only [InsV.d] at hA); omega) | exact RuleR.yes (by simp only [App, e0, e1, IsC, oneOk, List.length_map]; (try simp only [InsV.d]); omega) (fun hA => by simp only [App, e0, e1, IsC, oneOk, List.length_map] at hA; (try simp only [InsV.d] at hA); rw [shape2 hx0 hx1]; exact Tn.kept hA.1 hA.2.1 hA.2.2) | exact RuleR.of (by rw [vEq_iff, decide_eq_true_iff]; simp only [App, e0, e1, IsC, oneOk, List.length_map]; (try simp only [InsV.d]); omega) (fun hA => by simp only [App, e0, e1, IsC, oneOk, List.length_map] at hA; (try simp only [InsV.d] at hA); rw [shape2 hx0 hx1]; exact Tn.kept hA.1 hA.2.1 hA.2.2)), H2.tl⟩)
      replace c2 := vEq_f (c2)
      refine rIxE E1 rfl rfl rfl ?_
      refine rFieldAt rfl ?_
      refine rLd (H.fat F1) 1 rfl rfl rfl ?_
      refine rBuild rfl rfl rfl ?_
      refine rBuildSliceS H rfl rfl rfl rfl ?_
      clear H
      intro p2 w1 H
      clear w2
      refine rBuild rfl rfl rfl ?_
      refine rStAS H 1 rfl rfl rfl rfl ?_
      clear H
      intro w2 H
      clear w1
      refine rdAN (H.at 1 rfl) 0 rfl rfl rfl ?_
      refine Done.mk ?_
      (refine H.ptSl (n := 1) (en := enV) (s := 4) 0 rfl [⟨34, x.a, 0, .slice none 0 0, []⟩] rfl rfl (fun _ => rfl) rfl ?_; intro H1; refine H1.frz1 0 (okV g) rfl (one_ok ⟨show U8 34 by decide, hxo_a, show I64 0 by decide, FSl.nil0 _ _ _ _⟩) ?_; intro g1 HE hf H2; exact ⟨g1, 2, _, [⟨34, x.a, 0, .slice none 0 0, []⟩], _, rfl, HE, hf.okm (fun _ _ h => h.ext HE), (by first | exact RuleR.no (by intro hA; simp only [App, e0, e1, IsC, oneOk, List.length_map] at hA; (try simp only [InsV.d] at hA); omega) | exact RuleR.yes (by simp only [App, e0, e1, IsC, oneOk, List.length_map]; (try simp only [InsV.d]); omega) (fun hA => by simp only [App, e0, e1, IsC, oneOk, List.length_map] at hA; (try simp only [InsV.d] at hA); rw [shape2 hx0 hx1]; exact Tn.kept hA.1 hA.2.1 hA.2.2) | exact RuleR.of (by rw [vEq_iff, decide_eq_true_iff]; simp only [App, e0, e1, IsC, oneOk, List.length_map]; (try simp only [InsV.d]); omega) (fun hA => by simp only [App, e0, e1, IsC, oneOk, List.length_map] at hA; (try simp only [InsV.d] at hA); rw [shape2 hx0 hx1]; exact Tn.kept hA.1 hA.2.1 hA.2.2)), H2.tl⟩)
    replace c1 := vEq_f (c1)
    refine rIxE E1 rfl rfl rfl ?_
    refine rFieldAt rfl ?_
    refine rLd (H.fat F1) 1 rfl rfl rfl ?_
    refine rBuild rfl rfl rfl ?_
    refine rBuildSliceS H rfl rfl rfl rfl ?_
    clear H
    intro p2 w1 H
    clear w2
    refine rBuild rfl rfl rfl ?_
    refine rStAS H 1 rfl rfl rfl rfl ?_
    clear H
    intro w2 H
    clear w1
    refine rdAN (H.at 1 rfl) 0 rfl rfl rfl ?_
    refine Done.mk ?_
    (refine H.ptSl (n := 1) (en := enV) (s := 4) 0 rfl [⟨34, x.a, 0, .slice none 0 0, []⟩] rfl rfl (fun _ => rfl) rfl ?_; intro H1; refine H1.frz1 0 (okV g) rfl (one_ok ⟨show U8 34 by decide, hxo_a, show I64 0 by decide, FSl.nil0 _ _ _ _⟩) ?_; intro g1 HE hf H2; exact ⟨g1, 2, _, [⟨34, x.a, 0, .slice none 0 0, []⟩], _, rfl, HE, hf.okm (fun _ _ h => h.ext HE), (by first | exact RuleR.no (by intro hA; simp only [App, e0, e1, IsC, oneOk, List.length_map] at hA; (try simp only [InsV.d] at hA); omega) | exact RuleR.yes (by simp only [App, e0, e1, IsC, oneOk, List.length_map]; (try simp only [InsV.d]); omega) (fun hA => by simp only [App, e0, e1, IsC, oneOk, List.length_map] at hA; (try simp only [InsV.d] at hA); rw [shape2 hx0 hx1]; exact Tn.kept hA.1 hA.2.1 hA.2.2) | exact RuleR.of (by rw [vEq_iff, decide_eq_true_iff]; simp only [App, e0, e1, IsC, oneOk, List.length_map]; (try simp only [InsV.d]); omega) (fun hA => by simp only [App, e0, e1, IsC, oneOk, List.length_map] at hA; (try simp only [InsV.d] at hA); rw [shape2 hx0 hx1]; exact Tn.kept hA.1 hA.2.1 hA.2.2)), H2.tl⟩)
  · have h11 : x.op = 11 := Decidable.by_contra fun h => h2 (len2 hx0 hr h)
    refine rAllocS H rfl ?_
    clear H
    intro p1 w1 H
    refine drawzS H [] [(0, .pure), (1, .pure), (2, .pure), (3, .held), (4, .pure), (5, .pure), (6, .pure), (7, .pure), (8, .pure), (9, .held), (10, .pure), (11, .pure), (12, .pure), (13, .pure), (14, .pure), (15, .pure), (16, .held), (17, .pure), (18, .pure), (19, .pure), (20, .held), (21, .pure), (22, .pure), (23, .pure)] mixed (by kernel_rfl) (by kernel_rfl) ?_
    clear H
    intro w2 H
    clear w1
    obtain ⟨b1, o1, E1, F1, hok1⟩ := FSl.elt hx hx0
    have hok1_op := hok1.op
    have hok1_a := hok1.a
    have hok1_b := hok1.b
    have hok1_to := hok1.to
    refine tk (fun wx HS => rIxE E1 rfl rfl rfl ⟨rfl, rfl⟩) ?_
    refine tk (fun wx HS => rFieldAt rfl ⟨rfl, rfl⟩) ?_
    refine tk (fun wx HS => rLd (HS.fat F1) 0 rfl rfl rfl ⟨rfl, rfl⟩) ?_
    refine br_f (vEq_F (by omega)) ?_
    refine rIxE E1 rfl rfl rfl ?_
    refine rFieldAt rfl ?_
    refine rLd (H.fat F1) 1 rfl rfl rfl ?_
    refine rBuild rfl rfl rfl ?_
    refine rBuildSliceS H rfl rfl rfl rfl ?_
    clear H
    intro p2 w1 H
    clear w2
    refine rBuild rfl rfl rfl ?_
    refine rStAS H 1 rfl rfl rfl rfl ?_
    clear H
    intro w2 H
    clear w1
    refine rdAN (H.at 1 rfl) 0 rfl rfl rfl ?_
    refine Done.mk ?_
    (refine H.ptSl (n := 1) (en := enV) (s := 4) 0 rfl [⟨34, x.a, 0, .slice none 0 0, []⟩] rfl rfl (fun _ => rfl) rfl ?_; intro H1; refine H1.frz1 0 (okV g) rfl (one_ok ⟨show U8 34 by decide, hxo_a, show I64 0 by decide, FSl.nil0 _ _ _ _⟩) ?_; intro g1 HE hf H2; exact ⟨g1, 2, _, [⟨34, x.a, 0, .slice none 0 0, []⟩], _, rfl, HE, hf.okm (fun _ _ h => h.ext HE), (by first | exact RuleR.no (by intro hA; simp only [App, e0, IsC, oneOk, List.length_map] at hA; (try simp only [InsV.d] at hA); omega) | exact RuleR.yes (by simp only [App, e0, IsC, oneOk, List.length_map]; (try simp only [InsV.d]); omega) (fun hA => by simp only [App, e0, IsC, oneOk, List.length_map] at hA; (try simp only [InsV.d] at hA); omega) | exact RuleR.of (by rw [vEq_iff, decide_eq_true_iff]; simp only [App, e0, IsC, oneOk, List.length_map]; (try simp only [InsV.d]); omega) (fun hA => by simp only [App, e0, IsC, oneOk, List.length_map] at hA; (try simp only [InsV.d] at hA); omega)), H2.tl⟩)
theorem rule8 (H : Sat g w l) (v : Value) (xs : List InsV) (hx : FSl g enV (okV g) 4 v xs) (z : Int) (s : List Int) (hr : run (xs.map InsV.d) (z :: s) = some []) (hl : xs.length ≤ 200) (hp : 0 < xs.length) : Fc Tryz.prog 53 #[v] w (fun r w' => ∃ (g' : Glob) (gone : Nat) (nv : Value) (news : List InsV) (b : Bool), r = .tuple #[.agg #[.int .i64 gone, nv], .bool b] ∧ Ext g g' ∧ FSl g' enV (okV g') 4 nv news ∧ RuleR 8 (xs.map InsV.d) gone (news.map InsV.d) b ∧ Sat g' w' l) := by
  obtain ⟨x, hx0⟩ : ∃ x, xs[0]? = some x := ⟨_, List.getElem?_eq_getElem hp⟩
  have hxo := FSl.all hx x (List.mem_of_getElem? hx0)
  have hxo_op := hxo.op
  have hxo_a := hxo.a
  have e0 := i0_map hx0
  refine Fc.of Tryz.func53 rfl (by kernel_rfl) ?_
  by_cases h2 : 2 ≤ xs.length
  · skip
    obtain ⟨y, hx1⟩ : ∃ y, xs[1]? = some y := ⟨_, List.getElem?_eq_getElem (by omega)⟩
    have hyo := FSl.all hx y (List.mem_of_getElem? hx1)
    have hyo_op := hyo.op
    have hyo_a := hyo.a
    have e1 := i1_map hx1
    refine rAllocS H rfl ?_
    clear H
    intro p1 w1 H
    obtain ⟨b1, o1, E1, F1, hok1⟩ := FSl.elt hx hx0
    have hok1_op := hok1.op
    have hok1_a := hok1.a
    have hok1_b := hok1.b
    have hok1_to := hok1.to
    refine rIxE E1 rfl rfl rfl ?_
    refine rFieldAt rfl ?_
    refine rLd (H.fat F1) 0 rfl rfl rfl ?_
    refine br (fun c1 => ?_) (fun c1 => ?_)
    · replace c1 := vEq_t (c1)
      refine drawzS H [0] [(0, .pure), (1, .pure), (2, .pure), (3, .pure), (4, .pure), (5, .pure), (6, .held), (7, .pure), (8, .pure), (9, .pure), (10, .pure), (11, .pure), (12, .pure), (13, .held), (14, .pure), (15, .pure), (16, .forced), (17, .pure)] mixed (by kernel_rfl) (by kernel_rfl) ?_
      clear H
      intro w2 H
      clear w1
      refine tk (fun wx HS => rBuild rfl rfl rfl ⟨rfl, rfl⟩) ?_
      refine tk (fun wx HS => rIxE E1 rfl rfl rfl ⟨rfl, rfl⟩) ?_
      refine tk (fun wx HS => rFieldAt rfl ⟨rfl, rfl⟩) ?_
      refine tk (fun wx HS => rLd (HS.fat F1) 1 rfl rfl rfl ⟨rfl, rfl⟩) ?_
      refine br (fun c2 => ?_) (fun c2 => ?_)
      · replace c2 := vEq_t (c2)
        obtain ⟨b2, o2, E2, F2, hok2⟩ := FSl.elt hx hx1
        have hok2_op := hok2.op
        have hok2_a := hok2.a
        have hok2_b := hok2.b
        have hok2_to := hok2.to
        refine tk (fun wx HS => rIxE E2 rfl rfl rfl ⟨rfl, rfl⟩) ?_
        refine tk (fun wx HS => rFieldAt rfl ⟨rfl, rfl⟩) ?_
        refine tk (fun wx HS => rLd (HS.fat F2) 0 rfl rfl rfl ⟨rfl, rfl⟩) ?_
        refine rStAS H 0 rfl rfl rfl rfl ?_
        clear H
        intro w1 H
        clear w2
        refine KeepP.mk (H.drop 0 (fun H => H)) ?_
        refine rdAN (H.at 0 rfl) 0 rfl rfl rfl ?_
        refine Done.mk ?_
        exact ⟨g, 2, _, [], _, rfl, Ext.refl _, FSl.nil0 _ _ _ _, (by first | exact RuleR.no (by intro hA; simp only [App, e0, e1, IsC, oneOk, List.length_map] at hA; (try simp only [InsV.d] at hA); omega) | exact RuleR.yes (by simp only [App, e0, e1, IsC, oneOk, List.length_map]; (try simp only [InsV.d]); omega) (fun hA => by simp only [App, e0, e1, IsC, oneOk, List.length_map] at hA; (try simp only [InsV.d] at hA); rw [shape2 hx0 hx1]; exact Tn.empty hA.1 hA.2.1 hA.2.2) | exact RuleR.of (by rw [vEq_iff, decide_eq_true_iff]; simp only [App, e0, e1, IsC, oneOk, List.length_map]; (try simp only [InsV.d]); omega) (fun hA => by simp only [App, e0, e1, IsC, oneOk, List.length_map] at hA; (try simp only [InsV.d] at hA); rw [shape2 hx0 hx1]; exact Tn.empty hA.1 hA.2.1 hA.2.2)), H.tl⟩
      replace c2 := vEq_f (c2)
      refine rStAS H 0 rfl rfl rfl rfl ?_
      clear H
      intro w1 H
      clear w2
      refine KeepP.mk (H.drop 0 (fun H => H)) ?_
      refine rdAN (H.at 0 rfl) 0 rfl rfl rfl ?_
      refine Done.mk ?_
      exact ⟨g, 2, _, [], _, rfl, Ext.refl _, FSl.nil0 _ _ _ _, (by first | exact RuleR.no (by intro hA; simp only [App, e0, e1, IsC, oneOk, List.length_map] at hA; (try simp only [InsV.d] at hA); omega) | exact RuleR.yes (by simp only [App, e0, e1, IsC, oneOk, List.length_map]; (try simp only [InsV.d]); omega) (fun hA => by simp only [App, e0, e1, IsC, oneOk, List.length_map] at hA; (try simp only [InsV.d] at hA); rw [shape2 hx0 hx1]; exact Tn.empty hA.1 hA.2.1 hA.2.2) | exact RuleR.of (by rw [vEq_iff, decide_eq_true_iff]; simp only [App, e0, e1, IsC, oneOk, List.length_map]; (try simp only [InsV.d]); omega) (fun hA => by simp only [App, e0, e1, IsC, oneOk, List.length_map] at hA; (try simp only [InsV.d] at hA); rw [shape2 hx0 hx1]; exact Tn.empty hA.1 hA.2.1 hA.2.2)), H.tl⟩
    replace c1 := vEq_f (c1)
    refine rIxE E1 rfl rfl rfl ?_
    refine rFieldAt rfl ?_
    refine rLd (H.fat F1) 0 rfl rfl rfl ?_
    refine drawzS H [0] [(0, .pure), (1, .pure), (2, .pure), (3, .pure), (4, .pure), (5, .pure), (6, .held), (7, .pure), (8, .pure), (9, .pure), (10, .pure), (11, .pure), (12, .pure), (13, .held), (14, .pure), (15, .pure), (16, .forced), (17, .pure)] mixed (by kernel_rfl) (by kernel_rfl) ?_
    clear H
    intro w2 H
    clear w1
    refine tk (fun wx HS => rBuild rfl rfl rfl ⟨rfl, rfl⟩) ?_
    refine br (fun c2 => ?_) (fun c2 => ?_)
    · replace c2 := vEq_t (c2)
      refine tk (fun wx HS => rIxE E1 rfl rfl rfl ⟨rfl, rfl⟩) ?_
      refine tk (fun wx HS => rFieldAt rfl ⟨rfl, rfl⟩) ?_
      refine tk (fun wx HS => rLd (HS.fat F1) 1 rfl rfl rfl ⟨rfl, rfl⟩) ?_
      refine br (fun c3 => ?_) (fun c3 => ?_)
      · replace c3 := vEq_t (c3)
        obtain ⟨b2, o2, E2, F2, hok2⟩ := FSl.elt hx hx1
        have hok2_op := hok2.op
        have hok2_a := hok2.a
        have hok2_b := hok2.b
        have hok2_to := hok2.to
        refine tk (fun wx HS => rIxE E2 rfl rfl rfl ⟨rfl, rfl⟩) ?_
        refine tk (fun wx HS => rFieldAt rfl ⟨rfl, rfl⟩) ?_
        refine tk (fun wx HS => rLd (HS.fat F2) 0 rfl rfl rfl ⟨rfl, rfl⟩) ?_
        refine rStAS H 0 rfl rfl rfl rfl ?_
        clear H
        intro w1 H
        clear w2
        refine KeepP.mk (H.drop 0 (fun H => H)) ?_
        refine rdAN (H.at 0 rfl) 0 rfl rfl rfl ?_
        refine Done.mk ?_
        exact ⟨g, 2, _, [], _, rfl, Ext.refl _, FSl.nil0 _ _ _ _, (by first | exact RuleR.no (by intro hA; simp only [App, e0, e1, IsC, oneOk, List.length_map] at hA; (try simp only [InsV.d] at hA); omega) | exact RuleR.yes (by simp only [App, e0, e1, IsC, oneOk, List.length_map]; (try simp only [InsV.d]); omega) (fun hA => by simp only [App, e0, e1, IsC, oneOk, List.length_map] at hA; (try simp only [InsV.d] at hA); rw [shape2 hx0 hx1]; exact Tn.empty hA.1 hA.2.1 hA.2.2) | exact RuleR.of (by rw [vEq_iff, decide_eq_true_iff]; simp only [App, e0, e1, IsC, oneOk, List.length_map]; (try simp only [InsV.d]); omega) (fun hA => by simp only [App, e0, e1, IsC, oneOk, List.length_map] at hA; (try simp only [InsV.d] at hA); rw [shape2 hx0 hx1]; exact Tn.empty hA.1 hA.2.1 hA.2.2)), H.tl⟩
      replace c3 := vEq_f (c3)
      refine rStAS H 0 rfl rfl rfl rfl ?_
      clear H
      intro w1 H
      clear w2
      refine KeepP.mk (H.drop 0 (fun H => H)) ?_
      refine rdAN (H.at 0 rfl) 0 rfl rfl rfl ?_
      refine Done.mk ?_
      exact ⟨g, 2, _, [], _, rfl, Ext.refl _, FSl.nil0 _ _ _ _, (by first | exact RuleR.no (by intro hA; simp only [App, e0, e1, IsC, oneOk, List.length_map] at hA; (try simp only [InsV.d] at hA); omega) | exact RuleR.yes (by simp only [App, e0, e1, IsC, oneOk, List.length_map]; (try simp only [InsV.d]); omega) (fun hA => by simp only [App, e0, e1, IsC, oneOk, List.length_map] at hA; (try simp only [InsV.d] at hA); rw [shape2 hx0 hx1]; exact Tn.empty hA.1 hA.2.1 hA.2.2) | exact RuleR.of (by rw [vEq_iff, decide_eq_true_iff]; simp only [App, e0, e1, IsC, oneOk, List.length_map]; (try simp only [InsV.d]); omega) (fun hA => by simp only [App, e0, e1, IsC, oneOk, List.length_map] at hA; (try simp only [InsV.d] at hA); rw [shape2 hx0 hx1]; exact Tn.empty hA.1 hA.2.1 hA.2.2)), H.tl⟩
    replace c2 := vEq_f (c2)
    refine rStAS H 0 rfl rfl rfl rfl ?_
    clear H
    intro w1 H
    clear w2
    refine KeepP.mk (H.drop 0 (fun H => H)) ?_
    refine rdAN (H.at 0 rfl) 0 rfl rfl rfl ?_
    refine Done.mk ?_
    exact ⟨g, 2, _, [], _, rfl, Ext.refl _, FSl.nil0 _ _ _ _, (by first | exact RuleR.no (by intro hA; simp only [App, e0, e1, IsC, oneOk, List.length_map] at hA; (try simp only [InsV.d] at hA); omega) | exact RuleR.yes (by simp only [App, e0, e1, IsC, oneOk, List.length_map]; (try simp only [InsV.d]); omega) (fun hA => by simp only [App, e0, e1, IsC, oneOk, List.length_map] at hA; (try simp only [InsV.d] at hA); rw [shape2 hx0 hx1]; exact Tn.empty hA.1 hA.2.1 hA.2.2) | exact RuleR.of (by rw [vEq_iff, decide_eq_true_iff]; simp only [App, e0, e1, IsC, oneOk, List.length_map]; (try simp only [InsV.d]); omega) (fun hA => by simp only [App, e0, e1, IsC, oneOk, List.length_map] at hA; (try simp only [InsV.d] at hA); rw [shape2 hx0 hx1]; exact Tn.empty hA.1 hA.2.1 hA.2.2)), H.tl⟩
  · have h11 : x.op = 11 := Decidable.by_contra fun h => h2 (len2 hx0 hr h)
    refine rAllocS H rfl ?_
    clear H
    intro p1 w1 H
    obtain ⟨b1, o1, E1, F1, hok1⟩ := FSl.elt hx hx0
    have hok1_op := hok1.op
    have hok1_a := hok1.a
    have hok1_b := hok1.b
    have hok1_to := hok1.to
    refine rIxE E1 rfl rfl rfl ?_
    refine rFieldAt rfl ?_
    refine rLd (H.fat F1) 0 rfl rfl rfl ?_
    refine br_f (vEq_F (by omega)) ?_
    refine rIxE E1 rfl rfl rfl ?_
    refine rFieldAt rfl ?_
    refine rLd (H.fat F1) 0 rfl rfl rfl ?_
    refine drawzS H [0] [(0, .pure), (1, .pure), (2, .pure), (3, .pure), (4, .pure), (5, .pure), (6, .held), (7, .pure), (8, .pure), (9, .pure), (10, .pure), (11, .pure), (12, .pure), (13, .held), (14, .pure), (15, .pure), (16, .forced), (17, .pure)] mixed (by kernel_rfl) (by kernel_rfl) ?_
    clear H
    intro w2 H
    clear w1
    refine tk (fun wx HS => rBuild rfl rfl rfl ⟨rfl, rfl⟩) ?_
    refine br_f (vEq_F (by omega)) ?_
    refine rStAS H 0 rfl rfl rfl rfl ?_
    clear H
    intro w1 H
    clear w2
    refine KeepP.mk (H.drop 0 (fun H => H)) ?_
    refine rdAN (H.at 0 rfl) 0 rfl rfl rfl ?_
    refine Done.mk ?_
    exact ⟨g, 2, _, [], _, rfl, Ext.refl _, FSl.nil0 _ _ _ _, (by first | exact RuleR.no (by intro hA; simp only [App, e0, IsC, oneOk, List.length_map] at hA; (try simp only [InsV.d] at hA); omega) | exact RuleR.yes (by simp only [App, e0, IsC, oneOk, List.length_map]; (try simp only [InsV.d]); omega) (fun hA => by simp only [App, e0, IsC, oneOk, List.length_map] at hA; (try simp only [InsV.d] at hA); omega) | exact RuleR.of (by rw [vEq_iff, decide_eq_true_iff]; simp only [App, e0, IsC, oneOk, List.length_map]; (try simp only [InsV.d]); omega) (fun hA => by simp only [App, e0, IsC, oneOk, List.length_map] at hA; (try simp only [InsV.d] at hA); omega)), H.tl⟩
theorem rule9 (H : Sat g w l) (v : Value) (xs : List InsV) (hx : FSl g enV (okV g) 4 v xs) (z : Int) (s : List Int) (hr : run (xs.map InsV.d) (z :: s) = some []) (hl : xs.length ≤ 200) (hp : 0 < xs.length) : Fc Tryz.prog 54 #[v] w (fun r w' => ∃ (g' : Glob) (gone : Nat) (nv : Value) (news : List InsV) (b : Bool), r = .tuple #[.agg #[.int .i64 gone, nv], .bool b] ∧ Ext g g' ∧ FSl g' enV (okV g') 4 nv news ∧ RuleR 9 (xs.map InsV.d) gone (news.map InsV.d) b ∧ Sat g' w' l) := by
  obtain ⟨x, hx0⟩ : ∃ x, xs[0]? = some x := ⟨_, List.getElem?_eq_getElem hp⟩
  have hxo := FSl.all hx x (List.mem_of_getElem? hx0)
  have hxo_op := hxo.op
  have hxo_a := hxo.a
  have e0 := i0_map hx0
  refine Fc.of Tryz.func54 rfl (by kernel_rfl) ?_
  by_cases h2 : 2 ≤ xs.length
  · skip
    obtain ⟨y, hx1⟩ : ∃ y, xs[1]? = some y := ⟨_, List.getElem?_eq_getElem (by omega)⟩
    have hyo := FSl.all hx y (List.mem_of_getElem? hx1)
    have hyo_op := hyo.op
    have hyo_a := hyo.a
    have e1 := i1_map hx1
    refine rAllocS H rfl ?_
    clear H
    intro p1 w1 H
    obtain ⟨b1, o1, E1, F1, hok1⟩ := FSl.elt hx hx0
    have hok1_op := hok1.op
    have hok1_a := hok1.a
    have hok1_b := hok1.b
    have hok1_to := hok1.to
    refine rIxE E1 rfl rfl rfl ?_
    refine rFieldAt rfl ?_
    refine rLd (H.fat F1) 0 rfl rfl rfl ?_
    refine br (fun c1 => ?_) (fun c1 => ?_)
    · replace c1 := vEq_t (c1)
      obtain ⟨b2, o2, E2, F2, hok2⟩ := FSl.elt hx hx1
      have hok2_op := hok2.op
      have hok2_a := hok2.a
      have hok2_b := hok2.b
      have hok2_to := hok2.to
      refine rIxE E2 rfl rfl rfl ?_
      refine rFieldAt rfl ?_
      refine rLd (H.fat F2) 0 rfl rfl rfl ?_
      refine rIxE E1 rfl rfl rfl ?_
      refine rFieldAt rfl ?_
      refine rLd (H.fat F1) 1 rfl rfl rfl ?_
      refine rBuild rfl rfl rfl ?_
      refine rBuildSliceS H rfl rfl rfl rfl ?_
      clear H
      intro p2 w2 H
      clear w1
      refine rBuild rfl rfl rfl ?_
      refine rStAS H 1 rfl rfl rfl rfl ?_
      clear H
      intro w1 H
      clear w2
      refine rdAN (H.at 1 rfl) 0 rfl rfl rfl ?_
      refine Done.mk ?_
      (refine H.ptSl (n := 1) (en := enV) (s := 4) 0 rfl [⟨33, x.a, 0, .slice none 0 0, []⟩] rfl rfl (fun _ => rfl) rfl ?_; intro H1; refine H1.frz1 0 (okV g) rfl (one_ok ⟨show U8 33 by decide, hxo_a, show I64 0 by decide, FSl.nil0 _ _ _ _⟩) ?_; intro g1 HE hf H2; exact ⟨g1, 2, _, [⟨33, x.a, 0, .slice none 0 0, []⟩], _, rfl, HE, hf.okm (fun _ _ h => h.ext HE), (by first | exact RuleR.no (by intro hA; simp only [App, e0, e1, IsC, oneOk, List.length_map] at hA; (try simp only [InsV.d] at hA); omega) | exact RuleR.yes (by simp only [App, e0, e1, IsC, oneOk, List.length_map]; (try simp only [InsV.d]); omega) (fun hA => by simp only [App, e0, e1, IsC, oneOk, List.length_map] at hA; (try simp only [InsV.d] at hA); rw [shape2 hx0 hx1]; exact Tn.lost hA.1 hA.2) | exact RuleR.of (by rw [vEq_iff, decide_eq_true_iff]; simp only [App, e0, e1, IsC, oneOk, List.length_map]; (try simp only [InsV.d]); omega) (fun hA => by simp only [App, e0, e1, IsC, oneOk, List.length_map] at hA; (try simp only [InsV.d] at hA); rw [shape2 hx0 hx1]; exact Tn.lost hA.1 hA.2)), H2.tl⟩)
    replace c1 := vEq_f (c1)
    refine rIxE E1 rfl rfl rfl ?_
    refine rFieldAt rfl ?_
    refine rLd (H.fat F1) 1 rfl rfl rfl ?_
    refine rBuild rfl rfl rfl ?_
    refine rBuildSliceS H rfl rfl rfl rfl ?_
    clear H
    intro p2 w2 H
    clear w1
    refine rBuild rfl rfl rfl ?_
    refine rStAS H 1 rfl rfl rfl rfl ?_
    clear H
    intro w1 H
    clear w2
    refine rdAN (H.at 1 rfl) 0 rfl rfl rfl ?_
    refine Done.mk ?_
    (refine H.ptSl (n := 1) (en := enV) (s := 4) 0 rfl [⟨33, x.a, 0, .slice none 0 0, []⟩] rfl rfl (fun _ => rfl) rfl ?_; intro H1; refine H1.frz1 0 (okV g) rfl (one_ok ⟨show U8 33 by decide, hxo_a, show I64 0 by decide, FSl.nil0 _ _ _ _⟩) ?_; intro g1 HE hf H2; exact ⟨g1, 2, _, [⟨33, x.a, 0, .slice none 0 0, []⟩], _, rfl, HE, hf.okm (fun _ _ h => h.ext HE), (by first | exact RuleR.no (by intro hA; simp only [App, e0, e1, IsC, oneOk, List.length_map] at hA; (try simp only [InsV.d] at hA); omega) | exact RuleR.yes (by simp only [App, e0, e1, IsC, oneOk, List.length_map]; (try simp only [InsV.d]); omega) (fun hA => by simp only [App, e0, e1, IsC, oneOk, List.length_map] at hA; (try simp only [InsV.d] at hA); rw [shape2 hx0 hx1]; exact Tn.lost hA.1 hA.2) | exact RuleR.of (by rw [vEq_iff, decide_eq_true_iff]; simp only [App, e0, e1, IsC, oneOk, List.length_map]; (try simp only [InsV.d]); omega) (fun hA => by simp only [App, e0, e1, IsC, oneOk, List.length_map] at hA; (try simp only [InsV.d] at hA); rw [shape2 hx0 hx1]; exact Tn.lost hA.1 hA.2)), H2.tl⟩)
  · have h11 : x.op = 11 := Decidable.by_contra fun h => h2 (len2 hx0 hr h)
    refine rAllocS H rfl ?_
    clear H
    intro p1 w1 H
    obtain ⟨b1, o1, E1, F1, hok1⟩ := FSl.elt hx hx0
    have hok1_op := hok1.op
    have hok1_a := hok1.a
    have hok1_b := hok1.b
    have hok1_to := hok1.to
    refine rIxE E1 rfl rfl rfl ?_
    refine rFieldAt rfl ?_
    refine rLd (H.fat F1) 0 rfl rfl rfl ?_
    refine br_f (vEq_F (by omega)) ?_
    refine rIxE E1 rfl rfl rfl ?_
    refine rFieldAt rfl ?_
    refine rLd (H.fat F1) 1 rfl rfl rfl ?_
    refine rBuild rfl rfl rfl ?_
    refine rBuildSliceS H rfl rfl rfl rfl ?_
    clear H
    intro p2 w2 H
    clear w1
    refine rBuild rfl rfl rfl ?_
    refine rStAS H 1 rfl rfl rfl rfl ?_
    clear H
    intro w1 H
    clear w2
    refine rdAN (H.at 1 rfl) 0 rfl rfl rfl ?_
    refine Done.mk ?_
    (refine H.ptSl (n := 1) (en := enV) (s := 4) 0 rfl [⟨33, x.a, 0, .slice none 0 0, []⟩] rfl rfl (fun _ => rfl) rfl ?_; intro H1; refine H1.frz1 0 (okV g) rfl (one_ok ⟨show U8 33 by decide, hxo_a, show I64 0 by decide, FSl.nil0 _ _ _ _⟩) ?_; intro g1 HE hf H2; exact ⟨g1, 2, _, [⟨33, x.a, 0, .slice none 0 0, []⟩], _, rfl, HE, hf.okm (fun _ _ h => h.ext HE), (by first | exact RuleR.no (by intro hA; simp only [App, e0, IsC, oneOk, List.length_map] at hA; (try simp only [InsV.d] at hA); omega) | exact RuleR.yes (by simp only [App, e0, IsC, oneOk, List.length_map]; (try simp only [InsV.d]); omega) (fun hA => by simp only [App, e0, IsC, oneOk, List.length_map] at hA; (try simp only [InsV.d] at hA); omega) | exact RuleR.of (by rw [vEq_iff, decide_eq_true_iff]; simp only [App, e0, IsC, oneOk, List.length_map]; (try simp only [InsV.d]); omega) (fun hA => by simp only [App, e0, IsC, oneOk, List.length_map] at hA; (try simp only [InsV.d] at hA); omega)), H2.tl⟩)
theorem rule10 (H : Sat g w l) (v : Value) (xs : List InsV) (hx : FSl g enV (okV g) 4 v xs) (z : Int) (s : List Int) (hr : run (xs.map InsV.d) (z :: s) = some []) (hl : xs.length ≤ 200) (hp : 0 < xs.length) : Fc Tryz.prog 55 #[v] w (fun r w' => ∃ (g' : Glob) (gone : Nat) (nv : Value) (news : List InsV) (b : Bool), r = .tuple #[.agg #[.int .i64 gone, nv], .bool b] ∧ Ext g g' ∧ FSl g' enV (okV g') 4 nv news ∧ RuleR 10 (xs.map InsV.d) gone (news.map InsV.d) b ∧ Sat g' w' l) := by
  obtain ⟨x, hx0⟩ : ∃ x, xs[0]? = some x := ⟨_, List.getElem?_eq_getElem hp⟩
  have hxo := FSl.all hx x (List.mem_of_getElem? hx0)
  have hxo_op := hxo.op
  have hxo_a := hxo.a
  have e0 := i0_map hx0
  refine Fc.of Tryz.func55 rfl (by kernel_rfl) ?_
  by_cases h2 : 2 ≤ xs.length
  · skip
    obtain ⟨y, hx1⟩ : ∃ y, xs[1]? = some y := ⟨_, List.getElem?_eq_getElem (by omega)⟩
    have hyo := FSl.all hx y (List.mem_of_getElem? hx1)
    have hyo_op := hyo.op
    have hyo_a := hyo.a
    have e1 := i1_map hx1
    refine rAllocS H rfl ?_
    clear H
    intro p1 w1 H
    obtain ⟨b1, o1, E1, F1, hok1⟩ := FSl.elt hx hx0
    have hok1_op := hok1.op
    have hok1_a := hok1.a
    have hok1_b := hok1.b
    have hok1_to := hok1.to
    refine rIxE E1 rfl rfl rfl ?_
    refine rLdA (H.fat F1) 0 rfl rfl rfl ?_
    refine CallP.mk (Fc.imp (Go.Proofs.YtndhikahjmgamaaGreatDoor.Fold.isNumberX H _ ?_) ?_)
    · assumption
    clear H
    rintro _ w2 ⟨b2, ⟨rfl, ⟨h1, H⟩⟩⟩
    refine br (fun c1 => ?_) (fun c1 => ?_)
    · replace c1 := h1.1 (c1)
      refine rIxE E1 rfl rfl rfl ?_
      refine rFieldAt rfl ?_
      refine rLd (H.fat F1) 1 rfl rfl rfl ?_
      refine br (fun c2 => ?_) (fun c2 => ?_)
      · replace c2 := vNe_t (c2)
        refine rLenF hx rfl ?_
        refine br_t (vLt_T (by omega)) ?_
        obtain ⟨b3, o2, E2, F2, hok2⟩ := FSl.elt hx hx1
        have hok2_op := hok2.op
        have hok2_a := hok2.a
        have hok2_b := hok2.b
        have hok2_to := hok2.to
        refine rIxE E2 rfl rfl rfl ?_
        refine rFieldAt rfl ?_
        refine rLd (H.fat F2) 0 rfl rfl rfl ?_
        refine rBuild rfl rfl rfl ?_
        refine rBuildSliceS H rfl rfl rfl rfl ?_
        clear H
        intro p2 w3 H
        clear w2
        refine rBuild rfl rfl rfl ?_
        refine rStAS H 1 rfl rfl rfl rfl ?_
        clear H
        intro w2 H
        clear w3
        refine rdAN (H.at 1 rfl) 0 rfl rfl rfl ?_
        refine Done.mk ?_
        (refine H.ptSl (n := 1) (en := enV) (s := 4) 0 rfl [⟨26, 0, 0, .slice none 0 0, []⟩] rfl rfl (fun _ => rfl) rfl ?_; intro H1; refine H1.frz1 0 (okV g) rfl (one_ok ⟨show U8 26 by decide, show I64 0 by decide, show I64 0 by decide, FSl.nil0 _ _ _ _⟩) ?_; intro g1 HE hf H2; exact ⟨g1, 2, _, [⟨26, 0, 0, .slice none 0 0, []⟩], _, rfl, HE, hf.okm (fun _ _ h => h.ext HE), (by first | exact RuleR.no (by intro hA; simp only [App, e0, e1, IsC, oneOk, List.length_map] at hA; (try simp only [InsV.d] at hA); omega) | exact RuleR.yes (by simp only [App, e0, e1, IsC, oneOk, List.length_map]; (try simp only [InsV.d]); omega) (fun hA => by simp only [App, e0, e1, IsC, oneOk, List.length_map] at hA; (try simp only [InsV.d] at hA); rw [shape2 hx0 hx1]; exact Tn.chosen hA.1 hA.2.2.2) | exact RuleR.of (by rw [vEq_iff, decide_eq_true_iff]; simp only [App, e0, e1, IsC, oneOk, List.length_map]; (try simp only [InsV.d]); omega) (fun hA => by simp only [App, e0, e1, IsC, oneOk, List.length_map] at hA; (try simp only [InsV.d] at hA); rw [shape2 hx0 hx1]; exact Tn.chosen hA.1 hA.2.2.2)), H2.tl⟩)
      replace c2 := vNe_f (c2)
      refine rBuild rfl rfl rfl ?_
      refine rBuildSliceS H rfl rfl rfl rfl ?_
      clear H
      intro p2 w3 H
      clear w2
      refine rBuild rfl rfl rfl ?_
      refine rStAS H 1 rfl rfl rfl rfl ?_
      clear H
      intro w2 H
      clear w3
      refine rdAN (H.at 1 rfl) 0 rfl rfl rfl ?_
      refine Done.mk ?_
      (refine H.ptSl (n := 1) (en := enV) (s := 4) 0 rfl [⟨26, 0, 0, .slice none 0 0, []⟩] rfl rfl (fun _ => rfl) rfl ?_; intro H1; refine H1.frz1 0 (okV g) rfl (one_ok ⟨show U8 26 by decide, show I64 0 by decide, show I64 0 by decide, FSl.nil0 _ _ _ _⟩) ?_; intro g1 HE hf H2; exact ⟨g1, 2, _, [⟨26, 0, 0, .slice none 0 0, []⟩], _, rfl, HE, hf.okm (fun _ _ h => h.ext HE), (by first | exact RuleR.no (by intro hA; simp only [App, e0, e1, IsC, oneOk, List.length_map] at hA; (try simp only [InsV.d] at hA); omega) | exact RuleR.yes (by simp only [App, e0, e1, IsC, oneOk, List.length_map]; (try simp only [InsV.d]); omega) (fun hA => by simp only [App, e0, e1, IsC, oneOk, List.length_map] at hA; (try simp only [InsV.d] at hA); rw [shape2 hx0 hx1]; exact Tn.chosen hA.1 hA.2.2.2) | exact RuleR.of (by rw [vEq_iff, decide_eq_true_iff]; simp only [App, e0, e1, IsC, oneOk, List.length_map]; (try simp only [InsV.d]); omega) (fun hA => by simp only [App, e0, e1, IsC, oneOk, List.length_map] at hA; (try simp only [InsV.d] at hA); rw [shape2 hx0 hx1]; exact Tn.chosen hA.1 hA.2.2.2)), H2.tl⟩)
    replace c1 := iff_f h1 (c1)
    refine rBuild rfl rfl rfl ?_
    refine rBuildSliceS H rfl rfl rfl rfl ?_
    clear H
    intro p2 w3 H
    clear w2
    refine rBuild rfl rfl rfl ?_
    refine rStAS H 1 rfl rfl rfl rfl ?_
    clear H
    intro w2 H
    clear w3
    refine rdAN (H.at 1 rfl) 0 rfl rfl rfl ?_
    refine Done.mk ?_
    (refine H.ptSl (n := 1) (en := enV) (s := 4) 0 rfl [⟨26, 0, 0, .slice none 0 0, []⟩] rfl rfl (fun _ => rfl) rfl ?_; intro H1; refine H1.frz1 0 (okV g) rfl (one_ok ⟨show U8 26 by decide, show I64 0 by decide, show I64 0 by decide, FSl.nil0 _ _ _ _⟩) ?_; intro g1 HE hf H2; exact ⟨g1, 2, _, [⟨26, 0, 0, .slice none 0 0, []⟩], _, rfl, HE, hf.okm (fun _ _ h => h.ext HE), (by first | exact RuleR.no (by intro hA; simp only [App, e0, e1, IsC, oneOk, List.length_map] at hA; (try simp only [InsV.d] at hA); omega) | exact RuleR.yes (by simp only [App, e0, e1, IsC, oneOk, List.length_map]; (try simp only [InsV.d]); omega) (fun hA => by simp only [App, e0, e1, IsC, oneOk, List.length_map] at hA; (try simp only [InsV.d] at hA); rw [shape2 hx0 hx1]; exact Tn.chosen hA.1 hA.2.2.2) | exact RuleR.of (by rw [vEq_iff, decide_eq_true_iff]; simp only [App, e0, e1, IsC, oneOk, List.length_map]; (try simp only [InsV.d]); omega) (fun hA => by simp only [App, e0, e1, IsC, oneOk, List.length_map] at hA; (try simp only [InsV.d] at hA); rw [shape2 hx0 hx1]; exact Tn.chosen hA.1 hA.2.2.2)), H2.tl⟩)
  · have h11 : x.op = 11 := Decidable.by_contra fun h => h2 (len2 hx0 hr h)
    refine rAllocS H rfl ?_
    clear H
    intro p1 w1 H
    obtain ⟨b1, o1, E1, F1, hok1⟩ := FSl.elt hx hx0
    have hok1_op := hok1.op
    have hok1_a := hok1.a
    have hok1_b := hok1.b
    have hok1_to := hok1.to
    refine rIxE E1 rfl rfl rfl ?_
    refine rLdA (H.fat F1) 0 rfl rfl rfl ?_
    refine CallP.mk (Fc.imp (Go.Proofs.YtndhikahjmgamaaGreatDoor.Fold.isNumberX H _ ?_) ?_)
    · assumption
    clear H
    rintro _ w2 ⟨b2, ⟨rfl, ⟨h1, H⟩⟩⟩
    refine br_f (iff_F h1 (by omega)) ?_
    refine rBuild rfl rfl rfl ?_
    refine rBuildSliceS H rfl rfl rfl rfl ?_
    clear H
    intro p2 w3 H
    clear w2
    refine rBuild rfl rfl rfl ?_
    refine rStAS H 1 rfl rfl rfl rfl ?_
    clear H
    intro w2 H
    clear w3
    refine rdAN (H.at 1 rfl) 0 rfl rfl rfl ?_
    refine Done.mk ?_
    (refine H.ptSl (n := 1) (en := enV) (s := 4) 0 rfl [⟨26, 0, 0, .slice none 0 0, []⟩] rfl rfl (fun _ => rfl) rfl ?_; intro H1; refine H1.frz1 0 (okV g) rfl (one_ok ⟨show U8 26 by decide, show I64 0 by decide, show I64 0 by decide, FSl.nil0 _ _ _ _⟩) ?_; intro g1 HE hf H2; exact ⟨g1, 2, _, [⟨26, 0, 0, .slice none 0 0, []⟩], _, rfl, HE, hf.okm (fun _ _ h => h.ext HE), (by first | exact RuleR.no (by intro hA; simp only [App, e0, IsC, oneOk, List.length_map] at hA; (try simp only [InsV.d] at hA); omega) | exact RuleR.yes (by simp only [App, e0, IsC, oneOk, List.length_map]; (try simp only [InsV.d]); omega) (fun hA => by simp only [App, e0, IsC, oneOk, List.length_map] at hA; (try simp only [InsV.d] at hA); omega) | exact RuleR.of (by rw [vEq_iff, decide_eq_true_iff]; simp only [App, e0, IsC, oneOk, List.length_map]; (try simp only [InsV.d]); omega) (fun hA => by simp only [App, e0, IsC, oneOk, List.length_map] at hA; (try simp only [InsV.d] at hA); omega)), H2.tl⟩)
end
end Go.Proofs.YtndhikahjmgamaaGreatDoor.Fold
/- Package fold: dead, choice. -/
set_option maxRecDepth 100000
set_option maxHeartbeats 4000000
set_option linter.unusedVariables false
set_option linter.unusedSimpArgs false
namespace Go.Proofs.YtndhikahjmgamaaGreatDoor.Fold
open Go Go.Proofs.YtndhikahjmgamaaGreatDoor.Eng Go.RowKit
open Ins Nest Leb Bin Valid
theorem tail1 {xs : List InsV} {x y : InsV} (h : xs[0]? = some x) (h1 : xs[1]? = some y) : List.map InsV.d (List.drop 1 (List.take xs.length xs)) = y.d :: (xs.map InsV.d).drop 2 := by
  rw [List.take_length]
  match xs, h, h1 with
  | a :: b :: r, h, h1 => rw [show b = y from Option.some.inj h1]; rfl
theorem head1 {xs : List InsV} {x : InsV} (h : xs[0]? = some x) : List.map InsV.d (List.drop 0 (List.take 1 xs)) = [x.d] := by
  cases xs with
  | nil => cases h
  | cons a r => rw [show a = x from Option.some.inj h]; simp
theorem R5 {xs : List InsV} {x y : InsV} (hx0 : xs[0]? = some x) (hx1 : xs[1]? = some y) (hA : App 5 (xs.map InsV.d)) {n : Nat} (hn : n = spn 0 (List.map InsV.d (List.drop 1 (List.take xs.length xs)))) : RuleR 5 (xs.map InsV.d) (1 + n) (List.map InsV.d (List.drop 0 (List.take 1 xs))) true := by
  refine RuleR.yes hA fun _ => ?_
  have e0 := i0_map hx0
  have e1 := i1_map hx1
  simp only [App, e0, e1] at hA
  rw [tail1 hx0 hx1, spn] at hn
  rw [head1 hx0, shape2 hx0 hx1]
  by_cases ho : Opn y.d
  · rw [show dd y.d = 1 from if_pos ho, if_neg (by decide), Int.zero_add] at hn
    rw [hn, show 1 + (1 + spn 1 ((xs.map InsV.d).drop 2)) = 2 + spn 1 ((xs.map InsV.d).drop 2) by omega]
    exact Tn.dead hA.1 ho
  · have hd : dd y.d = 0 := by unfold dd; rw [if_neg ho, if_neg hA.2.1]
    rw [hd, if_pos (by decide)] at hn
    rw [hn]
    exact Tn.dead1 hA.1 hA.2.1 hA.2.2 ho
/-- Where the halves and the end of an if are. -/
structure Cho (r : List InsD) (n h : Nat) : Prop where
  en : n = 1 + spn 1 r
  eh : h = 1 + oth 1 r
  lt : h < n
  le : n ≤ r.length + 1
theorem cho_of {xs : List InsV} {x y : InsV} {z : Int} {s : List Int} (hx0 : xs[0]? = some x) (hx1 : xs[1]? = some y) (hr : run (xs.map InsV.d) (z :: s) = some []) (h65 : x.op = 65) (h4 : y.op = 4) : Cho ((xs.map InsV.d).drop 2) (spn 0 (List.map InsV.d (List.drop 1 (List.take xs.length xs)))) (oth 0 (List.map InsV.d (List.drop 1 (List.take xs.length xs)))) := by
  rw [shape2 hx0 hx1] at hr
  have hf : FlatI x.d := ⟨chk_at hr, by
    have h65 : x.d.op = 65 := h65
    unfold Opn; omega⟩
  have r2 := run_tail hf hr
  have h4 : y.d.op = 4 := h4
  have ho : Opn y.d := .inr (.inr h4)
  have hd : dd y.d = 1 := if_pos ho
  generalize hR : (xs.map InsV.d).drop 2 = r at r2
  have e := tail1 hx0 hx1
  rw [hR] at e
  rw [e, spn, oth, hd, if_neg (by decide), if_neg (by omega)]
  rcases block_at ho r2 with ⟨A, e, R, rfl, _, _, _, _, _, hs, hot⟩ | ⟨A, q, B, e, R, _, rfl, _, _, _, _, _, _, _, _, hs, hot⟩
  · exact ⟨rfl, rfl, by simp only [Int.zero_add]; rw [hs, hot]; omega, by simp only [Int.zero_add]; rw [hs]; simp; omega⟩
  · exact ⟨rfl, rfl, by simp only [Int.zero_add]; rw [hs, hot]; omega, by simp only [Int.zero_add]; rw [hs]; simp; omega⟩
section
variable {g : Glob} {w : World} {l : List As}
theorem rule5 (H : Sat g w l) (v : Value) (xs : List InsV) (hx : FSl g enV (okV g) 4 v xs) (z : Int) (s : List Int) (hr : run (xs.map InsV.d) (z :: s) = some []) (hl : xs.length ≤ 200) (hp : 0 < xs.length) : Fc Tryz.prog 50 #[v] w (fun r w' => ∃ (g' : Glob) (gone : Nat) (nv : Value) (news : List InsV) (b : Bool), r = .tuple #[.agg #[.int .i64 gone, nv], .bool b] ∧ Ext g g' ∧ FSl g' enV (okV g') 4 nv news ∧ RuleR 5 (xs.map InsV.d) gone (news.map InsV.d) b ∧ Sat g' w' l) := by
  obtain ⟨x, hx0⟩ : ∃ x, xs[0]? = some x := ⟨_, List.getElem?_eq_getElem hp⟩
  have hxo := FSl.all hx x (List.mem_of_getElem? hx0)
  have hxo_op := hxo.op
  have hxo_a := hxo.a
  have e0 := i0_map hx0
  refine Fc.of Tryz.func50 rfl (by kernel_rfl) ?_
  by_cases h2 : 2 ≤ xs.length
  · skip
    obtain ⟨y, hx1⟩ : ∃ y, xs[1]? = some y := ⟨_, List.getElem?_eq_getElem (by omega)⟩
    have hyo := FSl.all hx y (List.mem_of_getElem? hx1)
    have hyo_op := hyo.op
    have hyo_a := hyo.a
    have e1 := i1_map hx1
    refine rAllocS H rfl ?_
    clear H
    intro p1 w1 H
    obtain ⟨b1, o1, E1, F1, hok1⟩ := FSl.elt hx hx0
    have hok1_op := hok1.op
    have hok1_a := hok1.a
    have hok1_b := hok1.b
    have hok1_to := hok1.to
    refine rIxE E1 rfl rfl rfl ?_
    refine rFieldAt rfl ?_
    refine rLd (H.fat F1) 0 rfl rfl rfl ?_
    refine bk ?_
    refine cI (fun c1 => ?_) (fun c1 => ?_)
    focus
      replace c1 := vEq_t (c1)
      refine cT (vEq_T (by assumption)) ?_
      obtain ⟨b2, o2, E2, F2, hok2⟩ := FSl.elt hx hx1
      have hok2_op := hok2.op
      have hok2_a := hok2.a
      have hok2_b := hok2.b
      have hok2_to := hok2.to
      refine rIxE E2 rfl rfl rfl ?_
      refine rFieldAt rfl ?_
      refine rLd (H.fat F2) 0 rfl rfl rfl ?_
      refine br (fun c2 => ?_) (fun c2 => ?_)
      · replace c2 := vEq_t (c2)
        refine cT rfl ?_
        refine rBuild rfl rfl rfl ?_
        refine rStAS H 0 rfl rfl rfl rfl ?_
        clear H
        intro w2 H
        clear w1
        refine rdAN (H.at 0 rfl) 0 rfl rfl rfl ?_
        refine Done.mk ?_
        exact ⟨g, 0, _, [], _, rfl, Ext.refl _, FSl.nil0 _ _ _ _, RuleR.no (by intro hA; simp only [App, e0, e1, IsC, List.length_map] at hA; (try simp only [InsV.d] at hA); omega), H.tl⟩
      replace c2 := vEq_f (c2)
      refine rIxE E2 rfl rfl rfl ?_
      refine rFieldAt rfl ?_
      refine rLd (H.fat F2) 0 rfl rfl rfl ?_
      refine cI (fun c3 => ?_) (fun c3 => ?_)
      · replace c3 := vEq_t (c3)
        refine rBuild rfl rfl rfl ?_
        refine rStAS H 0 rfl rfl rfl rfl ?_
        clear H
        intro w2 H
        clear w1
        refine rdAN (H.at 0 rfl) 0 rfl rfl rfl ?_
        refine Done.mk ?_
        exact ⟨g, 0, _, [], _, rfl, Ext.refl _, FSl.nil0 _ _ _ _, RuleR.no (by intro hA; simp only [App, e0, e1, IsC, List.length_map] at hA; (try simp only [InsV.d] at hA); omega), H.tl⟩
      replace c3 := vEq_f (c3)
      refine drawzS H [] [(0, .pure), (1, .pure), (4, .pure), (5, .pure), (2, .free), (3, .pure), (6, .pure), (7, .free), (8, .pure)] mixed (by kernel_rfl) (by kernel_rfl) ?_
      clear H
      intro w2 H
      clear w1
      refine tkSlF hx 1 (xs).length rfl rfl (by omega) (by omega) (.inr ⟨_, by first | rfl | (congr 2; omega)⟩) (.inl ⟨rfl, rfl⟩) ?_
      intro v1 hs1
      refine tkSlF hx 0 1 rfl rfl (by omega) (by omega) (.inl ⟨rfl, rfl⟩) (.inr ⟨_, by first | rfl | (congr 2; omega)⟩) ?_
      intro v2 hs2
      refine CallP.mk (Fc.imp (Go.Proofs.YtndhikahjmgamaaGreatDoor.Fold.spanX H _ _ hs1 ?_) ?_)
      · (simp; omega)
      clear H
      rintro _ w1 ⟨n1, ⟨rfl, ⟨h1, ⟨h3, H⟩⟩⟩⟩
      refine eqI64 (by omega) ?_
    rotate_left 1
    focus
      replace c1 := vEq_f (c1)
      refine cI (fun c2 => ?_) (fun c2 => ?_)
      focus
        replace c2 := vEq_t (c2)
        refine cT (vEq_T (by assumption)) ?_
        obtain ⟨b2, o2, E2, F2, hok2⟩ := FSl.elt hx hx1
        have hok2_op := hok2.op
        have hok2_a := hok2.a
        have hok2_b := hok2.b
        have hok2_to := hok2.to
        refine rIxE E2 rfl rfl rfl ?_
        refine rFieldAt rfl ?_
        refine rLd (H.fat F2) 0 rfl rfl rfl ?_
        refine br (fun c3 => ?_) (fun c3 => ?_)
        · replace c3 := vEq_t (c3)
          refine cT rfl ?_
          refine rBuild rfl rfl rfl ?_
          refine rStAS H 0 rfl rfl rfl rfl ?_
          clear H
          intro w2 H
          clear w1
          refine rdAN (H.at 0 rfl) 0 rfl rfl rfl ?_
          refine Done.mk ?_
          exact ⟨g, 0, _, [], _, rfl, Ext.refl _, FSl.nil0 _ _ _ _, RuleR.no (by intro hA; simp only [App, e0, e1, IsC, List.length_map] at hA; (try simp only [InsV.d] at hA); omega), H.tl⟩
        replace c3 := vEq_f (c3)
        refine rIxE E2 rfl rfl rfl ?_
        refine rFieldAt rfl ?_
        refine rLd (H.fat F2) 0 rfl rfl rfl ?_
        refine cI (fun c4 => ?_) (fun c4 => ?_)
        · replace c4 := vEq_t (c4)
          refine rBuild rfl rfl rfl ?_
          refine rStAS H 0 rfl rfl rfl rfl ?_
          clear H
          intro w2 H
          clear w1
          refine rdAN (H.at 0 rfl) 0 rfl rfl rfl ?_
          refine Done.mk ?_
          exact ⟨g, 0, _, [], _, rfl, Ext.refl _, FSl.nil0 _ _ _ _, RuleR.no (by intro hA; simp only [App, e0, e1, IsC, List.length_map] at hA; (try simp only [InsV.d] at hA); omega), H.tl⟩
        replace c4 := vEq_f (c4)
        refine drawzS H [] [(0, .pure), (1, .pure), (4, .pure), (5, .pure), (2, .free), (3, .pure), (6, .pure), (7, .free), (8, .pure)] mixed (by kernel_rfl) (by kernel_rfl) ?_
        clear H
        intro w2 H
        clear w1
        refine tkSlF hx 1 (xs).length rfl rfl (by omega) (by omega) (.inr ⟨_, by first | rfl | (congr 2; omega)⟩) (.inl ⟨rfl, rfl⟩) ?_
        intro v1 hs1
        refine tkSlF hx 0 1 rfl rfl (by omega) (by omega) (.inl ⟨rfl, rfl⟩) (.inr ⟨_, by first | rfl | (congr 2; omega)⟩) ?_
        intro v2 hs2
        refine CallP.mk (Fc.imp (Go.Proofs.YtndhikahjmgamaaGreatDoor.Fold.spanX H _ _ hs1 ?_) ?_)
        · (simp; omega)
        clear H
        rintro _ w1 ⟨n1, ⟨rfl, ⟨h1, ⟨h3, H⟩⟩⟩⟩
        refine eqI64 (by omega) ?_
      rotate_left 1
      focus
        replace c2 := vEq_f (c2)
        refine cI (fun c3 => ?_) (fun c3 => ?_)
        focus
          replace c3 := vEq_t (c3)
          refine cT (vEq_T (by assumption)) ?_
          obtain ⟨b2, o2, E2, F2, hok2⟩ := FSl.elt hx hx1
          have hok2_op := hok2.op
          have hok2_a := hok2.a
          have hok2_b := hok2.b
          have hok2_to := hok2.to
          refine rIxE E2 rfl rfl rfl ?_
          refine rFieldAt rfl ?_
          refine rLd (H.fat F2) 0 rfl rfl rfl ?_
          refine br (fun c4 => ?_) (fun c4 => ?_)
          · replace c4 := vEq_t (c4)
            refine cT rfl ?_
            refine rBuild rfl rfl rfl ?_
            refine rStAS H 0 rfl rfl rfl rfl ?_
            clear H
            intro w2 H
            clear w1
            refine rdAN (H.at 0 rfl) 0 rfl rfl rfl ?_
            refine Done.mk ?_
            exact ⟨g, 0, _, [], _, rfl, Ext.refl _, FSl.nil0 _ _ _ _, RuleR.no (by intro hA; simp only [App, e0, e1, IsC, List.length_map] at hA; (try simp only [InsV.d] at hA); omega), H.tl⟩
          replace c4 := vEq_f (c4)
          refine rIxE E2 rfl rfl rfl ?_
          refine rFieldAt rfl ?_
          refine rLd (H.fat F2) 0 rfl rfl rfl ?_
          refine cI (fun c5 => ?_) (fun c5 => ?_)
          · replace c5 := vEq_t (c5)
            refine rBuild rfl rfl rfl ?_
            refine rStAS H 0 rfl rfl rfl rfl ?_
            clear H
            intro w2 H
            clear w1
            refine rdAN (H.at 0 rfl) 0 rfl rfl rfl ?_
            refine Done.mk ?_
            exact ⟨g, 0, _, [], _, rfl, Ext.refl _, FSl.nil0 _ _ _ _, RuleR.no (by intro hA; simp only [App, e0, e1, IsC, List.length_map] at hA; (try simp only [InsV.d] at hA); omega), H.tl⟩
          replace c5 := vEq_f (c5)
          refine drawzS H [] [(0, .pure), (1, .pure), (4, .pure), (5, .pure), (2, .free), (3, .pure), (6, .pure), (7, .free), (8, .pure)] mixed (by kernel_rfl) (by kernel_rfl) ?_
          clear H
          intro w2 H
          clear w1
          refine tkSlF hx 1 (xs).length rfl rfl (by omega) (by omega) (.inr ⟨_, by first | rfl | (congr 2; omega)⟩) (.inl ⟨rfl, rfl⟩) ?_
          intro v1 hs1
          refine tkSlF hx 0 1 rfl rfl (by omega) (by omega) (.inl ⟨rfl, rfl⟩) (.inr ⟨_, by first | rfl | (congr 2; omega)⟩) ?_
          intro v2 hs2
          refine CallP.mk (Fc.imp (Go.Proofs.YtndhikahjmgamaaGreatDoor.Fold.spanX H _ _ hs1 ?_) ?_)
          · (simp; omega)
          clear H
          rintro _ w1 ⟨n1, ⟨rfl, ⟨h1, ⟨h3, H⟩⟩⟩⟩
          refine eqI64 (by omega) ?_
        rotate_left 1
        focus
          replace c3 := vEq_f (c3)
          refine cI (fun c4 => ?_) (fun c4 => ?_)
          rotate_left
          · replace c4 := vEq_f (c4)
            refine rBuild rfl rfl rfl ?_
            refine rStAS H 0 rfl rfl rfl rfl ?_
            clear H
            intro w2 H
            clear w1
            refine rdAN (H.at 0 rfl) 0 rfl rfl rfl ?_
            refine Done.mk ?_
            exact ⟨g, 0, _, [], _, rfl, Ext.refl _, FSl.nil0 _ _ _ _, RuleR.no (by intro hA; simp only [App, e0, e1, IsC, List.length_map] at hA; (try simp only [InsV.d] at hA); omega), H.tl⟩
          replace c4 := vEq_t (c4)
          obtain ⟨b2, o2, E2, F2, hok2⟩ := FSl.elt hx hx1
          have hok2_op := hok2.op
          have hok2_a := hok2.a
          have hok2_b := hok2.b
          have hok2_to := hok2.to
          refine rIxE E2 rfl rfl rfl ?_
          refine rFieldAt rfl ?_
          refine rLd (H.fat F2) 0 rfl rfl rfl ?_
          refine br (fun c5 => ?_) (fun c5 => ?_)
          · replace c5 := vEq_t (c5)
            refine cT rfl ?_
            refine rBuild rfl rfl rfl ?_
            refine rStAS H 0 rfl rfl rfl rfl ?_
            clear H
            intro w2 H
            clear w1
            refine rdAN (H.at 0 rfl) 0 rfl rfl rfl ?_
            refine Done.mk ?_
            exact ⟨g, 0, _, [], _, rfl, Ext.refl _, FSl.nil0 _ _ _ _, RuleR.no (by intro hA; simp only [App, e0, e1, IsC, List.length_map] at hA; (try simp only [InsV.d] at hA); omega), H.tl⟩
          replace c5 := vEq_f (c5)
          refine rIxE E2 rfl rfl rfl ?_
          refine rFieldAt rfl ?_
          refine rLd (H.fat F2) 0 rfl rfl rfl ?_
          refine cI (fun c6 => ?_) (fun c6 => ?_)
          · replace c6 := vEq_t (c6)
            refine rBuild rfl rfl rfl ?_
            refine rStAS H 0 rfl rfl rfl rfl ?_
            clear H
            intro w2 H
            clear w1
            refine rdAN (H.at 0 rfl) 0 rfl rfl rfl ?_
            refine Done.mk ?_
            exact ⟨g, 0, _, [], _, rfl, Ext.refl _, FSl.nil0 _ _ _ _, RuleR.no (by intro hA; simp only [App, e0, e1, IsC, List.length_map] at hA; (try simp only [InsV.d] at hA); omega), H.tl⟩
          replace c6 := vEq_f (c6)
          refine drawzS H [] [(0, .pure), (1, .pure), (4, .pure), (5, .pure), (2, .free), (3, .pure), (6, .pure), (7, .free), (8, .pure)] mixed (by kernel_rfl) (by kernel_rfl) ?_
          clear H
          intro w2 H
          clear w1
          refine tkSlF hx 1 (xs).length rfl rfl (by omega) (by omega) (.inr ⟨_, by first | rfl | (congr 2; omega)⟩) (.inl ⟨rfl, rfl⟩) ?_
          intro v1 hs1
          refine tkSlF hx 0 1 rfl rfl (by omega) (by omega) (.inl ⟨rfl, rfl⟩) (.inr ⟨_, by first | rfl | (congr 2; omega)⟩) ?_
          intro v2 hs2
          refine CallP.mk (Fc.imp (Go.Proofs.YtndhikahjmgamaaGreatDoor.Fold.spanX H _ _ hs1 ?_) ?_)
          · (simp; omega)
          clear H
          rintro _ w1 ⟨n1, ⟨rfl, ⟨h1, ⟨h3, H⟩⟩⟩⟩
          refine eqI64 (by omega) ?_
        rotate_left 1
      rotate_left 2
    rotate_left 3
    · obtain ⟨a9, c9, rfl⟩ := FSl.form hs2
      refine tk (fun wx HS => rBuild rfl rfl rfl ⟨rfl, rfl⟩) ?_
      refine rStAS H 0 rfl rfl rfl rfl ?_
      clear H
      intro w3 H
      clear w1
      refine rdAN (H.at 0 rfl) 0 rfl rfl rfl ?_
      refine Done.mk ?_
      exact ⟨g, 1 + n1, _, List.drop 0 (List.take 1 xs), true, rfl, Ext.refl _, by assumption, R5 hx0 hx1 (by simp only [App, e0, e1, IsC, List.length_map]; (try simp only [InsV.d]); omega) (by assumption), H.tl⟩
    · obtain ⟨a9, c9, rfl⟩ := FSl.form hs2
      refine tk (fun wx HS => rBuild rfl rfl rfl ⟨rfl, rfl⟩) ?_
      refine rStAS H 0 rfl rfl rfl rfl ?_
      clear H
      intro w3 H
      clear w1
      refine rdAN (H.at 0 rfl) 0 rfl rfl rfl ?_
      refine Done.mk ?_
      exact ⟨g, 1 + n1, _, List.drop 0 (List.take 1 xs), true, rfl, Ext.refl _, by assumption, R5 hx0 hx1 (by simp only [App, e0, e1, IsC, List.length_map]; (try simp only [InsV.d]); omega) (by assumption), H.tl⟩
    · obtain ⟨a9, c9, rfl⟩ := FSl.form hs2
      refine tk (fun wx HS => rBuild rfl rfl rfl ⟨rfl, rfl⟩) ?_
      refine rStAS H 0 rfl rfl rfl rfl ?_
      clear H
      intro w3 H
      clear w1
      refine rdAN (H.at 0 rfl) 0 rfl rfl rfl ?_
      refine Done.mk ?_
      exact ⟨g, 1 + n1, _, List.drop 0 (List.take 1 xs), true, rfl, Ext.refl _, by assumption, R5 hx0 hx1 (by simp only [App, e0, e1, IsC, List.length_map]; (try simp only [InsV.d]); omega) (by assumption), H.tl⟩
    · obtain ⟨a9, c9, rfl⟩ := FSl.form hs2
      refine tk (fun wx HS => rBuild rfl rfl rfl ⟨rfl, rfl⟩) ?_
      refine rStAS H 0 rfl rfl rfl rfl ?_
      clear H
      intro w3 H
      clear w1
      refine rdAN (H.at 0 rfl) 0 rfl rfl rfl ?_
      refine Done.mk ?_
      exact ⟨g, 1 + n1, _, List.drop 0 (List.take 1 xs), true, rfl, Ext.refl _, by assumption, R5 hx0 hx1 (by simp only [App, e0, e1, IsC, List.length_map]; (try simp only [InsV.d]); omega) (by assumption), H.tl⟩
  · have h11 : x.op = 11 := Decidable.by_contra fun h => h2 (len2 hx0 hr h)
    refine rAllocS H rfl ?_
    clear H
    intro p1 w1 H
    obtain ⟨b1, o1, E1, F1, hok1⟩ := FSl.elt hx hx0
    have hok1_op := hok1.op
    have hok1_a := hok1.a
    have hok1_b := hok1.b
    have hok1_to := hok1.to
    refine rIxE E1 rfl rfl rfl ?_
    refine rFieldAt rfl ?_
    refine rLd (H.fat F1) 0 rfl rfl rfl ?_
    refine bk ?_
    refine cF (vEq_F (by omega)) ?_
    refine cF (vEq_F (by omega)) ?_
    refine cF (vEq_F (by omega)) ?_
    refine cF (vEq_F (by omega)) ?_
    refine rBuild rfl rfl rfl ?_
    refine rStAS H 0 rfl rfl rfl rfl ?_
    clear H
    intro w2 H
    clear w1
    refine rdAN (H.at 0 rfl) 0 rfl rfl rfl ?_
    refine Done.mk ?_
    exact ⟨g, 0, _, [], _, rfl, Ext.refl _, FSl.nil0 _ _ _ _, RuleR.no (by intro hA; simp only [App, e0, IsC, List.length_map] at hA; (try simp only [InsV.d] at hA); omega), H.tl⟩
end
end Go.Proofs.YtndhikahjmgamaaGreatDoor.Fold
/-
  Contracts of the library, laid at this program by the kit's tools.
-/
namespace Go.Proofs
open Go.Shelf
def Tryz.lays133_ren : Go.Shelf.Ren := ⟨fun | 133 => 108 | 128 => 145 | n => n, fun | 51 => 180 | 3 => 3 | 4 => 4 | 46 => 213 | 5 => 5 | 9 => 9 | n => n, fun | n => n⟩
theorem Tryz.lays133 : Go.Proofs.Lays.n133 Tryz.prog Tryz.lays133_ren := {
  mixed := by kernel_rfl
  f128 := Tryz.func145.trans (congrArg some (by kernel_rfl))
  f133 := Tryz.func108.trans (congrArg some (by kernel_rfl))
  t3 := Tryz.underlying3
  a3 := Tryz.isAgg3
  z3 := Tryz.sizeOf3
  v3 := Tryz.zeroValue3
  t4 := Tryz.underlying4
  a4 := Tryz.isAgg4
  z4 := Tryz.sizeOf4
  v4 := Tryz.zeroValue4
  t5 := Tryz.underlying5
  a5 := Tryz.isAgg5
  z5 := Tryz.sizeOf5
  v5 := Tryz.zeroValue5
  t9 := Tryz.underlying9
  a9 := Tryz.isAgg9
  z9 := Tryz.sizeOf9
  v9 := Tryz.zeroValue9
  t46 := Tryz.underlying213
  a46 := Tryz.isAgg213
  z46 := Tryz.sizeOf213
  v46 := Tryz.zeroValue213
  t51 := Tryz.underlying180
  a51 := Tryz.isAgg180
  z51 := Tryz.sizeOf180
  v51 := Tryz.zeroValue180 }
/-- bits.LeadingZeros32: "LeadingZeros32 returns the number of leading zero bits in x; the result is 32 for x == 0.": IT RETURNS '32 - Lib.bitLen x'; the world is as it was. ITS CALLEE bits.Len32 IS MET BY ITS OWN CONTRACT OFF THE SHELF (lay that first): entered in place it sends the kernel out of memory. (LAID: no walk: one application.) -/
theorem Tryz.bits_LeadingZeros32 (x : Int) (w : World) (h0 : 0 ≤ x) (h1 : x ≤ 4294967295) :
    Calls Tryz.prog 108 #[.int .u32 x] w fun e w' => e = .returned (.int .i64 (32 - (Lib.bitLen x.toNat : Int))) ∧ w' = w := Any.bits_LeadingZeros32 Tryz.lays133 x w h0 h1
def Tryz.lays134_ren : Go.Shelf.Ren := ⟨fun | 134 => 111 | 129 => 146 | n => n, fun | 53 => 182 | 3 => 3 | 4 => 4 | 46 => 213 | 5 => 5 | 9 => 9 | n => n, fun | n => n⟩
theorem Tryz.lays134 : Go.Proofs.Lays.n134 Tryz.prog Tryz.lays134_ren := {
  mixed := by kernel_rfl
  f129 := Tryz.func146.trans (congrArg some (by kernel_rfl))
  f134 := Tryz.func111.trans (congrArg some (by kernel_rfl))
  t3 := Tryz.underlying3
  a3 := Tryz.isAgg3
  z3 := Tryz.sizeOf3
  v3 := Tryz.zeroValue3
  t4 := Tryz.underlying4
  a4 := Tryz.isAgg4
  z4 := Tryz.sizeOf4
  v4 := Tryz.zeroValue4
  t5 := Tryz.underlying5
  a5 := Tryz.isAgg5
  z5 := Tryz.sizeOf5
  v5 := Tryz.zeroValue5
  t9 := Tryz.underlying9
  a9 := Tryz.isAgg9
  z9 := Tryz.sizeOf9
  v9 := Tryz.zeroValue9
  t46 := Tryz.underlying213
  a46 := Tryz.isAgg213
  z46 := Tryz.sizeOf213
  v46 := Tryz.zeroValue213
  t53 := Tryz.underlying182
  a53 := Tryz.isAgg182
  z53 := Tryz.sizeOf182
  v53 := Tryz.zeroValue182 }
/-- bits.LeadingZeros64: "LeadingZeros64 returns the number of leading zero bits in x; the result is 64 for x == 0.": IT RETURNS '64 - Lib.bitLen x'; the world is as it was. ITS CALLEE bits.Len64 IS MET BY ITS OWN CONTRACT OFF THE SHELF (lay that first): entered in place it sends the kernel out of memory. (LAID: no walk: one application.) -/
theorem Tryz.bits_LeadingZeros64 (x : Int) (w : World) (h0 : 0 ≤ x) (h1 : x ≤ 18446744073709551615) :
    Calls Tryz.prog 111 #[.int .u64 x] w fun e w' => e = .returned (.int .i64 (64 - (Lib.bitLen x.toNat : Int))) ∧ w' = w := Any.bits_LeadingZeros64 Tryz.lays134 x w h0 h1
end Go.Proofs
/- Package math/bits: how far its counts go. -/
set_option maxRecDepth 100000
set_option maxHeartbeats 4000000
set_option linter.unusedVariables false
set_option linter.unusedSimpArgs false
namespace Go.Proofs.YtndhikahjmgamaaGreatDoor.Fold
open Go Go.Proofs.YtndhikahjmgamaaGreatDoor.Eng Go.RowKit
open Go.Proofs.YtndhikahjmgamaaGreatDoor.Bm
section
variable {g : Glob} {w : World} {l : List As}
theorem lz32 (H : Sat g w l) (n : Int) (hn : 0 ≤ n ∧ n ≤ 4294967295) : Fc Tryz.prog 108 #[.int .u32 n] w (fun v w' => ∃ r, v = .int .i64 r ∧ (-1000 ≤ r ∧ r ≤ 1000) ∧ Sat g w' l) := by
  refine Fc.ofCalls Tryz.func108 rfl (by kernel_rfl) ?_
  refine (Tryz.bits_LeadingZeros32 n w hn.1 hn.2).mono ?_
  rintro e w' ⟨rfl, rfl⟩
  have := Go.Proofs.Any.bitLen_le32 n hn.1 hn.2
  exact ⟨_, rfl, _, rfl, by omega, H⟩
theorem lz64 (H : Sat g w l) (n : Int) (hn : 0 ≤ n ∧ n ≤ 18446744073709551615) : Fc Tryz.prog 111 #[.int .u64 n] w (fun v w' => ∃ r, v = .int .i64 r ∧ (-1000 ≤ r ∧ r ≤ 1000) ∧ Sat g w' l) := by
  refine Fc.ofCalls Tryz.func111 rfl (by kernel_rfl) ?_
  refine (Tryz.bits_LeadingZeros64 n w hn.1 hn.2).mono ?_
  rintro e w' ⟨rfl, rfl⟩
  have := Go.Proofs.Any.bitLen_le64 n hn.1 hn.2
  exact ⟨_, rfl, _, rfl, by omega, H⟩
theorem tab32_ex : ∀ k < 32, ∃ t, (tabV tab32)[k]? = some (.int .u8 t) ∧ 0 ≤ t ∧ t ≤ 255 := by
  intro k hk
  have h : ∀ k < 32, tab32.getD k 0 ≤ 255 := by decide
  refine ⟨(tab32.getD k 0 : Nat), ?_, by omega, by have := h k hk; omega⟩
  unfold tabV
  rw [List.getElem?_map, List.getD_eq_getElem?_getD, List.getElem?_eq_getElem (show k < tab32.length from hk)]; rfl
theorem tab64_ex : ∀ k < 64, ∃ t, (tabV tab64)[k]? = some (.int .u8 t) ∧ 0 ≤ t ∧ t ≤ 255 := by
  intro k hk
  have h : ∀ k < 64, tab64.getD k 0 ≤ 255 := by decide
  refine ⟨(tab64.getD k 0 : Nat), ?_, by omega, by have := h k hk; omega⟩
  unfold tabV
  rw [List.getElem?_map, List.getD_eq_getElem?_getD, List.getElem?_eq_getElem (show k < tab64.length from hk)]; rfl
theorem fat_at {g : Glob} {b k : Nat} {vs : List Value} {v : Value} (h : FAt g b 0 vs) (hk : vs[k]? = some v) : FAt g b (0 + k * 1) [v] := by
  obtain ⟨cs, e, fz, h1, h2⟩ := h
  refine ⟨cs, e, fz, h1, fun i u hu => ?_⟩
  cases i with
  | zero =>
    obtain rfl : v = u := by simpa using hu
    have := h2 k v hk
    simpa using this
  | succ i => simp at hu
theorem tz32 (H : Sat g w l) (hT : FAt g 0 0 (tabV tab32)) (n : Int) (hn : 0 ≤ n ∧ n ≤ 4294967295) : Fc Tryz.prog 109 #[.int .u32 n] w (fun v w' => ∃ r, v = .int .i64 r ∧ (-1000 ≤ r ∧ r ≤ 1000) ∧ Sat g w' l) := by
  refine Fc.of Tryz.func109 rfl (by kernel_rfl) ?_
  refine cI (fun c1 => ?_) (fun c1 => ?_)
  · replace c1 := vEq_t (c1)
    refine Done.mk ?_
    refine ⟨32, ?_⟩
    refine ⟨?_, ?_⟩
    · refine int_eq ?_
      omega
    refine ⟨?_, ?_⟩
    · refine ⟨?_, ?_⟩
      · omega
      omega
    exact H
  replace c1 := vEq_f (c1)
  refine eqNegU32 (by omega) ?_
  (refine eqAndU32 ((n).toNat) (((4294967296 - n) % 4294967296).toNat) (by omega) (by omega) (by omega) (by omega) ?_; intro hA1 hA2)
  refine eqWrapMU32 ?_
  refine ShiftP.mk (by decide) ?_
  refine eqShrL 27 134217728 rfl rfl (by decide) ?_
  generalize hK : ((n.toNat &&& ((4294967296 - n) % 4294967296).toNat : Nat) : Int) * 125613361 % 4294967296 / 134217728 = K
  have hK1 : 0 ≤ K ∧ K < 32 := by omega
  clear hK hA1 hA2
  obtain ⟨k, rfl⟩ := Int.eq_ofNat_of_zero_le hK1.1
  obtain ⟨t, ht, ht1⟩ := tab32_ex k (by omega)
  have hF := fat_at hT ht
  refine rIxArr 1 (k) (by omega) (by omega) rfl rfl ?_
  refine rLd (H.fat hF) 0 rfl rfl rfl ?_
  refine rConvI64 (by omega) rfl rfl ?_
  refine Done.mk ?_
  refine ⟨t, ?_⟩
  refine ⟨?_, ?_⟩
  · refine int_eq ?_
    omega
  refine ⟨?_, ?_⟩
  · refine ⟨?_, ?_⟩
    · omega
    omega
  exact H
theorem tz64 (H : Sat g w l) (hT : FAt g 1 0 (tabV tab64)) (n : Int) (hn : 0 ≤ n ∧ n ≤ 18446744073709551615) : Fc Tryz.prog 112 #[.int .u64 n] w (fun v w' => ∃ r, v = .int .i64 r ∧ (-1000 ≤ r ∧ r ≤ 1000) ∧ Sat g w' l) := by
  refine Fc.of Tryz.func112 rfl (by kernel_rfl) ?_
  refine cI (fun c1 => ?_) (fun c1 => ?_)
  · replace c1 := vEq_t (c1)
    refine Done.mk ?_
    refine ⟨64, ?_⟩
    refine ⟨?_, ?_⟩
    · refine int_eq ?_
      omega
    refine ⟨?_, ?_⟩
    · refine ⟨?_, ?_⟩
      · omega
      omega
    exact H
  replace c1 := vEq_f (c1)
  refine eqNegU64 (by omega) ?_
  (refine eqAndU64 ((n).toNat) (((18446744073709551616 - n) % 18446744073709551616).toNat) (by omega) (by omega) (by omega) (by omega) ?_; intro hA1 hA2)
  refine eqWrapMU64 ?_
  refine ShiftP.mk (by decide) ?_
  refine eqShrL 58 288230376151711744 rfl rfl (by decide) ?_
  generalize hK : ((n.toNat &&& ((18446744073709551616 - n) % 18446744073709551616).toNat : Nat) : Int) * 285870213051353865 % 18446744073709551616 / 288230376151711744 = K
  have hK1 : 0 ≤ K ∧ K < 64 := by omega
  clear hK hA1 hA2
  obtain ⟨k, rfl⟩ := Int.eq_ofNat_of_zero_le hK1.1
  obtain ⟨t, ht, ht1⟩ := tab64_ex k (by omega)
  have hF := fat_at hT ht
  refine rIxArr 1 (k) (by omega) (by omega) rfl rfl ?_
  refine rLd (H.fat hF) 0 rfl rfl rfl ?_
  refine rConvI64 (by omega) rfl rfl ?_
  refine Done.mk ?_
  refine ⟨t, ?_⟩
  refine ⟨?_, ?_⟩
  · refine int_eq ?_
    omega
  refine ⟨?_, ?_⟩
  · refine ⟨?_, ?_⟩
    · omega
    omega
  exact H
end
end Go.Proofs.YtndhikahjmgamaaGreatDoor.Fold
/- Package math/bits: OnesCount. -/
set_option maxRecDepth 100000
set_option maxHeartbeats 4000000
set_option linter.unusedVariables false
set_option linter.unusedSimpArgs false
namespace Go.Proofs.YtndhikahjmgamaaGreatDoor.Fold
open Go Go.Proofs.YtndhikahjmgamaaGreatDoor.Eng Go.RowKit
open Go.Proofs.YtndhikahjmgamaaGreatDoor.Bm
section
variable {g : Glob} {w : World} {l : List As}
theorem oc32 (H : Sat g w l) (n : Int) (hn : 0 ≤ n ∧ n ≤ 4294967295) : Fc Tryz.prog 110 #[.int .u32 n] w (fun v w' => ∃ r, v = .int .i64 r ∧ (-1000 ≤ r ∧ r ≤ 1000) ∧ Sat g w' l) := by
  refine Fc.of Tryz.func110 rfl (by kernel_rfl) ?_
  refine drawzS H [] [(0, .pure), (1, .pure), (2, .pure), (3, .pure), (4, .pure), (5, .pure), (6, .pure), (7, .pure), (8, .pure), (9, .pure), (10, .pure), (11, .pure), (12, .pure), (13, .pure), (14, .pure), (15, .pure), (16, .pure), (17, .pure), (18, .pure)] mixed (by kernel_rfl) (by kernel_rfl) ?_
  clear H
  intro w1 H
  refine ShiftP.mk (by decide) ?_
  refine eqShrL 24 16777216 rfl rfl (by decide) ?_
  refine tk (fun wx HS => rIdxStr rfl (n / 16777216).toNat (by (simp; omega)) (by (simp; omega)) ⟨rfl, rfl⟩) ?_
  refine ShiftP.mk (by decide) ?_
  refine eqShrL 16 65536 rfl rfl (by decide) ?_
  refine eqAndMask 8 256 rfl rfl (by decide) ?_
  refine tk (fun wx HS => rIdxStr rfl (n / 65536 % 256).toNat (by (simp; omega)) (by (simp; omega)) ⟨rfl, rfl⟩) ?_
  refine eqWrapMU8 ?_
  refine ShiftP.mk (by decide) ?_
  refine eqShrL 8 256 rfl rfl (by decide) ?_
  refine eqAndMask 8 256 rfl rfl (by decide) ?_
  refine tk (fun wx HS => rIdxStr rfl (n / 256 % 256).toNat (by (simp; omega)) (by (simp; omega)) ⟨rfl, rfl⟩) ?_
  refine eqWrapMU8 ?_
  refine eqAndMask 8 256 rfl rfl (by decide) ?_
  refine tk (fun wx HS => rIdxStr rfl (n % 256).toNat (by (simp; omega)) (by (simp; omega)) ⟨rfl, rfl⟩) ?_
  refine eqWrapMU8 ?_
  refine tk (fun wx HS => rConvI64 (by omega) rfl rfl ⟨rfl, rfl⟩) ?_
  refine Done.mk ?_
  exact ⟨_, rfl, by omega, H⟩
theorem oc64 (H : Sat g w l) (n : Int) (hn : 0 ≤ n ∧ n ≤ 18446744073709551615) : Fc Tryz.prog 113 #[.int .u64 n] w (fun v w' => ∃ r, v = .int .i64 r ∧ (-1000 ≤ r ∧ r ≤ 1000) ∧ Sat g w' l) := by
  refine Fc.of Tryz.func113 rfl (by kernel_rfl) ?_
  refine ShiftP.mk (by decide) ?_
  refine eqShrL 1 2 rfl rfl (by decide) ?_
  (refine eqAndU64 ((n / 2).toNat) (6148914691236517205) (by omega) (by omega) (by omega) (by omega) ?_; intro hA1 hA2)
  (refine eqAndU64 ((n).toNat) (6148914691236517205) (by omega) (by omega) (by omega) (by omega) ?_; intro hA1 hA2)
  refine eqU64 (by omega) ?_
  refine ShiftP.mk (by decide) ?_
  refine eqShrL 2 4 rfl rfl (by decide) ?_
  (refine eqAndU64 (((((n / 2).toNat &&& 6148914691236517205) + (n.toNat &&& 6148914691236517205)) / 4)) (3689348814741910323) (by omega) (by omega) (by omega) (by omega) ?_; intro hA1 hA2)
  (refine eqAndU64 ((((n / 2).toNat &&& 6148914691236517205) + (n.toNat &&& 6148914691236517205))) (3689348814741910323) (by omega) (by omega) (by omega) (by omega) ?_; intro hA1 hA2)
  refine eqU64 (by omega) ?_
  refine ShiftP.mk (by decide) ?_
  refine eqShrL 4 16 rfl rfl (by decide) ?_
  refine eqU64 (by omega) ?_
  (refine eqAndU64 ((((((((n / 2).toNat &&& 6148914691236517205) + (n.toNat &&& 6148914691236517205)) / 4 &&& 3689348814741910323) + (((n / 2).toNat &&& 6148914691236517205) + (n.toNat &&& 6148914691236517205) &&& 3689348814741910323)) / 16) + (((((n / 2).toNat &&& 6148914691236517205) + (n.toNat &&& 6148914691236517205)) / 4 &&& 3689348814741910323) + (((n / 2).toNat &&& 6148914691236517205) + (n.toNat &&& 6148914691236517205) &&& 3689348814741910323)))) (1085102592571150095) (by omega) (by omega) (by omega) (by omega) ?_; intro hA1 hA2)
  refine ShiftP.mk (by decide) ?_
  refine eqShrL 8 256 rfl rfl (by decide) ?_
  refine eqU64 (by omega) ?_
  refine ShiftP.mk (by decide) ?_
  refine eqShrL 16 65536 rfl rfl (by decide) ?_
  refine eqU64 (by omega) ?_
  refine ShiftP.mk (by decide) ?_
  refine eqShrL 32 4294967296 rfl rfl (by decide) ?_
  refine eqU64 (by omega) ?_
  refine rConvI64 (by omega) rfl rfl ?_
  refine eqAndMask 7 128 rfl rfl (by decide) ?_
  refine Done.mk ?_
  refine ⟨((↑((((((n / 2).toNat &&& 6148914691236517205) + (n.toNat &&& 6148914691236517205)) / 4 &&& 3689348814741910323) + (((n / 2).toNat &&& 6148914691236517205) + (n.toNat &&& 6148914691236517205) &&& 3689348814741910323)) / 16 + (((((n / 2).toNat &&& 6148914691236517205) + (n.toNat &&& 6148914691236517205)) / 4 &&& 3689348814741910323) + (((n / 2).toNat &&& 6148914691236517205) + (n.toNat &&& 6148914691236517205) &&& 3689348814741910323)) &&& 1085102592571150095) : Int) + (↑((((((n / 2).toNat &&& 6148914691236517205) + (n.toNat &&& 6148914691236517205)) / 4 &&& 3689348814741910323) + (((n / 2).toNat &&& 6148914691236517205) + (n.toNat &&& 6148914691236517205) &&& 3689348814741910323)) / 16 + (((((n / 2).toNat &&& 6148914691236517205) + (n.toNat &&& 6148914691236517205)) / 4 &&& 3689348814741910323) + (((n / 2).toNat &&& 6148914691236517205) + (n.toNat &&& 6148914691236517205) &&& 3689348814741910323)) &&& 1085102592571150095) : Int) / 256 + ((↑((((((n / 2).toNat &&& 6148914691236517205) + (n.toNat &&& 6148914691236517205)) / 4 &&& 3689348814741910323) + (((n / 2).toNat &&& 6148914691236517205) + (n.toNat &&& 6148914691236517205) &&& 3689348814741910323)) / 16 + (((((n / 2).toNat &&& 6148914691236517205) + (n.toNat &&& 6148914691236517205)) / 4 &&& 3689348814741910323) + (((n / 2).toNat &&& 6148914691236517205) + (n.toNat &&& 6148914691236517205) &&& 3689348814741910323)) &&& 1085102592571150095) : Int) + (↑((((((n / 2).toNat &&& 6148914691236517205) + (n.toNat &&& 6148914691236517205)) / 4 &&& 3689348814741910323) + (((n / 2).toNat &&& 6148914691236517205) + (n.toNat &&& 6148914691236517205) &&& 3689348814741910323)) / 16 + (((((n / 2).toNat &&& 6148914691236517205) + (n.toNat &&& 6148914691236517205)) / 4 &&& 3689348814741910323) + (((n / 2).toNat &&& 6148914691236517205) + (n.toNat &&& 6148914691236517205) &&& 3689348814741910323)) &&& 1085102592571150095) : Int) / 256) / 65536 + ((↑((((((n / 2).toNat &&& 6148914691236517205) + (n.toNat &&& 6148914691236517205)) / 4 &&& 3689348814741910323) + (((n / 2).toNat &&& 6148914691236517205) + (n.toNat &&& 6148914691236517205) &&& 3689348814741910323)) / 16 + (((((n / 2).toNat &&& 6148914691236517205) + (n.toNat &&& 6148914691236517205)) / 4 &&& 3689348814741910323) + (((n / 2).toNat &&& 6148914691236517205) + (n.toNat &&& 6148914691236517205) &&& 3689348814741910323)) &&& 1085102592571150095) : Int) + (↑((((((n / 2).toNat &&& 6148914691236517205) + (n.toNat &&& 6148914691236517205)) / 4 &&& 3689348814741910323) + (((n / 2).toNat &&& 6148914691236517205) + (n.toNat &&& 6148914691236517205) &&& 3689348814741910323)) / 16 + (((((n / 2).toNat &&& 6148914691236517205) + (n.toNat &&& 6148914691236517205)) / 4 &&& 3689348814741910323) + (((n / 2).toNat &&& 6148914691236517205) + (n.toNat &&& 6148914691236517205) &&& 3689348814741910323)) &&& 1085102592571150095) : Int) / 256 + ((↑((((((n / 2).toNat &&& 6148914691236517205) + (n.toNat &&& 6148914691236517205)) / 4 &&& 3689348814741910323) + (((n / 2).toNat &&& 6148914691236517205) + (n.toNat &&& 6148914691236517205) &&& 3689348814741910323)) / 16 + (((((n / 2).toNat &&& 6148914691236517205) + (n.toNat &&& 6148914691236517205)) / 4 &&& 3689348814741910323) + (((n / 2).toNat &&& 6148914691236517205) + (n.toNat &&& 6148914691236517205) &&& 3689348814741910323)) &&& 1085102592571150095) : Int) + (↑((((((n / 2).toNat &&& 6148914691236517205) + (n.toNat &&& 6148914691236517205)) / 4 &&& 3689348814741910323) + (((n / 2).toNat &&& 6148914691236517205) + (n.toNat &&& 6148914691236517205) &&& 3689348814741910323)) / 16 + (((((n / 2).toNat &&& 6148914691236517205) + (n.toNat &&& 6148914691236517205)) / 4 &&& 3689348814741910323) + (((n / 2).toNat &&& 6148914691236517205) + (n.toNat &&& 6148914691236517205) &&& 3689348814741910323)) &&& 1085102592571150095) : Int) / 256) / 65536) / 4294967296) % 128, ?_⟩
  refine ⟨?_, ?_⟩
  · refine int_eq ?_
    omega
  refine ⟨?_, ?_⟩
  · refine ⟨?_, ?_⟩
    · omega
    omega
  exact H
end
end Go.Proofs.YtndhikahjmgamaaGreatDoor.Fold
/- Package num: One: its fault, and how far its number goes. -/
set_option maxRecDepth 100000
set_option maxHeartbeats 4000000
set_option linter.unusedVariables false
set_option linter.unusedSimpArgs false
namespace Go.Proofs.YtndhikahjmgamaaGreatDoor.Fold
open Go Go.Proofs.YtndhikahjmgamaaGreatDoor.Eng Go.RowKit
open Num
open Go.Proofs.YtndhikahjmgamaaGreatDoor.Bm (tabV tab32 tab64)
structure BmF (g : Glob) : Prop where
  t32 : FAt g 0 0 (tabV tab32)
  t64 : FAt g 1 0 (tabV tab64)
theorem BmF.ext {g g' : Glob} (h : BmF g) (E : Ext g g') : BmF g' := ⟨FAt.ext h.t32 E, FAt.ext h.t64 E⟩
instance (o : Int) : Decidable (oneOk o) := by unfold oneOk; infer_instance
structure OneR (op r e : Int) : Prop where
  e : e = if oneOk op then 0 else 6
  rng : I64 r
  r32 : op = 69 ∨ op = 80 ∨ (103 ≤ op ∧ op ≤ 105) ∨ op = 167 ∨ op = 192 ∨ op = 193 → -2147483648 ≤ r ∧ r ≤ 2147483647
theorem one1 {op r : Int} (h : oneOk op) (hr : -2147483648 ≤ r ∧ r ≤ 2147483647) : OneR op r 0 := ⟨(if_pos h).symm, ⟨by omega, by omega⟩, fun _ => hr⟩
theorem one2 {op r : Int} (h : oneOk op) (hr : I64 r) (h2 : ¬ (op = 69 ∨ op = 80 ∨ (103 ≤ op ∧ op ≤ 105) ∨ op = 167 ∨ op = 192 ∨ op = 193)) : OneR op r 0 := ⟨(if_pos h).symm, hr, fun h => absurd h h2⟩
theorem one3 {op : Int} (h : ¬ oneOk op) : OneR op 0 6 := ⟨(if_neg h).symm, ⟨by omega, by omega⟩, fun _ => ⟨by omega, by omega⟩⟩
theorem wrap8 (a : Int) : -128 ≤ vWrap .i8 a ∧ vWrap .i8 a ≤ 127 := vWrap_range .i8 a
theorem wrap16 (a : Int) : -32768 ≤ vWrap .i16 a ∧ vWrap .i16 a ≤ 32767 := vWrap_range .i16 a
theorem in8 (a : Int) : -2147483648 ≤ vWrap .i64 (vWrap .i8 a) ∧ vWrap .i64 (vWrap .i8 a) ≤ 2147483647 := by
  have := wrap8 a; rw [wi64 (by omega)]; omega
theorem in16 (a : Int) : -2147483648 ≤ vWrap .i64 (vWrap .i16 a) ∧ vWrap .i64 (vWrap .i16 a) ≤ 2147483647 := by
  have := wrap16 a; rw [wi64 (by omega)]; omega
theorem in32 (a : Int) : -2147483648 ≤ vWrap .i64 (vWrap .i32 a) ∧ vWrap .i64 (vWrap .i32 a) ≤ 2147483647 := by
  have := Num.wrap32 a; rw [wi64 (by omega)]; exact this
theorem modu32 (a : Int) : 0 ≤ a % 4294967296 ∧ a % 4294967296 ≤ 4294967295 := by omega
theorem modu64 (a : Int) : 0 ≤ a % 18446744073709551616 ∧ a % 18446744073709551616 ≤ 18446744073709551615 := by omega
section
variable {g : Glob} {w : World} {l : List As}
theorem OneX (H : Sat g w l) (hT : BmF g) (op a : Int) (hop : 0 ≤ op ∧ op ≤ 255) (ha : I64 a) : Fc Tryz.prog 69 #[.int .u8 op, .int .i64 a] w (fun v w' => ∃ r e, v = .tuple #[.int .i64 r, .int .i64 e] ∧ OneR op r e ∧ Sat g w' l) := by
  have hT32 := hT.t32
  have hT64 := hT.t64
  refine Fc.of Tryz.func69 rfl (by kernel_rfl) ?_
  refine bk ?_
  refine cI (fun c1 => ?_) (fun c1 => ?_)
  · replace c1 := vEq_t (c1)
    refine rConvInt rfl rfl ?_
    refine CallP.mk (Fc.imp (Go.Proofs.YtndhikahjmgamaaGreatDoor.Num.truthX H _) ?_)
    clear H
    rintro _ w1 ⟨r1, ⟨rfl, ⟨h1, H⟩⟩⟩
    refine Done.mk ?_
    refine ⟨r1, 0, ?_⟩
    refine ⟨?_, ?_⟩
    · rfl
    refine ⟨?_, ?_⟩
    · (subst_vars; exact one1 (by unfold oneOk; omega) (by have h := b2i_01; constructor <;> (first | exact Int.le_trans (by decide) (h _).1 | exact Int.le_trans (h _).2 (by decide))))
    exact H
  replace c1 := vEq_f (c1)
  refine cI (fun c2 => ?_) (fun c2 => ?_)
  · replace c2 := vEq_t (c2)
    refine CallP.mk (Fc.imp (Go.Proofs.YtndhikahjmgamaaGreatDoor.Num.truthX H _) ?_)
    clear H
    rintro _ w1 ⟨r1, ⟨rfl, ⟨h1, H⟩⟩⟩
    refine Done.mk ?_
    refine ⟨r1, 0, ?_⟩
    refine ⟨?_, ?_⟩
    · rfl
    refine ⟨?_, ?_⟩
    · (subst_vars; exact one1 (by unfold oneOk; omega) (by have h := b2i_01; constructor <;> (first | exact Int.le_trans (by decide) (h _).1 | exact Int.le_trans (h _).2 (by decide))))
    exact H
  replace c2 := vEq_f (c2)
  refine cI (fun c3 => ?_) (fun c3 => ?_)
  · replace c3 := vEq_t (c3)
    refine rConvU32M rfl rfl ?_
    refine CallP.mk (Fc.imp (Go.Proofs.YtndhikahjmgamaaGreatDoor.Fold.lz32 H _ ?_) ?_)
    · exact modu32 _
    clear H
    rintro _ w1 ⟨r1, ⟨rfl, ⟨⟨h1, h2⟩, H⟩⟩⟩
    refine Done.mk ?_
    refine ⟨r1, 0, ?_⟩
    refine ⟨?_, ?_⟩
    · rfl
    refine ⟨?_, ?_⟩
    · exact one1 (by unfold oneOk; omega) (by have := b2i_01; omega)
    exact H
  replace c3 := vEq_f (c3)
  refine cI (fun c4 => ?_) (fun c4 => ?_)
  · replace c4 := vEq_t (c4)
    refine rConvU32M rfl rfl ?_
    refine CallP.mk (Fc.imp (Go.Proofs.YtndhikahjmgamaaGreatDoor.Fold.tz32 H ?_ _ ?_) ?_)
    · assumption
    · exact modu32 _
    clear H
    rintro _ w1 ⟨r1, ⟨rfl, ⟨⟨h1, h2⟩, H⟩⟩⟩
    refine Done.mk ?_
    refine ⟨r1, 0, ?_⟩
    refine ⟨?_, ?_⟩
    · rfl
    refine ⟨?_, ?_⟩
    · exact one1 (by unfold oneOk; omega) (by have := b2i_01; omega)
    exact H
  replace c4 := vEq_f (c4)
  refine cI (fun c5 => ?_) (fun c5 => ?_)
  · replace c5 := vEq_t (c5)
    refine rConvU32M rfl rfl ?_
    refine CallP.mk (Fc.imp (Go.Proofs.YtndhikahjmgamaaGreatDoor.Fold.oc32 H _ ?_) ?_)
    · exact modu32 _
    clear H
    rintro _ w1 ⟨r1, ⟨rfl, ⟨⟨h1, h2⟩, H⟩⟩⟩
    refine Done.mk ?_
    refine ⟨r1, 0, ?_⟩
    refine ⟨?_, ?_⟩
    · rfl
    refine ⟨?_, ?_⟩
    · exact one1 (by unfold oneOk; omega) (by have := b2i_01; omega)
    exact H
  replace c5 := vEq_f (c5)
  refine cI (fun c6 => ?_) (fun c6 => ?_)
  · replace c6 := vEq_t (c6)
    refine rConvU64M rfl rfl ?_
    refine CallP.mk (Fc.imp (Go.Proofs.YtndhikahjmgamaaGreatDoor.Fold.lz64 H _ ?_) ?_)
    · exact modu64 _
    clear H
    rintro _ w1 ⟨r1, ⟨rfl, ⟨⟨h1, h2⟩, H⟩⟩⟩
    refine Done.mk ?_
    refine ⟨r1, 0, ?_⟩
    refine ⟨?_, ?_⟩
    · rfl
    refine ⟨?_, ?_⟩
    · exact one1 (by unfold oneOk; omega) (by have := b2i_01; omega)
    exact H
  replace c6 := vEq_f (c6)
  refine cI (fun c7 => ?_) (fun c7 => ?_)
  · replace c7 := vEq_t (c7)
    refine rConvU64M rfl rfl ?_
    refine CallP.mk (Fc.imp (Go.Proofs.YtndhikahjmgamaaGreatDoor.Fold.tz64 H ?_ _ ?_) ?_)
    · assumption
    · exact modu64 _
    clear H
    rintro _ w1 ⟨r1, ⟨rfl, ⟨⟨h1, h2⟩, H⟩⟩⟩
    refine Done.mk ?_
    refine ⟨r1, 0, ?_⟩
    refine ⟨?_, ?_⟩
    · rfl
    refine ⟨?_, ?_⟩
    · exact one1 (by unfold oneOk; omega) (by have := b2i_01; omega)
    exact H
  replace c7 := vEq_f (c7)
  refine cI (fun c8 => ?_) (fun c8 => ?_)
  · replace c8 := vEq_t (c8)
    refine rConvU64M rfl rfl ?_
    refine CallP.mk (Fc.imp (Go.Proofs.YtndhikahjmgamaaGreatDoor.Fold.oc64 H _ ?_) ?_)
    · exact modu64 _
    clear H
    rintro _ w1 ⟨r1, ⟨rfl, ⟨⟨h1, h2⟩, H⟩⟩⟩
    refine Done.mk ?_
    refine ⟨r1, 0, ?_⟩
    refine ⟨?_, ?_⟩
    · rfl
    refine ⟨?_, ?_⟩
    · exact one1 (by unfold oneOk; omega) (by have := b2i_01; omega)
    exact H
  replace c8 := vEq_f (c8)
  refine cI (fun c9 => ?_) (fun c9 => ?_)
  · replace c9 := vEq_t (c9)
    refine cT (vEq_T (by assumption)) ?_
    refine rConvInt rfl rfl ?_
    refine rConvInt rfl rfl ?_
    refine Done.mk ?_
    refine ⟨vWrap IntKind.i64 (vWrap IntKind.i8 a), 0, ?_⟩
    refine ⟨?_, ?_⟩
    · rfl
    refine ⟨?_, ?_⟩
    · exact one1 (by unfold oneOk; omega) (in8 _)
    exact H
  replace c9 := vEq_f (c9)
  refine cI (fun c10 => ?_) (fun c10 => ?_)
  · replace c10 := vEq_t (c10)
    refine rConvInt rfl rfl ?_
    refine rConvInt rfl rfl ?_
    refine Done.mk ?_
    refine ⟨vWrap IntKind.i64 (vWrap IntKind.i8 a), 0, ?_⟩
    refine ⟨?_, ?_⟩
    · rfl
    refine ⟨?_, ?_⟩
    · exact one1 (by unfold oneOk; omega) (in8 _)
    exact H
  replace c10 := vEq_f (c10)
  refine cI (fun c11 => ?_) (fun c11 => ?_)
  · replace c11 := vEq_t (c11)
    refine cT (vEq_T (by assumption)) ?_
    refine rConvInt rfl rfl ?_
    refine rConvInt rfl rfl ?_
    refine Done.mk ?_
    refine ⟨vWrap IntKind.i64 (vWrap IntKind.i16 a), 0, ?_⟩
    refine ⟨?_, ?_⟩
    · rfl
    refine ⟨?_, ?_⟩
    · exact one1 (by unfold oneOk; omega) (in16 _)
    exact H
  replace c11 := vEq_f (c11)
  refine cI (fun c12 => ?_) (fun c12 => ?_)
  · replace c12 := vEq_t (c12)
    refine rConvInt rfl rfl ?_
    refine rConvInt rfl rfl ?_
    refine Done.mk ?_
    refine ⟨vWrap IntKind.i64 (vWrap IntKind.i16 a), 0, ?_⟩
    refine ⟨?_, ?_⟩
    · rfl
    refine ⟨?_, ?_⟩
    · exact one1 (by unfold oneOk; omega) (in16 _)
    exact H
  replace c12 := vEq_f (c12)
  refine cI (fun c13 => ?_) (fun c13 => ?_)
  · replace c13 := vEq_t (c13)
    refine cT (vEq_T (by assumption)) ?_
    refine rConvInt rfl rfl ?_
    refine rConvInt rfl rfl ?_
    refine Done.mk ?_
    refine ⟨vWrap IntKind.i64 (vWrap IntKind.i32 a), 0, ?_⟩
    refine ⟨?_, ?_⟩
    · rfl
    refine ⟨?_, ?_⟩
    · exact one1 (by unfold oneOk; omega) (in32 _)
    exact H
  replace c13 := vEq_f (c13)
  refine cI (fun c14 => ?_) (fun c14 => ?_)
  · replace c14 := vEq_t (c14)
    refine cT (vEq_T (by assumption)) ?_
    refine rConvInt rfl rfl ?_
    refine rConvInt rfl rfl ?_
    refine Done.mk ?_
    refine ⟨vWrap IntKind.i64 (vWrap IntKind.i32 a), 0, ?_⟩
    refine ⟨?_, ?_⟩
    · rfl
    refine ⟨?_, ?_⟩
    · exact one1 (by unfold oneOk; omega) (in32 _)
    exact H
  replace c14 := vEq_f (c14)
  refine cI (fun c15 => ?_) (fun c15 => ?_)
  · replace c15 := vEq_t (c15)
    refine rConvInt rfl rfl ?_
    refine rConvInt rfl rfl ?_
    refine Done.mk ?_
    refine ⟨vWrap IntKind.i64 (vWrap IntKind.i32 a), 0, ?_⟩
    refine ⟨?_, ?_⟩
    · rfl
    refine ⟨?_, ?_⟩
    · exact one1 (by unfold oneOk; omega) (in32 _)
    exact H
  replace c15 := vEq_f (c15)
  refine cI (fun c16 => ?_) (fun c16 => ?_)
  · replace c16 := vEq_t (c16)
    refine rConvU32M rfl rfl ?_
    refine rConvI64 (by omega) rfl rfl ?_
    refine Done.mk ?_
    refine ⟨a % 4294967296, 0, ?_⟩
    refine ⟨?_, ?_⟩
    · rfl
    refine ⟨?_, ?_⟩
    · exact one2 (by unfold oneOk; omega) ⟨by omega, by omega⟩ (by omega)
    exact H
  replace c16 := vEq_f (c16)
  refine Done.mk ?_
  refine ⟨0, 6, ?_⟩
  refine ⟨?_, ?_⟩
  · rfl
  refine ⟨?_, ?_⟩
  · exact one3 (by unfold oneOk; omega)
  exact H
end
end Go.Proofs.YtndhikahjmgamaaGreatDoor.Fold
/- Package ins: Plain. -/
set_option maxRecDepth 100000
set_option maxHeartbeats 4000000
set_option linter.unusedVariables false
set_option linter.unusedSimpArgs false
namespace Go.Proofs.YtndhikahjmgamaaGreatDoor.Valid
open Go Go.Proofs.YtndhikahjmgamaaGreatDoor.Eng Go.RowKit
open Ins Nest Leb Bin
theorem kindAtP (o : Int) (w : World) : Fc Tryz.prog 114 #[.int .u8 o] w (fun v w' => (∃ r, v = .int .u8 r ∧ r = kindAt o) ∧ w = w') := by
  refine Fc.of Tryz.func114 rfl (by kernel_rfl) ?_
  have H := Sat.start w
  refine bk ?_
  refine cI (fun c1 => ?_) (fun c1 => ?_)
  · replace c1 := vEq_t (c1)
    refine cT (vEq_T (by assumption)) ?_
    refine Done.mk ?_
    refine ⟨?_, ?_⟩
    · refine ⟨127, ?_⟩
      refine ⟨?_, ?_⟩
      · refine int_eq ?_
        omega
      exact (if_pos (by omega)).symm
    rfl
  replace c1 := vEq_f (c1)
  refine cI (fun c2 => ?_) (fun c2 => ?_)
  · replace c2 := vEq_t (c2)
    refine cT (vEq_T (by assumption)) ?_
    refine Done.mk ?_
    refine ⟨?_, ?_⟩
    · refine ⟨127, ?_⟩
      refine ⟨?_, ?_⟩
      · refine int_eq ?_
        omega
      exact (if_pos (by omega)).symm
    rfl
  replace c2 := vEq_f (c2)
  refine cI (fun c3 => ?_) (fun c3 => ?_)
  · replace c3 := vEq_t (c3)
    refine cT (vEq_T (by assumption)) ?_
    refine Done.mk ?_
    refine ⟨?_, ?_⟩
    · refine ⟨127, ?_⟩
      refine ⟨?_, ?_⟩
      · refine int_eq ?_
        omega
      exact (if_pos (by omega)).symm
    rfl
  replace c3 := vEq_f (c3)
  refine cI (fun c4 => ?_) (fun c4 => ?_)
  · replace c4 := vEq_t (c4)
    refine cT (vEq_T (by assumption)) ?_
    refine Done.mk ?_
    refine ⟨?_, ?_⟩
    · refine ⟨127, ?_⟩
      refine ⟨?_, ?_⟩
      · refine int_eq ?_
        omega
      exact (if_pos (by omega)).symm
    rfl
  replace c4 := vEq_f (c4)
  refine cI (fun c5 => ?_) (fun c5 => ?_)
  · replace c5 := vEq_t (c5)
    refine cT (vEq_T (by assumption)) ?_
    refine Done.mk ?_
    refine ⟨?_, ?_⟩
    · refine ⟨127, ?_⟩
      refine ⟨?_, ?_⟩
      · refine int_eq ?_
        omega
      exact (if_pos (by omega)).symm
    rfl
  replace c5 := vEq_f (c5)
  refine cI (fun c6 => ?_) (fun c6 => ?_)
  · replace c6 := vEq_t (c6)
    refine cT (vEq_T (by assumption)) ?_
    refine Done.mk ?_
    refine ⟨?_, ?_⟩
    · refine ⟨127, ?_⟩
      refine ⟨?_, ?_⟩
      · refine int_eq ?_
        omega
      exact (if_pos (by omega)).symm
    rfl
  replace c6 := vEq_f (c6)
  refine cI (fun c7 => ?_) (fun c7 => ?_)
  · replace c7 := vEq_t (c7)
    refine cT (vEq_T (by assumption)) ?_
    refine Done.mk ?_
    refine ⟨?_, ?_⟩
    · refine ⟨127, ?_⟩
      refine ⟨?_, ?_⟩
      · refine int_eq ?_
        omega
      exact (if_pos (by omega)).symm
    rfl
  replace c7 := vEq_f (c7)
  refine cI (fun c8 => ?_) (fun c8 => ?_)
  · replace c8 := vEq_t (c8)
    refine Done.mk ?_
    refine ⟨?_, ?_⟩
    · refine ⟨127, ?_⟩
      refine ⟨?_, ?_⟩
      · refine int_eq ?_
        omega
      exact (if_pos (by omega)).symm
    rfl
  replace c8 := vEq_f (c8)
  refine Done.mk ?_
  refine ⟨?_, ?_⟩
  · refine ⟨126, ?_⟩
    refine ⟨?_, ?_⟩
    · refine int_eq ?_
      omega
    exact (if_neg (by omega)).symm
  rfl
section
variable {o k : Int} {xs : List Int} {b : Bool}
theorem plnAP (h : numS o = (xs, k, b)) (hb : b = true) : plnS o = (xs, [k], true) := by
  unfold plnS; rw [h]; exact if_pos hb
theorem plnNP (h : numS o = (xs, k, b)) (hb : b = false) : plnS o = if 0 < wid o ∧ o < 54 then ([127], [kindAt o], true) else if 0 < wid o then ([127, kindAt o], [], true) else if o = 63 then ([], [127], true) else if o = 64 then ([127], [127], true) else if o = 65 then ([], [127], true) else if o = 66 then ([], [126], true) else ([], [], false) := by
  unfold plnS; rw [h]; exact if_neg (by simp [hb])
end
theorem plainP (o : Int) (w : World) : Fc Tryz.prog 70 #[.int .u8 o] w (fun v w' => ∃ u y xs ys q, v = .tuple #[u, y, .bool q] ∧ plnS o = (xs, ys, q) ∧ Sat (froz w) w' [Sl 98 1 enK y ys, Sl 98 1 enK u xs]) := by
  refine Fc.of Tryz.func70 rfl (by kernel_rfl) ?_
  have H := Sat.start w
  refine CallP.mk (Fc.imp (Go.Proofs.YtndhikahjmgamaaGreatDoor.Ins.numeric _ _) ?_)
  rintro _ w1 ⟨u1, ⟨k1, ⟨b1, ⟨xs1, ⟨rfl, ⟨h1, H'⟩⟩⟩⟩⟩⟩
  refine H.mergeK H' ?_
  clear H H'
  intro H
  refine cI (fun c1 => ?_) (fun c1 => ?_)
  · refine rBuildSliceS H rfl rfl rfl rfl ?_
    clear H
    intro p1 w2 H
    clear w1
    refine Done.mk ?_
    (refine H.ptSl (n := 1) (en := enK) (s := 1) 0 rfl [_] rfl rfl (fun _ => rfl) rfl ?_; intro H; exact ⟨_, _, _, _, _, rfl, plnAP h1 (by assumption), H⟩)
  refine bk ?_
  refine CallP.mk (Fc.imp (Go.Proofs.YtndhikahjmgamaaGreatDoor.Ins.width _ _) ?_)
  rintro _ _ ⟨⟨r1, ⟨rfl, h2⟩⟩, rfl⟩
  refine br (fun c2 => ?_) (fun c2 => ?_)
  · replace c2 := vLt_t (c2)
    refine cI (fun c3 => ?_) (fun c3 => ?_)
    · replace c3 := vLt_t (c3)
      refine rBuildSliceS H rfl rfl rfl rfl ?_
      clear H
      intro p1 w2 H
      clear w1
      refine CallP.mk (Fc.imp (Go.Proofs.YtndhikahjmgamaaGreatDoor.Valid.kindAtP _ _) ?_)
      rintro _ _ ⟨⟨r2, ⟨rfl, h3⟩⟩, rfl⟩
      refine rBuildSliceS H rfl rfl rfl rfl ?_
      clear H
      intro p2 w1 H
      clear w2
      refine Done.mk ?_
      (refine H.ptSl (n := 1) (en := enK) (s := 1) 0 rfl [_] rfl rfl (fun _ => rfl) rfl ?_; intro H; refine H.ptSl (n := 1) (en := enK) (s := 1) 1 rfl [_] rfl rfl (fun _ => rfl) rfl ?_; intro H; exact ⟨_, _, _, _, _, rfl, (plnNP h1 (by assumption)).trans (by repeat first | rw [if_pos (by omega)] | rw [if_neg (by omega)] | (subst_vars; rfl)), H.del 2⟩)
    replace c3 := vLt_f (c3)
    refine CallP.mk (Fc.imp (Go.Proofs.YtndhikahjmgamaaGreatDoor.Ins.width _ _) ?_)
    rintro _ _ ⟨⟨r2, ⟨rfl, h3⟩⟩, rfl⟩
    refine cT (vLt_T (by omega)) ?_
    refine CallP.mk (Fc.imp (Go.Proofs.YtndhikahjmgamaaGreatDoor.Valid.kindAtP _ _) ?_)
    rintro _ _ ⟨⟨r3, ⟨rfl, h4⟩⟩, rfl⟩
    refine rBuildSliceS H rfl rfl rfl rfl ?_
    clear H
    intro p1 w2 H
    clear w1
    refine Done.mk ?_
    (refine H.ptSl (n := 2) (en := enK) (s := 1) 0 rfl [_, _] rfl rfl (fun _ => rfl) rfl ?_; intro H; exact ⟨_, _, _, _, _, rfl, (plnNP h1 (by assumption)).trans (by repeat first | rw [if_pos (by omega)] | rw [if_neg (by omega)] | (subst_vars; rfl)), (H.sl0 (en := enK) (s := 1) 98 (fun _ => rfl)).del 2⟩)
  replace c2 := vLt_f (c2)
  refine cF rfl ?_
  refine CallP.mk (Fc.imp (Go.Proofs.YtndhikahjmgamaaGreatDoor.Ins.width _ _) ?_)
  rintro _ _ ⟨⟨r2, ⟨rfl, h3⟩⟩, rfl⟩
  refine cF (vLt_F (by omega)) ?_
  refine cI (fun c3 => ?_) (fun c3 => ?_)
  · replace c3 := vEq_t (c3)
    refine rBuildSliceS H rfl rfl rfl rfl ?_
    clear H
    intro p1 w2 H
    clear w1
    refine Done.mk ?_
    (refine H.ptSl (n := 1) (en := enK) (s := 1) 0 rfl [_] rfl rfl (fun _ => rfl) rfl ?_; intro H; exact ⟨_, _, _, _, _, rfl, (plnNP h1 (by assumption)).trans (by repeat first | rw [if_pos (by omega)] | rw [if_neg (by omega)] | (subst_vars; rfl)), ((H.sl0 (en := enK) (s := 1) 98 (fun _ => rfl)).front (j := 1) rfl).del 2⟩)
  replace c3 := vEq_f (c3)
  refine cI (fun c4 => ?_) (fun c4 => ?_)
  · replace c4 := vEq_t (c4)
    refine rBuildSliceS H rfl rfl rfl rfl ?_
    clear H
    intro p1 w2 H
    clear w1
    refine rBuildSliceS H rfl rfl rfl rfl ?_
    clear H
    intro p2 w1 H
    clear w2
    refine Done.mk ?_
    (refine H.ptSl (n := 1) (en := enK) (s := 1) 0 rfl [_] rfl rfl (fun _ => rfl) rfl ?_; intro H; refine H.ptSl (n := 1) (en := enK) (s := 1) 1 rfl [_] rfl rfl (fun _ => rfl) rfl ?_; intro H; exact ⟨_, _, _, _, _, rfl, (plnNP h1 (by assumption)).trans (by repeat first | rw [if_pos (by omega)] | rw [if_neg (by omega)] | (subst_vars; rfl)), H.del 2⟩)
  replace c4 := vEq_f (c4)
  refine cI (fun c5 => ?_) (fun c5 => ?_)
  · replace c5 := vEq_t (c5)
    refine rBuildSliceS H rfl rfl rfl rfl ?_
    clear H
    intro p1 w2 H
    clear w1
    refine Done.mk ?_
    (refine H.ptSl (n := 1) (en := enK) (s := 1) 0 rfl [_] rfl rfl (fun _ => rfl) rfl ?_; intro H; exact ⟨_, _, _, _, _, rfl, (plnNP h1 (by assumption)).trans (by repeat first | rw [if_pos (by omega)] | rw [if_neg (by omega)] | (subst_vars; rfl)), ((H.sl0 (en := enK) (s := 1) 98 (fun _ => rfl)).front (j := 1) rfl).del 2⟩)
  replace c5 := vEq_f (c5)
  refine cI (fun c6 => ?_) (fun c6 => ?_)
  · replace c6 := vEq_t (c6)
    refine rBuildSliceS H rfl rfl rfl rfl ?_
    clear H
    intro p1 w2 H
    clear w1
    refine Done.mk ?_
    (refine H.ptSl (n := 1) (en := enK) (s := 1) 0 rfl [_] rfl rfl (fun _ => rfl) rfl ?_; intro H; exact ⟨_, _, _, _, _, rfl, (plnNP h1 (by assumption)).trans (by repeat first | rw [if_pos (by omega)] | rw [if_neg (by omega)] | (subst_vars; rfl)), ((H.sl0 (en := enK) (s := 1) 98 (fun _ => rfl)).front (j := 1) rfl).del 2⟩)
  replace c6 := vEq_f (c6)
  refine Done.mk ?_
  exact ⟨_, _, _, _, _, rfl, (plnNP h1 (by assumption)).trans (by repeat first | rw [if_pos (by omega)] | rw [if_neg (by omega)] | (subst_vars; rfl)), ((H.sl0 (en := enK) (s := 1) 98 (fun _ => rfl)).sl0 (en := enK) (s := 1) 98 (fun _ => rfl)).del 2⟩
end Go.Proofs.YtndhikahjmgamaaGreatDoor.Valid
/- Package fold: constant, one, two. -/
set_option maxRecDepth 100000
set_option maxHeartbeats 4000000
set_option linter.unusedVariables false
set_option linter.unusedSimpArgs false
namespace Go.Proofs.YtndhikahjmgamaaGreatDoor.Fold
open Go Go.Proofs.YtndhikahjmgamaaGreatDoor.Eng Go.RowKit
open Ins Nest Leb Bin Valid
def okTwo (o : Int) : Prop := (70 ≤ o ∧ o ≤ 79) ∨ (81 ≤ o ∧ o ≤ 90) ∨ (106 ≤ o ∧ o ≤ 120) ∨ (124 ≤ o ∧ o ≤ 138)
instance (o : Int) : Decidable (okTwo o) := by unfold okTwo; infer_instance
def r1set (o : Int) : Prop := o = 69 ∨ o = 80 ∨ (103 ≤ o ∧ o ≤ 105) ∨ o = 167 ∨ o = 192 ∨ o = 193
instance (o : Int) : Decidable (r1set o) := by unfold r1set; infer_instance
def r2set (o : Int) : Prop := o ≤ 90 ∨ (106 ≤ o ∧ o ≤ 120)
instance (o : Int) : Decidable (r2set o) := by unfold r2set; infer_instance
theorem pl1' : ∀ n : Nat, n < 256 → oneOk (n : Int) → (plnS (n : Int)).1.length = 1 ∧ (plnS (n : Int)).2.1.length = 1 ∧ (plnS (n : Int)).2.2 = true ∧ ((plnS (n : Int)).2.1 = [127] → r1set n) ∧ 36 < (n : Int) := by decide +kernel
theorem pl2' : ∀ n : Nat, n < 256 → okTwo (n : Int) → (plnS (n : Int)).1.length = 2 ∧ (plnS (n : Int)).1.getD 0 0 = (plnS (n : Int)).1.getD 1 0 ∧ (plnS (n : Int)).2.1.length = 1 ∧ (plnS (n : Int)).2.2 = true ∧ ((plnS (n : Int)).2.1 = [127] → r2set n) ∧ 36 < (n : Int) := by decide +kernel
theorem pl1 {op : Int} (h : 0 ≤ op ∧ op ≤ 255) (ho : oneOk op) {is os : List Int} {q : Bool} (hp : plnS op = (is, os, q)) : ∃ i o, is = [i] ∧ os = [o] ∧ q = true ∧ (o = 127 → r1set op) ∧ 36 < op := by
  have := pl1' op.toNat (by omega)
  rw [show ((op.toNat : Nat) : Int) = op by omega, hp] at this
  obtain ⟨a, b, c, d, e⟩ := this ho
  match is, os, a, b with
  | [i], [o], _, _ => exact ⟨i, o, rfl, rfl, c, fun h => d (by rw [h]), e⟩
theorem pl2 {op : Int} (h : 0 ≤ op ∧ op ≤ 255) (ho : okTwo op) {is os : List Int} {q : Bool} (hp : plnS op = (is, os, q)) : ∃ i o, is = [i, i] ∧ os = [o] ∧ q = true ∧ (o = 127 → r2set op) ∧ 36 < op := by
  have := pl2' op.toNat (by omega)
  rw [show ((op.toNat : Nat) : Int) = op by omega, hp] at this
  obtain ⟨a, a2, b, c, d, e⟩ := this ho
  match is, os, a, b, a2 with
  | [i, j2], [o], _, _, a2 => exact ⟨i, o, by rw [show i = j2 from a2], rfl, c, fun h => d (by rw [h]), e⟩
theorem two_op {op a b : Int} (h : (Num.twoS op a b).2 = 0) : okTwo op := by
  unfold Num.twoS at h
  unfold okTwo
  repeat' split at h
  all_goals first | omega | (simp at h)
section
variable {xs : List InsV} {x y v : InsV}
theorem shape3 (h : xs[0]? = some x) (h1 : xs[1]? = some y) (h2 : xs[2]? = some v) : xs.map InsV.d = x.d :: y.d :: v.d :: (xs.map InsV.d).drop 3 := by
  match xs, h, h1, h2 with
  | a :: b :: c :: r, h, h1, h2 => rw [show a = x from Option.some.inj h, show b = y from Option.some.inj h1, show c = v from Option.some.inj h2]; rfl
theorem cOp_ok {o n : Int} (h : o = 127 → -2147483648 ≤ n ∧ n ≤ 2147483647) : CK (cOp o) n := by
  unfold cOp CK
  by_cases ho : o = 127
  · rw [if_pos ho]; exact .inl ⟨rfl, h ho⟩
  · rw [if_neg ho]; exact .inr rfl
theorem R1y (hx0 : xs[0]? = some x) (hx1 : xs[1]? = some y) (hl : 2 ≤ xs.length) (hc : x.op = 65 ∨ x.op = 66) (ho : oneOk y.op) {i o n : Int} (hp : plnS y.op = ([i], [o], true)) (hi : i = kOf x.d) (h36 : 36 < y.op) (hn : o = 127 → -2147483648 ≤ n ∧ n ≤ 2147483647) (tv : Value) : RuleR 1 (xs.map InsV.d) 2 (List.map InsV.d [(⟨cOp o, n, 0, tv, []⟩ : InsV)]) true := by
  refine RuleR.yes ?_ fun _ => ?_
  · show 2 ≤ (xs.map InsV.d).length ∧ IsC (i0 _) ∧ oneOk (i1 _).op ∧ plnOk (i1 _).op (kOf (i0 _))
    rw [i0_map hx0, i1_map hx1, List.length_map]
    refine ⟨hl, hc, ho, ?_⟩
    unfold plnOk
    rw [show plnS y.d.op = ([i], [o], true) from hp]
    exact ⟨rfl, hi⟩
  · rw [shape2 hx0 hx1]
    exact Tn.one hc h36 hp hi rfl (cOp_ok hn)
theorem R1n (hx0 : xs[0]? = some x) (hx1 : xs[1]? = some y) (h : ¬ ((x.op = 65 ∨ x.op = 66) ∧ oneOk y.op ∧ plnOk y.op (kOf x.d))) {new : List InsD} {gone : Nat} : RuleR 1 (xs.map InsV.d) gone new false := by
  refine RuleR.no fun hA => h ?_
  have hA : 2 ≤ (xs.map InsV.d).length ∧ IsC (i0 (xs.map InsV.d)) ∧ oneOk (i1 (xs.map InsV.d)).op ∧ plnOk (i1 (xs.map InsV.d)).op (kOf (i0 (xs.map InsV.d))) := hA
  rw [i0_map hx0, i1_map hx1] at hA
  exact hA.2
theorem R1s (h : ¬ 2 ≤ xs.length) {new : List InsD} {gone : Nat} : RuleR 1 (xs.map InsV.d) gone new false := RuleR.no fun hA => h (by
  have hA : 2 ≤ (xs.map InsV.d).length ∧ _ := hA
  rw [List.length_map] at hA; exact hA.1)
theorem R2y (hx0 : xs[0]? = some x) (hx1 : xs[1]? = some y) (hx2 : xs[2]? = some v) (hl : 3 ≤ xs.length) (hc : x.op = 65 ∨ x.op = 66) (hxy : y.op = x.op) (ho : (Num.twoS v.op x.a y.a).2 = 0) {i o n : Int} (hp : plnS v.op = ([i, i], [o], true)) (hi : i = kOf x.d) (h36 : 36 < v.op) (hn : o = 127 → -2147483648 ≤ n ∧ n ≤ 2147483647) (tv : Value) : RuleR 2 (xs.map InsV.d) 3 (List.map InsV.d [(⟨cOp o, n, 0, tv, []⟩ : InsV)]) true := by
  refine RuleR.yes ?_ fun _ => ?_
  · show 3 ≤ (xs.map InsV.d).length ∧ IsC (i0 _) ∧ (i1 _).op = (i0 _).op ∧ (Num.twoS (i2 _).op (i0 _).a (i1 _).a).2 = 0 ∧ plnOk (i2 _).op (kOf (i0 _))
    rw [i0_map hx0, i1_map hx1, i2_map hx2, List.length_map]
    refine ⟨hl, hc, hxy, ho, ?_⟩
    unfold plnOk
    rw [show plnS v.d.op = ([i, i], [o], true) from hp]
    exact ⟨rfl, hi⟩
  · rw [shape3 hx0 hx1 hx2]
    refine Tn.two hc ?_ h36 hxy hp hi rfl (cOp_ok hn)
    show y.op = 65 ∨ y.op = 66
    omega
theorem R2n (hx0 : xs[0]? = some x) (hx1 : xs[1]? = some y) (hx2 : xs[2]? = some v) (h : ¬ ((x.op = 65 ∨ x.op = 66) ∧ y.op = x.op ∧ (Num.twoS v.op x.a y.a).2 = 0 ∧ plnOk v.op (kOf x.d))) {new : List InsD} {gone : Nat} : RuleR 2 (xs.map InsV.d) gone new false := by
  refine RuleR.no fun hA => h ?_
  have hA : 3 ≤ (xs.map InsV.d).length ∧ IsC (i0 (xs.map InsV.d)) ∧ (i1 (xs.map InsV.d)).op = (i0 (xs.map InsV.d)).op ∧ (Num.twoS (i2 (xs.map InsV.d)).op (i0 (xs.map InsV.d)).a (i1 (xs.map InsV.d)).a).2 = 0 ∧ plnOk (i2 (xs.map InsV.d)).op (kOf (i0 (xs.map InsV.d))) := hA
  rw [i0_map hx0, i1_map hx1, i2_map hx2] at hA
  exact hA.2
theorem R2s (h : ¬ 3 ≤ xs.length) {new : List InsD} {gone : Nat} : RuleR 2 (xs.map InsV.d) gone new false := RuleR.no fun hA => h (by
  have hA : 3 ≤ (xs.map InsV.d).length ∧ _ := hA
  rw [List.length_map] at hA; exact hA.1)
theorem no_pln {op k : Int} {is os : List Int} {i : Int} {q : Bool} (hp : plnS op = (i :: is, os, q)) (h : i ≠ k) : ¬ plnOk op k := fun h2 => by
  unfold plnOk at h2
  rw [hp] at h2
  exact h h2.2
end
section
variable {g : Glob} {w : World} {l : List As}
theorem constantX (H : Sat g w l) (k n : Int) (hn : I64 n) : Fc Tryz.prog 72 #[.int .u8 k, .int .i64 n] w (fun v w' => ∃ g', Ext g g' ∧ FSl g' enV (okV g') 4 v [⟨cOp k, n, 0, .slice none 0 0, []⟩] ∧ Sat g' w' l) := by
  refine Fc.of Tryz.func72 rfl (by kernel_rfl) ?_
  by_cases hk : k = 127
  · rw [show cOp k = 65 from if_pos hk]
    refine cT (vEq_T (by assumption)) ?_
    refine rBuild rfl rfl rfl ?_
    refine rBuildSliceS H rfl rfl rfl rfl ?_
    clear H
    intro p1 w1 H
    refine Done.mk ?_
    (refine H.ptSl (n := 1) (en := enV) (s := 4) 0 rfl [⟨65, n, 0, .slice none 0 0, []⟩] rfl rfl (fun _ => rfl) rfl ?_; intro H1; refine H1.frz1 0 (okV g) rfl (one_ok ⟨show U8 65 by decide, hn, show I64 0 by decide, FSl.nil0 _ _ _ _⟩) ?_; intro g1 HE hf H2; exact ⟨g1, HE, hf.okm (fun _ _ h => h.ext HE), H2⟩)
  · rw [show cOp k = 66 from if_neg hk]
    refine cF (vEq_F (by assumption)) ?_
    refine rBuild rfl rfl rfl ?_
    refine rBuildSliceS H rfl rfl rfl rfl ?_
    clear H
    intro p1 w1 H
    refine Done.mk ?_
    (refine H.ptSl (n := 1) (en := enV) (s := 4) 0 rfl [⟨66, n, 0, .slice none 0 0, []⟩] rfl rfl (fun _ => rfl) rfl ?_; intro H1; refine H1.frz1 0 (okV g) rfl (one_ok ⟨show U8 66 by decide, hn, show I64 0 by decide, FSl.nil0 _ _ _ _⟩) ?_; intro g1 HE hf H2; exact ⟨g1, HE, hf.okm (fun _ _ h => h.ext HE), H2⟩)
theorem rule1 (H : Sat g w l) (v : Value) (xs : List InsV) (hx : FSl g enV (okV g) 4 v xs) (z : Int) (s : List Int) (hr : run (xs.map InsV.d) (z :: s) = some []) (hl : xs.length ≤ 200) (hp : 0 < xs.length) (hB : BmF g) : Fc Tryz.prog 46 #[v] w (fun r w' => ∃ (g' : Glob) (gone : Nat) (nv : Value) (news : List InsV) (b : Bool), r = .tuple #[.agg #[.int .i64 gone, nv], .bool b] ∧ Ext g g' ∧ FSl g' enV (okV g') 4 nv news ∧ RuleR 1 (xs.map InsV.d) gone (news.map InsV.d) b ∧ Sat g' w' l) := by
  obtain ⟨x, hx0⟩ : ∃ x, xs[0]? = some x := ⟨_, List.getElem?_eq_getElem hp⟩
  have hxo := FSl.all hx x (List.mem_of_getElem? hx0)
  have hxo_op := hxo.op
  have hxo_a := hxo.a
  have e0 := i0_map hx0
  have E := Ext.refl g
  refine Fc.of Tryz.func46 rfl (by kernel_rfl) ?_
  by_cases h2 : 2 ≤ xs.length
  · skip
    obtain ⟨y, hx1⟩ : ∃ y, xs[1]? = some y := ⟨_, List.getElem?_eq_getElem (by omega)⟩
    have hyo := FSl.all hx y (List.mem_of_getElem? hx1)
    have hyo_op := hyo.op
    have hyo_a := hyo.a
    have e1 := i1_map hx1
    by_cases hA : oneOk y.op
    · refine rAllocS H rfl ?_
      clear H
      intro p1 w1 H
      refine rLenF hx rfl ?_
      refine br_f (vLt_F (by omega)) ?_
      obtain ⟨b1, o1, E1, F1, hok1⟩ := FSl.elt hx hx0
      have hok1_op := hok1.op
      have hok1_a := hok1.a
      have hok1_b := hok1.b
      have hok1_to := hok1.to
      refine rIxE E1 rfl rfl rfl ?_
      refine rLdA (H.fat F1) 0 rfl rfl rfl ?_
      refine CallP.mk (Fc.imp (Go.Proofs.YtndhikahjmgamaaGreatDoor.Fold.isConstX H _ ?_) ?_)
      · assumption
      clear H
      rintro _ w2 ⟨b2, ⟨rfl, ⟨h1, H⟩⟩⟩
      refine cI (fun c1 => ?_) (fun c1 => ?_)
      · replace c1 := iff_f h1 (not_t (c1))
        refine rBuild rfl rfl rfl ?_
        refine rStAS H 0 rfl rfl rfl rfl ?_
        clear H
        intro w3 H
        clear w2
        refine rdAN (H.at 0 rfl) 0 rfl rfl rfl ?_
        refine Done.mk ?_
        exact ⟨g, 0, _, [], _, rfl, Ext.refl _, FSl.nil0 _ _ _ _, R1n hx0 hx1 (fun k => absurd k.1 (by assumption)), H.tl⟩
      replace c1 := h1.1 (not_f (c1))
      refine drawzS H [] [(0, .pure), (1, .pure), (2, .pure), (3, .held), (4, .pure), (5, .pure), (6, .pure), (7, .held), (8, .free), (9, .pure), (10, .pure), (11, .pure), (12, .pure), (13, .pure)] mixed (by kernel_rfl) (by kernel_rfl) ?_
      clear H
      intro w3 H
      clear w2
      obtain ⟨b3, o2, E2, F2, hok2⟩ := FSl.elt hx hx1
      have hok2_op := hok2.op
      have hok2_a := hok2.a
      have hok2_b := hok2.b
      have hok2_to := hok2.to
      refine tk (fun wx HS => rIxE E2 rfl rfl rfl ⟨rfl, rfl⟩) ?_
      refine tk (fun wx HS => rFieldAt rfl ⟨rfl, rfl⟩) ?_
      refine tk (fun wx HS => rLd (HS.fat F2) 0 rfl rfl rfl ⟨rfl, rfl⟩) ?_
      refine tk (fun wx HS => rIxE E1 rfl rfl rfl ⟨rfl, rfl⟩) ?_
      refine tk (fun wx HS => rFieldAt rfl ⟨rfl, rfl⟩) ?_
      refine tk (fun wx HS => rLd (HS.fat F1) 1 rfl rfl rfl ⟨rfl, rfl⟩) ?_
      refine CallP.mk (Fc.imp (Go.Proofs.YtndhikahjmgamaaGreatDoor.Fold.OneX H ?_ _ _ ?_ ?_) ?_)
      · assumption
      · assumption
      · assumption
      clear H
      rintro _ w2 ⟨r1, ⟨e2, ⟨rfl, ⟨h3, H⟩⟩⟩⟩
      have he := (‹OneR y.op _ _› : OneR y.op _ _).e
      rw [if_pos hA] at he
      have hrng := (‹OneR y.op _ _› : OneR y.op _ _).rng
      refine rIxE E2 rfl rfl rfl ?_
      refine rFieldAt rfl ?_
      refine rLd (H.fat F2) 0 rfl rfl rfl ?_
      refine CallP.mk (Fc.imp (Go.Proofs.YtndhikahjmgamaaGreatDoor.Valid.plainP _ _) ?_)
      rintro _ w4 ⟨u1, ⟨y1, ⟨xs1, ⟨ys1, ⟨q1, ⟨rfl, ⟨h4, H'⟩⟩⟩⟩⟩⟩⟩
      refine H.mergeK H' ?_
      clear H H'
      intro H
      obtain ⟨i, o, rfl, rfl, rfl, hr3, h36⟩ := pl1 hyo_op hA (by assumption)
      have hi0 : [i][0]? = some i := rfl
      have ho0 : [o][0]? = some o := rfl
      refine drawzS H [] [(0, .pure), (1, .pure), (2, .pure), (3, .pure), (4, .pure), (5, .pure), (6, .pure), (7, .pure), (8, .pure), (9, .held), (10, .pure), (11, .pure), (12, .held), (13, .forced), (14, .pure), (15, .pure)] mixed (by kernel_rfl) (by kernel_rfl) ?_
      clear H
      intro w5 H
      clear w4
      refine br_f (vNe_F (by assumption)) ?_
      obtain ⟨b4, o3, E3⟩ := H.elt 1 rfl 0 (by (simp only [List.length_append, List.length_set, List.length_cons, List.length_nil]; omega))
      refine tk (fun wx HS => rIxE E3 rfl rfl rfl ⟨rfl, rfl⟩) ?_
      refine tk (fun wx HS => rLd (HS.el 1 rfl E3 hi0) 0 rfl rfl rfl ⟨rfl, rfl⟩) ?_
      refine tk (fun wx HS => rIxE E1 rfl rfl rfl ⟨rfl, rfl⟩) ?_
      refine tk (fun wx HS => rLdA (HS.fat F1) 0 rfl rfl rfl ⟨rfl, rfl⟩) ?_
      refine CallP.mk (Fc.imp (Go.Proofs.YtndhikahjmgamaaGreatDoor.Fold.kindOfX H _ ?_) ?_)
      · assumption
      clear H
      rintro _ w4 ⟨k1, ⟨rfl, ⟨h5, H⟩⟩⟩
      refine KeepP.mk (H) ?_
      refine cI (fun c2 => ?_) (fun c2 => ?_)
      · replace c2 := vNe_t (c2)
        refine rBuild rfl rfl rfl ?_
        refine rStAS H 2 rfl rfl rfl rfl ?_
        clear H
        intro w6 H
        clear w4
        refine rdAN (H.at 2 rfl) 0 rfl rfl rfl ?_
        refine Done.mk ?_
        exact ⟨g, 0, _, [], _, rfl, Ext.refl _, FSl.nil0 _ _ _ _, R1n hx0 hx1 (fun k => no_pln (by assumption) (by omega) k.2.2), H.tl.tl.tl⟩
      replace c2 := vNe_f (c2)
      obtain ⟨b5, o4, E4⟩ := H.elt 0 rfl 0 (by (simp only [List.length_append, List.length_set, List.length_cons, List.length_nil]; omega))
      refine rIxE E4 rfl rfl rfl ?_
      refine rLd (H.el 0 rfl E4 ho0) 0 rfl rfl rfl ?_
      refine CallP.mk (Fc.imp (Go.Proofs.YtndhikahjmgamaaGreatDoor.Fold.constantX H _ _ ?_) ?_)
      · assumption
      clear H
      rintro v' w6 ⟨g'1, ⟨HE, ⟨h6, H⟩⟩⟩
      replace hok2_to := FSl.ext hok2_to HE
      replace hok2 := hok2.ext HE
      replace F2 := FAt.ext F2 HE
      replace hok1_to := FSl.ext hok1_to HE
      replace hok1 := hok1.ext HE
      replace F1 := FAt.ext F1 HE
      replace hyo := hyo.ext HE
      replace E := E.trans HE
      replace hxo := hxo.ext HE
      replace hB := hB.ext HE
      replace hx := FSl.extN (ok := Go.Proofs.YtndhikahjmgamaaGreatDoor.Ins.okV) (fun _ _ _ h E => Go.Proofs.YtndhikahjmgamaaGreatDoor.Ins.okV.ext h E) hx HE
      clear HE
      obtain ⟨a9, c9, rfl⟩ := FSl.form (‹FSl _ enV _ 4 _ [_]› : FSl _ enV _ 4 _ [_])
      refine rBuild rfl rfl rfl ?_
      refine rStAS H 2 rfl rfl rfl rfl ?_
      clear H
      intro w7 H
      clear w6
      refine rdAN (H.at 2 rfl) 0 rfl rfl rfl ?_
      refine Done.mk ?_
      exact ⟨_, 2, _, _, true, rfl, E, by assumption, R1y hx0 hx1 h2 (by assumption) hA (by assumption) (by omega) h36 (fun ho => (‹OneR y.op _ _› : OneR y.op _ _).r32 (hr3 ho)) _, H.tl.tl.tl⟩
    · refine rAllocS H rfl ?_
      clear H
      intro p1 w1 H
      refine rLenF hx rfl ?_
      refine br_f (vLt_F (by omega)) ?_
      obtain ⟨b1, o1, E1, F1, hok1⟩ := FSl.elt hx hx0
      have hok1_op := hok1.op
      have hok1_a := hok1.a
      have hok1_b := hok1.b
      have hok1_to := hok1.to
      refine rIxE E1 rfl rfl rfl ?_
      refine rLdA (H.fat F1) 0 rfl rfl rfl ?_
      refine CallP.mk (Fc.imp (Go.Proofs.YtndhikahjmgamaaGreatDoor.Fold.isConstX H _ ?_) ?_)
      · assumption
      clear H
      rintro _ w2 ⟨b2, ⟨rfl, ⟨h1, H⟩⟩⟩
      refine cI (fun c1 => ?_) (fun c1 => ?_)
      · replace c1 := iff_f h1 (not_t (c1))
        refine rBuild rfl rfl rfl ?_
        refine rStAS H 0 rfl rfl rfl rfl ?_
        clear H
        intro w3 H
        clear w2
        refine rdAN (H.at 0 rfl) 0 rfl rfl rfl ?_
        refine Done.mk ?_
        exact ⟨g, 0, _, [], _, rfl, Ext.refl _, FSl.nil0 _ _ _ _, R1n hx0 hx1 (fun k => absurd k.1 (by assumption)), H.tl⟩
      replace c1 := h1.1 (not_f (c1))
      refine drawzS H [] [(0, .pure), (1, .pure), (2, .pure), (3, .held), (4, .pure), (5, .pure), (6, .pure), (7, .held), (8, .free), (9, .pure), (10, .pure), (11, .pure), (12, .pure), (13, .pure)] mixed (by kernel_rfl) (by kernel_rfl) ?_
      clear H
      intro w3 H
      clear w2
      obtain ⟨b3, o2, E2, F2, hok2⟩ := FSl.elt hx hx1
      have hok2_op := hok2.op
      have hok2_a := hok2.a
      have hok2_b := hok2.b
      have hok2_to := hok2.to
      refine tk (fun wx HS => rIxE E2 rfl rfl rfl ⟨rfl, rfl⟩) ?_
      refine tk (fun wx HS => rFieldAt rfl ⟨rfl, rfl⟩) ?_
      refine tk (fun wx HS => rLd (HS.fat F2) 0 rfl rfl rfl ⟨rfl, rfl⟩) ?_
      refine tk (fun wx HS => rIxE E1 rfl rfl rfl ⟨rfl, rfl⟩) ?_
      refine tk (fun wx HS => rFieldAt rfl ⟨rfl, rfl⟩) ?_
      refine tk (fun wx HS => rLd (HS.fat F1) 1 rfl rfl rfl ⟨rfl, rfl⟩) ?_
      refine CallP.mk (Fc.imp (Go.Proofs.YtndhikahjmgamaaGreatDoor.Fold.OneX H ?_ _ _ ?_ ?_) ?_)
      · assumption
      · assumption
      · assumption
      clear H
      rintro _ w2 ⟨r1, ⟨e2, ⟨rfl, ⟨h3, H⟩⟩⟩⟩
      have he := (‹OneR y.op _ _› : OneR y.op _ _).e
      rw [if_neg hA] at he
      refine rIxE E2 rfl rfl rfl ?_
      refine rFieldAt rfl ?_
      refine rLd (H.fat F2) 0 rfl rfl rfl ?_
      refine CallP.mk (Fc.imp (Go.Proofs.YtndhikahjmgamaaGreatDoor.Valid.plainP _ _) ?_)
      rintro _ w4 ⟨u1, ⟨y1, ⟨xs1, ⟨ys1, ⟨q1, ⟨rfl, ⟨h4, H'⟩⟩⟩⟩⟩⟩⟩
      refine H.mergeK H' ?_
      clear H H'
      intro H
      refine drawzS H [] [(0, .pure), (1, .pure), (2, .pure), (3, .pure), (4, .pure), (5, .pure), (6, .pure), (7, .pure), (8, .pure), (9, .held), (10, .pure), (11, .pure), (12, .held), (13, .forced), (14, .pure), (15, .pure)] mixed (by kernel_rfl) (by kernel_rfl) ?_
      clear H
      intro w5 H
      clear w4
      refine br_t (vNe_T (by omega)) ?_
      refine cT rfl ?_
      refine rBuild rfl rfl rfl ?_
      refine rStAS H 2 rfl rfl rfl rfl ?_
      clear H
      intro w4 H
      clear w5
      refine rdAN (H.at 2 rfl) 0 rfl rfl rfl ?_
      refine Done.mk ?_
      exact ⟨g, 0, _, [], _, rfl, Ext.refl _, FSl.nil0 _ _ _ _, R1n hx0 hx1 (fun k => hA k.2.1), H.tl.tl.tl⟩
  · refine rAllocS H rfl ?_
    clear H
    intro p1 w1 H
    refine rLenF hx rfl ?_
    refine br_t (vLt_T (by omega)) ?_
    refine cT rfl ?_
    refine rBuild rfl rfl rfl ?_
    refine rStAS H 0 rfl rfl rfl rfl ?_
    clear H
    intro w2 H
    clear w1
    refine rdAN (H.at 0 rfl) 0 rfl rfl rfl ?_
    refine Done.mk ?_
    exact ⟨g, 0, _, [], _, rfl, Ext.refl _, FSl.nil0 _ _ _ _, R1s h2, H.tl⟩
theorem rule2 (H : Sat g w l) (v : Value) (xs : List InsV) (hx : FSl g enV (okV g) 4 v xs) (z : Int) (s : List Int) (hr : run (xs.map InsV.d) (z :: s) = some []) (hl : xs.length ≤ 200) (hp : 0 < xs.length) (hB : BmF g) : Fc Tryz.prog 47 #[v] w (fun r w' => ∃ (g' : Glob) (gone : Nat) (nv : Value) (news : List InsV) (b : Bool), r = .tuple #[.agg #[.int .i64 gone, nv], .bool b] ∧ Ext g g' ∧ FSl g' enV (okV g') 4 nv news ∧ RuleR 2 (xs.map InsV.d) gone (news.map InsV.d) b ∧ Sat g' w' l) := by
  have E := Ext.refl g
  obtain ⟨x, hx0⟩ : ∃ x, xs[0]? = some x := ⟨_, List.getElem?_eq_getElem hp⟩
  have hxo := FSl.all hx x (List.mem_of_getElem? hx0)
  have hxo_op := hxo.op
  have hxo_a := hxo.a
  have e0 := i0_map hx0
  refine Fc.of Tryz.func47 rfl (by kernel_rfl) ?_
  by_cases h2 : 3 ≤ xs.length
  · skip
    obtain ⟨y, hx1⟩ : ∃ y, xs[1]? = some y := ⟨_, List.getElem?_eq_getElem (by omega)⟩
    have hyo := FSl.all hx y (List.mem_of_getElem? hx1)
    have hyo_op := hyo.op
    have hyo_a := hyo.a
    have e1 := i1_map hx1
    obtain ⟨v2, hx2⟩ : ∃ v, xs[2]? = some v := ⟨_, List.getElem?_eq_getElem (by omega)⟩
    have hvo := FSl.all hx v2 (List.mem_of_getElem? hx2)
    have hvo_op := hvo.op
    have hvo_a := hvo.a
    have e2 := i2_map hx2
    by_cases hA : (Num.twoS v2.op x.a y.a).2 = 0
    · refine rAllocS H rfl ?_
      clear H
      intro p1 w1 H
      refine drawzS H [] [(0, .pure), (1, .pure), (2, .pure), (3, .pure), (4, .pure), (5, .pure), (6, .held), (7, .forced), (8, .pure), (9, .pure), (10, .pure), (11, .pure), (12, .pure), (13, .pure), (14, .held), (15, .pure), (16, .pure), (17, .pure), (18, .held), (19, .pure), (20, .pure)] mixed (by kernel_rfl) (by kernel_rfl) ?_
      clear H
      intro w2 H
      clear w1
      refine tk (fun wx HS => rLenF hx rfl ⟨rfl, rfl⟩) ?_
      refine br_f (vLt_F (by omega)) ?_
      obtain ⟨b1, o1, E1, F1, hok1⟩ := FSl.elt hx hx0
      have hok1_op := hok1.op
      have hok1_a := hok1.a
      have hok1_b := hok1.b
      have hok1_to := hok1.to
      refine tk (fun wx HS => rIxE E1 rfl rfl rfl ⟨rfl, rfl⟩) ?_
      refine tk (fun wx HS => rLdA (HS.fat F1) 0 rfl rfl rfl ⟨rfl, rfl⟩) ?_
      refine CallP.mk (Fc.imp (Go.Proofs.YtndhikahjmgamaaGreatDoor.Fold.isConstX H _ ?_) ?_)
      · assumption
      clear H
      rintro _ w1 ⟨b2, ⟨rfl, ⟨h1, H⟩⟩⟩
      refine KeepP.mk (H) ?_
      refine br (fun c1 => ?_) (fun c1 => ?_)
      · replace c1 := iff_f h1 (not_t (c1))
        refine cT rfl ?_
        refine rBuild rfl rfl rfl ?_
        refine rStAS H 0 rfl rfl rfl rfl ?_
        clear H
        intro w3 H
        clear w1
        refine rdAN (H.at 0 rfl) 0 rfl rfl rfl ?_
        refine Done.mk ?_
        exact ⟨g, 0, _, [], _, rfl, Ext.refl _, FSl.nil0 _ _ _ _, R2n hx0 hx1 hx2 (fun k => absurd k.1 (by assumption)), H.tl⟩
      replace c1 := h1.1 (not_f (c1))
      obtain ⟨b3, o2, E2, F2, hok2⟩ := FSl.elt hx hx1
      have hok2_op := hok2.op
      have hok2_a := hok2.a
      have hok2_b := hok2.b
      have hok2_to := hok2.to
      refine tk (fun wx HS => rIxE E2 rfl rfl rfl ⟨rfl, rfl⟩) ?_
      refine tk (fun wx HS => rFieldAt rfl ⟨rfl, rfl⟩) ?_
      refine tk (fun wx HS => rLd (HS.fat F2) 0 rfl rfl rfl ⟨rfl, rfl⟩) ?_
      refine tk (fun wx HS => rIxE E1 rfl rfl rfl ⟨rfl, rfl⟩) ?_
      refine tk (fun wx HS => rFieldAt rfl ⟨rfl, rfl⟩) ?_
      refine tk (fun wx HS => rLd (HS.fat F1) 0 rfl rfl rfl ⟨rfl, rfl⟩) ?_
      refine cI (fun c2 => ?_) (fun c2 => ?_)
      · replace c2 := vNe_t (c2)
        refine rBuild rfl rfl rfl ?_
        refine rStAS H 0 rfl rfl rfl rfl ?_
        clear H
        intro w3 H
        clear w1
        refine rdAN (H.at 0 rfl) 0 rfl rfl rfl ?_
        refine Done.mk ?_
        exact ⟨g, 0, _, [], _, rfl, Ext.refl _, FSl.nil0 _ _ _ _, R2n hx0 hx1 hx2 (fun k => absurd k.2.1 (by assumption)), H.tl⟩
      replace c2 := vNe_f (c2)
      refine drawzS H [] [(0, .pure), (1, .pure), (2, .pure), (3, .held), (4, .pure), (5, .pure), (6, .pure), (7, .held), (8, .pure), (9, .pure), (10, .pure), (11, .held), (12, .free), (13, .pure), (14, .pure), (15, .pure), (16, .pure), (17, .pure)] mixed (by kernel_rfl) (by kernel_rfl) ?_
      clear H
      intro w3 H
      clear w1
      obtain ⟨b4, o3, E3, F3, hok3⟩ := FSl.elt hx hx2
      have hok3_op := hok3.op
      have hok3_a := hok3.a
      have hok3_b := hok3.b
      have hok3_to := hok3.to
      refine tk (fun wx HS => rIxE E3 rfl rfl rfl ⟨rfl, rfl⟩) ?_
      refine tk (fun wx HS => rFieldAt rfl ⟨rfl, rfl⟩) ?_
      refine tk (fun wx HS => rLd (HS.fat F3) 0 rfl rfl rfl ⟨rfl, rfl⟩) ?_
      refine tk (fun wx HS => rIxE E1 rfl rfl rfl ⟨rfl, rfl⟩) ?_
      refine tk (fun wx HS => rFieldAt rfl ⟨rfl, rfl⟩) ?_
      refine tk (fun wx HS => rLd (HS.fat F1) 1 rfl rfl rfl ⟨rfl, rfl⟩) ?_
      refine tk (fun wx HS => rIxE E2 rfl rfl rfl ⟨rfl, rfl⟩) ?_
      refine tk (fun wx HS => rFieldAt rfl ⟨rfl, rfl⟩) ?_
      refine tk (fun wx HS => rLd (HS.fat F2) 1 rfl rfl rfl ⟨rfl, rfl⟩) ?_
      refine CallP.mk (Fc.imp (Go.Proofs.YtndhikahjmgamaaGreatDoor.Num.TwoX H _ _ _ ?_ ?_ ?_) ?_)
      · assumption
      · assumption
      · assumption
      clear H
      rintro _ w1 ⟨r1, ⟨e3, ⟨rfl, ⟨h3, H⟩⟩⟩⟩
      have he := (‹Num.TwoR v2.op _ _ _ _› : Num.TwoR v2.op _ _ _ _).e
      rw [hA] at he
      have hrng := (‹Num.TwoR v2.op _ _ _ _› : Num.TwoR v2.op _ _ _ _).rng
      refine rIxE E3 rfl rfl rfl ?_
      refine rFieldAt rfl ?_
      refine rLd (H.fat F3) 0 rfl rfl rfl ?_
      refine CallP.mk (Fc.imp (Go.Proofs.YtndhikahjmgamaaGreatDoor.Valid.plainP _ _) ?_)
      rintro _ w4 ⟨u1, ⟨y1, ⟨xs1, ⟨ys1, ⟨q1, ⟨rfl, ⟨h4, H'⟩⟩⟩⟩⟩⟩⟩
      refine H.mergeK H' ?_
      clear H H'
      intro H
      obtain ⟨i, o, rfl, rfl, rfl, hr3, h36⟩ := pl2 hvo_op (two_op hA) (by assumption)
      have hi0 : [i, i][0]? = some i := rfl
      have ho0 : [o][0]? = some o := rfl
      refine drawzS H [] [(0, .pure), (1, .pure), (2, .pure), (3, .pure), (4, .pure), (5, .pure), (6, .pure), (7, .pure), (8, .pure), (9, .held), (10, .pure), (11, .pure), (12, .held), (13, .forced), (14, .pure), (15, .pure)] mixed (by kernel_rfl) (by kernel_rfl) ?_
      clear H
      intro w5 H
      clear w4
      refine br_f (vNe_F (by assumption)) ?_
      obtain ⟨b5, o4, E4⟩ := H.elt 1 rfl 0 (by (simp only [List.length_append, List.length_set, List.length_cons, List.length_nil]; omega))
      refine tk (fun wx HS => rIxE E4 rfl rfl rfl ⟨rfl, rfl⟩) ?_
      refine tk (fun wx HS => rLd (HS.el 1 rfl E4 hi0) 0 rfl rfl rfl ⟨rfl, rfl⟩) ?_
      refine tk (fun wx HS => rIxE E1 rfl rfl rfl ⟨rfl, rfl⟩) ?_
      refine tk (fun wx HS => rLdA (HS.fat F1) 0 rfl rfl rfl ⟨rfl, rfl⟩) ?_
      refine CallP.mk (Fc.imp (Go.Proofs.YtndhikahjmgamaaGreatDoor.Fold.kindOfX H _ ?_) ?_)
      · assumption
      clear H
      rintro _ w4 ⟨k1, ⟨rfl, ⟨h5, H⟩⟩⟩
      refine KeepP.mk (H) ?_
      refine cI (fun c3 => ?_) (fun c3 => ?_)
      · replace c3 := vNe_t (c3)
        refine rBuild rfl rfl rfl ?_
        refine rStAS H 2 rfl rfl rfl rfl ?_
        clear H
        intro w6 H
        clear w4
        refine rdAN (H.at 2 rfl) 0 rfl rfl rfl ?_
        refine Done.mk ?_
        exact ⟨g, 0, _, [], _, rfl, Ext.refl _, FSl.nil0 _ _ _ _, R2n hx0 hx1 hx2 (fun k => no_pln (by assumption) (by omega) k.2.2.2), H.tl.tl.tl⟩
      replace c3 := vNe_f (c3)
      obtain ⟨b6, o5, E5⟩ := H.elt 0 rfl 0 (by (simp only [List.length_append, List.length_set, List.length_cons, List.length_nil]; omega))
      refine rIxE E5 rfl rfl rfl ?_
      refine rLd (H.el 0 rfl E5 ho0) 0 rfl rfl rfl ?_
      refine CallP.mk (Fc.imp (Go.Proofs.YtndhikahjmgamaaGreatDoor.Fold.constantX H _ _ ?_) ?_)
      · assumption
      clear H
      rintro v' w6 ⟨g'1, ⟨HE, ⟨h6, H⟩⟩⟩
      replace hok3_to := FSl.ext hok3_to HE
      replace hok3 := hok3.ext HE
      replace F3 := FAt.ext F3 HE
      replace hok2_to := FSl.ext hok2_to HE
      replace hok2 := hok2.ext HE
      replace F2 := FAt.ext F2 HE
      replace hok1_to := FSl.ext hok1_to HE
      replace hok1 := hok1.ext HE
      replace F1 := FAt.ext F1 HE
      replace hvo := hvo.ext HE
      replace hyo := hyo.ext HE
      replace hxo := hxo.ext HE
      replace E := E.trans HE
      replace hB := hB.ext HE
      replace hx := FSl.extN (ok := Go.Proofs.YtndhikahjmgamaaGreatDoor.Ins.okV) (fun _ _ _ h E => Go.Proofs.YtndhikahjmgamaaGreatDoor.Ins.okV.ext h E) hx HE
      clear HE
      obtain ⟨a9, c9, rfl⟩ := FSl.form (‹FSl _ enV _ 4 _ [_]› : FSl _ enV _ 4 _ [_])
      refine rBuild rfl rfl rfl ?_
      refine rStAS H 2 rfl rfl rfl rfl ?_
      clear H
      intro w7 H
      clear w6
      refine rdAN (H.at 2 rfl) 0 rfl rfl rfl ?_
      refine Done.mk ?_
      exact ⟨_, 3, _, _, true, rfl, E, by assumption, R2y hx0 hx1 hx2 h2 (by assumption) (by assumption) hA (by assumption) (by omega) h36 (fun ho => (‹Num.TwoR v2.op _ _ _ _› : Num.TwoR v2.op _ _ _ _).r32 (hr3 ho)) _, H.tl.tl.tl⟩
    · refine rAllocS H rfl ?_
      clear H
      intro p1 w1 H
      refine drawzS H [] [(0, .pure), (1, .pure), (2, .pure), (3, .pure), (4, .pure), (5, .pure), (6, .held), (7, .forced), (8, .pure), (9, .pure), (10, .pure), (11, .pure), (12, .pure), (13, .pure), (14, .held), (15, .pure), (16, .pure), (17, .pure), (18, .held), (19, .pure), (20, .pure)] mixed (by kernel_rfl) (by kernel_rfl) ?_
      clear H
      intro w2 H
      clear w1
      refine tk (fun wx HS => rLenF hx rfl ⟨rfl, rfl⟩) ?_
      refine br_f (vLt_F (by omega)) ?_
      obtain ⟨b1, o1, E1, F1, hok1⟩ := FSl.elt hx hx0
      have hok1_op := hok1.op
      have hok1_a := hok1.a
      have hok1_b := hok1.b
      have hok1_to := hok1.to
      refine tk (fun wx HS => rIxE E1 rfl rfl rfl ⟨rfl, rfl⟩) ?_
      refine tk (fun wx HS => rLdA (HS.fat F1) 0 rfl rfl rfl ⟨rfl, rfl⟩) ?_
      refine CallP.mk (Fc.imp (Go.Proofs.YtndhikahjmgamaaGreatDoor.Fold.isConstX H _ ?_) ?_)
      · assumption
      clear H
      rintro _ w1 ⟨b2, ⟨rfl, ⟨h1, H⟩⟩⟩
      refine KeepP.mk (H) ?_
      refine br (fun c1 => ?_) (fun c1 => ?_)
      · replace c1 := iff_f h1 (not_t (c1))
        refine cT rfl ?_
        refine rBuild rfl rfl rfl ?_
        refine rStAS H 0 rfl rfl rfl rfl ?_
        clear H
        intro w3 H
        clear w1
        refine rdAN (H.at 0 rfl) 0 rfl rfl rfl ?_
        refine Done.mk ?_
        exact ⟨g, 0, _, [], _, rfl, Ext.refl _, FSl.nil0 _ _ _ _, R2n hx0 hx1 hx2 (fun k => absurd k.1 (by assumption)), H.tl⟩
      replace c1 := h1.1 (not_f (c1))
      obtain ⟨b3, o2, E2, F2, hok2⟩ := FSl.elt hx hx1
      have hok2_op := hok2.op
      have hok2_a := hok2.a
      have hok2_b := hok2.b
      have hok2_to := hok2.to
      refine tk (fun wx HS => rIxE E2 rfl rfl rfl ⟨rfl, rfl⟩) ?_
      refine tk (fun wx HS => rFieldAt rfl ⟨rfl, rfl⟩) ?_
      refine tk (fun wx HS => rLd (HS.fat F2) 0 rfl rfl rfl ⟨rfl, rfl⟩) ?_
      refine tk (fun wx HS => rIxE E1 rfl rfl rfl ⟨rfl, rfl⟩) ?_
      refine tk (fun wx HS => rFieldAt rfl ⟨rfl, rfl⟩) ?_
      refine tk (fun wx HS => rLd (HS.fat F1) 0 rfl rfl rfl ⟨rfl, rfl⟩) ?_
      refine cI (fun c2 => ?_) (fun c2 => ?_)
      · replace c2 := vNe_t (c2)
        refine rBuild rfl rfl rfl ?_
        refine rStAS H 0 rfl rfl rfl rfl ?_
        clear H
        intro w3 H
        clear w1
        refine rdAN (H.at 0 rfl) 0 rfl rfl rfl ?_
        refine Done.mk ?_
        exact ⟨g, 0, _, [], _, rfl, Ext.refl _, FSl.nil0 _ _ _ _, R2n hx0 hx1 hx2 (fun k => absurd k.2.1 (by assumption)), H.tl⟩
      replace c2 := vNe_f (c2)
      refine drawzS H [] [(0, .pure), (1, .pure), (2, .pure), (3, .held), (4, .pure), (5, .pure), (6, .pure), (7, .held), (8, .pure), (9, .pure), (10, .pure), (11, .held), (12, .free), (13, .pure), (14, .pure), (15, .pure), (16, .pure), (17, .pure)] mixed (by kernel_rfl) (by kernel_rfl) ?_
      clear H
      intro w3 H
      clear w1
      obtain ⟨b4, o3, E3, F3, hok3⟩ := FSl.elt hx hx2
      have hok3_op := hok3.op
      have hok3_a := hok3.a
      have hok3_b := hok3.b
      have hok3_to := hok3.to
      refine tk (fun wx HS => rIxE E3 rfl rfl rfl ⟨rfl, rfl⟩) ?_
      refine tk (fun wx HS => rFieldAt rfl ⟨rfl, rfl⟩) ?_
      refine tk (fun wx HS => rLd (HS.fat F3) 0 rfl rfl rfl ⟨rfl, rfl⟩) ?_
      refine tk (fun wx HS => rIxE E1 rfl rfl rfl ⟨rfl, rfl⟩) ?_
      refine tk (fun wx HS => rFieldAt rfl ⟨rfl, rfl⟩) ?_
      refine tk (fun wx HS => rLd (HS.fat F1) 1 rfl rfl rfl ⟨rfl, rfl⟩) ?_
      refine tk (fun wx HS => rIxE E2 rfl rfl rfl ⟨rfl, rfl⟩) ?_
      refine tk (fun wx HS => rFieldAt rfl ⟨rfl, rfl⟩) ?_
      refine tk (fun wx HS => rLd (HS.fat F2) 1 rfl rfl rfl ⟨rfl, rfl⟩) ?_
      refine CallP.mk (Fc.imp (Go.Proofs.YtndhikahjmgamaaGreatDoor.Num.TwoX H _ _ _ ?_ ?_ ?_) ?_)
      · assumption
      · assumption
      · assumption
      clear H
      rintro _ w1 ⟨r1, ⟨e3, ⟨rfl, ⟨h3, H⟩⟩⟩⟩
      have he := (‹Num.TwoR v2.op _ _ _ _› : Num.TwoR v2.op _ _ _ _).e
      refine rIxE E3 rfl rfl rfl ?_
      refine rFieldAt rfl ?_
      refine rLd (H.fat F3) 0 rfl rfl rfl ?_
      refine CallP.mk (Fc.imp (Go.Proofs.YtndhikahjmgamaaGreatDoor.Valid.plainP _ _) ?_)
      rintro _ w4 ⟨u1, ⟨y1, ⟨xs1, ⟨ys1, ⟨q1, ⟨rfl, ⟨h4, H'⟩⟩⟩⟩⟩⟩⟩
      refine H.mergeK H' ?_
      clear H H'
      intro H
      refine drawzS H [] [(0, .pure), (1, .pure), (2, .pure), (3, .pure), (4, .pure), (5, .pure), (6, .pure), (7, .pure), (8, .pure), (9, .held), (10, .pure), (11, .pure), (12, .held), (13, .forced), (14, .pure), (15, .pure)] mixed (by kernel_rfl) (by kernel_rfl) ?_
      clear H
      intro w5 H
      clear w4
      refine br_t (vNe_T (by omega)) ?_
      refine cT rfl ?_
      refine rBuild rfl rfl rfl ?_
      refine rStAS H 2 rfl rfl rfl rfl ?_
      clear H
      intro w4 H
      clear w5
      refine rdAN (H.at 2 rfl) 0 rfl rfl rfl ?_
      refine Done.mk ?_
      exact ⟨g, 0, _, [], _, rfl, Ext.refl _, FSl.nil0 _ _ _ _, R2n hx0 hx1 hx2 (fun k => hA k.2.2.1), H.tl.tl.tl⟩
  · refine rAllocS H rfl ?_
    clear H
    intro p1 w1 H
    refine drawzS H [] [(0, .pure), (1, .pure), (2, .pure), (3, .pure), (4, .pure), (5, .pure), (6, .held), (7, .forced), (8, .pure), (9, .pure), (10, .pure), (11, .pure), (12, .pure), (13, .pure), (14, .held), (15, .pure), (16, .pure), (17, .pure), (18, .held), (19, .pure), (20, .pure)] mixed (by kernel_rfl) (by kernel_rfl) ?_
    clear H
    intro w2 H
    clear w1
    refine tk (fun wx HS => rLenF hx rfl ⟨rfl, rfl⟩) ?_
    refine br_t (vLt_T (by omega)) ?_
    refine cT rfl ?_
    refine rBuild rfl rfl rfl ?_
    refine rStAS H 0 rfl rfl rfl rfl ?_
    clear H
    intro w1 H
    clear w2
    refine rdAN (H.at 0 rfl) 0 rfl rfl rfl ?_
    refine Done.mk ?_
    exact ⟨g, 0, _, [], _, rfl, Ext.refl _, FSl.nil0 _ _ _ _, R2s h2, H.tl⟩
end
end Go.Proofs.YtndhikahjmgamaaGreatDoor.Fold
/- slices.Clone of instructions and of numbers; the document's NestDeep. -/
set_option maxRecDepth 100000
set_option maxHeartbeats 4000000
set_option linter.unusedVariables false
set_option linter.unusedSimpArgs false
namespace Go.Proofs.YtndhikahjmgamaaGreatDoor.Fold
open Go Go.Proofs.YtndhikahjmgamaaGreatDoor.Eng Go.RowKit
open Ins Nest Leb Bin Valid
section
variable {g : Glob} {w : World} {l : List As}
theorem cloneV (H : Sat g w l) (v : Value) (xs : List InsV) (hx : FSl g enV (okV g) 4 v xs) (hl : xs.length ≤ 1000) : Fc Tryz.prog 20 #[v] w (fun u w' => Sat g w' (Sl 40 4 enV u xs :: l)) := by
  have ho1 : ∀ y ∈ xs, ((enV y).all (·.oneCell')) = true := fun y h => by have o := FSl.all hx y h; simp only [enV, List.all_cons, List.all_nil, FSl.one o.to]; rfl
  refine Fc.of Tryz.func20 rfl (by kernel_rfl) ?_
  rcases FSl.nilOr hx with ⟨EN1, EN2⟩ | ⟨b1, c1, V1⟩
  · subst EN1
    subst EN2
    refine rSlNil rfl ?_
    refine cT rfl ?_
    refine Done.mk ?_
    replace H := H.sl0 (en := enV) (s := 4) (40) (fun _ => rfl)
    exact H
  subst V1
  refine rSlNil rfl ?_
  refine cF rfl ?_
  refine rBuildSliceS H rfl rfl rfl rfl ?_
  clear H
  intro p1 w1 H
  refine H.ptSl (n := 0) (en := enV) (s := 4) 0 rfl [] rfl rfl (fun _ => rfl) rfl ?_
  clear H
  intro H
  refine rApR 48 H 0 rfl (H.rd hx) (by assumption) rfl rfl rfl (by (simp only [List.length_append, List.length_set, List.length_cons, List.length_nil]; omega)) (by (simp only [List.length_append, List.length_set, List.length_cons, List.length_nil]; omega)) ?_
  intro v1
  clear H
  intro w2 H
  clear w1
  refine Done.mk ?_
  exact H
theorem cloneI (H : Sat g w l) (v : Value) (xs : List Int) (hx : FSl g enI okI 1 v xs) (hl : xs.length ≤ 1000) : Fc Tryz.prog 21 #[v] w (fun u w' => Sat g w' (Sl 2 1 enI u xs :: l)) := by
  refine Fc.of Tryz.func21 rfl (by kernel_rfl) ?_
  rcases FSl.nilOr hx with ⟨EN1, EN2⟩ | ⟨b1, c1, V1⟩
  · subst EN1
    subst EN2
    refine rSlNil rfl ?_
    refine cT rfl ?_
    refine Done.mk ?_
    replace H := H.sl0 (en := enI) (s := 1) (2) (fun _ => rfl)
    exact H
  subst V1
  refine rSlNil rfl ?_
  refine cF rfl ?_
  refine rBuildSliceS H rfl rfl rfl rfl ?_
  clear H
  intro p1 w1 H
  refine H.ptSl (n := 0) (en := enI) (s := 1) 0 rfl [] rfl rfl (fun _ => rfl) rfl ?_
  clear H
  intro H
  refine rApR 8 H 0 rfl (H.rd hx) (fun y _ => rfl) rfl rfl rfl (by (simp only [List.length_append, List.length_set, List.length_cons, List.length_nil]; omega)) (by (simp only [List.length_append, List.length_set, List.length_cons, List.length_nil]; omega)) ?_
  intro v1
  clear H
  intro w2 H
  clear w1
  refine Done.mk ?_
  exact H
end
end Go.Proofs.YtndhikahjmgamaaGreatDoor.Fold
/- Package fold: choice. -/
set_option maxRecDepth 100000
set_option maxHeartbeats 4000000
set_option linter.unusedVariables false
set_option linter.unusedSimpArgs false
namespace Go.Proofs.YtndhikahjmgamaaGreatDoor.Fold
open Go Go.Proofs.YtndhikahjmgamaaGreatDoor.Eng Go.RowKit
open Ins Nest Leb Bin Valid
theorem cells_ok {g : Glob} {y : InsV} (o : okV g y) : ((enV y).all (·.oneCell')) = true := by
  simp only [enV, List.all_cons, List.all_nil, FSl.one o.to]; rfl
section
variable {xs : List InsV} {x y ee : InsV} {EN HN : Nat}
theorem al_map (hx0 : xs[0]? = some x) (hx1 : xs[1]? = some y) (C : Cho ((xs.map InsV.d).drop 2) EN HN) (tv : Value) (hee : (List.drop 1 (List.take xs.length xs))[EN - 1]? = some ee) : List.map InsV.d (([(⟨2, y.a, 0, tv, []⟩ : InsV)] ++ List.drop 1 (List.take HN (List.drop 1 (List.take xs.length xs)))) ++ [ee]) = ⟨2, y.a, 0, []⟩ :: (((xs.map InsV.d).drop 2).take (oth 1 ((xs.map InsV.d).drop 2)) ++ [((xs.map InsV.d).drop 2).getD (spn 1 ((xs.map InsV.d).drop 2) - 1) nz]) := by
  have e := tail1 hx0 hx1
  generalize hal : List.drop 1 (List.take xs.length xs) = al at *
  generalize (xs.map InsV.d).drop 2 = r at *
  have q1 := C.en
  have q2 := C.eh
  have q3 := C.lt
  have h1 : (al.map InsV.d)[EN - 1]? = some ee.d := by rw [List.getElem?_map, hee]; rfl
  rw [e, show EN - 1 = (spn 1 r - 1) + 1 by omega, List.getElem?_cons_succ] at h1
  rw [List.map_append, List.map_append, List.map_drop, List.map_take, e, q2, List.getD_eq_getElem?_getD, h1, show 1 + oth 1 r = oth 1 r + 1 by omega, List.take_succ_cons]
  rfl
theorem al_map2 (hx0 : xs[0]? = some x) (hx1 : xs[1]? = some y) (C : Cho ((xs.map InsV.d).drop 2) EN HN) (tv : Value) : List.map InsV.d ([(⟨2, y.a, 0, tv, []⟩ : InsV)] ++ List.drop (HN + 1) (List.take EN (List.drop 1 (List.take xs.length xs)))) = ⟨2, y.a, 0, []⟩ :: ((((xs.map InsV.d).drop 2).take (spn 1 ((xs.map InsV.d).drop 2))).drop (oth 1 ((xs.map InsV.d).drop 2) + 1)) := by
  have e := tail1 hx0 hx1
  generalize hal : List.drop 1 (List.take xs.length xs) = al at *
  generalize (xs.map InsV.d).drop 2 = r at *
  rw [List.map_append, List.map_drop, List.map_take, e, C.en, C.eh, show 1 + spn 1 r = spn 1 r + 1 by omega, List.take_succ_cons, show 1 + oth 1 r + 1 = (oth 1 r + 1) + 1 by omega, List.drop_succ_cons]
  rfl
theorem gone_is (C : Cho ((xs.map InsV.d).drop 2) EN HN) : 1 + EN = 2 + spn 1 ((xs.map InsV.d).drop 2) := by
  have := C.en; omega
theorem A7 (hx0 : xs[0]? = some x) (hx1 : xs[1]? = some y) (h65 : x.op = 65) (h4 : y.op = 4) (hl : 2 ≤ xs.length) : App 7 (xs.map InsV.d) := by
  show 2 ≤ (xs.map InsV.d).length ∧ (i0 _).op = 65 ∧ (i1 _).op = 4
  rw [i0_map hx0, i1_map hx1, List.length_map]
  exact ⟨hl, h65, h4⟩
theorem R7a (hx0 : xs[0]? = some x) (hx1 : xs[1]? = some y) (C : Cho ((xs.map InsV.d).drop 2) EN HN) (hA : x.op = 65 ∧ y.op = 4) (hl : 2 ≤ xs.length) (tv : Value) (hee : (List.drop 1 (List.take xs.length xs))[EN - 1]? = some ee) : RuleR 7 (xs.map InsV.d) (1 + EN) (List.map InsV.d (([(⟨2, y.a, 0, tv, []⟩ : InsV)] ++ List.drop 1 (List.take HN (List.drop 1 (List.take xs.length xs)))) ++ [ee])) true := by
  refine RuleR.yes (A7 hx0 hx1 hA.1 hA.2 hl) fun _ => ?_
  rw [al_map hx0 hx1 C tv hee, gone_is C]
  conv => arg 2; rw [shape2 hx0 hx1]
  exact Tn.choose1 hA.1 hA.2
theorem R7b (hx0 : xs[0]? = some x) (hx1 : xs[1]? = some y) (C : Cho ((xs.map InsV.d).drop 2) EN HN) (hA : x.op = 65 ∧ y.op = 4) (hl : 2 ≤ xs.length) (tv : Value) {eh : InsV} (heh : (List.drop 1 (List.take xs.length xs))[HN]? = some eh) (h5 : eh.op = 5) : RuleR 7 (xs.map InsV.d) (1 + EN) (List.map InsV.d ([(⟨2, y.a, 0, tv, []⟩ : InsV)] ++ List.drop (HN + 1) (List.take EN (List.drop 1 (List.take xs.length xs))))) true := by
  refine RuleR.yes (A7 hx0 hx1 hA.1 hA.2 hl) fun _ => ?_
  rw [al_map2 hx0 hx1 C tv, gone_is C]
  have h1 : ((List.drop 1 (List.take xs.length xs)).map InsV.d)[HN]? = some eh.d := by rw [List.getElem?_map, heh]; rfl
  rw [tail1 hx0 hx1, C.eh, show 1 + oth 1 ((xs.map InsV.d).drop 2) = oth 1 ((xs.map InsV.d).drop 2) + 1 by omega, List.getElem?_cons_succ] at h1
  conv => arg 2; rw [shape2 hx0 hx1]
  refine Tn.choose2 hA.1 hA.2 ?_
  rw [List.getD_eq_getElem?_getD, h1]; exact h5
theorem R7c (hx0 : xs[0]? = some x) (hx1 : xs[1]? = some y) (C : Cho ((xs.map InsV.d).drop 2) EN HN) (hA : x.op = 65 ∧ y.op = 4) (hl : 2 ≤ xs.length) {eh : InsV} (heh : (List.drop 1 (List.take xs.length xs))[HN]? = some eh) (h5 : eh.op ≠ 5) : RuleR 7 (xs.map InsV.d) (1 + EN) [] true := by
  refine RuleR.yes (A7 hx0 hx1 hA.1 hA.2 hl) fun _ => ?_
  rw [gone_is C]
  have h1 : ((List.drop 1 (List.take xs.length xs)).map InsV.d)[HN]? = some eh.d := by rw [List.getElem?_map, heh]; rfl
  rw [tail1 hx0 hx1, C.eh, show 1 + oth 1 ((xs.map InsV.d).drop 2) = oth 1 ((xs.map InsV.d).drop 2) + 1 by omega, List.getElem?_cons_succ] at h1
  conv => arg 2; rw [shape2 hx0 hx1]
  refine Tn.choose3 hA.1 hA.2 ?_
  rw [List.getD_eq_getElem?_getD, h1]; exact h5
end
section
variable {g : Glob} {w : World} {l : List As}
theorem ok3 {ok : InsV → Prop} {a e : InsV} {m : List InsV} (h1 : ok a) (h2 : ∀ y ∈ m, ok y) (h3 : ok e) : ∀ y ∈ [a] ++ m ++ [e], ok y := by
  intro y hy
  rcases List.mem_append.1 hy with hy | hy
  · rcases List.mem_append.1 hy with hy | hy
    · rw [List.mem_singleton.1 hy]; exact h1
    · exact h2 y hy
  · rw [List.mem_singleton.1 hy]; exact h3
theorem ok2 {ok : InsV → Prop} {a : InsV} {m : List InsV} (h1 : ok a) (h2 : ∀ y ∈ m, ok y) : ∀ y ∈ [a] ++ m, ok y := by
  intro y hy
  rcases List.mem_append.1 hy with hy | hy
  · rw [List.mem_singleton.1 hy]; exact h1
  · exact h2 y hy
theorem rule7 (H : Sat g w l) (v : Value) (xs : List InsV) (hx : FSl g enV (okV g) 4 v xs) (z : Int) (s : List Int) (hr : run (xs.map InsV.d) (z :: s) = some []) (hl : xs.length ≤ 200) (hp : 0 < xs.length) : Fc Tryz.prog 52 #[v] w (fun r w' => ∃ (g' : Glob) (gone : Nat) (nv : Value) (news : List InsV) (b : Bool), r = .tuple #[.agg #[.int .i64 gone, nv], .bool b] ∧ Ext g g' ∧ FSl g' enV (okV g') 4 nv news ∧ RuleR 7 (xs.map InsV.d) gone (news.map InsV.d) b ∧ Sat g' w' l) := by
  obtain ⟨x, hx0⟩ : ∃ x, xs[0]? = some x := ⟨_, List.getElem?_eq_getElem hp⟩
  have hxo := FSl.all hx x (List.mem_of_getElem? hx0)
  have hxo_op := hxo.op
  have hxo_a := hxo.a
  have e0 := i0_map hx0
  refine Fc.of Tryz.func52 rfl (by kernel_rfl) ?_
  by_cases h2 : 2 ≤ xs.length
  · skip
    obtain ⟨y, hx1⟩ : ∃ y, xs[1]? = some y := ⟨_, List.getElem?_eq_getElem (by omega)⟩
    have hyo := FSl.all hx y (List.mem_of_getElem? hx1)
    have hyo_op := hyo.op
    have hyo_a := hyo.a
    have e1 := i1_map hx1
    by_cases hA : x.op = 65 ∧ y.op = 4
    · have C := cho_of hx0 hx1 hr hA.1 hA.2
      obtain ⟨EN, hEN⟩ : ∃ EN, EN = spn 0 (List.map InsV.d (List.drop 1 (List.take xs.length xs))) := ⟨_, rfl⟩
      obtain ⟨HN, hHN⟩ : ∃ HN, HN = oth 0 (List.map InsV.d (List.drop 1 (List.take xs.length xs))) := ⟨_, rfl⟩
      rw [← hEN, ← hHN] at C
      have q1 := C.lt
      have q2 := C.le
      have q3 := C.eh
      rw [List.length_drop, List.length_map] at q2
      have q4 : 1 ≤ HN := by omega
      have q5 : EN ≤ xs.length - 1 := by omega
      clear q2 q3
      have hal : (List.drop 1 (List.take xs.length xs)).length = xs.length - 1 := by simp
      have hy0 : (List.drop 1 (List.take xs.length xs))[0]? = some y := by rw [List.take_length, List.getElem?_drop]; exact hx1
      obtain ⟨⟨eop, ea, eb, etv, eto⟩, hee⟩ : ∃ ee : InsV, (List.drop 1 (List.take xs.length xs))[EN - 1]? = some ee := ⟨_, List.getElem?_eq_getElem (by omega)⟩
      have heo := FSl.all hx _ (List.mem_of_mem_take (List.mem_of_mem_drop (List.mem_of_getElem? hee)))
      have hef := FSl.form heo.to
      simp only at hef
      obtain ⟨a9, c9, rfl⟩ := hef
      have ho1 : ∀ y ∈ List.drop 1 (List.take HN (List.drop 1 (List.take xs.length xs))), ((enV y).all (·.oneCell')) = true := fun y h => cells_ok (FSl.all hx y (List.mem_of_mem_take (List.mem_of_mem_drop (List.mem_of_mem_take (List.mem_of_mem_drop h)))))
      have ho2 : ∀ y ∈ List.drop (HN + 1) (List.take EN (List.drop 1 (List.take xs.length xs))), ((enV y).all (·.oneCell')) = true := fun y h => cells_ok (FSl.all hx y (List.mem_of_mem_take (List.mem_of_mem_drop (List.mem_of_mem_take (List.mem_of_mem_drop h)))))
      obtain ⟨eh, heh⟩ : ∃ eh, (List.drop 1 (List.take xs.length xs))[HN]? = some eh := ⟨_, List.getElem?_eq_getElem (by omega)⟩
      have hb1 : (List.drop 1 (List.take HN (List.drop 1 (List.take xs.length xs)))).length ≤ 200 := by simp; omega
      have hb2 : (List.drop (HN + 1) (List.take EN (List.drop 1 (List.take xs.length xs)))).length ≤ 200 := by simp; omega
      have hb3 : [(⟨2, y.a, 0, .slice none 0 0, []⟩ : InsV)].length = 1 := rfl
      have hok9 : okV g (⟨2, y.a, 0, .slice none 0 0, []⟩ : InsV) := ⟨show U8 2 by decide, hyo_a, show I64 0 by decide, FSl.nil0 _ _ _ _⟩
      have hokm : ∀ y ∈ List.drop 1 (List.take HN (List.drop 1 (List.take xs.length xs))), okV g y := fun y h => FSl.all hx y (List.mem_of_mem_take (List.mem_of_mem_drop (List.mem_of_mem_take (List.mem_of_mem_drop h))))
      have hokn : ∀ y ∈ List.drop (HN + 1) (List.take EN (List.drop 1 (List.take xs.length xs))), okV g y := fun y h => FSl.all hx y (List.mem_of_mem_take (List.mem_of_mem_drop (List.mem_of_mem_take (List.mem_of_mem_drop h))))
      refine rAllocS H rfl ?_
      clear H
      intro p1 w1 H
      refine rLenF hx rfl ?_
      refine br_f (vLt_F (by omega)) ?_
      obtain ⟨b1, o1, E1, F1, hok1⟩ := FSl.elt hx hx0
      have hok1_op := hok1.op
      have hok1_a := hok1.a
      have hok1_b := hok1.b
      have hok1_to := hok1.to
      refine rIxE E1 rfl rfl rfl ?_
      refine rLdA (H.fat F1) 0 rfl rfl rfl ?_
      refine CallP.mk (Fc.imp (Go.Proofs.YtndhikahjmgamaaGreatDoor.Fold.isNumberX H _ ?_) ?_)
      · assumption
      clear H
      rintro _ w2 ⟨b2, ⟨rfl, ⟨h1, H⟩⟩⟩
      refine br_f (not_F (h1.2 (by omega))) ?_
      obtain ⟨b3, o2, E2, F2, hok2⟩ := FSl.elt hx hx1
      have hok2_op := hok2.op
      have hok2_a := hok2.a
      have hok2_b := hok2.b
      have hok2_to := hok2.to
      refine rIxE E2 rfl rfl rfl ?_
      refine rFieldAt rfl ?_
      refine rLd (H.fat F2) 0 rfl rfl rfl ?_
      refine cF (vNe_F (by omega)) ?_
      refine rSlF hx 1 (xs).length rfl rfl (by omega) (by omega) (.inr ⟨_, by first | rfl | (congr 2; omega)⟩) (.inl ⟨rfl, rfl⟩) ?_
      intro v1 hs1
      refine CallP.mk (Fc.imp (Go.Proofs.YtndhikahjmgamaaGreatDoor.Fold.spanX H _ _ hs1 ?_) ?_)
      · omega
      clear H
      rintro _ w3 ⟨n1, ⟨rfl, ⟨h3, ⟨h4, H⟩⟩⟩⟩
      obtain rfl : n1 = EN := by rw [hEN]; assumption
      refine CallP.mk (Fc.imp (Go.Proofs.YtndhikahjmgamaaGreatDoor.Fold.otherX H _ _ hs1 ?_ ?_) ?_)
      · omega
      · omega
      clear H
      rintro _ w4 ⟨n2, ⟨rfl, ⟨h5, ⟨h6, H⟩⟩⟩⟩
      have hq : n2 = HN := by rw [hHN]; exact ‹_ → n2 = _› (by rw [← hHN, List.length_drop, List.length_take]; omega)
      subst hq
      obtain ⟨b4, o3, E3, F3, hok3⟩ := FSl.elt hs1 hy0
      have hok3_op := hok3.op
      have hok3_a := hok3.a
      have hok3_b := hok3.b
      have hok3_to := hok3.to
      refine rIxE E3 rfl rfl rfl ?_
      refine rFieldAt rfl ?_
      refine rLd (H.fat F3) 1 rfl rfl rfl ?_
      refine rBuild rfl rfl rfl ?_
      refine rAllocS H rfl ?_
      clear H
      intro p2 w5 H
      clear w4
      refine rStAS H 0 rfl rfl rfl rfl ?_
      clear H
      intro w4 H
      clear w5
      refine bk ?_
      refine rIxE E1 rfl rfl rfl ?_
      refine rFieldAt rfl ?_
      refine rLd (H.fat F1) 1 rfl rfl rfl ?_
      refine cI (fun c1 => ?_) (fun c1 => ?_)
      · replace c1 := vNe_t (c1)
        refine drawzS H [] [(0, .held), (2, .pure), (3, .pure), (4, .pure), (1, .free), (5, .free), (6, .pure)] mixed (by kernel_rfl) (by kernel_rfl) ?_
        clear H
        intro w5 H
        clear w4
        refine tk (fun wx HS => rLdA (HS.at 0 rfl) 0 rfl rfl rfl ⟨rfl, rfl⟩) ?_
        refine tkSlF hs1 1 (n2) rfl rfl (by omega) (by omega) (.inr ⟨_, by first | rfl | (congr 2; omega)⟩) (.inr ⟨_, by first | rfl | (congr 2; omega)⟩) ?_
        intro v2 hs2
        refine rBuildSliceS H rfl rfl rfl rfl ?_
        clear H
        intro p3 w4 H
        clear w5
        refine H.ptSl (n := 1) (en := enV) (s := 4) 0 rfl [⟨2, y.a, 0, .slice none 0 0, []⟩] rfl rfl (fun _ => rfl) rfl ?_
        clear H
        intro H
        refine rApR 48 H 0 rfl (H.rd hs2) (by assumption) rfl rfl rfl (by omega) (by omega) ?_
        intro v3
        clear H
        intro w5 H
        clear w4
        refine eqI64 (by omega) ?_
        refine eqI64 (by omega) ?_
        obtain ⟨b5, o4, E4, F4, hok4⟩ := FSl.elt hs1 hee
        have hok4_op := hok4.op
        have hok4_a := hok4.a
        have hok4_b := hok4.b
        have hok4_to := hok4.to
        refine rIxE E4 (by omega) rfl rfl ?_
        refine rLdA (H.fat F4) 0 rfl rfl rfl ?_
        refine rBuildSliceS H rfl rfl rfl rfl ?_
        clear H
        intro p4 w4 H
        clear w5
        refine rApS (ys := [⟨_, _, _, _, _⟩]) 48 H 1 rfl (H.at 0 rfl) rfl (fun y hy => by rw [List.mem_singleton.1 hy]; simp only [Go.Proofs.YtndhikahjmgamaaGreatDoor.Ins.enV, List.all_cons, List.all_nil, H.one 1 rfl, FSl.one hok4_to, FSl.one hs2, FSl.one hok3_to, FSl.one hs1, FSl.one hok2_to, FSl.one hok1_to, FSl.one hx]; rfl) rfl rfl rfl (by (simp only [List.length_append, List.length_set, List.length_cons, List.length_nil]; omega)) (by (simp only [List.length_append, List.length_set, List.length_cons, List.length_nil]; omega)) ?_
        intro v4
        clear H
        intro w5 H
        clear w4
        obtain ⟨a1, c2, rfl⟩ := H.form 1 rfl
        refine rBuild rfl rfl rfl ?_
        refine rStAS H 3 rfl rfl rfl rfl ?_
        clear H
        intro w4 H
        clear w5
        refine rdAN (H.at 3 rfl) 0 rfl rfl rfl ?_
        refine Done.mk ?_
        (refine H.frz1 1 (okV g) rfl (ok3 hok9 hokm heo) ?_; intro g1 HE hf H2; exact ⟨g1, 1 + n1, _, _, true, rfl, HE, hf.okm (fun _ _ h => h.ext HE), R7a hx0 hx1 C hA h2 _ hee, H2.tl.tl.tl⟩)
      replace c1 := vNe_f (c1)
      obtain ⟨b5, o4, E4, F4, hok4⟩ := FSl.elt hs1 heh
      have hok4_op := hok4.op
      have hok4_a := hok4.a
      have hok4_b := hok4.b
      have hok4_to := hok4.to
      refine rIxE E4 rfl rfl rfl ?_
      refine rFieldAt rfl ?_
      refine rLd (H.fat F4) 0 rfl rfl rfl ?_
      refine cI (fun c2 => ?_) (fun c2 => ?_)
      rotate_left
      · replace c2 := vEq_f (c2)
        refine eqI64 (by omega) ?_
        refine rBuild rfl rfl rfl ?_
        refine rStAS H 1 rfl rfl rfl rfl ?_
        clear H
        intro w5 H
        clear w4
        refine rdAN (H.at 1 rfl) 0 rfl rfl rfl ?_
        refine Done.mk ?_
        exact ⟨g, 1 + n1, _, [], true, rfl, Ext.refl _, FSl.nil0 _ _ _ _, R7c hx0 hx1 C hA h2 heh (by assumption), H.tl.tl⟩
      replace c2 := vEq_t (c2)
      refine drawzS H [] [(0, .pure), (1, .pure), (2, .held), (4, .pure), (5, .pure), (6, .pure), (7, .pure), (8, .pure), (3, .free), (9, .free), (10, .pure), (11, .free), (12, .pure)] mixed (by kernel_rfl) (by kernel_rfl) ?_
      clear H
      intro w5 H
      clear w4
      refine eqI64 (by omega) ?_
      refine tk (fun wx HS => rLdA (HS.at 0 rfl) 0 rfl rfl rfl ⟨rfl, rfl⟩) ?_
      refine eqI64 (by omega) ?_
      refine tkSlF hs1 ((n2) + 1) (n1) rfl rfl (by omega) (by omega) (.inr ⟨_, by first | rfl | (congr 2; omega)⟩) (.inr ⟨_, by first | rfl | (congr 2; omega)⟩) ?_
      intro v2 hs2
      refine rBuildSliceS H rfl rfl rfl rfl ?_
      clear H
      intro p3 w4 H
      clear w5
      refine H.ptSl (n := 1) (en := enV) (s := 4) 0 rfl [⟨2, y.a, 0, .slice none 0 0, []⟩] rfl rfl (fun _ => rfl) rfl ?_
      clear H
      intro H
      refine rApR 48 H 0 rfl (H.rd hs2) (by assumption) rfl rfl rfl (by omega) (by omega) ?_
      intro v3
      clear H
      intro w5 H
      clear w4
      obtain ⟨a8, c8, hv8⟩ := H.form 0 rfl
      subst hv8
      refine tk (fun wx HS => rBuild rfl rfl rfl ⟨rfl, rfl⟩) ?_
      refine rStAS H 2 rfl rfl rfl rfl ?_
      clear H
      intro w4 H
      clear w5
      refine rdAN (H.at 2 rfl) 0 rfl rfl rfl ?_
      refine Done.mk ?_
      (refine H.frz1 0 (okV g) rfl (ok2 hok9 hokn) ?_; intro g1 HE hf H2; exact ⟨g1, 1 + n1, _, _, true, rfl, HE, hf.okm (fun _ _ h => h.ext HE), R7b hx0 hx1 C hA h2 _ heh (by assumption), H2.tl.tl⟩)
    · refine rAllocS H rfl ?_
      clear H
      intro p1 w1 H
      refine rLenF hx rfl ?_
      refine br_f (vLt_F (by omega)) ?_
      obtain ⟨b1, o1, E1, F1, hok1⟩ := FSl.elt hx hx0
      have hok1_op := hok1.op
      have hok1_a := hok1.a
      have hok1_b := hok1.b
      have hok1_to := hok1.to
      refine rIxE E1 rfl rfl rfl ?_
      refine rLdA (H.fat F1) 0 rfl rfl rfl ?_
      refine CallP.mk (Fc.imp (Go.Proofs.YtndhikahjmgamaaGreatDoor.Fold.isNumberX H _ ?_) ?_)
      · assumption
      clear H
      rintro _ w2 ⟨b2, ⟨rfl, ⟨h1, H⟩⟩⟩
      refine br (fun c1 => ?_) (fun c1 => ?_)
      · replace c1 := iff_f h1 (not_t (c1))
        refine cT rfl ?_
        refine rBuild rfl rfl rfl ?_
        refine rStAS H 0 rfl rfl rfl rfl ?_
        clear H
        intro w3 H
        clear w2
        refine rdAN (H.at 0 rfl) 0 rfl rfl rfl ?_
        refine Done.mk ?_
        exact ⟨g, 0, _, [], _, rfl, Ext.refl _, FSl.nil0 _ _ _ _, RuleR.no (by intro hA; simp only [App, e0, e1, IsC, List.length_map] at hA; (try simp only [InsV.d] at hA); omega), H.tl⟩
      replace c1 := h1.1 (not_f (c1))
      obtain ⟨b3, o2, E2, F2, hok2⟩ := FSl.elt hx hx1
      have hok2_op := hok2.op
      have hok2_a := hok2.a
      have hok2_b := hok2.b
      have hok2_to := hok2.to
      refine rIxE E2 rfl rfl rfl ?_
      refine rFieldAt rfl ?_
      refine rLd (H.fat F2) 0 rfl rfl rfl ?_
      refine cT (vNe_T (by omega)) ?_
      refine rBuild rfl rfl rfl ?_
      refine rStAS H 0 rfl rfl rfl rfl ?_
      clear H
      intro w3 H
      clear w2
      refine rdAN (H.at 0 rfl) 0 rfl rfl rfl ?_
      refine Done.mk ?_
      exact ⟨g, 0, _, [], _, rfl, Ext.refl _, FSl.nil0 _ _ _ _, RuleR.no (by intro hA; simp only [App, e0, e1, IsC, List.length_map] at hA; (try simp only [InsV.d] at hA); omega), H.tl⟩
  · have h11 : x.op = 11 := Decidable.by_contra fun h => h2 (len2 hx0 hr h)
    refine rAllocS H rfl ?_
    clear H
    intro p1 w1 H
    refine rLenF hx rfl ?_
    refine br_t (vLt_T (by omega)) ?_
    refine cT rfl ?_
    refine rBuild rfl rfl rfl ?_
    refine rStAS H 0 rfl rfl rfl rfl ?_
    clear H
    intro w2 H
    clear w1
    refine rdAN (H.at 0 rfl) 0 rfl rfl rfl ?_
    refine Done.mk ?_
    exact ⟨g, 0, _, [], _, rfl, Ext.refl _, FSl.nil0 _ _ _ _, RuleR.no (by intro hA; simp only [App, e0, IsC, List.length_map] at hA; (try simp only [InsV.d] at hA); omega), H.tl⟩
end
end Go.Proofs.YtndhikahjmgamaaGreatDoor.Fold
/- Package fold: rules, first. -/
set_option maxRecDepth 100000
set_option maxHeartbeats 4000000
set_option linter.unusedVariables false
set_option linter.unusedSimpArgs false
namespace Go.Proofs.YtndhikahjmgamaaGreatDoor.Fold
open Go Go.Proofs.YtndhikahjmgamaaGreatDoor.Eng Go.RowKit
open Ins Nest Leb Bin Valid
def rId : Nat → Nat
  | 0 => 45
  | 1 => 46
  | 2 => 47
  | 3 => 48
  | 4 => 49
  | 5 => 50
  | 6 => 51
  | 7 => 52
  | 8 => 53
  | 9 => 54
  | 10 => 55
  | _ => 0
def enR (k : Nat) : List Value := [.func (.func (rId k)) #[] #[]]
def okN (_ : Nat) : Prop := True
structure FirR (a b : List InsD) (q : Bool) : Prop where
  yes : q = true → Sofar a b ∧ b.length < a.length ∧ ¬ NoRule a ∧ Step a b
  no : q = false → b = a ∧ NoRule a
theorem fir_no {a : List InsD} {i : Nat} (h : ∀ j, j < i → ∀ k, k < 11 → ¬ App k (a.drop j)) (hi : a.length ≤ i) : FirR a a false := ⟨nofun, fun _ => ⟨rfl, fun j hj => h j (by omega)⟩⟩
theorem no_snoc {a : List InsD} {i : Nat} (h : ∀ j, j < i → ∀ k, k < 11 → ¬ App k (a.drop j)) (h2 : ∀ k, k < 11 → ¬ App k (a.drop i)) : ∀ j, j < i + 1 → ∀ k, k < 11 → ¬ App k (a.drop j) := by
  intro j hj
  by_cases e : j = i
  · subst e; exact h2
  · exact h j (by omega)
theorem app_snoc {ls : List InsD} {k : Nat} (h : ∀ j, j < k → ¬ App j ls) (h2 : ¬ App k ls) : ∀ j, j < k + 1 → ¬ App j ls := by
  intro j hj
  by_cases e : j = k
  · subst e; exact h2
  · exact h j (by omega)
theorem drop_map {xs : List InsV} {i : Nat} : List.map InsV.d (List.drop i (List.take xs.length xs)) = (xs.map InsV.d).drop i := by rw [List.take_length, List.map_drop]
theorem fir_facts {xs news : List InsV} {i k gone : Nat} (hc : chkB (xs.map InsV.d) = 0) (hi : i < xs.length) (hk : k < 11) (R : RuleR k (List.map InsV.d (List.drop i (List.take xs.length xs))) gone (news.map InsV.d) true) : i + gone ≤ xs.length ∧ news.length ≤ 200 ∧ FirR (xs.map InsV.d) (List.map InsV.d (([] ++ List.drop 0 (List.take i xs)) ++ news ++ List.drop (i + gone) (List.take xs.length xs))) true := by
  rw [drop_map] at R
  have hT := R.tn rfl
  have hlen : (xs.map InsV.d).length = xs.length := List.length_map _
  obtain ⟨q1, q2, q3⟩ := (Sofar.zero hc).turn (by rw [hlen]; exact hi) hT
  rw [hlen] at q3
  have hl := (chk_iff.1 hc).1
  have e : List.map InsV.d (([] ++ List.drop 0 (List.take i xs)) ++ news ++ List.drop (i + gone) (List.take xs.length xs)) = (xs.map InsV.d).take i ++ news.map InsV.d ++ ((xs.map InsV.d).drop i).drop gone := by
    simp [List.take_length, List.drop_drop]
  refine ⟨q3, ?_, ?_⟩
  · have h := q2
    rw [List.length_append, List.length_append, List.length_map] at h
    omega
  · rw [e]
    exact ⟨fun _ => ⟨q1, q2, fun h => h i (by rw [hlen]; exact hi) k hk (R.app.1 rfl), ⟨i, k, gone, _, by rw [hlen]; exact hi, R.app.1 rfl, hT, rfl⟩⟩, nofun⟩
section
variable {g : Glob} {w : World} {l : List As}
theorem rulesX (H : Sat g w l) : Fc Tryz.prog 22 #[] w (fun r w' => ∃ g', Ext g g' ∧ FSl g' enR okN 1 r (List.range 11) ∧ Sat g' w' l) := by
  refine Fc.of Tryz.func22 rfl (by kernel_rfl) ?_
  refine rBuildSliceS H rfl rfl rfl rfl ?_
  clear H
  intro p1 w1 H
  refine Done.mk ?_
  (refine H.ptSl (n := 11) (en := enR) (s := 1) 0 rfl [0, 1, 2, 3, 4, 5, 6, 7, 8, 9, 10] rfl rfl (fun _ => rfl) rfl ?_; intro H1; refine H1.frz1 0 okN rfl (fun _ _ => trivial) ?_; intro g1 HE hf H2; exact ⟨g1, HE, hf, H2⟩)
theorem ruleAny (k : Nat) (hk : k < 11) (H : Sat g w l) (v : Value) (xs : List InsV) (hx : FSl g enV (okV g) 4 v xs) (z : Int) (s : List Int) (hr : run (xs.map InsV.d) (z :: s) = some []) (hl : xs.length ≤ 200) (hp : 0 < xs.length) (hB : BmF g) : Fc Tryz.prog (rId k) #[v] w (fun r w' => ∃ (g' : Glob) (gone : Nat) (nv : Value) (news : List InsV) (b : Bool), r = .tuple #[.agg #[.int .i64 gone, nv], .bool b] ∧ Ext g g' ∧ FSl g' enV (okV g') 4 nv news ∧ RuleR k (xs.map InsV.d) gone (news.map InsV.d) b ∧ Sat g' w' l) :=
  match k, hk with
  | 0, _ => rule0 H v xs hx z s hr hl hp
  | 1, _ => rule1 H v xs hx z s hr hl hp hB
  | 2, _ => rule2 H v xs hx z s hr hl hp hB
  | 3, _ => rule3 H v xs hx z s hr hl hp
  | 4, _ => rule4 H v xs hx z s hr hl hp
  | 5, _ => rule5 H v xs hx z s hr hl hp
  | 6, _ => rule6 H v xs hx z s hr hl hp
  | 7, _ => rule7 H v xs hx z s hr hl hp
  | 8, _ => rule8 H v xs hx z s hr hl hp
  | 9, _ => rule9 H v xs hx z s hr hl hp
  | 10, _ => rule10 H v xs hx z s hr hl hp
  | k + 11, h => absurd h (by omega)
end
end Go.Proofs.YtndhikahjmgamaaGreatDoor.Fold
/- Package fold: first. -/
set_option maxRecDepth 100000
set_option maxHeartbeats 4000000
set_option linter.unusedVariables false
set_option linter.unusedSimpArgs false
namespace Go.Proofs.YtndhikahjmgamaaGreatDoor.Fold
open Go Go.Proofs.YtndhikahjmgamaaGreatDoor.Eng Go.RowKit
open Ins Nest Leb Bin Valid
theorem range_get {k : Nat} (h : k < 11) : (List.range 11)[k]? = some k := by simp [h]
section
variable {g : Glob} {w : World} {l : List As}
attribute [local irreducible] rId
theorem firstX (H : Sat g w l) (hB : BmF g) (v : Value) (xs : List InsV) (hx : FSl g enV (okV g) 4 v xs) (hc : chkB (xs.map InsV.d) = 0) (vr : Value) (hr : FSl g enR okN 1 vr (List.range 11)) : Fc Tryz.prog 23 #[v, vr] w (fun r w' => ∃ (g' : Glob) (nv : Value) (ys : List InsV) (b : Bool), r = .tuple #[nv, .bool b] ∧ Ext g g' ∧ FSl g' enV (okV g') 4 nv ys ∧ FirR (xs.map InsV.d) (ys.map InsV.d) b ∧ Sat g' w' l) := by
  obtain ⟨hl, hrun⟩ := chk_iff.1 hc
  rw [List.length_map] at hl
  refine Fc.of Tryz.func23 rfl (by kernel_rfl) ?_
  refine rLenF hx rfl ?_
  refine LoopP.rule (α := Glob × Nat) (g, 0) (fun x_ => [(14, .int .i64 x_.2)]) (fun x_ w_ => (Ext g x_.1) ∧ (x_.2 ≤ xs.length) ∧ (∀ j, j < x_.2 → ∀ k, k < 11 → ¬ App k ((xs.map InsV.d).drop j)) ∧ Sat x_.1 w_ (l)) (fun x_ => xs.length - x_.2) ?_ ?_ ?_
  · repeat first | exact mt_nil | refine mt_cons rfl ?_ | refine mt_i rfl (by first | omega | (simp only; omega) | (simp; omega) | (simp; done)) ?_
  · try simp only
    refine ⟨?_, ?_⟩
    · exact Ext.refl _
    refine ⟨?_, ?_⟩
    · omega
    refine ⟨?_, ?_⟩
    · exact nofun
    exact H
  clear H
  rintro ⟨g1, i⟩ f_ w_ ⟨E, hi, hN, H⟩
  try simp only at E hi hN H ⊢
  have hx1 : FSl g1 enV (okV g1) 4 v xs := FSl.extN (ok := okV) (fun _ _ _ h E => h.ext E) hx E
  have hr1 := hr.ext E
  have hB1 := hB.ext E
  rcases Nat.lt_or_ge i xs.length with hlt | hge
  · refine cT (vLt_T (by omega)) ?_
    refine bk ?_
    refine rLenF hr1 rfl ?_
    have hne : (xs.map InsV.d).drop i ≠ [] := fun e => by
      have := congrArg List.length e
      simp at this; omega
    obtain ⟨z, t, hz1, hz2⟩ := run_pre ((xs.map InsV.d).take i) ((xs.map InsV.d).drop i) [2] (by rw [List.take_append_drop]; exact hrun) hne
    refine LoopP.rule (α := Glob × Nat) (g1, 0) (fun x_ => [(19, .int .i64 x_.2)]) (fun x_ w_ => (Ext g1 x_.1) ∧ (x_.2 ≤ 11) ∧ (∀ j, j < x_.2 → ¬ App j ((xs.map InsV.d).drop i)) ∧ Sat x_.1 w_ (l)) (fun x_ => 11 - x_.2) ?_ ?_ ?_
    · repeat first | exact mt_nil | refine mt_cons rfl ?_ | refine mt_i rfl (by first | omega | (simp only; omega) | (simp; omega) | (simp; done)) ?_
    · try simp only
      refine ⟨?_, ?_⟩
      · exact Ext.refl _
      refine ⟨?_, ?_⟩
      · omega
      refine ⟨?_, ?_⟩
      · exact nofun
      exact H
    clear H
    rintro ⟨g2, k⟩ f_ w_ ⟨E2, hk, hM, H⟩
    try simp only at E2 hk hM H ⊢
    have hx2 : FSl g2 enV (okV g2) 4 v xs := FSl.extN (ok := okV) (fun _ _ _ h E => h.ext E) hx1 E2
    have hr2 := hr1.ext E2
    have hB2 := hB1.ext E2
    clear hx hr hB hx1 hr1 hB1
    rcases Nat.lt_or_ge k 11 with hlk | hgk
    · have hkx := range_get hlk
      have hrl : (List.range 11).length = 11 := rfl
      have cR : ∀ (w : World) (l : List As) (v1 : Value) (H : Sat g2 w l) (h : FSl g2 enV (okV g2) 4 v1 (List.drop i (List.take xs.length xs))), Fc Tryz.prog (rId k) #[v1] w _ := fun w l v1 H h => ruleAny (w := w) (l := l) k hlk H v1 _ h z t (by rw [drop_map]; exact hz2) (by simp; omega) (by simp; omega) hB2
      refine cT (vLt_T (by omega)) ?_
      refine bk ?_
      obtain ⟨b1, o1, E1, F1, hok1⟩ := FSl.elt hr2 hkx
      refine rIxE E1 rfl rfl rfl ?_
      refine rLd (H.fat F1) 0 rfl rfl rfl ?_
      refine rSlF hx2 (i) (xs).length rfl rfl (by omega) (by omega) (.inr ⟨_, by first | rfl | (congr 2; omega)⟩) (.inl ⟨rfl, rfl⟩) ?_
      intro v1 hs1
      refine CallP.mk (Fc.imp (cR _ _ _ H hs1) ?_)
      clear H
      rintro _ w9 ⟨g3, gone, nv, news, b, rfl, E3, hnv, hR, H⟩
      clear cR
      obtain ⟨a8, c8, rfl⟩ := FSl.form hnv
      have hx3 : FSl g3 enV (okV g3) 4 v xs := FSl.extN (ok := okV) (fun _ _ _ h E => h.ext E) hx2 E3
      have hr3 := hr2.ext E3
      have hB3 := hB2.ext E3
      have E4 := E2.trans E3
      have E5 := E.trans E4
      clear hx2 hr2 hB2 hs1 E2 E3 E
      cases b
      · have hA : ¬ App k ((xs.map InsV.d).drop i) := fun h => by
          rw [drop_map] at hR
          have := hR.app.2 h
          cases this
        refine rAllocS H rfl ?_
        clear H
        intro p1 w1 H
        clear w9
        refine rStAS H 0 rfl rfl rfl rfl ?_
        clear H
        intro w2 H
        clear w1
        refine cF rfl ?_
        refine eqI64 (by omega) ?_
        refine Nxt.mk ((g3, k + 1)) (mt_i rfl (by first | omega | (simp only; omega) | (simp; omega)) (mt_nil)) ?_ ?_
        · refine ⟨?_, ?_⟩
          · assumption
          refine ⟨?_, ?_⟩
          · assumption
          refine ⟨?_, ?_⟩
          · exact app_snoc hM hA
          refine H.drop 0 ?_
          clear H
          intro H
          exact H
        omega
      · obtain ⟨f1, f2, f3⟩ := fir_facts hc hlt hlk hR
        have ho1 : ∀ y ∈ List.drop 0 (List.take i xs), ((enV y).all (·.oneCell')) = true := fun y h => cells_ok (FSl.all hx3 y (List.mem_of_mem_take (List.mem_of_mem_drop h)))
        have ho2 : ∀ y ∈ news, ((enV y).all (·.oneCell')) = true := fun y h => cells_ok (FSl.all hnv y h)
        have ho3 : ∀ y ∈ List.drop (i + gone) (List.take xs.length xs), ((enV y).all (·.oneCell')) = true := fun y h => cells_ok (FSl.all hx3 y (List.mem_of_mem_take (List.mem_of_mem_drop h)))
        have hb1 : (List.drop 0 (List.take i xs)).length ≤ 200 := by simp; omega
        have hb2 : (List.drop (i + gone) (List.take xs.length xs)).length ≤ 200 := by simp; omega
        have hb3 : ([] : List InsV).length = 0 := rfl
        have hok : ∀ y ∈ (([] ++ List.drop 0 (List.take i xs)) ++ news) ++ List.drop (i + gone) (List.take xs.length xs), okV g3 y := by
          intro y hy
          simp only [List.nil_append, List.mem_append] at hy
          rcases hy with (hy | hy) | hy
          · exact FSl.all hx3 y (List.mem_of_mem_take (List.mem_of_mem_drop hy))
          · exact FSl.all hnv y hy
          · exact FSl.all hx3 y (List.mem_of_mem_take (List.mem_of_mem_drop hy))
        refine rAllocS H rfl ?_
        clear H
        intro p1 w1 H
        clear w9
        refine rStAS H 0 rfl rfl rfl rfl ?_
        clear H
        intro w2 H
        clear w1
        refine cT rfl ?_
        refine rSlF hx3 0 (i) rfl rfl (by omega) (by omega) (.inl ⟨rfl, rfl⟩) (.inr ⟨_, by first | rfl | (congr 2; omega)⟩) ?_
        intro v2 hs1
        replace H := H.sl0 (en := enV) (s := 4) (40) (fun _ => rfl)
        refine rApR 48 H 0 rfl (H.rd hs1) (by assumption) rfl rfl rfl (by omega) (by omega) ?_
        intro v3
        clear H
        intro w1 H
        clear w2
        refine rFieldAt rfl ?_
        refine rLd (H.at 1 rfl) 1 rfl rfl rfl ?_
        refine rApR 48 H 0 rfl (H.rd hnv) (by assumption) rfl rfl rfl (by (simp only [List.length_append, List.length_set, List.length_cons, List.length_nil]; omega)) (by (simp only [List.length_append, List.length_set, List.length_cons, List.length_nil]; omega)) ?_
        intro v4
        clear H
        intro w2 H
        clear w1
        refine rFieldAt rfl ?_
        refine rLd (H.at 1 rfl) 0 rfl rfl rfl ?_
        refine eqI64 (by omega) ?_
        refine rSlF hx3 ((i) + (gone)) (xs).length rfl rfl (by omega) (by omega) (.inr ⟨_, by first | rfl | (congr 2; omega)⟩) (.inl ⟨rfl, rfl⟩) ?_
        intro v5 hs2
        refine rApR 48 H 0 rfl (H.rd hs2) (by assumption) rfl rfl rfl (by (simp only [List.length_append, List.length_set, List.length_cons, List.length_nil]; omega)) (by (simp only [List.length_append, List.length_set, List.length_cons, List.length_nil]; omega)) ?_
        intro v6
        clear H
        intro w1 H
        clear w2
        refine Done.mk ?_
        (refine H.frz1 0 (okV g3) rfl hok ?_; intro g4 HE hf H2; exact ⟨g4, _, _, true, rfl, E5.trans HE, hf.okm (fun _ _ h => h.ext HE), f3, H2.tl⟩)
    · have hrl : (List.range 11).length = 11 := rfl
      have E5 := E.trans E2
      refine cF (vLt_F (by omega)) ?_
      refine eqI64 (by omega) ?_
      refine Nxt.mk ((g2, i + 1)) (mt_i rfl (by first | omega | (simp only; omega) | (simp; omega)) (mt_nil)) ?_ ?_
      · refine ⟨?_, ?_⟩
        · assumption
        refine ⟨?_, ?_⟩
        · assumption
        refine ⟨?_, ?_⟩
        · exact no_snoc hN (fun k hk => hM k (by omega))
        exact H
      omega
  · refine cF (vLt_F (by omega)) ?_
    refine Done.mk ?_
    refine ⟨g1, v, xs, false, ?_⟩
    refine ⟨?_, ?_⟩
    · rfl
    refine ⟨?_, ?_⟩
    · assumption
    refine ⟨?_, ?_⟩
    · assumption
    refine ⟨?_, ?_⟩
    · exact fir_no hN (by rw [List.length_map]; exact hge)
    exact H
end
end Go.Proofs.YtndhikahjmgamaaGreatDoor.Fold
/- Package fold: Body. -/
set_option maxRecDepth 100000
set_option maxHeartbeats 4000000
set_option linter.unusedVariables false
set_option linter.unusedSimpArgs false
namespace Go.Proofs.YtndhikahjmgamaaGreatDoor.Fold
open Go Go.Proofs.YtndhikahjmgamaaGreatDoor.Eng Go.RowKit
open Ins Nest Leb Bin Valid
theorem Sofar.trans {a b c : List InsD} (h : Sofar a b) (h2 : Sofar b c) : Sofar a c := ⟨h2.chk, Nat.le_trans h2.len h.len, Int.le_trans h2.hi h.hi, Nat.le_trans h2.cn h.cn⟩
/-- What optimizing has come to. -/
structure BI (a z : List InsD) (b : Bool) : Prop where
  so : Sofar a z
  q : b = false → NoRule z
  n : NoRule a → z = a
  re : Reach a z
theorem BI.zero {a : List InsD} (h : chkB a = 0) : BI a a true := ⟨.zero h, nofun, fun _ => rfl, .refl⟩
theorem BI.step {a z z' : List InsD} {q : Bool} (h : BI a z true) (F : FirR z z' q) : BI a z' q ∧ 2 * z'.length + q.toNat < 2 * z.length + 1 := by
  cases q with
  | true =>
    obtain ⟨f1, f2, f3, f4⟩ := F.yes rfl
    exact ⟨⟨h.so.trans f1, nofun, fun hn => absurd (h.n hn ▸ hn) f3, .tail h.re h.so.chk f4⟩, by simp; omega⟩
  | false =>
    obtain ⟨rfl, f2⟩ := F.no rfl
    exact ⟨⟨h.so, fun _ => f2, h.n, h.re⟩, by simp⟩
structure BodR (a b : List InsD) (e : Int) : Prop where
  no : e ≠ 0 → b = []
  so : e = 0 → BI a b false
theorem set_map {ys : List InsV} {i : Nat} {y y2 : InsV} (h : ys[i]? = some y) (hd : y2.d = y.d) : (ys.set i y2).map InsV.d = ys.map InsV.d := by
  rw [List.map_set, hd]
  refine List.ext_getElem? fun j => ?_
  rw [List.getElem?_set]
  by_cases e : i = j
  · subst e
    have hl := (List.getElem?_eq_some_iff.1 h).1
    rw [if_pos rfl, if_pos (by rw [List.length_map]; exact hl), List.getElem?_map, h]; rfl
  · rw [if_neg e]
theorem set_ok2 {ys : List InsV} {i : Nat} {y2 : InsV} {ok : InsV → Prop} (h : ∀ y ∈ ys, ok y) (h2 : ok y2) : ∀ y ∈ ys.set i y2, ok y := by
  intro y hy
  rcases List.mem_or_eq_of_mem_set hy with h3 | h3
  · exact h y h3
  · rw [h3]; exact h2
section
variable {g : Glob} {w : World} {l : List As}
theorem bodyX (H : Sat g w l) (hB : BmF g) (v : Value) (xs : List InsV) (hx : FSl g enV (okV g) 4 v xs) : Fc Tryz.prog 10 #[v] w (fun r w' => ∃ (g' : Glob) (nv : Value) (ys : List InsV) (e : Int), r = .tuple #[nv, .int .i64 e] ∧ e = chkB (xs.map InsV.d) ∧ Ext g g' ∧ FSl g' enV (okV g') 4 nv ys ∧ BodR (xs.map InsV.d) (ys.map InsV.d) e ∧ Sat g' w' l) := by
  refine Fc.of Tryz.func10 rfl (by kernel_rfl) ?_
  by_cases hc : chkB (xs.map InsV.d) = 0
  · have hl := (chk_iff.1 hc).1
    rw [List.length_map] at hl
    obtain ⟨_, hS, _⟩ := chkB_ok hc
    refine CallP.mk (Fc.imp (Go.Proofs.YtndhikahjmgamaaGreatDoor.Nest.check H _ _ hx) ?_)
    clear H
    rintro _ w1 ⟨⟨e1, ⟨rfl, h1⟩⟩, H⟩
    refine cF (vNe_F (by omega)) ?_
    refine CallP.mk (Fc.imp (Go.Proofs.YtndhikahjmgamaaGreatDoor.Fold.cloneV H _ _ hx ?_) ?_)
    · omega
    clear H
    rintro v' w2 H
    refine rLenS H 0 rfl rfl ?_
    refine LoopP.rule (α := Glob × Nat × List InsV) (g, 0, xs) (fun x_ => [(17, .int .i64 x_.2.1)]) (fun x_ w_ => (Ext g x_.1) ∧ (x_.2.1 ≤ xs.length) ∧ (x_.2.2.map InsV.d = xs.map InsV.d) ∧ (∀ y ∈ x_.2.2, okV x_.1 y) ∧ Sat x_.1 w_ ((Sl 40 4 enV v' x_.2.2 :: l))) (fun x_ => xs.length - x_.2.1) ?_ ?_ ?_
    · repeat first | exact mt_nil | refine mt_cons rfl ?_ | refine mt_i rfl (by first | omega | (simp only; omega) | (simp; omega) | (simp; done)) ?_
    · try simp only
      refine ⟨?_, ?_⟩
      · exact Ext.refl _
      refine ⟨?_, ?_⟩
      · omega
      refine ⟨?_, ?_⟩
      · (constructor <;> omega)
      refine ⟨?_, ?_⟩
      · exact fun y hy => FSl.all hx y hy
      exact H
    clear H
    rintro ⟨g1, i, ys⟩ f_ w_ ⟨E, hi, hd, ho, H⟩
    try simp only at E hi hd ho H ⊢
    have hyl : ys.length = xs.length := by have := congrArg List.length hd; simpa using this
    rcases Nat.lt_or_ge i xs.length with hlt | hge
    · obtain ⟨y, hy⟩ : ∃ y, ys[i]? = some y := ⟨_, List.getElem?_eq_getElem (by omega)⟩
      have hyo := ho y (List.mem_of_getElem? hy)
      have hyd : (xs.map InsV.d)[i]? = some y.d := by rw [← hd, List.getElem?_map, hy]; rfl
      have hto := (chk_0 (hS i _ (by rw [List.length_map]; exact hlt) hyd).1).2.1
      have hto2 : y.to.length ≤ 16 := hto
      have hyo_to := hyo.to
      refine cT (vLt_T (by omega)) ?_
      refine bk ?_
      obtain ⟨b1, o1, E1⟩ := H.elt 0 rfl (i) (by omega)
      refine rIxE E1 rfl rfl rfl ?_
      refine rFieldAt rfl ?_
      refine rLd (H.el 0 rfl E1 hy) 3 rfl rfl rfl ?_
      refine CallP.mk (Fc.imp (Go.Proofs.YtndhikahjmgamaaGreatDoor.Fold.cloneI H _ _ hyo_to ?_) ?_)
      · omega
      clear H
      rintro va' w3 H
      refine H.frz1 0 okI rfl (FSl.all hyo_to) ?_
      intro g9 HE hf
      clear H
      intro H
      obtain ⟨a7, c7, rfl⟩ := FSl.form hf
      replace hyo_to := FSl.ext hyo_to HE
      replace hyo := hyo.ext HE
      replace ho := fun y hy => (ho y hy).ext HE
      replace E := E.trans HE
      clear HE
      refine rIxE E1 rfl rfl rfl ?_
      refine rFieldAt rfl ?_
      refine rStE H 0 rfl E1 hy 3 ⟨y.op, y.a, y.b, .slice a7 y.to.length c7, y.to⟩ rfl rfl rfl rfl ?_
      clear H
      intro w9 H
      refine eqI64 (by omega) ?_
      refine Nxt.mk ((g9, i + 1, ys.set i { op := y.op, a := y.a, b := y.b, tv := Value.slice a7 y.to.length c7, «to» := y.to })) (mt_i rfl (by first | omega | (simp only; omega) | (simp; omega)) (mt_nil)) ?_ ?_
      · refine ⟨?_, ?_⟩
        · assumption
        refine ⟨?_, ?_⟩
        · assumption
        refine ⟨?_, ?_⟩
        · exact (set_map (y2 := ⟨y.op, y.a, y.b, .slice a7 y.to.length c7, y.to⟩) hy rfl).trans hd
        refine ⟨?_, ?_⟩
        · exact set_ok2 ho ⟨hyo.op, hyo.a, hyo.b, hf⟩
        exact H
      (simp only [List.length_append, List.length_set, List.length_cons, List.length_nil]; omega)
    · refine cF (vLt_F (by omega)) ?_
      refine CallP.mk (Fc.imp (Go.Proofs.YtndhikahjmgamaaGreatDoor.Fold.rulesX H) ?_)
      clear H
      rintro va' w3 ⟨g'1, ⟨HE, ⟨h2, H⟩⟩⟩
      replace ho := fun y hy => (ho y hy).ext HE
      replace E := E.trans HE
      clear HE
      refine H.frz1 0 (okV g'1) rfl ho ?_
      intro g2 HE hY
      clear H
      intro H
      have E2 := E.trans HE
      have hY2 : FSl g2 enV (okV g2) 4 v' ys := hY.okm (fun _ _ h => h.ext HE)
      have hR2 := h2.ext HE
      have hB2 := hB.ext E2
      clear HE hY h2 hB E ho
      refine LoopP.rule (α := Glob × Value × List InsV × Bool) (g2, v', ys, true) (fun x_ => [(0, x_.2.1), (7, .bool x_.2.2.2)]) (fun x_ w_ => (Ext g2 x_.1) ∧ (FSl x_.1 enV (okV x_.1) 4 x_.2.1 x_.2.2.1) ∧ (BI (xs.map InsV.d) (x_.2.2.1.map InsV.d) x_.2.2.2) ∧ Sat x_.1 w_ (l)) (fun x_ => 2 * x_.2.2.1.length + x_.2.2.2.toNat) ?_ ?_ ?_
      · repeat first | exact mt_nil | refine mt_cons rfl ?_ | refine mt_i rfl (by first | omega | (simp only; omega) | (simp; omega) | (simp; done)) ?_
      · try simp only
        refine ⟨?_, ?_⟩
        · exact Ext.refl _
        refine ⟨?_, ?_⟩
        · assumption
        refine ⟨?_, ?_⟩
        · (rw [hd]; exact BI.zero hc)
        exact H
      clear H
      rintro ⟨g3, vz, zs, b⟩ f_ w_ ⟨E, hZ, hI, H⟩
      try simp only at E hZ hI H ⊢
      have hR3 := hR2.ext E
      have hB3 := hB2.ext E
      have hcz := hI.so.chk
      have E3 := E2.trans E
      clear hR2 hB2
      cases b
      · refine cF rfl ?_
        refine Done.mk ?_
        refine ⟨g3, vz, zs, 0, ?_⟩
        refine ⟨?_, ?_⟩
        · rfl
        refine ⟨?_, ?_⟩
        · omega
        refine ⟨?_, ?_⟩
        · assumption
        refine ⟨?_, ?_⟩
        · assumption
        refine ⟨?_, ?_⟩
        · exact ⟨fun h => absurd rfl h, fun _ => hI⟩
        exact H
      · refine cT rfl ?_
        refine bk ?_
        refine CallP.mk (Fc.imp (Go.Proofs.YtndhikahjmgamaaGreatDoor.Fold.firstX H ?_ _ _ hZ ?_ _ hR3) ?_)
        · assumption
        · assumption
        clear H
        rintro _ w4 ⟨g'2, ⟨nv1, ⟨ys1, ⟨b1, ⟨rfl, ⟨HE, ⟨h2, ⟨h3, H⟩⟩⟩⟩⟩⟩⟩⟩
        replace E3 := E3.trans HE
        replace hB3 := hB3.ext HE
        replace hR3 := FSl.ext hR3 HE
        replace hZ := FSl.extN (ok := Go.Proofs.YtndhikahjmgamaaGreatDoor.Ins.okV) (fun _ _ _ h E => Go.Proofs.YtndhikahjmgamaaGreatDoor.Ins.okV.ext h E) hZ HE
        replace E := E.trans HE
        clear HE
        obtain ⟨s1, s2⟩ := hI.step (by assumption)
        rw [List.length_map, List.length_map] at s2
        refine Nxt.mk ((g'2, nv1, ys1, b1)) (mt_cons rfl (mt_cons rfl (mt_nil))) ?_ ?_
        · refine ⟨?_, ?_⟩
          · assumption
          refine ⟨?_, ?_⟩
          · assumption
          refine ⟨?_, ?_⟩
          · assumption
          exact H
        assumption
  · refine CallP.mk (Fc.imp (Go.Proofs.YtndhikahjmgamaaGreatDoor.Nest.check H _ _ hx) ?_)
    clear H
    rintro _ w1 ⟨⟨e1, ⟨rfl, h1⟩⟩, H⟩
    refine cT (vNe_T (by omega)) ?_
    refine Done.mk ?_
    exact ⟨g, _, [], _, rfl, by assumption, Ext.refl _, FSl.nil0 _ _ _ _, ⟨fun _ => rfl, fun h => absurd (h1.symm.trans h) hc⟩, H⟩
end
end Go.Proofs.YtndhikahjmgamaaGreatDoor.Fold
