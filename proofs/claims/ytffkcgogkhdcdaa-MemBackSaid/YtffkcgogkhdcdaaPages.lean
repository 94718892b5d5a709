/- Package mem: pages, Of, Put, Bytes, All. -/
import Derived.Test.YtffkcgogkhdcdaaBase
import Derived.Test.YtffkcgogkhdcdaaPag
set_option maxRecDepth 100000
set_option maxHeartbeats 4000000
set_option linter.unusedVariables false
set_option linter.unusedSimpArgs false
namespace Go.Proofs.Ytffkcgogkhdcdaa.Mem
open Go Go.Proofs.Ytffkcgogkhdcdaa.Eng Go.RowKit
structure Page where
  l : List UInt8
  h : l.length = 256
def enP (p : Page) : List Value := p.l.flatMap enY
theorem enP_len (p : Page) : (enP p).length = 256 := by
  unfold enP; rw [flat_len enY1, p.h]
def zp : Page := ⟨List.replicate 256 0, List.length_replicate ..⟩
def flat (ps : List Page) : List UInt8 := ps.flatMap (·.l)
theorem flat_length : ∀ ps : List Page, (flat ps).length = 256 * ps.length
  | [] => rfl
  | p :: ps => by
    have := flat_length ps
    unfold flat at this ⊢
    rw [List.flatMap_cons, List.length_append, p.h, this, List.length_cons]; omega
theorem flat_get : ∀ (ps : List Page) (q : Nat), (flat ps)[q]? = (ps[q / 256]?).bind (fun p => p.l[q % 256]?)
  | [], q => by simp [flat]
  | p :: ps, q => by
    have ih := flat_get ps (q - 256)
    unfold flat at ih ⊢
    rw [List.flatMap_cons, List.getElem?_append, p.h]
    by_cases h : q < 256
    · rw [if_pos h, Nat.div_eq_of_lt h, Nat.mod_eq_of_lt h]; rfl
    · rw [if_neg h, ih, show q / 256 = (q - 256) / 256 + 1 by omega, show q % 256 = (q - 256) % 256 by omega]; rfl
/-- zs is written over xs from a on. -/
def ow (xs : List UInt8) (a : Nat) (zs : List UInt8) : List UInt8 := xs.take a ++ zs ++ xs.drop (a + zs.length)
theorem ow_len {xs zs : List UInt8} {a : Nat} (h : a + zs.length ≤ xs.length) : (ow xs a zs).length = xs.length := by
  unfold ow
  rw [List.length_append, List.length_append, List.length_take, List.length_drop]; omega
theorem ow_get {xs zs : List UInt8} {a : Nat} (h : a + zs.length ≤ xs.length) (q : Nat) : (ow xs a zs)[q]? = if a ≤ q ∧ q < a + zs.length then zs[q - a]? else xs[q]? := by
  unfold ow
  rw [List.append_assoc, List.getElem?_append, List.getElem?_append, List.length_take, Nat.min_eq_left (by omega), List.getElem?_take, List.getElem?_drop]
  by_cases h1 : q < a
  · rw [if_pos h1, if_pos h1, if_neg (by omega)]
  · rw [if_neg h1]
    by_cases h2 : q - a < zs.length
    · rw [if_pos h2, if_pos (by omega)]
    · rw [if_neg h2, if_neg (by omega)]; congr 1; omega
theorem ow_nil (xs : List UInt8) (a : Nat) : ow xs a [] = xs := by
  unfold ow; simp
theorem ow_ow {xs ys zs : List UInt8} {a : Nat} (h : a + ys.length + zs.length ≤ xs.length) : ow (ow xs a ys) (a + ys.length) zs = ow xs a (ys ++ zs) := by
  apply List.ext_getElem?
  intro q
  rw [ow_get (by rw [ow_len (by omega)]; omega), ow_get (by omega), ow_get (by rw [List.length_append]; omega), List.length_append, List.getElem?_append]
  by_cases h1 : a + ys.length ≤ q ∧ q < a + ys.length + zs.length
  · rw [if_pos h1, if_pos (by omega), if_neg (by omega)]; congr 1; omega
  · rw [if_neg h1]
    by_cases h2 : a ≤ q ∧ q < a + ys.length
    · rw [if_pos h2, if_pos (by omega), if_pos (by omega)]
    · rw [if_neg h2, if_neg (by omega)]
/-- One page is written over. -/
def owP (p : Page) (k : Nat) (zs : List UInt8) (h : k + zs.length ≤ 256) : Page := ⟨ow p.l k zs, by rw [ow_len (by rw [p.h]; exact h), p.h]⟩
theorem flat_set {ps : List Page} {i k : Nat} {p : Page} {zs : List UInt8} (hp : ps[i]? = some p) (h : k + zs.length ≤ 256) (hk : k < 256) : flat (ps.set i (owP p k zs h)) = ow (flat ps) (256 * i + k) zs := by
  have hi := (List.getElem?_eq_some_iff.1 hp).1
  apply List.ext_getElem?
  intro q
  rw [ow_get (by rw [flat_length]; omega), flat_get, flat_get, List.getElem?_set]
  by_cases h1 : i = q / 256
  · subst h1
    rw [if_pos rfl, if_pos hi, hp]
    show (ow p.l k zs)[q % 256]? = _
    rw [ow_get (by rw [p.h]; exact h)]
    by_cases h2 : k ≤ q % 256 ∧ q % 256 < k + zs.length
    · rw [if_pos h2, if_pos (by omega)]; congr 1; omega
    · rw [if_neg h2, if_neg (by omega)]; rfl
  · rw [if_neg h1, if_neg (by omega)]
theorem setsY : ∀ (zs : List UInt8) (xs : List UInt8) (k : Nat), k + zs.length ≤ xs.length → setsL (xs.flatMap enY) k (zs.flatMap enY) = (ow xs k zs).flatMap enY := by
  intro zs xs k h
  rw [setsL_eq _ _ _ (by rw [flat_len enY1, flat_len enY1]; omega)]
  unfold ow
  rw [List.flatMap_append, List.flatMap_append, flat_len enY1, Nat.mul_one]
  have ht := flat_take (en := enY) enY1 xs k (by omega)
  have hd := flat_drop (en := enY) enY1 xs (k + zs.length) (by omega)
  rw [Nat.mul_one] at ht hd
  rw [ht, hd]
theorem take_drop {zs : List UInt8} {m q : Nat} (h : m = min zs.length q) : zs.take q ++ zs.drop m = zs := by
  subst h
  rcases Nat.le_total zs.length q with h | h
  · rw [List.take_of_length_le h, Nat.min_eq_left h, List.drop_length, List.append_nil]
  · rw [Nat.min_eq_right h, List.take_append_drop]
abbrev fits (ps : List Page) (a : Int) (n : Nat) : Prop := 0 ≤ a ∧ a + n ≤ 256 * ps.length
theorem put {g : Glob} {w : World} {l : List As} {p : Nat} {v mo : Value} {ps : List Page} (H : Sat g w (Pt p [v, mo] 110 :: Sl 116 256 enP v ps :: l)) (a : Int) (ys : List UInt8) (hp : ps.length ≤ 8) (ha : -9223372036854775808 ≤ a ∧ a ≤ 9223372036854775807) (hy : ys.length ≤ 9223372036854775807) :
    Fc Try.prog 51 #[.pointer (some ⟨p, 0, none⟩), .int .i64 a, .string (bs ys)] w (fun r w' => ∃ e ps', r = .int .i64 e ∧ ((e = 23 ∧ ps' = ps ∧ ¬ fits ps a ys.length) ∨ (e = 0 ∧ fits ps a ys.length ∧ flat ps' = ow (flat ps) a.toNat ys)) ∧ ps'.length = ps.length ∧ Sat g w' (Pt p [v, mo] 110 :: Sl 116 256 enP v ps' :: l)) := by
  refine Fc.of Try.func51 rfl (by kernel_rfl) ?_
  refine rFieldAt rfl ?_
  refine rLd (H.at 0 rfl) 0 rfl rfl rfl ?_
  refine rLenS H 1 rfl rfl ?_
  refine eqI64 (by omega) ?_
  refine br (fun c1 => ?_) (fun c1 => ?_)
  · replace c1 := vLt_t (c1)
    refine cT rfl ?_
    refine Done.mk ?_
    exact ⟨_, _, rfl, .inl ⟨rfl, rfl, by unfold fits; omega⟩, rfl, H⟩
  replace c1 := vLt_f (c1)
  refine rLenStr rfl ?_
  refine br (fun c2 => ?_) (fun c2 => ?_)
  · replace c2 := vLt_t (c2)
    refine cT rfl ?_
    refine Done.mk ?_
    exact ⟨_, _, rfl, .inl ⟨rfl, rfl, by unfold fits; omega⟩, rfl, H⟩
  replace c2 := vLt_f (c2)
  refine rLenStr rfl ?_
  refine eqI64 (by omega) ?_
  refine cI (fun c3 => ?_) (fun c3 => ?_)
  · replace c3 := vLt_t (c3)
    refine Done.mk ?_
    exact ⟨_, _, rfl, .inl ⟨rfl, rfl, by unfold fits; omega⟩, rfl, H⟩
  replace c3 := vLt_f (c3)
  refine LoopP.rule (α := Nat × List UInt8 × List Page) (a.toNat, ys, ps) (fun x_ => [(1, .int .i64 x_.1), (2, .string (bs x_.2.1))]) (fun x_ w_ => (x_.1 + x_.2.1.length ≤ 256 * ps.length) ∧ (x_.2.2.length = ps.length) ∧ (ow (flat x_.2.2) x_.1 x_.2.1 = ow (flat ps) a.toNat ys) ∧ Sat g w_ ((Pt p [v, mo] 110 :: Sl 116 256 enP v x_.2.2 :: l))) (fun x_ => x_.2.1.length) ?_ ?_ ?_
  · repeat first | exact mt_nil | refine mt_cons rfl ?_ | refine mt_i rfl (by first | omega | (simp only; omega) | (simp; omega) | (simp; done)) ?_
  · try simp only
    refine ⟨?_, ?_⟩
    · omega
    refine ⟨?_, ?_⟩
    · (constructor <;> omega)
    refine ⟨?_, ?_⟩
    · (constructor <;> omega)
    exact H
  clear H
  rintro ⟨b, zs, qs⟩ f_ w_ ⟨hb, hq, ho, H⟩
  try simp only at hb hq ho H ⊢
  obtain ⟨k, hk⟩ : ∃ k, k = b % 256 := ⟨_, rfl⟩
  obtain ⟨m, hm⟩ : ∃ m, m = min zs.length (256 - k) := ⟨_, rfl⟩
  refine rLenStr rfl ?_
  refine cI (fun c4 => ?_) (fun c4 => ?_)
  rotate_left
  · replace c4 := vLt_f (c4)
    refine Done.mk ?_
    exact ⟨_, _, rfl, .inr ⟨rfl, ⟨by omega, by omega⟩, by rw [← ho, show zs = [] from List.eq_nil_of_length_eq_zero (by omega), ow_nil]⟩, hq, H⟩
  replace c4 := vLt_t (c4)
  refine bk ?_
  refine rFieldAt rfl ?_
  refine rLd (H.at 0 rfl) 0 rfl rfl rfl ?_
  refine DivP.mk (by decide) ?_
  refine eqQuo (by omega) (by omega) ?_
  obtain ⟨x1, hx1⟩ : ∃ x, (qs)[((b) / 256)]? = some x := ⟨_, List.getElem?_eq_getElem (by omega)⟩
  obtain ⟨b1, o1, E1⟩ := H.elt 1 rfl ((b) / 256) (by omega)
  refine rIxE E1 rfl rfl rfl ?_
  refine DivP.mk (by decide) ?_
  refine eqRem (by omega) ?_
  refine rSlArr (lo := k) (by omega) (by omega) rfl rfl ?_
  
  have hz : k + (zs.take (256 - k)).length ≤ 256 := by rw [List.length_take]; omega
  refine rCopyStr H 1 rfl E1 hx1 k (256 - k) (256 - k) (by omega) (owP x1 k (zs.take (256 - k)) hz) (setsY _ _ _ (by rw [x1.h]; exact hz)) rfl rfl ?_
  rw [← hm]
  intro w2 H
  have hf := flat_set hx1 hz (by omega)
  rw [show 256 * (b / 256) + k = b by omega] at hf
  have htl : (zs.take (256 - k)).length = m := by rw [List.length_take]; omega
  have h2 := ow_ow (xs := flat qs) (ys := zs.take (256 - k)) (zs := zs.drop m) (a := b) (by rw [htl, List.length_drop, flat_length]; omega)
  rw [htl, take_drop hm, ← hf, ho] at h2
  refine eqI64 (by omega) ?_
  refine rSubL rfl (m) (by omega) (by omega) ?_
  refine Nxt.mk ((b + m, List.drop m zs, qs.set (b / 256) (owP x1 k (List.take (256 - k) zs) hz))) (mt_i rfl (by first | omega | (simp only; omega) | (simp; omega)) (mt_cons rfl (mt_nil))) ?_ ?_
  · refine ⟨?_, ?_⟩
    · (simp; omega)
    refine ⟨?_, ?_⟩
    · (rw [List.length_set]; exact hq)
    refine ⟨?_, ?_⟩
    · assumption
    exact H
  (simp; omega)
end Go.Proofs.Ytffkcgogkhdcdaa.Mem
