/- slices.Reverse of []int; trouperef.Eq of []int. -/
import Derived.Test.YtkkfjhaknbaiaaaOwn
import Derived.Test.YtkkfjhaknbaiaaaPlanZ
import Derived.Test.YtkkfjhaknbaiaaaOpen
import Derived.Test.YtkkfjhaknbaiaaaRows
set_option maxRecDepth 100000
set_option linter.unusedVariables false
set_option linter.unusedSimpArgs false
namespace Go.Proofs.Ytkkfjhaknbaiaaa.Sli
open Go Go.Proofs.Ytkkfjhaknbaiaaa.Eng Go.RowKit
theorem mixed : (Try.prog).follows .mixedOrders = true := by kernel_rfl
def enI (x : Int) : List Value := [.int .i64 x]
def okI (x : Int) : Prop := -9223372036854775808 ≤ x ∧ x ≤ 9223372036854775807
theorem enI_len (x : Int) : (enI x).length = 1 := rfl
theorem enI_flat (xs : List Int) : xs.flatMap enI = xs.map (Value.int .i64) := by
  induction xs with
  | nil => rfl
  | cons x xs ih => rw [List.flatMap_cons, ih]; rfl
theorem fitsI (cs : List Value) (h : fitsL [.int .i64] cs) : ∃ x, cs = enI x ∧ okI x := by
  obtain ⟨_, _, rfl, ⟨a, rfl, ha⟩, rfl⟩ := h
  exact ⟨a, rfl, ha⟩
/-- How far the turning round has come: i cells at each end. -/
def Rv (n i : Nat) (cur c : List Value) : Prop := c.length = cur.length ∧ ∀ k, c[k]? = if k < i ∨ (n - i ≤ k ∧ k < n) then cur[n - 1 - k]? else cur[k]?
theorem Rv.step {n i : Nat} {cur c : List Value} (h : Rv n i cur c) (hi : 2 * i + 1 < n) (hn : n ≤ cur.length) {x y : Value} (hx : c[i]? = some x) (hy : c[n - 1 - i]? = some y) : Rv n (i + 1) cur ((c.set i y).set (n - 1 - i) x) := by
  obtain ⟨hl, hc⟩ := h
  refine ⟨by simp [hl], fun k => ?_⟩
  have hxi := hc i
  rw [if_neg (by omega), hx] at hxi
  have hyi := hc (n - 1 - i)
  rw [if_neg (by omega), hy] at hyi
  rw [List.getElem?_set, List.length_set]
  by_cases h1 : n - 1 - i = k
  · subst h1
    rw [if_pos rfl, if_pos (by omega), if_pos (by omega), hxi]; congr 1; omega
  · rw [if_neg h1, List.getElem?_set]
    by_cases h2 : i = k
    · subst h2
      rw [if_pos rfl, if_pos (by omega), if_pos (by omega), hyi]
    · rw [if_neg h2, hc k]
      by_cases h3 : k < i ∨ (n - i ≤ k ∧ k < n)
      · rw [if_pos h3, if_pos (by omega)]
      · rw [if_neg h3, if_neg (by omega)]
theorem Rv.fin {n i : Nat} {cur c : List Value} (h : Rv n i cur c) (hi : n ≤ 2 * i + 1) (hi2 : 2 * i ≤ n) (hn : n ≤ cur.length) : c.take n = (cur.take n).reverse := by
  obtain ⟨hl, hc⟩ := h
  apply List.ext_getElem?
  intro k
  have hlt : (cur.take n).length = n := by rw [List.length_take]; omega
  by_cases hk : k < n
  · have e1 : c[k]? = cur[n - 1 - k]? := by
      rw [hc k]
      split
      · rfl
      · congr 1; omega
    have e2 : (cur.take n)[n - 1 - k]? = cur[n - 1 - k]? := by rw [List.getElem?_take, if_pos (by omega)]
    rw [List.getElem?_take, if_pos hk, e1, List.getElem?_reverse (by omega), hlt, e2]
  · rw [List.getElem?_eq_none (by rw [List.length_take]; omega), List.getElem?_eq_none (by rw [List.length_reverse, hlt]; omega)]
theorem reverse {lo : Nat} {v : Value} {xs : List Int} (w : World) (h : Own lo w 3 1 enI v xs) : Fc Try.prog 42 #[v] w (fun _ w' => Own lo w' 3 1 enI v xs.reverse ∧ Gr w w' v v) := by
  refine Fc.of Try.func42 rfl (by kernel_rfl) ?_
  by_cases hne : xs = []
  · subst hne
    have hv : ∃ a c, v = .slice a 0 c := by
      rcases h.1.2 with ⟨rfl, _⟩ | ⟨g, cap, cur, rfl, _⟩
      · exact ⟨_, _, rfl⟩
      · exact ⟨_, _, rfl⟩
    obtain ⟨a, c, rfl⟩ := hv
    refine rLenSl rfl ?_
    refine LoopP.rule (α := Unit) () (fun _ => [(2, .int .i64 0), (3, .int .i64 (-1))]) (fun _ w' => w = w') (fun _ => 0) (mt_cons rfl (mt_i rfl (wi64 (by decide)) mt_nil)) rfl ?_
    rintro _ f w1 rfl
    refine cF (by rw [vLt_iff]; first | (simp; done) | (simp; omega)) ?_
    exact Done.mk ⟨h, ⟨⟨rfl, rfl, rfl, Nat.le_refl _, fun _ _ _ => rfl⟩, .inl rfl⟩⟩
  obtain ⟨g, cap, cur, rfl, hlo, hb, ht, hlen, hcap, hcm, hcl⟩ := h.blk hne
  rw [Nat.mul_one] at ht hlen hcl
  obtain ⟨n, hn⟩ : ∃ n, n = xs.length := ⟨_, rfl⟩
  rw [← hn] at ht hlen hcap
  have hn0 : 0 < n := by rw [hn]; exact List.length_pos_iff.2 hne
  rw [← hn]
  refine rLenSl rfl ?_
  refine LoopP.rule (α := Nat) 0 (fun i => [(2, .int .i64 i), (3, .int .i64 ((n : Int) - 1 - i))]) (fun i w' => 2 * i ≤ n ∧ ∃ c, Rv n i cur c ∧ Blk w' g c 3 ∧ Upd w w' g) (fun i => n - i) (mt_cons rfl (mt_i rfl (by rw [wi64 (by omega)]; omega) mt_nil)) ⟨by omega, cur, ⟨rfl, fun k => by rw [if_neg (by omega)]⟩, hb, Upd.refl _ _⟩ ?_
  rintro i f w1 ⟨hi, c, hc, hb1, hu1⟩
  dsimp only at *
  refine cI (fun h1 => ?_) (fun h1 => ?_)
  · have h1 := vLt_t h1
    refine bk ?_
    have hcur : ∀ k, k < n → ∃ a : Int, cur[k]? = some (.int .i64 a) := fun k hk => by
      have : (cur.take n)[k]? = (xs.map (Value.int .i64))[k]? := by rw [ht, enI_flat]
      rw [List.getElem?_take, if_pos hk, List.getElem?_map, List.getElem?_eq_getElem (l := xs) (i := k) (by omega)] at this
      exact ⟨_, this⟩
    obtain ⟨x, hx⟩ := hcur i (by omega)
    obtain ⟨y, hy⟩ := hcur (n - 1 - i) (by omega)
    have hxc := hc.2 i
    rw [if_neg (by omega), hx] at hxc
    have hyc := hc.2 (n - 1 - i)
    rw [if_neg (by omega), hy] at hyc
    refine drawz (fun wx => Blk wx g c 3) [(0, .pure), (1, .pure), (2, .pure), (3, .pure), (4, .pure), (5, .pure), (6, .pure), (7, .held), (8, .pure), (9, .pure), (10, .pure), (11, .held), (12, .pure), (13, .free), (14, .pure), (15, .free)] mixed (by kernel_rfl) (by kernel_rfl) (fun wd hd => ⟨kS hb1 (by rw [hd]; exact Still.drew _), ?_⟩)
    replace hu1 : Upd w wd g := by rw [hd]; exact ⟨hu1.os, hu1.tape, hu1.output, hu1.size, hu1.block⟩
    replace hb1 : Blk wd g c 3 := kS hb1 (by rw [hd]; exact Still.drew _)
    clear hd
    refine tk (fun wx hS => rIdx 1 (n - 1 - i) (n - 1 - i) (by omega) (by omega) (by omega) rfl rfl ⟨rfl, rfl⟩) ?_
    refine tk (v := .int .i64 y) (fun wx hS => rLoadC (by have := hS.at.cell hyc; rwa [Nat.zero_add] at this) rfl rfl ⟨rfl, rfl⟩) ?_
    refine tk (fun wx hS => rIdx 1 i i rfl (by omega) (by omega) rfl rfl ⟨rfl, rfl⟩) ?_
    refine tk (v := .int .i64 x) (fun wx hS => rLoadC (by have := hS.at.cell hxc; rwa [Nat.zero_add] at this) rfl rfl ⟨rfl, rfl⟩) ?_
    refine tk (fun wx hS => rIdx 1 i i rfl (by omega) (by omega) rfl rfl ⟨rfl, rfl⟩) ?_
    refine rStoreL hb1 (by rw [hc.1]; omega) rfl rfl ?_
    intro w2 u2 b2
    refine tk (fun wx hS => rIdx 1 (n - 1 - i) (n - 1 - i) (by omega) (by omega) (by omega) rfl rfl ⟨rfl, rfl⟩) ?_
    refine rStoreL b2 (by rw [List.length_set, hc.1]; omega) rfl rfl ?_
    intro w3 u3 b3
    exact Nxt.mk (i + 1) (mt_i rfl (by rw [wi64 (by omega)]; omega) (mt_i rfl (by rw [wi64 (by omega)]; omega) mt_nil)) ⟨by omega, _, hc.step (by omega) hlen hxc hyc, b3, (hu1.trans u2).trans u3⟩ (by omega)
  have h1 := vLt_f h1
  refine Done.mk ⟨?_, ⟨hu1.os, hu1.tape, hu1.output, by rw [hu1.size]; exact Nat.le_refl _, fun k _ hk => hu1.block k (fun e => hk (by rw [e]; rfl))⟩, .inl rfl⟩
  have hfin := hc.fin (by omega) hi hlen
  have := Own.of_blk (lo := lo) (xs := xs.reverse) (s := 1) (en := enI) (cap := cap) hlo hb1 (by rw [List.length_reverse, Nat.mul_one, ← hn, hfin, ht, enI_flat, enI_flat, List.map_reverse]) (by rw [List.length_reverse, ← hn]; exact hcap) hcm (by rw [hc.1, hcl]; omega) enI_len
  rw [List.length_reverse, ← hn] at this
  exact this
/-- Two slices of numbers compared. -/
theorem eqInts {v u : Value} {xs ys : List Int} (w : World) (hx : Rd enI okI 1 w v xs) (hy : Rd enI okI 1 w u ys) : Fc Try.prog 20 #[v, u] w (fun r w' => r = .bool (decide (xs = ys)) ∧ w = w') := by
  refine Fc.of Try.func20 rfl (by kernel_rfl) ?_
  refine rLenR hx rfl ?_
  refine rLenR hy rfl ?_
  refine cI (fun h1 => ?_) (fun h1 => ?_)
  · have h1 := vNe_t h1
    exact Done.mk ⟨congrArg Value.bool (decide_eq_false (fun e => h1 (by rw [e]))).symm, rfl⟩
  have h1 := vNe_f h1
  have hlen : xs.length = ys.length := by omega
  refine rLenR hx rfl ?_
  have hxl := hx.len
  refine LoopP.rule (α := Nat) 0 (fun i => [(14, .int .i64 i)]) (fun i w' => w = w' ∧ i ≤ xs.length ∧ xs.take i = ys.take i) (fun i => xs.length - i) (mt_cons rfl mt_nil) ⟨rfl, Nat.zero_le _, by simp⟩ ?_
  rintro i f w1 ⟨rfl, hi, heq⟩
  dsimp only at *
  refine cI (fun h2 => ?_) (fun h2 => ?_)
  · have h2 := vLt_t h2
    refine bk ?_
    have hlt : i < xs.length := by omega
    refine rIdxE 1 hx i xs[i] rfl (List.getElem?_eq_getElem hlt) rfl rfl ?_
    intro b o hat hok
    refine rLoad0 hat rfl rfl ?_
    refine rIdxE 1 hy i ys[i] rfl (List.getElem?_eq_getElem (by omega)) rfl rfl ?_
    intro b' o' hat' hok'
    refine rLoad0 hat' rfl rfl ?_
    refine cI (fun h3 => ?_) (fun h3 => ?_)
    · have h3 := vNe_t h3
      exact Done.mk ⟨congrArg Value.bool (decide_eq_false (fun e => h3 (by subst e; rfl))).symm, rfl⟩
    have h3 := vNe_f h3
    refine Nxt.mk (i + 1) (mt_i rfl (by rw [wi64 (by omega)]; omega) mt_nil) ⟨rfl, by omega, ?_⟩ (by omega)
    rw [List.take_add_one, List.take_add_one, heq, List.getElem?_eq_getElem hlt, List.getElem?_eq_getElem (by omega), h3]
  have h2 := vLt_f h2
  have : i = xs.length := by omega
  subst this
  rw [List.take_length, hlen, List.take_length] at heq
  exact Done.mk ⟨congrArg Value.bool (decide_eq_true heq).symm, rfl⟩
end Go.Proofs.Ytkkfjhaknbaiaaa.Sli
