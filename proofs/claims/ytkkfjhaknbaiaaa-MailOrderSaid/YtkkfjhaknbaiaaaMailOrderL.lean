/- Plain facts for the law MailOrder: what lies there, tag by tag. -/
import Derived.Test.YtkkfjhaknbaiaaaMail2
import Derived.Test.YtkkfjhaknbaiaaaOff
set_option maxRecDepth 100000
set_option linter.unusedVariables false
set_option linter.unusedSimpArgs false
namespace Go.Proofs.Ytkkfjhaknbaiaaa.Mail
open Go Go.Proofs.Ytkkfjhaknbaiaaa.Eng Go.RowKit
theorem letter_eq (x y : Letter) : (vEq x.node y.node && (vEq x.num y.num && true) && (vEq x.tag y.tag && (((bs x.body).toList == (bs y.body).toList) && true))) = decide (x = y) := by
  rw [bs_toList, bs_toList, vEq_iff, vEq_iff, vEq_iff, Bool.eq_iff_iff]
  cases x; cases y
  simp [and_assoc]
/-- The letters of a tag. -/
def ofT (t : Nat) (ls : List Letter) : List Letter := ls.filter (fun l => decide (l.tag = (t : Int)))
theorem ofT_app (t : Nat) (ls : List Letter) (x : Letter) : ofT t (ls ++ [x]) = if x.tag = (t : Int) then ofT t ls ++ [x] else ofT t ls := by
  unfold ofT
  rw [List.filter_append]
  by_cases h : x.tag = (t : Int)
  · rw [if_pos h]; simp [h]
  · rw [if_neg h]; simp [h]
theorem ofT_split {t k : Nat} {ls : List Letter} {y : Letter} (hk : ls[k]? = some y) : ofT t ls = ofT t (ls.take k) ++ (if y.tag = (t : Int) then y :: ofT t (ls.drop (k + 1)) else ofT t (ls.drop (k + 1))) := by
  have hlt := (List.getElem?_eq_some_iff.1 hk).1
  have he := (List.getElem?_eq_some_iff.1 hk).2
  have e : ls = ls.take k ++ y :: ls.drop (k + 1) := by rw [← he, List.getElem_cons_drop, List.take_append_drop]
  have e2 : ofT t ls = ofT t (ls.take k ++ y :: ls.drop (k + 1)) := by rw [← e]
  rw [e2]
  unfold ofT
  rw [List.filter_append, List.filter_cons]
  by_cases h : y.tag = (t : Int)
  · simp [h]
  · simp [h]
theorem ofT_other {t k : Nat} {ls : List Letter} {y : Letter} (hk : ls[k]? = some y) (h : y.tag ≠ (t : Int)) : ofT t (ls.eraseIdx k) = ofT t ls := by
  rw [ofT_split (t := t) hk, if_neg h, List.eraseIdx_eq_take_drop_succ]
  unfold ofT
  rw [List.filter_append]
theorem ofT_own {mask : Int} {t k : Nat} {ls : List Letter} {y : Letter} (hk : ls[k]? = some y) (h : y.tag = (t : Int)) (hb : bitI mask y.tag = 1) (hno : ∀ x ∈ ls.take k, bitI mask x.tag ≠ 1) : ofT t ls = y :: ofT t (ls.eraseIdx k) := by
  have h0 : ofT t (ls.take k) = [] := by
    unfold ofT
    rw [List.filter_eq_nil_iff]
    intro x hx hd
    have hd : x.tag = (t : Int) := by simpa using hd
    exact hno x hx (by rw [hd, ← h]; exact hb)
  rw [ofT_split (t := t) hk, if_pos h, h0, List.nil_append, List.eraseIdx_eq_take_drop_succ]
  have : ofT t (ls.take k ++ ls.drop (k + 1)) = ofT t (ls.take k) ++ ofT t (ls.drop (k + 1)) := by unfold ofT; rw [List.filter_append]
  rw [this, h0, List.nil_append]
theorem ofT_none {mask : Int} {t : Nat} {ls : List Letter} (hno : ∀ l ∈ ls, bitI mask l.tag ≠ 1) (hne : ofT t ls ≠ []) : bitI mask (t : Int) ≠ 1 := by
  cases h : ofT t ls with
  | nil => exact absurd h hne
  | cons x r =>
    have hm : x ∈ ofT t ls := by rw [h]; exact List.mem_cons_self ..
    unfold ofT at hm
    obtain ⟨h1, h2⟩ := List.mem_filter.1 hm
    have h2 : x.tag = (t : Int) := by simpa using h2
    rw [← h2]; exact hno x h1
/-- The rows that stand in the array at block L. -/
structure Lies (lo : Nat) (w : World) (L : Nat) (e : TypeId) (vs : List Value) (ls : List Letter) : Prop where
  len : vs.length = 64
  blk : Blk w L vs e
  row : ∀ (t : Nat) v, vs[t]? = some v → Off lo w 49 4 enL v (ofT t ls) ∧ v.ownBlock ≠ some L
  apart : ∀ (t u : Nat) v v', t ≠ u → vs[t]? = some v → vs[u]? = some v' → Dj v v'
/-- Its memory. -/
def Lfp (L : Nat) (vs : List Value) : Nat → Prop := fun k => k = L ∨ ∃ (t : Nat) (v : Value), vs[t]? = some v ∧ v.ownBlock = some k
theorem Lies.ev {lo L : Nat} {e : TypeId} {w w' : World} {vs : List Value} {ls : List Letter} {f : Nat → Prop} (h : Lies lo w L e vs ls) (x : Ev w w' f) (ha : Ap (Lfp L vs) f) : Lies lo w' L e vs ls :=
  ⟨h.len, kE h.blk x (ha L (.inl rfl)), fun t v hv => ⟨(h.row t v hv).1.ev x (fun k hk => ha k (.inr ⟨t, v, hv, hk⟩)), (h.row t v hv).2⟩, h.apart⟩
theorem Lies.lt {lo L : Nat} {e : TypeId} {w : World} {vs : List Value} {ls : List Letter} (h : Lies lo w L e vs ls) {k : Nat} (hk : Lfp L vs k) : k < w.heap.size := by
  rcases hk with rfl | ⟨t, v, hv, hk⟩
  · exact h.blk.lt
  · exact ((h.row t v hv).1.lt hk).2
/-- One row of the array is another now. -/
theorem Lies.put {lo L : Nat} {e : TypeId} {w w' : World} {vs : List Value} {ls ls' : List Letter} {v' : Value} {t : Nat} (h : Lies lo w L e vs ls) (ht : t < 64) (hrow : Off lo w' 49 4 enL v' (ofT t ls')) (hne : v'.ownBlock ≠ some L) (hoth : ∀ u, u ≠ t → ofT u ls' = ofT u ls)
    (hblk : Blk w' L (vs.set t v') e) (hkeep : ∀ u vu, u ≠ t → vs[u]? = some vu → Off lo w' 49 4 enL vu (ofT u ls)) (hdj : ∀ u vu, u ≠ t → vs[u]? = some vu → Dj vu v') : Lies lo w' L e (vs.set t v') ls' := by
  have hl := h.len
  have key : ∀ u vu, (vs.set t v')[u]? = some vu → (u = t ∧ vu = v') ∨ (u ≠ t ∧ vs[u]? = some vu) := fun u vu hu => by
    by_cases e : u = t
    · subst e
      rw [List.getElem?_set_self (by omega)] at hu
      exact .inl ⟨rfl, (Option.some.inj hu).symm⟩
    · rw [List.getElem?_set_ne (Ne.symm e)] at hu
      exact .inr ⟨e, hu⟩
  refine ⟨by rw [List.length_set]; exact hl, hblk, fun u vu hu => ?_, fun a b va vb hab ha hb => ?_⟩
  · rcases key u vu hu with ⟨rfl, rfl⟩ | ⟨hn, hu⟩
    · exact ⟨hrow, hne⟩
    · rw [hoth u hn]; exact ⟨hkeep u vu hn hu, (h.row u vu hu).2⟩
  · rcases key a va ha with ⟨rfl, rfl⟩ | ⟨hna, ha1⟩
    · rcases key b vb hb with ⟨rfl, rfl⟩ | ⟨hnb, hb1⟩
      · exact absurd rfl hab
      · exact (hdj b vb hnb hb1).symm
    · rcases key b vb hb with ⟨rfl, rfl⟩ | ⟨hnb, hb1⟩
      · exact hdj a va hna ha1
      · exact h.apart a b va vb hab ha1 hb1
end Go.Proofs.Ytkkfjhaknbaiaaa.Mail
