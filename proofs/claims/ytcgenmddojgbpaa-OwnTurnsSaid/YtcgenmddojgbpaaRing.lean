/- Package turns: the ring. -/
import Derived.Test.YtcgenmddojgbpaaNd
import Derived.Test.YtcgenmddojgbpaaMap
import Derived.Test.YtcgenmddojgbpaaRefI
set_option maxRecDepth 100000
set_option maxHeartbeats 4000000
set_option linter.unusedVariables false
set_option linter.unusedSimpArgs false
namespace Go.Proofs.Ytcgenmddojgbpaa.Ring
open Go Go.Proofs.Ytcgenmddojgbpaa.Eng Go.RowKit
open Ref
abbrev Nds := List (Nat × Int)
def nbk (ns : Nds) (i : Nat) : Nat := (ns.getD i (0, 0)).1
def idn (ns : Nds) (i : Nat) : Int := (ns.getD i (0, 0)).2
def nxi (n i : Nat) : Nat := if i + 1 = n then 0 else i + 1
def pvi (n i : Nat) : Nat := if i = 0 then n - 1 else i - 1
def ptr (p : Nat) : Value := .pointer (some ⟨p, 0, none⟩)
def fsv (ns : Nds) : Value := if ns.length = 0 then .pointer none else .pointer (some ⟨nbk ns 0, 0, none⟩)
theorem fsv0 {ns : Nds} (h : ns.length = 0) : fsv ns = .pointer none := if_pos h
theorem fsvS {ns : Nds} (h : 0 < ns.length) : fsv ns = .pointer (some ⟨nbk ns 0, 0, none⟩) := if_neg (by omega)
structure RgOk (m : Nm) (ns : Nds) : Prop where
  nd : (ns.map (·.1)).Nodup
  cell : ∀ i, i < ns.length → m (nbk ns i) = some [.int .i64 (idn ns i), .pointer (some ⟨nbk ns (pvi ns.length i), 0, none⟩), .pointer (some ⟨nbk ns (nxi ns.length i), 0, none⟩)]
theorem nbk_of {ns : Nds} {i : Nat} {x : Nat × Int} (h : ns[i]? = some x) : nbk ns i = x.1 := by
  unfold nbk; rw [List.getD_eq_getElem?_getD, h]; rfl
theorem idn_of {ns : Nds} {i : Nat} {x : Nat × Int} (h : ns[i]? = some x) : idn ns i = x.2 := by
  unfold idn; rw [List.getD_eq_getElem?_getD, h]; rfl
theorem ns_get {ns : Nds} {i : Nat} (h : i < ns.length) : ns[i]? = some (nbk ns i, idn ns i) := by
  have e := List.getElem?_eq_getElem h
  rw [nbk_of e, idn_of e]; exact e
theorem nbk_app {ns ms : Nds} {i : Nat} (h : i < ns.length) : nbk (ns ++ ms) i = nbk ns i := by
  rw [nbk_of (x := (nbk ns i, idn ns i)) (by rw [List.getElem?_append_left h]; exact ns_get h)]
theorem idn_app {ns ms : Nds} {i : Nat} (h : i < ns.length) : idn (ns ++ ms) i = idn ns i := by
  rw [idn_of (x := (nbk ns i, idn ns i)) (by rw [List.getElem?_append_left h]; exact ns_get h)]
theorem nbk_last (ns : Nds) (x : Nat × Int) : nbk (ns ++ [x]) ns.length = x.1 := nbk_of (by rw [List.getElem?_append_right (Nat.le_refl _)]; simp)
theorem idn_last (ns : Nds) (x : Nat × Int) : idn (ns ++ [x]) ns.length = x.2 := idn_of (by rw [List.getElem?_append_right (Nat.le_refl _)]; simp)
theorem nbk_inj {ns : Nds} (h : (ns.map (·.1)).Nodup) {i j : Nat} (hi : i < ns.length) (hj : j < ns.length) (e : nbk ns i = nbk ns j) : i = j := by
  have h1 : (ns.map (·.1))[i]? = (ns.map (·.1))[j]? := by
    rw [List.getElem?_map, List.getElem?_map, ns_get hi, ns_get hj]
    simp [e]
  exact (List.getElem?_inj (by simpa using hi) h).1 h1
theorem rg_fresh {m : Nm} {ns : Nds} (h : RgOk m ns) {q : Nat} (hq : m q = none) : ∀ i, i < ns.length → nbk ns i ≠ q := fun i hi e => by
  have := h.cell i hi
  rw [e, hq] at this; cases this
theorem add_nd {m : Nm} {ns : Nds} (h : RgOk m ns) {q : Nat} (hq : m q = none) (id : Int) : ((ns ++ [(q, id)]).map (·.1)).Nodup := by
  rw [List.map_append, List.nodup_append]
  refine ⟨h.nd, by simp, fun a ha b hb e => ?_⟩
  obtain ⟨x, hx, rfl⟩ := List.mem_map.1 ha
  obtain ⟨i, hi, rfl⟩ := List.mem_iff_getElem.1 hx
  have hb : b = q := by simpa using hb
  have := rg_fresh h hq i hi
  rw [nbk_of (List.getElem?_eq_getElem hi)] at this
  exact this (e.trans hb)
theorem add0 {m m' : Nm} {q : Nat} {id : Int} (h : m' q = some [.int .i64 id, .pointer (some ⟨q, 0, none⟩), .pointer (some ⟨q, 0, none⟩)]) : RgOk m' [(q, id)] :=
  ⟨by simp, fun i hi => by
    have hi : i < 1 := hi
    obtain rfl : i = 0 := by omega
    exact h⟩
/-- The new one behind two or more. -/
theorem add2 {m m' : Nm} {ns : Nds} {q : Nat} {id : Int} (h : RgOk m ns) (hq : m q = none) (hn : 0 < ns.length)
    (h1 : m' q = some [.int .i64 id, .pointer (some ⟨nbk ns (ns.length - 1), 0, none⟩), .pointer (some ⟨nbk ns 0, 0, none⟩)])
    (h2 : m' (nbk ns 0) = some [.int .i64 (idn ns 0), .pointer (some ⟨q, 0, none⟩), .pointer (some ⟨if ns.length = 1 then q else nbk ns 1, 0, none⟩)])
    (h3 : ns.length ≠ 1 → m' (nbk ns (ns.length - 1)) = some [.int .i64 (idn ns (ns.length - 1)), .pointer (some ⟨nbk ns (ns.length - 2), 0, none⟩), .pointer (some ⟨q, 0, none⟩)])
    (h4 : ∀ k, k ≠ q → k ≠ nbk ns 0 → k ≠ nbk ns (ns.length - 1) → m' k = m k) : RgOk m' (ns ++ [(q, id)]) := by
  refine ⟨add_nd h hq id, fun i hi => ?_⟩
  rw [List.length_append, List.length_singleton] at hi ⊢
  have e0 : nbk (ns ++ [(q, id)]) 0 = nbk ns 0 := nbk_app hn
  by_cases c1 : i = ns.length
  · subst c1
    have e1 : pvi (ns.length + 1) ns.length = ns.length - 1 := if_neg (by omega)
    have e2 : nxi (ns.length + 1) ns.length = 0 := if_pos rfl
    rw [nbk_last, idn_last, e1, e2, e0, nbk_app (by omega)]; exact h1
  · have hi : i < ns.length := by omega
    rw [nbk_app hi, idn_app hi]
    by_cases c2 : i = 0
    · subst c2
      have e1 : pvi (ns.length + 1) 0 = ns.length := if_pos rfl
      have e2 : nxi (ns.length + 1) 0 = 1 := if_neg (by omega)
      rw [e1, e2, nbk_last, h2]
      by_cases c3 : ns.length = 1
      · rw [if_pos c3]
        have : nbk (ns ++ [(q, id)]) 1 = q := by have := nbk_last ns (q, id); rw [c3] at this; exact this
        rw [this]
      · rw [if_neg c3, nbk_app (by omega)]
    · have e1 : pvi (ns.length + 1) i = i - 1 := if_neg c2
      have e2 : nxi (ns.length + 1) i = i + 1 := if_neg (by omega)
      rw [e1, e2, nbk_app (by omega)]
      by_cases c3 : i = ns.length - 1
      · have : i + 1 = ns.length := by omega
        rw [this, nbk_last, c3, h3 (by omega), show ns.length - 1 - 1 = ns.length - 2 by omega]
      · rw [nbk_app (by omega), h4 _ (rg_fresh h hq i hi) (fun e => c2 (nbk_inj h.nd hi hn e)) (fun e => c3 (nbk_inj h.nd hi (by omega) e)), h.cell i hi]
        have e3 : pvi ns.length i = i - 1 := if_neg c2
        have e4 : nxi ns.length i = i + 1 := if_neg (by omega)
        rw [e3, e4]
def rot (ns : Nds) : Nds := match ns with
  | [] => []
  | x :: r => r ++ [x]
theorem rot_len (ns : Nds) : (rot ns).length = ns.length := by cases ns <;> simp [rot]
theorem nbk_rot {ns : Nds} {i : Nat} (h : i < ns.length) : nbk (rot ns) i = nbk ns (nxi ns.length i) ∧ idn (rot ns) i = idn ns (nxi ns.length i) := by
  cases ns with
  | nil => exact absurd h (Nat.not_lt_zero i)
  | cons x r =>
    have hi : i < r.length + 1 := h
    unfold nxi rot
    simp only [List.length_cons]
    by_cases c : i + 1 = r.length + 1
    · obtain rfl : i = r.length := by omega
      rw [if_pos rfl, nbk_last, idn_last]; exact ⟨rfl, rfl⟩
    · rw [if_neg c, nbk_app (by omega), idn_app (by omega)]
      exact ⟨rfl, rfl⟩
theorem rot_ok {m : Nm} {ns : Nds} (h : RgOk m ns) : RgOk m (rot ns) := by
  have hp : (rot ns).Perm ns := by
    cases ns with
    | nil => exact .refl _
    | cons x r => exact List.perm_append_singleton x r
  refine ⟨(hp.map (·.1)).nodup_iff.2 h.nd, fun i hi => ?_⟩
  rw [rot_len] at hi ⊢
  have hx : nxi ns.length i < ns.length := by unfold nxi; split <;> omega
  have hx2 : nxi ns.length (nxi ns.length i) = nxi ns.length (nxi ns.length i) := rfl
  rw [(nbk_rot hi).1, (nbk_rot hi).2, h.cell _ hx]
  have h1 : nxi ns.length i < ns.length := hx
  have h2 : pvi ns.length i < ns.length := by unfold pvi; split <;> omega
  rw [(nbk_rot hx).1, (nbk_rot h2).1]
  have e : nxi ns.length (pvi ns.length i) = pvi ns.length (nxi ns.length i) := by
    unfold nxi pvi
    repeat' split
    all_goals omega
  rw [e]
section
variable {g : Glob} {w : World} {l : List As} {r n : Nat} {m : Nm} {ns : Nds}
theorem rgOpen {i : Nat} (H : Sat g w (Pt r [fsv ns, .int .i64 n] 39 :: Nd m 98 :: l)) (hR : RgOk m ns) (hi : i < ns.length) :
    Sat g w (Pt (nbk ns i) [.int .i64 (idn ns i), .pointer (some ⟨nbk ns (pvi ns.length i), 0, none⟩), .pointer (some ⟨nbk ns (nxi ns.length i), 0, none⟩)] 98 :: Nd (nrm m (nbk ns i)) 98 :: Pt r [fsv ns, .int .i64 n] 39 :: l) :=
  (H.front (j := 1) rfl).ndOpen (hR.cell i hi)
theorem rgBack {i : Nat} (H : Sat g w (Pt (nbk ns i) [.int .i64 (idn ns i), .pointer (some ⟨nbk ns (pvi ns.length i), 0, none⟩), .pointer (some ⟨nbk ns (nxi ns.length i), 0, none⟩)] 98 :: Nd (nrm m (nbk ns i)) 98 :: Pt r [fsv ns, .int .i64 n] 39 :: l)) (hR : RgOk m ns) (hi : i < ns.length) :
    Sat g w (Pt r [fsv ns, .int .i64 n] 39 :: Nd m 98 :: l) :=
  (H.ndBack (hR.cell i hi)).front (j := 1) rfl
def fndR (ns : Nds) (id : Int) : Value := match ns.find? (fun x => decide (x.2 = id)) with
  | some x => .pointer (some ⟨x.1, 0, none⟩)
  | none => .pointer none
theorem fndR_at {ns : Nds} {id : Int} {i : Nat} (hi : i < ns.length) (he : idn ns i = id) (hn : ∀ j, j < i → idn ns j ≠ id) : fndR ns id = .pointer (some ⟨nbk ns i, 0, none⟩) := by
  have : ns.find? (fun x => decide (x.2 = id)) = some (nbk ns i, idn ns i) := by
    rw [List.find?_eq_some_iff_getElem]
    obtain ⟨h1, h2⟩ := List.getElem?_eq_some_iff.1 (ns_get hi)
    refine ⟨by simpa using he, i, h1, h2, fun j hj => ?_⟩
    have := hn j hj
    rw [idn_of (List.getElem?_eq_getElem (by omega))] at this
    simpa using this
  unfold fndR; rw [this]
theorem fndR_no {ns : Nds} {id : Int} (hn : ∀ j, j < ns.length → idn ns j ≠ id) : fndR ns id = .pointer none := by
  have : ns.find? (fun x => decide (x.2 = id)) = none := by
    rw [List.find?_eq_none]
    intro x hx
    obtain ⟨i, hi, rfl⟩ := List.mem_iff_getElem.1 hx
    have := hn i hi
    rw [idn_of (List.getElem?_eq_getElem hi)] at this
    simpa using this
  unfold fndR; rw [this]
theorem find0 (H : Sat g w (Pt r [fsv ns, .int .i64 n] 39 :: Nd m 98 :: l)) (hR : RgOk m ns) (hn : n = ns.length) (hl : ns.length ≤ 100000000000000) (id : Int) :
    Fc Try.prog 40 #[.pointer (some ⟨r, 0, none⟩), .int .i64 id] w (fun v w' => v = fndR ns id ∧ Sat g w' (Pt r [fsv ns, .int .i64 n] 39 :: Nd m 98 :: l)) := by
  refine Fc.of Try.func40 rfl (by kernel_rfl) ?_
  subst hn
  refine rFieldAt rfl ?_
  refine rLd (H.at 0 rfl) 0 rfl rfl rfl ?_
  refine rFieldAt rfl ?_
  refine rLd (H.at 0 rfl) 1 rfl rfl rfl ?_
  refine LoopP.rule (α := Nat × Value) (0, fsv ns) (fun x_ => [(14, .int .i64 x_.1), (5, x_.2)]) (fun x_ w_ => (x_.1 ≤ ns.length) ∧ (x_.1 < ns.length → x_.2 = .pointer (some ⟨nbk ns x_.1, 0, none⟩)) ∧ (∀ j, j < x_.1 → idn ns j ≠ id) ∧ Sat g w_ ((Pt r [fsv ns, .int .i64 ns.length] 39 :: Nd m 98 :: l))) (fun x_ => ns.length - x_.1) ?_ ?_ ?_
  · repeat first | exact mt_nil | refine mt_cons rfl ?_ | refine mt_i rfl (by first | omega | (simp only; omega) | (simp; omega) | (simp; done)) ?_
  · try simp only
    refine ⟨?_, ?_⟩
    · omega
    refine ⟨?_, ?_⟩
    · exact fun h => fsvS h
    refine ⟨?_, ?_⟩
    · (intro j hj; omega)
    exact H
  clear H
  rintro ⟨k, lv⟩ f_ w_ ⟨hk, hv, hno, H⟩
  try simp only at hk hv hno H ⊢
  rcases Nat.lt_or_ge k ns.length with hlt | hge
  · obtain rfl := hv hlt
    replace H := rgOpen H hR hlt
    by_cases hid : idn ns k = id
    · have e := fndR_at hlt hid hno
      refine cT (vLt_T (by omega)) ?_
      refine bk ?_
      refine rFieldAt rfl ?_
      refine rLd (H.at 0 rfl) 0 rfl rfl rfl ?_
      refine cT (vEq_T (by assumption)) ?_
      replace H := rgBack H hR hlt
      refine Done.mk ?_
      exact ⟨e.symm, H⟩
    · have hno' : ∀ j, j < k + 1 → idn ns j ≠ id := fun j hj => by
        rcases Nat.lt_or_ge j k with h | h
        · exact hno j h
        · obtain rfl : j = k := by omega
          exact hid
      have hnv : k + 1 < ns.length → (.pointer (some ⟨nbk ns (nxi ns.length k), 0, none⟩) : Value) = .pointer (some ⟨nbk ns (k + 1), 0, none⟩) := fun h => by
        have : nxi ns.length k = k + 1 := if_neg (by omega)
        rw [this]
      refine cT (vLt_T (by omega)) ?_
      refine bk ?_
      refine rFieldAt rfl ?_
      refine rLd (H.at 0 rfl) 0 rfl rfl rfl ?_
      refine cF (vEq_F (by assumption)) ?_
      refine rFieldAt rfl ?_
      refine rLd (H.at 0 rfl) 2 rfl rfl rfl ?_
      refine eqI64 (by omega) ?_
      replace H := rgBack H hR hlt
      refine Nxt.mk ((k + 1, Value.pointer (some { block := nbk ns (nxi (List.length ns) k), off := 0 }))) (mt_i rfl (by first | omega | (simp only; omega) | (simp; omega)) (mt_cons rfl (mt_nil))) ?_ ?_
      · refine ⟨?_, ?_⟩
        · assumption
        refine ⟨?_, ?_⟩
        · exact hnv
        refine ⟨?_, ?_⟩
        · exact hno'
        exact H
      omega
  · have e := fndR_no (ns := ns) (id := id) (fun j hj => hno j (by omega))
    refine cF (vLt_F (by omega)) ?_
    refine Done.mk ?_
    exact ⟨e.symm, H⟩
theorem findN (H : Sat g w (Pt r [fsv ns, .int .i64 n] 39 :: Nd m 98 :: l)) (hR : RgOk m ns) (hn : n = ns.length) (hl : ns.length ≤ 100000000000000) (id : Int) (hid : ∀ j, j < ns.length → idn ns j ≠ id) :
    Fc Try.prog 40 #[.pointer (some ⟨r, 0, none⟩), .int .i64 id] w (fun v w' => v = .pointer none ∧ Sat g w' (Pt r [fsv ns, .int .i64 n] 39 :: Nd m 98 :: l)) := by
  rw [← fndR_no hid]; exact find0 H hR hn hl id
theorem findY (H : Sat g w (Pt r [fsv ns, .int .i64 n] 39 :: Nd m 98 :: l)) (hR : RgOk m ns) (hn : n = ns.length) (hl : ns.length ≤ 100000000000000) (id : Int) (i : Nat) (hi : i < ns.length) (hid : idn ns i = id) (hno : ∀ j, j < i → idn ns j ≠ id) :
    Fc Try.prog 40 #[.pointer (some ⟨r, 0, none⟩), .int .i64 id] w (fun v w' => v = .pointer (some ⟨nbk ns i, 0, none⟩) ∧ Sat g w' (Pt r [fsv ns, .int .i64 n] 39 :: Nd m 98 :: l)) := by
  rw [← fndR_at hi hid hno]; exact find0 H hR hn hl id
end
end Go.Proofs.Ytcgenmddojgbpaa.Ring
