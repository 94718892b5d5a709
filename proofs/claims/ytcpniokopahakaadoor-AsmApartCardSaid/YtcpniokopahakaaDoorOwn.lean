/- Rows of the call's own that read as lists: grown, read, written. -/
import Derived.Test.YtcpniokopahakaaDoorSt
import Derived.Laws.AppendOwn
set_option linter.unusedVariables false
namespace Go.Proofs.YtcpniokopahakaaDoor.Eng
open Go Go.RowKit
variable {P : Program} {α : Type}
/-- A row of the call's own (from block lo on) that reads as xs, s cells an element. -/
def Own (lo : Nat) (w : World) (e : TypeId) (s : Nat) (en : α → List Value) (v : Value) (xs : List α) : Prop := w.ownsRow lo e s v xs.length (xs.flatMap en) ∧ ∀ x, (en x).length = s
theorem flat_len {en : α → List Value} {s : Nat} (h : ∀ x, (en x).length = s) (xs : List α) : (xs.flatMap en).length = xs.length * s := by
  induction xs with
  | nil => simp
  | cons x xs ih => rw [List.flatMap_cons, List.length_append, h, ih, List.length_cons, Nat.succ_mul]; omega
theorem flat_part {en : α → List Value} {s : Nat} (h : ∀ x, (en x).length = s) : ∀ (xs : List α) (i : Nat) (x : α), xs[i]? = some x → ((xs.flatMap en).drop (i * s)).take s = en x := by
  intro xs
  induction xs with
  | nil => intro i x hx; simp at hx
  | cons y ys ih =>
    intro i x hx
    cases i with
    | zero =>
      obtain rfl := Option.some.inj hx
      rw [List.flatMap_cons, Nat.zero_mul, List.drop_zero, List.take_append_of_le_length (by rw [h]; exact Nat.le_refl _), List.take_of_length_le (by rw [h]; exact Nat.le_refl _)]
    | succ i =>
      rw [List.flatMap_cons, Nat.succ_mul, Nat.add_comm, ← List.drop_drop, List.drop_append_of_le_length (by rw [h]; exact Nat.le_refl _), List.drop_of_length_le (l := en y) (by rw [h]; exact Nat.le_refl _), List.nil_append]
      exact ih i x (by simpa using hx)
theorem Own.nil (lo : Nat) (w : World) (e : TypeId) {s : Nat} {en : α → List Value} (h : ∀ x, (en x).length = s) : Own lo w e s en (.slice none 0 0) [] := ⟨World.ownsRow_nil w lo e s, h⟩
/-- What an own row's growth leaves alone. -/
structure Gr (w w' : World) (v v' : Value) : Prop where
  g : w.grownBy w' v.ownBlock
  at_ : v'.ownBlock = v.ownBlock ∨ v'.ownBlock = none ∨ ∃ k, v'.ownBlock = some k ∧ w.heap.size ≤ k
theorem append_block {w : World} {lo : Nat} {t ty e : TypeId} {i : TypeInfo} {z : Value} {s : Nat} (ht : P.underlying t = some (.slice e)) (hi : P.info? e = some i) (hz : i.zero = some z) (hs : i.size = s) (hzs : z.cells.size = s)
    {v : Value} {n : Nat} {xs : List Value} (hown : w.ownsRow lo e s v n xs) {a : Addr} {m c : Nat} {news : List Value} (hl : news.length = m * s) (hnews : ∀ j u, news[j]? = some u → w.cell? (a.add j) = some u) (h1 : ∀ u ∈ news, u.oneCell' = true)
    (h63 : n + m ≤ maxLen) (hbytes : (n + m) * i.bytes ≤ 140737488355328) {v' : Value} {w' : World} (hr : (Builtin.append_ #[t, t] ty #[v, .slice (some a) m c]).run P w = .ok v' w') :
    v'.ownBlock = v.ownBlock ∨ v'.ownBlock = none ∨ v'.ownBlock = some w.heap.size := by
  subst hs
  have hsmall : n + m ≤ 9223372036854775807 := by simp only [maxLen] at h63; omega
  have done : ∀ {u : Value} {w2 : World}, (Builtin.append_ #[t, t] ty #[v, .slice (some a) m c]).run P w = .ok u w2 → v' = u := fun h => by
    rw [hr] at h; injection h
  rcases hown.2 with ⟨rfl, rfl⟩ | ⟨g, cap, cur, rfl, hbg, hg, hnc, hcm, hcs, htake⟩
  · by_cases hm : m = 0
    · subst hm
      have hn : news = [] := List.eq_nil_of_length_eq_zero (by simpa using hl)
      subst hn
      have : (Builtin.append_ #[t, t] ty #[.slice none 0 0, .slice (some a) 0 c]).run P w = .ok (.slice none 0 0) w := by
        simp [Builtin.append_, run_underlying ht, sizeOf, typeInfo, hi, Builtin.lenOf, Builtin.firstCells, loadCells, loadCellsFrom]
      rw [done this]; exact .inl rfl
    · have hr2 := run_append_nil (P := P) w t ty e i z ht hi hz a m c news hl hnews (by omega) (by omega) (by have hb := hbytes; simp only [Nat.zero_add] at hb; omega)
      rw [done hr2]; exact .inr (.inr rfl)
  · by_cases hroom : n + m ≤ cap
    · have hfit : n * i.size + news.length ≤ cur.size := by rw [hl, hcs, ← Nat.add_mul]; exact Nat.mul_le_mul_right _ hroom
      have hr2 := run_append_room (P := P) w t ty e i ht hi g n cap cur hg a m c news hl hnews h1 hroom hfit
      rw [done hr2]; exact .inl rfl
    · have holds : ∀ j u, xs[j]? = some u → w.cell? ((⟨g, 0, none⟩ : Addr).add j) = some u := hown.cells (g := g) rfl
      have hr2 := run_append_grow (P := P) w t ty e i z ht hi hz ⟨g, 0, none⟩ n cap xs hown.1 holds a m c news hl hnews (by omega) (by omega) (growslice_fits (by omega) hbytes)
      rw [done hr2]; exact .inr (.inr rfl)
/-- append of things that lie somewhere -/
theorem rAppO {w : World} {K : Value → World → Prop} {lo : Nat} {t ty e : TypeId} {en : α → List Value} {s : Nat} {v : Value} {xs ys : List α} {m c b o : Nat} (z : Value) (by_ : Nat) (hown : Own lo w e s en v xs) (hat : At w b o (ys.flatMap en)) (hm : ys.length = m)
    (h1 : ∀ y ∈ ys, ((en y).all (·.oneCell')) = true) (hu : P.underlying t = some (.slice e)) (hz : (P.info? e).map (fun i => (i.zero, i.size, i.bytes)) = some (some z, s, by_)) (hzs : z.cells.size = s) (hsz : 0 < s)
    (hb : (xs.length + m) * by_ ≤ 140737488355328) (hml : xs.length + m ≤ 140737488355328) (hlo : lo ≤ w.heap.size)
    (k : ∀ v' w', Own lo w' e s en v' (xs ++ ys) → Gr w w' v v' → K v' w') : RunP P (Builtin.append_ #[t, t] ty #[v, .slice (some ⟨b, o, none⟩) m c]) w K := by
  cases hi : P.info? e with
  | none => simp [hi] at hz
  | some i =>
    simp only [hi, Option.map_some, Option.some.injEq, Prod.mk.injEq] at hz
    obtain ⟨h2, h3, h4⟩ := hz
    subst hm
    have hc : ∀ j u, (ys.flatMap en)[j]? = some u → w.cell? ((⟨b, o, none⟩ : Addr).add j) = some u := fun j u hj => by rw [Addr.add_lit]; exact hat.cell hj
    have ho : ∀ u ∈ ys.flatMap en, u.oneCell' = true := fun u hu => by
      obtain ⟨y, hy, hu⟩ := List.mem_flatMap.1 hu
      exact List.all_eq_true.1 (h1 y hy) u hu
    obtain ⟨v', w', hr, a1, a2, a3⟩ := run_append_own (P := P) w lo t ty e i z s by_ hu hi h2 h3 h4 hzs hsz v xs.length (xs.flatMap en) hown.1 ⟨b, o, none⟩ ys.length c (ys.flatMap en) (flat_len hown.2 ys) hc ho (by simp [maxLen]; omega) hb hlo
    have hbl := append_block hu hi h2 h3 hzs hown.1 (flat_len hown.2 ys) hc ho (by simp [maxLen]; omega) (by rw [h4]; exact hb) hr
    refine ⟨v', w', hr, k v' w' ⟨by rw [List.length_append, List.flatMap_append]; exact a1, hown.2⟩ ⟨a2, ?_⟩⟩
    rcases hbl with h | h | h
    · exact .inl h
    · exact .inr (.inl h)
    · exact .inr (.inr ⟨_, h, Nat.le_refl _⟩)
theorem Own.keep {lo : Nat} {w w' : World} {e : TypeId} {s : Nat} {en : α → List Value} {v : Value} {xs : List α} (h : Own lo w e s en v xs) (hb : ∀ k, v.ownBlock = some k → w'.heap[k]? = w.heap[k]?) : Own lo w' e s en v xs := ⟨own_keep h.1 hb, h.2⟩
theorem Own.lt {lo : Nat} {w : World} {e : TypeId} {s : Nat} {en : α → List Value} {v : Value} {xs : List α} (h : Own lo w e s en v xs) {k : Nat} (hk : v.ownBlock = some k) : lo ≤ k ∧ k < w.heap.size := h.1.lt k hk
theorem Own.mono {lo lo' : Nat} {w : World} {e : TypeId} {s : Nat} {en : α → List Value} {v : Value} {xs : List α} (h : Own lo w e s en v xs) (hl : lo' ≤ lo) : Own lo' w e s en v xs := ⟨own_mono h.1 hl, h.2⟩
section
variable {lo s : Nat} {w0 w w' : World} {e e' : TypeId} {en : α → List Value} {v v' u : Value} {xs : List α} {cs : List Value} {b : Nat}
theorem oN (h : Own lo w e s en v xs) (n : New w w' cs e') : Own lo w' e s en v xs := h.keep fun k hk => n.below.block k (h.lt hk).2
theorem oB (h : Own lo w e s en v xs) (n : Below w.heap.size w w') : Own lo w' e s en v xs := h.keep fun k hk => n.block k (h.lt hk).2
theorem oU (h : Own lo w e s en v xs) (n : Upd w w' b) (hne : v.ownBlock ≠ some b) : Own lo w' e s en v xs := h.keep fun k hk => n.block k (fun e => hne (e ▸ hk))
theorem oS (h : Own lo w e s en v xs) (n : Still w w') : Own lo w' e s en v xs := h.keep fun k hk => by rw [n.heap]
/-- Two rows lie apart. -/
def Dj (u v : Value) : Prop := ∀ k, u.ownBlock = some k → v.ownBlock ≠ some k
theorem Dj.symm (h : Dj u v) : Dj v u := fun k hk hu => h k hu hk
theorem Dj.nil (v : Value) : Dj (.slice none 0 0) v := fun k hk => by cases hk
theorem oG (h : Own lo w e s en u xs) (g : Gr w w' v v') (hd : Dj u v) : Own lo w' e s en u xs := h.keep fun k hk => g.g.block k (h.lt hk).2 (fun e => hd k hk e.symm)
theorem djG (h : Own lo w e s en u xs) (g : Gr w w' v v') (hd : Dj u v) : Dj u v' := fun k hk hv => by
  rcases g.at_ with e | e | ⟨j, e, hj⟩
  · exact hd k hk (e ▸ hv)
  · rw [e] at hv; cases hv
  · rw [e] at hv; obtain rfl := Option.some.inj hv
    have := (h.lt hk).2; omega
theorem gG (G : Below w0.heap.size w0 w) (g : Gr w w' v v') (hv : ∀ k, v.ownBlock = some k → w0.heap.size ≤ k) : Below w0.heap.size w0 w' := G.grown g.g G.size hv
theorem kG {cs : List Value} (h : Blk w b cs e') (g : Gr w w' v v') (hne : v.ownBlock ≠ some b) : Blk w' b cs e' := h.keep (g.g.block b h.lt (fun e => hne e.symm))
theorem aG {o : Nat} {vs : List Value} (h : At w b o vs) (g : Gr w w' v v') (hne : v.ownBlock ≠ some b) : At w' b o vs := h.keep (g.g.block b h.lt (fun e => hne e.symm))
theorem Own.rd {ok : α → Prop} (h : Own lo w e s en v xs) (hok : ∀ x ∈ xs, ok x) (hs0 : 0 < s) : SlR (RE en ok) s (Rg w lo w.heap.size) v xs := by
  rcases h.1.2 with ⟨rfl, h0⟩ | ⟨g, cap, cur, rfl, hlo, hg, hnc, hcm, hcs, ht⟩
  · have : xs = [] := List.eq_nil_of_length_eq_zero h0
    subst this; exact SlR.nil _ _ _
  · refine ⟨_, cap, rfl, ⟨hnc, by unfold maxLen at hcm; omega⟩, nofun, fun _ => ⟨g, 0, xs.flatMap en, rfl, ⟨cur, e, (0, 0), ⟨hlo, (Array.getElem?_eq_some_iff.1 hg).1, hg⟩, fun i x hx => ?_⟩, flat_len h.2 xs, fun i x hx => ⟨flat_part h.2 xs i x hx, hok x (List.mem_of_getElem? hx)⟩⟩⟩
    rw [← ht, List.getElem?_take] at hx
    split at hx
    · rw [Nat.zero_add]; simpa using hx
    · cases hx
/-- The row's block, written out. -/
theorem Own.blk (h : Own lo w e s en v xs) (hne : xs ≠ []) : ∃ g cap cur, v = .slice (some ⟨g, 0, none⟩) xs.length cap ∧ lo ≤ g ∧ Blk w g cur e ∧ cur.take (xs.length * s) = xs.flatMap en ∧ xs.length * s ≤ cur.length ∧ xs.length ≤ cap ∧ cap ≤ 9223372036854775807 ∧ cur.length = cap * s := by
  rcases h.1.2 with ⟨rfl, h0⟩ | ⟨g, cap, cur, rfl, hlo, hg, hnc, hcm, hcs, ht⟩
  · exact absurd (List.eq_nil_of_length_eq_zero h0) hne
  · have hle : xs.length * s ≤ cap * s := Nat.mul_le_mul_right _ hnc
    have hcl : cur.toList.length = cap * s := by simpa using hcs
    exact ⟨g, cap, cur.toList, rfl, hlo, hg, ht, by rw [hcl]; exact hle, hnc, by unfold maxLen at hcm; omega, hcl⟩
theorem Own.of_blk {g cap : Nat} {cur : List Value} (hlo : lo ≤ g) (hb : Blk w g cur e) (ht : cur.take (xs.length * s) = xs.flatMap en) (hn : xs.length ≤ cap) (hc : cap ≤ 9223372036854775807) (hl : cur.length = cap * s) (hs : ∀ x, (en x).length = s) :
    Own lo w e s en (.slice (some ⟨g, 0, none⟩) xs.length cap) xs :=
  ⟨⟨flat_len hs xs, .inr ⟨g, cap, cur.toArray, rfl, hlo, hb, hn, by unfold maxLen; omega, by simpa using hl, by simpa using ht⟩⟩, hs⟩
end
/-! ## Slices of slices -/
theorem slr_part {H : Hv} {R : Hv → List Value → α → Prop} {sz : Nat} {a : Option Addr} {cap : Nat} {xs : List α} {l h : Nat} (hs : SlR R sz H (.slice a xs.length cap) xs) (hl : l ≤ h) (hh : h ≤ xs.length) :
    SlR R sz H (.slice (if cap = l then a else a.map (·.add (l * sz))) (h - l) (cap - l)) ((xs.take h).drop l) := by
  obtain ⟨a', cap', he, h2, h3, h4⟩ := hs
  injection he with e1 e2 e3
  subst e1; subst e3
  have hlen : ((xs.take h).drop l).length = h - l := by rw [List.length_drop, List.length_take]; omega
  have hel : ∀ i, i < h - l → ((xs.take h).drop l)[i]? = xs[l + i]? := fun i hi => by rw [List.getElem?_drop, List.getElem?_take, if_pos (by omega)]
  refine ⟨_, cap - l, by rw [hlen], by rw [hlen]; omega, fun hn => ?_, fun hne => ?_⟩
  · have : a = none := by
      split at hn
      · exact hn
      · cases a with
        | none => rfl
        | some x => cases hn
    obtain ⟨rfl, rfl⟩ := h3 this
    simp
  · have hpos : 0 < h - l := by rw [← hlen]; exact List.length_pos_iff.2 hne
    obtain ⟨b, o, news, rfl, k1, k2⟩ := h4 (by intro e; subst e; simp at hh; omega)
    have hc : cap ≠ l := by omega
    refine ⟨b, o + l * sz, (news.drop (l * sz)).take ((h - l) * sz), by rw [if_neg hc]; simp [Addr.add_lit], ?_, ?_, fun i x hx => ?_⟩
    · obtain ⟨cs, e, fz, k3, k4⟩ := k1
      refine ⟨cs, e, fz, k3, fun i v hv => ?_⟩
      rw [List.getElem?_take] at hv
      split at hv
      · rw [List.getElem?_drop] at hv; rw [Nat.add_assoc]; exact k4 _ _ hv
      · cases hv
    · rw [List.length_take, List.length_drop, k2.1, hlen]
      have := Nat.mul_le_mul_right sz (show (h - l) + l ≤ xs.length by omega)
      rw [Nat.add_mul] at this; omega
    · have hi : i < h - l := by rw [← hlen]; exact (List.getElem?_eq_some_iff.1 hx).1
      rw [hel i hi] at hx
      have hr := k2.2 (l + i) x hx
      have e : (((news.drop (l * sz)).take ((h - l) * sz)).drop (i * sz)).take sz = (news.drop ((l + i) * sz)).take sz := by
        have := Nat.mul_le_mul_right sz (show i + 1 ≤ h - l by omega)
        rw [Nat.succ_mul] at this
        rw [List.drop_take, List.take_take, List.drop_drop, Nat.add_mul]
        congr 1; omega
      rw [e]; exact hr
section
variable {w : World} {K : Value → World → Prop} {H : Hv} {R : Hv → List Value → α → Prop} {sz : Nat} {t e : TypeId} {v : Value} {xs : List α}
theorem rSl {lo hi : Option Value} (l h : Nat) (hs : SlR R sz H v xs) (ht : P.underlying t = some (.slice e)) (hsz : (P.info? e).map (fun i => i.size) = some sz) (hl : l ≤ h) (hh : h ≤ xs.length)
    (hlo : lo = none ∧ l = 0 ∨ ∃ k, lo = some (.int k l)) (hhi : hi = none ∧ h = xs.length ∨ ∃ k, hi = some (.int k h)) (k : ∀ v', SlR R sz H v' ((xs.take h).drop l) → K v' w) : RunP P (Instr.sliceAt t v lo hi none) w K := by
  obtain ⟨a, cap, rfl, h2, h3, h4⟩ := hs
  refine ⟨_, w, ?_, k _ (slr_part (sz := sz) ⟨a, cap, rfl, h2, h3, h4⟩ hl hh)⟩
  have he : P.elem t = e := by simp [Program.elem, ht]
  rw [run_sliceAt_slice (P := P) w t _ _ _ _ (by rw [he]; exact ht)]
  cases hi' : P.info? e with
  | none => simp [hi'] at hsz
  | some i' =>
    simp only [hi', Option.map_some, Option.some.injEq] at hsz
    have hb : (Instr.sliceBounds true xs.length cap lo hi none).run P w = .ok (l, h, cap) w := by
      unfold Instr.sliceBounds
      rcases hlo with ⟨rfl, rfl⟩ | ⟨kl, rfl⟩ <;> rcases hhi with ⟨rfl, rfl⟩ | ⟨kh, rfl⟩
      · simp
      · simp [run_sliceBound (P := P) w kh (h : Int) cap _ (by omega) (by omega)]
      · simp [run_sliceBound (P := P) w kl (l : Int) xs.length _ (by omega) (by omega)]
      · simp [run_sliceBound (P := P) w kh (h : Int) cap _ (by omega) (by omega), run_sliceBound (P := P) w kl (l : Int) h _ (by omega) (by omega)]
    unfold Instr.slice
    simp only [Sem.run_bind, run_underlying ht, Result.andThen_ok, hb]
    simp [sizeOf, typeInfo, hi', hsz]
end
/-! ## Readable slices -/
/-- A slice of old memory that reads as xs. -/
abbrev Rd (en : α → List Value) (ok : α → Prop) (s : Nat) (w : World) (v : Value) (xs : List α) : Prop := SlR (RE en ok) s (Rg w 0 w.heap.size) v xs
theorem Rd.next {en : α → List Value} {ok : α → Prop} {s : Nat} {w w' : World} {v : Value} {xs : List α} (h : Rd en ok s w v xs) (b : Below w.heap.size w w') : Rd en ok s w' v xs :=
  h.mono (RE.mono' en ok) (Rg.mono (Nat.le_refl _) b.size fun k _ hk => b.block k hk)
theorem SlR.wide {en : α → List Value} {ok : α → Prop} {s lo hi : Nat} {w : World} {v : Value} {xs : List α} (h : SlR (RE en ok) s (Rg w lo hi) v xs) (hh : hi ≤ w.heap.size) : Rd en ok s w v xs :=
  h.mono (RE.mono' en ok) (Rg.mono (Nat.zero_le _) hh fun _ _ _ => rfl)
theorem SlR.wide' {en : α → List Value} {ok : α → Prop} {s lo : Nat} {w : World} {v : Value} {xs : List α} (h : SlR (RE en ok) s (Rg w lo w.heap.size) v xs) : Rd en ok s w v xs := h.wide (Nat.le_refl _)
/-- Old slices read on, whatever the call's own memory does. -/
theorem sG {en : α → List Value} {ok : α → Prop} {s hi : Nat} {w w' : World} {v : Value} {xs : List α} (h : SlR (RE en ok) s (Rg w 0 hi) v xs) (b : Below hi w w') : SlR (RE en ok) s (Rg w' 0 hi) v xs :=
  h.mono (RE.mono' en ok) (Rg.below b (Nat.le_refl _))
/-- x[i] of a slice that reads as a list of flat things. -/
theorem rIdxE {en : α → List Value} {ok : α → Prop} {w : World} {K : Value → World → Prop} (s : Nat) {lo hi : Nat} {t e : TypeId} {v : Value} {xs : List α} {ki : IntKind} {i : Int} (h : SlR (RE en ok) s (Rg w lo hi) v xs) (j : Nat) (x : α) (hj : i = j) (hx : xs[j]? = some x)
    (ht : P.underlying t = some (.slice e)) (hs : (P.info? e).map (fun i => i.size) = some s)
    (k : ∀ b o, At w b o (en x) → ok x → K (.pointer (some ⟨b, o, none⟩)) w) : RunP P (Instr.indexAt t v (.int ki i)) w K := by
  have hl := (List.getElem?_eq_some_iff.1 hx).1
  have e1 : xs[j] = x := (List.getElem?_eq_some_iff.1 hx).2
  refine rIdxR s h j hj hl ht hs fun b o vs _ hat hR => ?_
  rw [e1] at hR
  exact k b o (hR.1 ▸ hat) hR.2
/-- Where x[j] lies, and that it is found in whatever world. -/
theorem SlR.place {en : α → List Value} {ok : α → Prop} {w : World} (s : Nat) {lo hi : Nat} {t e : TypeId} {v : Value} {xs : List α} (h : SlR (RE en ok) s (Rg w lo hi) v xs) (j : Nat) (x : α) (hx : xs[j]? = some x)
    (ht : P.underlying t = some (.slice e)) (hs : (P.info? e).map (fun i => i.size) = some s) :
    ∃ b o, At w b o (en x) ∧ ok x ∧ lo ≤ b ∧ b < hi ∧ ∀ {K : Value → World → Prop} {w' : World} {i : Int} {ki : IntKind}, i = j → K (.pointer (some ⟨b, o, none⟩)) w' → RunP P (Instr.indexAt t v (.int ki i)) w' K := by
  have hl := (List.getElem?_eq_some_iff.1 hx).1
  obtain ⟨a, cap, rfl, h2, h3, h4⟩ := h
  obtain ⟨b, o, news, rfl, k1, k2⟩ := h4 (by intro e; subst e; simp at hl)
  obtain ⟨hR, hok⟩ := k2.2 j x hx
  have hat := (k1.at.sub (j * s) s)
  rw [hR] at hat
  obtain ⟨_, _, _, ⟨hb1, hb2, _⟩, _⟩ := k1
  refine ⟨b, o + j * s, hat, hok, hb1, hb2, fun {K w' i ki} hi k => ?_⟩
  subst hi
  refine ⟨_, w', ?_, k⟩
  cases hi' : P.info? e with
  | none => simp [hi'] at hs
  | some i' =>
    simp only [hi', Option.map_some, Option.some.injEq] at hs
    simp [Instr.indexAt, asIntOf, run_underlying ht, sizeOf, typeInfo, hi', hs, Addr.add_lit, hl]
theorem flat_take {en : α → List Value} {s : Nat} (h : ∀ x, (en x).length = s) (xs : List α) (j : Nat) (hj : j ≤ xs.length) : (xs.flatMap en).take (j * s) = (xs.take j).flatMap en := by
  have e : xs.flatMap en = (xs.take j).flatMap en ++ (xs.drop j).flatMap en := by rw [← List.flatMap_append, List.take_append_drop]
  have hl : ((xs.take j).flatMap en).length = j * s := by rw [flat_len h, List.length_take, Nat.min_eq_left hj]
  rw [e, List.take_append_of_le_length (by omega), List.take_of_length_le (by omega)]
theorem flat_drop {en : α → List Value} {s : Nat} (h : ∀ x, (en x).length = s) (xs : List α) (j : Nat) (hj : j ≤ xs.length) : (xs.flatMap en).drop (j * s) = (xs.drop j).flatMap en := by
  have e : xs.flatMap en = (xs.take j).flatMap en ++ (xs.drop j).flatMap en := by rw [← List.flatMap_append, List.take_append_drop]
  have hl : ((xs.take j).flatMap en).length = j * s := by rw [flat_len h, List.length_take, Nat.min_eq_left hj]
  rw [e, List.drop_append_of_le_length (by omega), List.drop_of_length_le (by omega), List.nil_append]
/-- An element of an own row is written over. -/
theorem Own.store {lo s : Nat} {w : World} {e : TypeId} {en : α → List Value} {v : Value} {xs : List α} (h : Own lo w e s en v xs) (j : Nat) (hj : j < xs.length) :
    ∃ g cap cur, v = .slice (some ⟨g, 0, none⟩) xs.length cap ∧ lo ≤ g ∧ Blk w g cur e ∧ j * s + s ≤ cur.length ∧ ∀ (w' : World) (x : α), Blk w' g (setsL cur (j * s) (en x)) e → Own lo w' e s en v (xs.set j x) := by
  obtain ⟨g, cap, cur, rfl, hlo, hb, ht, hlen, hcap, hcm, hcl⟩ := h.blk (by intro e; subst e; simp at hj)
  have hle : j * s + s ≤ xs.length * s := by rw [← Nat.succ_mul]; exact Nat.mul_le_mul_right _ hj
  refine ⟨g, cap, cur, rfl, hlo, hb, by omega, fun w' x hb' => ?_⟩
  have hxl : (en x).length = s := h.2 x
  have hset : xs.set j x = xs.take j ++ x :: xs.drop (j + 1) := by
    rw [List.set_eq_take_append_cons_drop, if_pos hj]
  have key : (setsL cur (j * s) (en x)).take (xs.length * s) = (xs.set j x).flatMap en := by
    rw [setsL_eq _ _ _ (by omega), hset, List.flatMap_append, List.flatMap_cons, ← flat_take h.2 xs j (Nat.le_of_lt hj), ← flat_drop h.2 xs (j + 1) hj, ← ht, hxl]
    apply List.ext_getElem?
    intro i
    simp only [List.getElem?_take, List.getElem?_append, List.length_append, List.length_take, List.getElem?_drop, List.append_assoc, hxl, Nat.succ_mul]
    rw [show min (j * s) cur.length = j * s by omega, show min (j * s) (min (xs.length * s) cur.length) = j * s by omega]
    by_cases h1 : i < xs.length * s
    · rw [if_pos h1]
      by_cases h2 : i < j * s
      · rw [if_pos h2, if_pos h2, if_pos h2, if_pos h2, if_pos h1]
      · rw [if_neg h2, if_neg h2]
        by_cases h3 : i - j * s < s
        · rw [if_pos h3, if_pos h3]
        · rw [if_neg h3, if_neg h3, if_pos (by omega)]
    · rw [if_neg h1, if_neg (by omega), if_neg (by omega), if_neg (by omega)]
  have := Own.of_blk (lo := lo) (xs := xs.set j x) (s := s) (en := en) (cap := cap) hlo hb' (by rw [List.length_set]; exact key) (by rw [List.length_set]; exact hcap) hcm (by rw [setsL_length]; exact hcl) h.2
  rw [List.length_set] at this
  exact this
theorem rStoreAL {P : Program} {w : World} {t : TypeId} {e : TypeId} {b o : Nat} {cs vs : List Value} {K : World → Prop} (hb : Blk w b cs e) (hs : (P.info? t).map (·.size) = some vs.length) (ho : o + vs.length ≤ cs.length) (hv : vs.all (·.oneCell') = true)
    (k : ∀ w', Upd w w' b → Blk w' b (setsL cs o vs) e → K w') : DoP P (Instr.storeAt t (.pointer (some ⟨b, o, none⟩)) (.agg vs.toArray)) w K :=
  rStoreA hb hs (Nat.ble_eq_true_of_le ho) hv (by rw [setsK_eq]; exact k)
end Go.Proofs.YtcpniokopahakaaDoor.Eng
