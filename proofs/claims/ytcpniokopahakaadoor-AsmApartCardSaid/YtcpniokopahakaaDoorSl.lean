import Derived.Test.YtcpniokopahakaaDoorMem
namespace Go.Proofs.YtcpniokopahakaaDoor.Eng
open Go Go.RowKit
set_option linter.unusedVariables false
variable {P : Program} {w : World} {K : Value → World → Prop}

/-! ## Own rows: grown by append -/
theorem below_grown {lo B : Nat} {w0 w w' : World} {e : TypeId} {sz : Nat} {v : Value} {n : Nat} {xs : List Value} (hb : Below B w0 w) (hown : w.ownsRow lo e sz v n xs) (hg : w.grownBy w' v.ownBlock) (hB : B ≤ lo) (hlo : B ≤ w.heap.size) : Below B w0 w' :=
  hb.grown hg hlo fun k hk => Nat.le_trans hB (hown.lt k hk).1
theorem own_keep {lo : Nat} {w w' : World} {e : TypeId} {sz : Nat} {v : Value} {n : Nat} {xs : List Value} (h : w.ownsRow lo e sz v n xs) (hb : ∀ k, v.ownBlock = some k → w'.heap[k]? = w.heap[k]?) : w'.ownsRow lo e sz v n xs := by
  refine ⟨h.1, ?_⟩
  rcases h.2 with hn | ⟨g, cap, cur, rfl, hbg, hgg, rest⟩
  · exact .inl hn
  · refine .inr ⟨g, cap, cur, rfl, hbg, ?_, rest⟩
    rw [hb g rfl]; exact hgg
theorem own_below {lo B : Nat} {w w' : World} {e : TypeId} {sz : Nat} {v : Value} {n : Nat} {xs : List Value} (h : w.ownsRow lo e sz v n xs) (hb : Below B w w') (hB : w.heap.size ≤ B) : w'.ownsRow lo e sz v n xs :=
  own_keep h fun k hk => hb.block k (Nat.lt_of_lt_of_le (h.lt k hk).2 hB)
theorem own_mono {lo lo' : Nat} {w : World} {e : TypeId} {sz : Nat} {v : Value} {n : Nat} {xs : List Value} (h : w.ownsRow lo e sz v n xs) (hl : lo' ≤ lo) : w.ownsRow lo' e sz v n xs := by
  refine ⟨h.1, ?_⟩
  rcases h.2 with hn | ⟨g, cap, cur, rfl, hbg, rest⟩
  · exact .inl hn
  · exact .inr ⟨g, cap, cur, rfl, Nat.le_trans hl hbg, rest⟩
theorem New.own {w w' : World} {cs : List Value} {e : TypeId} (h : New w w' cs e) (n sz : Nat) (hn : cs.length = n * sz) (hm : n ≤ 140737488355328) : w'.ownsRow w.heap.size e sz (.slice (some ⟨w.heap.size, 0, none⟩) n n) n cs :=
  ⟨hn, .inr ⟨w.heap.size, n, cs.toArray, rfl, Nat.le_refl _, h.blk, Nat.le_refl _, by simp [maxLen]; omega, by simpa using hn, List.take_of_length_le (by simp [hn])⟩⟩
/-- append of cells that lie somewhere, to a row of the call's own -/
theorem rApp (lo : Nat) {t ty e : TypeId} (z : Value) (sz by_ : Nat) {v : Value} {n : Nat} {xs : List Value} {m c b o : Nat} {news : List Value} (hown : w.ownsRow lo e sz v n xs) (hat : At w b o news)
    (hl : news.length = m * sz) (h1 : ∀ u ∈ news, u.oneCell' = true) (hu : P.underlying t = some (.slice e)) (hz : (P.info? e).map (fun i => (i.zero, i.size, i.bytes)) = some (some z, sz, by_))
    (hzs : z.cells.size = sz) (hsz : 0 < sz) (hb : (n + m) * by_ ≤ 140737488355328) (hm : n + m ≤ 140737488355328) (hlo : lo ≤ w.heap.size)
    (k : ∀ v' w', w'.ownsRow lo e sz v' (n + m) (xs ++ news) → w.grownBy w' v.ownBlock → (v' = .slice none 0 0 ↔ v = .slice none 0 0 ∧ m = 0) → K v' w') :
    RunP P (Builtin.append_ #[t, t] ty #[v, .slice (some ⟨b, o, none⟩) m c]) w K := by
  cases hi : P.info? e with
  | none => simp [hi] at hz
  | some i =>
    simp only [hi, Option.map_some, Option.some.injEq, Prod.mk.injEq] at hz
    obtain ⟨h2, h3, h4⟩ := hz
    obtain ⟨v', w', hr, a1, a2, a3⟩ := run_append_own (P := P) w lo t ty e i z sz by_ hu hi h2 h3 h4 hzs hsz v n xs hown ⟨b, o, none⟩ m c news hl
      (fun j u hj => by rw [Addr.add_lit]; exact hat.cell hj) h1 (by simp [maxLen]; omega) hb hlo
    exact ⟨v', w', hr, k v' w' a1 a2 a3⟩
theorem rAppNil {lo : Nat} {t ty e : TypeId} {sz : Nat} {v : Value} {n : Nat} {xs : List Value} (hown : w.ownsRow lo e sz v n xs) (hu : P.underlying t = some (.slice e)) (hi : (P.info? e).map (fun i => i.size) = some sz)
    (k : K v w) : RunP P (Builtin.append_ #[t, t] ty #[v, .slice none 0 0]) w K := by
  cases hi' : P.info? e with
  | none => simp [hi'] at hi
  | some i => exact ⟨_, _, run_append_owned_none (P := P) w lo t ty e i sz hu hi' v n xs hown, k⟩
/-- append of one value that was laid into a new block just ahead -/
theorem rApp1 (lo : Nat) {t ty e : TypeId} (z : Value) (by_ : Nat) {w0 : World} {v u : Value} {n : Nat} {xs : List Value} (hown : w0.ownsRow lo e 1 v n xs) (hnew : New w0 w [u] e) (h1 : u.oneCell' = true)
    (hu : P.underlying t = some (.slice e)) (hz : (P.info? e).map (fun i => (i.zero, i.size, i.bytes)) = some (some z, 1, by_)) (hzs : z.cells.size = 1)
    (hb : (n + 1) * by_ ≤ 140737488355328) (hm : n + 1 ≤ 140737488355328) (hlo : lo ≤ w0.heap.size)
    (k : ∀ v' w', w'.ownsRow lo e 1 v' (n + 1) (xs ++ [u]) → w0.grownBy w' v.ownBlock → v' ≠ .slice none 0 0 → K v' w') :
    RunP P (Builtin.append_ #[t, t] ty #[v, .slice (some ⟨w0.heap.size, 0, none⟩) 1 1]) w K := by
  refine rApp lo z 1 by_ (own_below hown hnew.below (Nat.le_refl _)) hnew.blk.at rfl (by simpa using h1) hu hz hzs Nat.one_pos hb hm (by rw [hnew.size]; omega) ?_
  intro v' w' a1 a2 a3
  refine k v' w' a1 ⟨a2.os.trans hnew.below.os, a2.tape.trans hnew.below.tape, a2.output.trans hnew.below.output, Nat.le_trans hnew.below.size a2.size, fun j hj hne => (a2.block j (by rw [hnew.size]; omega) hne).trans (hnew.below.block j hj)⟩ ?_
  intro h
  exact absurd (a3.1 h).2 (by decide)

/-! ## Bytes to strings -/
def byteV (c : UInt8) : Value := .int .u8 (c.toNat : Int)
theorem rBytesStr {lo : Nat} {s d e : TypeId} {v : Value} {n : Nat} {l : List UInt8} (hown : w.ownsRow lo e 1 v n (l.map byteV)) (hs : P.underlying s = some (.slice e)) (he : P.underlying e = some (.int .u8)) (hd : P.underlying d = some .string)
    (k : K (.string (bs l)) w) : RunP P (convert s d v) w K := by
  refine ⟨_, w, ?_, k⟩
  have hn : n = l.length := by have := hown.1; simp at this; omega
  rcases hown.2 with ⟨rfl, h0⟩ | ⟨g, cap, cur, rfl, _, hg, _, _, _, htake⟩
  · have : l = [] := List.eq_nil_of_length_eq_zero (by omega)
    subst this
    rw [run_convert_bytes_string (P := P) w s d e none 0 0 hs he hd]
    rfl
  · rw [run_convert_bytes_string (P := P) w s d e _ _ _ hs he hd]
    have hl : (loadCells ⟨g, 0, none⟩ n).run P w = .ok ((l.map fun c => (c.toNat : Int)).map (Value.int .u8)).toArray w := by
      have := run_loadCells_list (P := P) w ⟨g, 0, none⟩ (l.map byteV) (fun j u hj => by
        rw [Addr.add_lit, Nat.zero_add, cell_of_row w g j cur e (0, 0) hg]
        rw [← htake, List.getElem?_take] at hj
        split at hj
        · simpa using hj
        · cases hj)
      simp only [List.length_map] at this
      rw [hn, this]
      simp [byteV, Function.comp_def]
    rw [run_bytesToString (P := P) w _ n cap _ hl, foldl_push_bytes]
    simp only [List.map_map]
    congr 2
    apply ByteArray.ext
    simp [bs, Function.comp_def]

/-! ## Slices that read as lists -/
abbrev Hv := Nat → Obj → Prop
/-- The blocks from lo to hi of a world. -/
def Rg (w : World) (lo hi : Nat) : Hv := fun b o => lo ≤ b ∧ b < hi ∧ w.heap[b]? = some o
def Hle (H H' : Hv) : Prop := ∀ b o, H b o → H' b o
theorem Hle.refl (H : Hv) : Hle H H := fun _ _ h => h
theorem Rg.mono {w w' : World} {lo hi lo' hi' : Nat} (hlo : lo' ≤ lo) (hhi : hi ≤ hi') (hs : ∀ b, lo ≤ b → b < hi → w'.heap[b]? = w.heap[b]?) : Hle (Rg w lo hi) (Rg w' lo' hi') :=
  fun b o ⟨h1, h2, h3⟩ => ⟨Nat.le_trans hlo h1, Nat.lt_of_lt_of_le h2 hhi, (hs b h1 h2).trans h3⟩
theorem Rg.below {w w' : World} {lo hi B : Nat} (hb : Below B w w') (h : hi ≤ B) : Hle (Rg w lo hi) (Rg w' lo hi) := Rg.mono (Nat.le_refl _) (Nat.le_refl _) fun b _ h2 => hb.block b (Nat.lt_of_lt_of_le h2 h)
def AtH (H : Hv) (b o : Nat) (vs : List Value) : Prop := ∃ cs e fz, H b (.cells cs e fz) ∧ ∀ i v, vs[i]? = some v → cs[o + i]? = some v
theorem AtH.at {w : World} {lo hi b o : Nat} {vs : List Value} (h : AtH (Rg w lo hi) b o vs) : At w b o vs := by
  obtain ⟨cs, e, fz, ⟨_, _, h1⟩, h2⟩ := h; exact ⟨cs, e, fz, h1, h2⟩
theorem AtH.mono {H H' : Hv} {b o : Nat} {vs : List Value} (h : AtH H b o vs) (hh : Hle H H') : AtH H' b o vs := by
  obtain ⟨cs, e, fz, h1, h2⟩ := h; exact ⟨cs, e, fz, hh _ _ h1, h2⟩
section
variable {α : Type}
/-- Cells that read as a list, sz cells an element. -/
def RowR (R : Hv → List Value → α → Prop) (sz : Nat) (H : Hv) (cells : List Value) (xs : List α) : Prop :=
  cells.length = xs.length * sz ∧ ∀ i x, xs[i]? = some x → R H ((cells.drop (i * sz)).take sz) x
/-- A slice that reads as a list. -/
def SlR (R : Hv → List Value → α → Prop) (sz : Nat) (H : Hv) (v : Value) (xs : List α) : Prop :=
  ∃ a cap, v = .slice a xs.length cap ∧ (xs.length ≤ cap ∧ cap ≤ 9223372036854775807) ∧ (a = none → xs = [] ∧ cap = 0) ∧
    (xs ≠ [] → ∃ b o news, a = some ⟨b, o, none⟩ ∧ AtH H b o news ∧ RowR R sz H news xs)
def Mono (R : Hv → List Value → α → Prop) : Prop := ∀ H H' vs x, Hle H H' → R H vs x → R H' vs x
theorem RowR.mono {R : Hv → List Value → α → Prop} {sz : Nat} {H H' : Hv} {cells : List Value} {xs : List α} (hR : Mono R) (h : RowR R sz H cells xs) (hh : Hle H H') : RowR R sz H' cells xs :=
  ⟨h.1, fun i x hx => hR _ _ _ _ hh (h.2 i x hx)⟩
theorem SlR.mono {R : Hv → List Value → α → Prop} {sz : Nat} {H H' : Hv} {v : Value} {xs : List α} (hR : Mono R) (h : SlR R sz H v xs) (hh : Hle H H') : SlR R sz H' v xs := by
  obtain ⟨a, cap, h1, h2, h3, h4⟩ := h
  exact ⟨a, cap, h1, h2, h3, fun hx => let ⟨b, o, news, e, k1, k2⟩ := h4 hx; ⟨b, o, news, e, k1.mono hh, k2.mono hR hh⟩⟩
theorem SlR.len {R : Hv → List Value → α → Prop} {sz : Nat} {H : Hv} {v : Value} {xs : List α} (h : SlR R sz H v xs) : xs.length ≤ 9223372036854775807 := by
  obtain ⟨a, cap, h1, h2, h3, h4⟩ := h; omega
theorem SlR.nil (R : Hv → List Value → α → Prop) (sz : Nat) (H : Hv) : SlR R sz H (.slice none 0 0) [] :=
  ⟨none, 0, rfl, by simp, fun _ => ⟨rfl, rfl⟩, fun h => absurd rfl h⟩
theorem rLenR {R : Hv → List Value → α → Prop} {sz : Nat} {H : Hv} {t ty e : TypeId} {v : Value} {xs : List α} (h : SlR R sz H v xs) (ht : P.underlying t = some (.slice e)) (k : K (.int .i64 xs.length) w) :
    RunP P (Builtin.len_ #[t] ty #[v]) w K := by
  obtain ⟨a, cap, rfl, h2, h3, h4⟩ := h
  exact rLenSl ht k
/-- x[i] of a slice that reads as a list: the place, and what lies there. -/
theorem rIdxR {R : Hv → List Value → α → Prop} (sz : Nat) {lo hi : Nat} {t e : TypeId} {v : Value} {xs : List α} {ki : IntKind} {i : Int} (h : SlR R sz (Rg w lo hi) v xs) (j : Nat) (hj : i = j) (hl : j < xs.length)
    (ht : P.underlying t = some (.slice e)) (hs : (P.info? e).map (fun i => i.size) = some sz)
    (k : ∀ b o vs, vs.length = sz → At w b o vs → R (Rg w lo hi) vs xs[j] → K (.pointer (some ⟨b, o, none⟩)) w) : RunP P (Instr.indexAt t v (.int ki i)) w K := by
  obtain ⟨a, cap, rfl, h2, h3, h4⟩ := h
  subst hj
  obtain ⟨b, o, news, rfl, k1, k2⟩ := h4 (by intro e; subst e; simp at hl)
  have hr := k2.2 j xs[j] (List.getElem?_eq_getElem hl)
  have hle : j * sz + sz ≤ news.length := by rw [k2.1, ← Nat.succ_mul]; exact Nat.mul_le_mul_right _ hl
  refine ⟨_, w, ?_, k b (o + j * sz) _ (by simp; omega) (k1.at.sub (j * sz) sz) hr⟩
  cases hi' : P.info? e with
  | none => simp [hi'] at hs
  | some i' =>
    simp only [hi', Option.map_some, Option.some.injEq] at hs
    simp [Instr.indexAt, asIntOf, run_underlying ht, sizeOf, typeInfo, hi', hs, Addr.add_lit, hl]
end
end Go.Proofs.YtcpniokopahakaaDoor.Eng
