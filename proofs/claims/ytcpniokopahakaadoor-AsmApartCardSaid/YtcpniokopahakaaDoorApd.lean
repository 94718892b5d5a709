/- A row's own block: sliced, appended to in place, cleared. -/
import Derived.Test.YtcpniokopahakaaDoorEv
set_option linter.unusedVariables false
set_option linter.unusedSimpArgs false
namespace Go.Proofs.YtcpniokopahakaaDoor.Eng
open Go Go.RowKit
section
variable {P : Program} {w : World} {K : Value → World → Prop}
/-- A slice expression over a slice value, by its bounds. -/
theorem rSlB {t e : TypeId} {a : Option Addr} {n cap l h m sz : Nat} {lo hi mx : Option Value} (ht : P.underlying t = some (.slice e)) (hsz : (P.info? e).map (fun i => i.size) = some sz)
    (hb : (Instr.sliceBounds true n cap lo hi mx).run P w = .ok (l, h, m) w) (k : K (.slice (if m = l then a else a.map (·.add (l * sz))) (h - l) (m - l)) w) : RunP P (Instr.sliceAt t (.slice a n cap) lo hi mx) w K := by
  refine ⟨_, w, ?_, k⟩
  have he : P.elem t = e := by simp [Program.elem, ht]
  rw [run_sliceAt_slice (P := P) w t _ _ _ _ (by rw [he]; exact ht)]
  cases hi' : P.info? e with
  | none => simp [hi'] at hsz
  | some i' =>
    simp only [hi', Option.map_some, Option.some.injEq] at hsz
    unfold Instr.slice
    simp only [Sem.run_bind, run_underlying ht, Result.andThen_ok, hb]
    simp [sizeOf, typeInfo, hi', hsz]
theorem sb_l {k : IntKind} {i : Int} {n cap l : Nat} (hi : i = l) (hl : l ≤ n) : (Instr.sliceBounds true n cap (some (.int k i)) none none).run P w = .ok (l, n, cap) w := by
  subst hi
  simp [Instr.sliceBounds, run_sliceBound (P := P) w k (l : Int) n _ (by omega) (by omega)]
theorem sb_h {k : IntKind} {i : Int} {n cap h : Nat} (hi : i = h) (hh : h ≤ cap) : (Instr.sliceBounds true n cap none (some (.int k i)) none).run P w = .ok (0, h, cap) w := by
  subst hi
  simp [Instr.sliceBounds, run_sliceBound (P := P) w k (h : Int) cap _ (by omega) (by omega)]
theorem sb_lh {k k2 : IntKind} {i j : Int} {n cap l h : Nat} (hi : i = l) (hj : j = h) (hl : l ≤ h) (hh : h ≤ cap) : (Instr.sliceBounds true n cap (some (.int k i)) (some (.int k2 j)) none).run P w = .ok (l, h, cap) w := by
  subst hi; subst hj
  simp [Instr.sliceBounds, run_sliceBound (P := P) w k2 (h : Int) cap _ (by omega) (by omega), run_sliceBound (P := P) w k (l : Int) h _ (by omega) (by omega)]
theorem sb_lhm {k k2 k3 : IntKind} {i j q : Int} {n cap l h m : Nat} (hi : i = l) (hj : j = h) (hq : q = m) (hl : l ≤ h) (hh : h ≤ m) (hm : m ≤ cap) : (Instr.sliceBounds true n cap (some (.int k i)) (some (.int k2 j)) (some (.int k3 q))).run P w = .ok (l, h, m) w := by
  subst hi; subst hj; subst hq
  simp [Instr.sliceBounds, run_sliceBound (P := P) w k3 (m : Int) cap _ (by omega) (by omega), run_sliceBound (P := P) w k2 (h : Int) m _ (by omega) (by omega), run_sliceBound (P := P) w k (l : Int) h _ (by omega) (by omega)]
theorem setRow_upd {w : World} {g o : Nat} {cur vs : List Value} {e : TypeId} (hb : Blk w g cur e) (h : o + vs.length ≤ cur.length) :
    Upd w (w.setRow g (cur.take o ++ vs ++ cur.drop (o + vs.length)).toArray) g ∧ Blk (w.setRow g (cur.take o ++ vs ++ cur.drop (o + vs.length)).toArray) g (setsL cur o vs) e := by
  refine ⟨⟨rfl, rfl, rfl, by simp [World.setRow], fun j hj => ?_⟩, ?_⟩
  · unfold World.setRow
    simp only [Array.getElem?_modify]
    rw [if_neg (fun h => hj h.symm)]
  · rw [setsL_eq _ _ _ h]; exact setRow_heap w g _ _ e (0, 0) hb
/-- append where there is room. -/
theorem rAppIn {t ty e : TypeId} {g n cap m c b o s : Nat} {cur news : List Value} (hb : Blk w g cur e) (hat : At w b o news) (hl : news.length = m * s) (ht : P.underlying t = some (.slice e)) (hsz : (P.info? e).map (fun i => i.size) = some s)
    (h1 : ∀ u ∈ news, u.oneCell' = true) (hroom : n + m ≤ cap) (hfit : n * s + news.length ≤ cur.length)
    (k : ∀ w', Upd w w' g → Blk w' g (setsL cur (n * s) news) e → K (.slice (some ⟨g, 0, none⟩) (n + m) cap) w') :
    RunP P (Builtin.append_ #[t, t] ty #[.slice (some ⟨g, 0, none⟩) n cap, .slice (some ⟨b, o, none⟩) m c]) w K := by
  cases hi : P.info? e with
  | none => simp [hi] at hsz
  | some i =>
    have hs : i.size = s := by simpa [hi] using hsz
    subst hs
    have hr := run_append_room (P := P) w t ty e i ht hi g n cap cur.toArray hb ⟨b, o, none⟩ m c news hl (fun j u hj => by rw [Addr.add_lit]; exact hat.cell hj) h1 hroom (by simpa using hfit)
    obtain ⟨h2, h3⟩ := setRow_upd hb hfit
    exact ⟨_, _, hr, k _ h2 h3⟩
theorem rClear {t ty e : TypeId} {z : Value} {g o n c : Nat} {cur : List Value} (zs : List Value) (ht : P.underlying t = some (.slice e)) (hz : (P.info? e).map (fun i => i.zero) = some (some z)) (hzc : z.cells = zs.toArray) (hb : Blk w g cur e) (hn : 0 < n) (ho : o + n * zs.length ≤ cur.length)
    (h1 : (zs.all (·.oneCell')) = true) (k : ∀ w', Upd w w' g → Blk w' g (setsL cur o (List.replicate n zs).flatten) e → K (.tuple #[]) w') :
    RunP P (Builtin.clear_ #[t] ty #[.slice (some ⟨g, o, none⟩) n c]) w K := by
  cases hi : P.info? e with
  | none => simp [hi] at hz
  | some i =>
    have hz' : i.zero = some z := by simpa [hi] using hz
    obtain ⟨vs, hvs⟩ : ∃ vs, vs = (List.replicate n zs).flatten := ⟨_, rfl⟩
    have hlen : vs.length = n * zs.length := by rw [hvs]; simp
    have hzl : (Builtin.zeroCells z.cells n).toList = vs := by unfold Builtin.zeroCells; rw [zeros_eq, hvs, hzc]
    have hst := run_storeCells_at (P := P) g o e vs 0 cur.toArray w hb (by rw [Nat.add_zero, hlen]; simpa using ho) (fun v hv => by
      rw [hvs] at hv
      obtain ⟨l, hl, hv⟩ := List.mem_flatten.1 hv
      rw [List.eq_of_mem_replicate hl] at hv
      exact List.all_eq_true.1 h1 v hv)
    simp only [Nat.add_zero] at hst
    obtain ⟨h2, h3⟩ := setRow_upd (vs := vs) hb (by rw [hlen]; exact ho)
    rw [← hvs] at k
    refine ⟨_, _, ?_, k _ h2 h3⟩
    obtain ⟨m, rfl⟩ : ∃ m, n = m + 1 := ⟨n - 1, by omega⟩
    have hzv : (zeroValue e).run P w = .ok z w := by simp [zeroValue, typeInfo, hi, hz']
    simp [Builtin.clear_, run_underlying ht, hzv, hzl, hst]
theorem rSlH {t e : TypeId} {g o n cap sz : Nat} {k : IntKind} {i : Int} (h : Nat) (ht : P.underlying t = some (.slice e)) (hsz : (P.info? e).map (fun i => i.size) = some sz) (hi : i = h) (hh : h ≤ cap)
    (q : K (.slice (some ⟨g, o, none⟩) h cap) w) : RunP P (Instr.sliceAt t (.slice (some ⟨g, o, none⟩) n cap) none (some (.int k i)) none) w K := by
  refine rSlB ht hsz (sb_h hi hh) ?_
  have : (if cap = 0 then some ⟨g, o, none⟩ else (some ⟨g, o, none⟩ : Option Addr).map (·.add (0 * sz))) = some ⟨g, o, none⟩ := by
    split
    · rfl
    · simp [Addr.add_lit]
  rw [this]
  exact q
theorem rSlL {t e : TypeId} {g o n cap sz : Nat} {k : IntKind} {i : Int} (l : Nat) (ht : P.underlying t = some (.slice e)) (hsz : (P.info? e).map (fun i => i.size) = some sz) (hi : i = l) (hl : l ≤ n)
    (q : K (.slice (some ⟨g, if cap = l then o else o + l * sz, none⟩) (n - l) (cap - l)) w) : RunP P (Instr.sliceAt t (.slice (some ⟨g, o, none⟩) n cap) (some (.int k i)) none none) w K := by
  refine rSlB ht hsz (sb_l hi hl) ?_
  have : (if cap = l then some ⟨g, o, none⟩ else (some ⟨g, o, none⟩ : Option Addr).map (·.add (l * sz))) = some ⟨g, if cap = l then o else o + l * sz, none⟩ := by
    split
    · rfl
    · simp [Addr.add_lit]
  rw [this]
  exact q
theorem rSlLH {t e : TypeId} {g o n cap sz : Nat} {k k2 : IntKind} {i j : Int} (l h : Nat) (ht : P.underlying t = some (.slice e)) (hsz : (P.info? e).map (fun i => i.size) = some sz) (hi : i = l) (hj : j = h) (hl : l ≤ h) (hh : h ≤ cap) (hlc : l < cap)
    (q : K (.slice (some ⟨g, o + l * sz, none⟩) (h - l) (cap - l)) w) : RunP P (Instr.sliceAt t (.slice (some ⟨g, o, none⟩) n cap) (some (.int k i)) (some (.int k2 j)) none) w K := by
  refine rSlB ht hsz (sb_lh hi hj hl hh) ?_
  rw [if_neg (by omega)]
  simpa [Addr.add_lit] using q
end
/-- An element cut out of a row, those behind it moved up. -/
theorem cut_row {α : Type} {en : α → List Value} {s : Nat} {cur : List Value} {xs : List α} (hs : ∀ x, (en x).length = s) (ht : cur.take (xs.length * s) = xs.flatMap en) (hlen : xs.length * s ≤ cur.length) (i : Nat) (hi : i < xs.length) (zs : List Value)
    (hz : (xs.length - 1) * s + zs.length ≤ cur.length) :
    (setsL (setsL cur (i * s) ((cur.drop ((i + 1) * s)).take ((xs.length - (i + 1)) * s))) ((xs.length - 1) * s) zs).take ((xs.eraseIdx i).length * s) = (xs.eraseIdx i).flatMap en := by
  have h1 : (i + 1) * s ≤ xs.length * s := Nat.mul_le_mul_right _ hi
  have h2 : (xs.length - (i + 1)) * s + (i + 1) * s = xs.length * s := by rw [← Nat.add_mul]; congr 1; omega
  have h3 : i * s + (xs.length - (i + 1)) * s = (xs.length - 1) * s := by rw [← Nat.add_mul]; congr 1; omega
  have hnl : ((cur.drop ((i + 1) * s)).take ((xs.length - (i + 1)) * s)).length = (xs.length - (i + 1)) * s := by rw [List.length_take, List.length_drop]; omega
  have hn : (cur.drop ((i + 1) * s)).take ((xs.length - (i + 1)) * s) = (xs.drop (i + 1)).flatMap en := by
    rw [← flat_drop hs xs (i + 1) hi, ← ht, List.drop_take, show xs.length * s - (i + 1) * s = (xs.length - (i + 1)) * s by omega]
  have h4 : i * s ≤ (i + 1) * s := Nat.mul_le_mul_right _ (Nat.le_succ _)
  have hc : cur.take (i * s) = (xs.take i).flatMap en := by
    rw [← flat_take hs xs i (Nat.le_of_lt hi), ← ht, List.take_take, Nat.min_eq_left (by omega)]
  have hcl : (cur.take (i * s)).length = i * s := by rw [List.length_take]; omega
  have hel : (xs.eraseIdx i).length = xs.length - 1 := by rw [List.length_eraseIdx, if_pos hi]
  rw [hel, setsL_eq _ _ _ (by rw [setsL_length]; exact hz), List.append_assoc, List.take_append_of_le_length (by rw [List.length_take, setsL_length]; omega), List.take_take, Nat.min_self, setsL_eq _ _ _ (by rw [hnl]; omega),
    List.take_append_of_le_length (by rw [List.length_append, hcl, hnl]; omega), List.take_of_length_le (by rw [List.length_append, hcl, hnl]; omega), hn, hc, List.eraseIdx_eq_take_drop_succ, List.flatMap_append]
theorem At.none {w : World} {b o : Nat} {cs : List Value} {e : TypeId} (h : Blk w b cs e) : At w b o [] := ⟨_, _, _, h, fun i v hv => by simp at hv⟩
end Go.Proofs.YtcpniokopahakaaDoor.Eng
