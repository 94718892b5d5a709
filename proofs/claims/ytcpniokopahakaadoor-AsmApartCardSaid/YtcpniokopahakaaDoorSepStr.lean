/- Bytes and strings, over pieces of the memory. -/
import Derived.Test.YtcpniokopahakaaDoorSepSl
import Derived.Lib.AppendStr
import Derived.Laws.IdiomStrings
import Derived.Laws.MakeOwn
set_option linter.unusedVariables false
set_option linter.unusedSimpArgs false
namespace Go.Proofs.YtcpniokopahakaaDoor.Eng
open Go Go.RowKit Go.Lib
def enY (c : UInt8) : List Value := [.int .u8 (c.toNat : Int)]
section
variable {P : Program} {g : Glob} {w w' : World} {l : List As} {K : Value → World → Prop} {v v' : Value} {xs ys : List UInt8} {j : Nat} {e t u ty : TypeId}
theorem strCells_bs (ys : List UInt8) : strCells (bs ys) = ys.flatMap enY := by
  unfold strCells bs
  show ys.toArray.toList.map _ = _
  rw [List.toList_toArray]
  induction ys with
  | nil => rfl
  | cons y ys ih => rw [List.map_cons, List.flatMap_cons, ih]; rfl
theorem flatY (ys : List UInt8) : ys.flatMap enY = (ys.map fun c => (c.toNat : Int)).map (Value.int .u8) := by
  induction ys with
  | nil => rfl
  | cons y ys ih => rw [List.flatMap_cons, List.map_cons, List.map_cons, ih]; rfl
theorem enY1 (c : UInt8) : (enY c).length = 1 := rfl
/-- string(b) -/
theorem rBytesStrS {s d : TypeId} (H : Sat g w l) (j : Nat) (hj : l[j]? = some (Sl e 1 enY v xs)) (hs : P.underlying s = some (.slice e)) (he : P.underlying e = some (.int .u8)) (hd : P.underlying d = some .string)
    (k : K (.string (bs xs)) w) : RunP P (convert s d v) w K := by
  refine ⟨_, w, ?_, k⟩
  rcases (H.off j hj).1 with ⟨rfl, rfl⟩ | ⟨gb, of, cap, cur, rfl, hlg, hbk, hfit, hnc, hcm, ht⟩
  · rw [run_convert_bytes_string (P := P) w s d e none 0 0 hs he hd]
    rfl
  · rw [run_convert_bytes_string (P := P) w s d e _ _ _ hs he hd]
    have hl : (loadCells ⟨gb, of, none⟩ xs.length).run P w = .ok ((xs.map fun c => (c.toNat : Int)).map (Value.int .u8)).toArray w := by
      have := run_loadCells_list (P := P) w ⟨gb, of, none⟩ (xs.flatMap enY) (fun i u hi => by
        rw [Addr.add_lit]
        have hat : At w gb of (xs.flatMap enY) := by
          have := hbk.at.sub of (xs.length * 1); rw [ht, Nat.zero_add] at this; exact this
        exact hat.cell hi)
      rw [flat_len enY1, Nat.mul_one] at this
      rw [this, flatY]
    rw [run_bytesToString (P := P) w _ xs.length cap _ hl, foldl_push_bytes]
    simp only [List.map_map]
    congr 2
    apply ByteArray.ext
    simp [bs, Function.comp_def]
/-- append(b, s...) -/
theorem rApStr (H : Sat g w l) (j : Nat) (hj : l[j]? = some (Sl e 1 enY v xs)) (ht : P.underlying t = some (.slice e)) (hu : P.underlying u = some .string)
    (hz : (P.info? e).map (fun i => (i.zero, i.size, i.bytes)) = some (some (.int .u8 0), 1, 1)) (hb : xs.length + ys.length ≤ 140737488355328)
    (k : ∀ v', setA l j (Sl e 1 enY v' (xs ++ ys)) fun l' => ∀ w', Sat g w' l' → K v' w') : RunP P (Builtin.append_ #[t, u] ty #[v, .string (bs ys)]) w K := by
  have hsz := bs_size ys
  cases hi : P.info? e with
  | none => simp [hi] at hz
  | some i =>
    simp only [hi, Option.map_some, Option.some.injEq, Prod.mk.injEq] at hz
    obtain ⟨h2, h3, h4⟩ := hz
    have hnl : (ys.flatMap enY).length = ys.length := by rw [flat_len enY1, Nat.mul_one]
    have h1 : ∀ u ∈ ys.flatMap enY, u.oneCell' = true := fun u hu => by
      obtain ⟨y, _, hu⟩ := List.mem_flatMap.1 hu
      rw [show u = _ from List.mem_singleton.1 hu]; rfl
    have key : ∀ (v' : Value) (w' : World), (Builtin.append_ #[t, u] ty #[v, .string (bs ys)]).run P w = .ok v' w' → Off 0 w' e 1 enY v' (xs ++ ys) → Gr w w' v v' → RunP P (Builtin.append_ #[t, u] ty #[v, .string (bs ys)]) w K := fun v' w' hr hO G => by
      have k := k v'
      rw [setA_eq] at k
      exact ⟨v', w', hr, k w' (H.slSet hj hO G)⟩
    have grown : ∀ (nc : Nat) (zs : List Value), xs.length + ys.length ≤ nc → nc ≤ 9223372036854775807 → zs.length = nc - (xs.length + ys.length) →
        Off 0 (w.drew.alloc (.cells (xs.flatMap enY ++ ys.flatMap enY ++ zs).toArray e)) e 1 enY (.slice (some ⟨w.heap.size, 0, none⟩) (xs.length + ys.length) nc) (xs ++ ys) ∧
        Gr w (w.drew.alloc (.cells (xs.flatMap enY ++ ys.flatMap enY ++ zs).toArray e)) v (.slice (some ⟨w.heap.size, 0, none⟩) (xs.length + ys.length) nc) := fun nc zs h5 h6 h7 => by
      have n := New.mk' w.drew (xs.flatMap enY ++ ys.flatMap enY ++ zs) e
      have bl := ((Still.drew w).below w.heap.size).trans n.below
      have hxl : (xs.flatMap enY).length = xs.length := by rw [flat_len enY1, Nat.mul_one]
      refine ⟨⟨.inr ⟨w.heap.size, 0, nc, _, by rw [List.length_append], Nat.zero_le _, n.blk, ?_, by rw [List.length_append]; exact h5, h6, ?_⟩, enY1⟩, ⟨⟨bl.os, bl.tape, bl.output, bl.size, fun k hk _ => bl.block k hk⟩, .inr (.inr ⟨_, rfl, Nat.le_refl _⟩)⟩⟩
      · rw [List.length_append, List.length_append, hxl, hnl]; omega
      · rw [List.drop_zero, List.length_append, Nat.mul_one, List.flatMap_append, List.take_append_of_le_length (by rw [List.length_append, hxl, hnl]; exact Nat.le_refl _), List.take_of_length_le (by rw [List.length_append, hxl, hnl]; exact Nat.le_refl _)]
    have hzc : ∀ n, (Builtin.zeroCells (Value.int .u8 0).cells n).toList.length = n := fun n => by
      rw [Array.length_toList, size_zeroCells]; show n * 1 = n; omega
    rcases (H.off j hj).1 with ⟨rfl, rfl⟩ | ⟨gb, of, cap, cur, rfl, hlg, hbk, hfit, hnc, hcm, htk⟩
    · by_cases hy : ys = []
      · subst hy
        refine key (.slice none 0 0) w ?_ ⟨.inl ⟨rfl, rfl⟩, enY1⟩ (Gr.same _ (.inl rfl))
        have h0 : (bs []).size = 0 := rfl
        have hfc := run_firstCells_string (P := P) w 1 (bs [])
        rw [h0] at hfc
        simp [Builtin.append_, run_underlying ht, run_underlying hu, sizeOf, typeInfo, hi, h3, Builtin.lenOf, h0, hfc]
      · have hp : 0 < ys.length := List.length_pos_iff.2 hy
        have hr := run_append_nil_string (P := P) (w := w) t u ty e i (.int .u8 0) ht hu hi h2 (bs ys) (by omega) (by rw [hsz]; simp at hb; omega) (by rw [hsz, h4]; simp at hb; omega)
        have hg := grown (grownCap w (bs ys).size 0 e) (Builtin.zeroCells (Value.int .u8 0).cells (grownCap w (bs ys).size 0 e - (bs ys).size)).toList (by rw [← hsz]; simpa using grownCap_ge w (bs ys).size 0 e) (grownCap_le_maxLen w _ _ _ (by unfold maxLen; rw [hsz]; simp at hb; omega)) (by rw [hzc, hsz]; simp)
        refine key _ _ ?_ hg.1 hg.2
        rw [hr, hsz]
        congr 2
        · simp
        · congr 1
          apply Array.ext'
          rw [Array.toList_append, show (Array.map (fun b : UInt8 => Value.int .u8 b.toNat) (bs ys).data).toList = ys.flatMap enY by rw [← strCells_bs]; simp [strCells]]
          simp
    · have hat0 : At w gb of (xs.flatMap enY) := by
        have := hbk.at.sub of (xs.length * 1); rw [htk, Nat.zero_add] at this; exact this
      by_cases hr : xs.length + ys.length ≤ cap
      · have hst := run_storeCells_at (P := P) gb (of + xs.length * 1) e (ys.flatMap enY) 0 cur.toArray w hbk (by rw [hnl]; simp; omega) h1
        simp only [Nat.add_zero, Nat.mul_one] at hst
        have hfc := run_firstCells_string (P := P) w 1 (bs ys)
        rw [strCells_bs, hsz] at hfc
        obtain ⟨hU, hB⟩ := setRow_upd (o := of + xs.length) (vs := ys.flatMap enY) hbk (by rw [hnl]; omega)
        refine key (.slice (some ⟨gb, of, none⟩) (xs.length + ys.length) cap) _ ?_ ⟨.inr ⟨gb, of, cap, _, by rw [List.length_append], hlg, hB, by rw [setsL_length]; exact hfit, by rw [List.length_append]; exact hr, hcm, ?_⟩, enY1⟩ ⟨⟨hU.os, hU.tape, hU.output, by rw [hU.size]; exact Nat.le_refl _, fun k _ hk => hU.block k (fun e => hk (by rw [e]; rfl))⟩, .inl rfl⟩
        · simp [Builtin.append_, run_underlying ht, run_underlying hu, sizeOf, typeInfo, hi, h3, Builtin.lenOf, hsz, hr, hfc, Addr.add_lit, hst]
        · rw [List.length_append, Nat.mul_one, List.flatMap_append, ← htk, setsL_eq _ _ _ (by rw [hnl]; omega), List.append_assoc, List.drop_append_of_le_length (by rw [List.length_take]; omega), ← List.append_assoc, List.drop_take,
            show of + xs.length - of = xs.length by omega, Nat.mul_one, List.take_append_of_le_length (by rw [List.length_append, List.length_take, List.length_drop, hnl]; omega), List.take_of_length_le (by rw [List.length_append, List.length_take, List.length_drop, hnl]; omega)]
      · have hr' := run_append_grow_string (P := P) (w := w) t u ty e i (.int .u8 0) ht hu hi h2 ⟨gb, of, none⟩ xs.length cap (xs.flatMap enY) (by rw [flat_len enY1, h3]) (fun j u hj => by rw [Addr.add_lit]; exact hat0.cell hj) (bs ys) (by rw [hsz]; omega) (by rw [hsz]; omega) (by
          rw [hsz, h4, Nat.mul_one]
          have := nextslicecap_le (show cap < xs.length + ys.length by omega)
          omega)
        have hg := grown (grownCap w (xs.length + (bs ys).size) cap e) (Builtin.zeroCells (Value.int .u8 0).cells (grownCap w (xs.length + (bs ys).size) cap e - (xs.length + (bs ys).size))).toList (by rw [← hsz]; exact grownCap_ge w _ cap e) (grownCap_le_maxLen w _ _ _ (by unfold maxLen; rw [hsz]; omega)) (by rw [hzc, hsz])
        refine key _ _ ?_ hg.1 hg.2
        rw [hr', hsz, strCells_bs]
        congr 2
        congr 1
        apply Array.ext'
        simp
theorem rBuildArr {n sz : Nat} {z : Value} {ps : Array (Nat × Value)} (hu : P.underlying t = some (.array n e)) (hz : (P.info? t).bind (fun i => i.zero) = some z) (hs : (P.info? e).map (fun i => i.size) = some sz)
    (h : cellsK z fun zs => fillK (fun i => some (i * sz, sz)) ps.toList zs fun cs => K (.agg cs.toArray) w) : RunP P (Instr.build t ps) w K := by
  rw [cellsK_eq] at h
  obtain ⟨cs, h1, h2⟩ := fillK_sound _ h
  refine ⟨_, w, ?_, h2⟩
  cases hi : P.info? t with
  | none => simp [hi] at hz
  | some i =>
    simp only [hi, Option.bind_some] at hz
    have hzv : (zeroValue t).run P w = .ok z w := by simp [zeroValue, typeInfo, hi, hz]
    cases hi2 : P.info? e with
    | none => simp [hi2] at hs
    | some i2 =>
      simp only [hi2, Option.map_some, Option.some.injEq] at hs
      simp only [Array.toArray_toList] at h1
      unfold Instr.build
      simp [hzv, run_underlying hu, sizeOf, typeInfo, hi2, hs, h1]
theorem byteLt {l : List UInt8} {i : Nat} {c : UInt8} (_ : l[i]? = some c) : c.toNat < 256 := c.toNat_lt
theorem rIdxStrX {s : List UInt8} {k0 : IntKind} {i : Int} {c : UInt8} (ht : P.underlying t = some .string) (j : Nat) (hx : s[j]? = some c) (hj : i = j) (h : K (.int .u8 (c.toNat : Int)) w) : RunP P (Instr.index t (.string (bs s)) (.int k0 i)) w K := by
  obtain ⟨hl, rfl⟩ := List.getElem?_eq_some_iff.1 hx
  exact rIdxStr ht j hj hl h
theorem rIdxAgg {vs : List Value} {ki : IntKind} {i : Int} {n : Nat} {d : TypeDesc} {v : Value} (j : Nat) (hv : vs[j]? = some v) (hj : i = j) (ht : P.underlying t = some (.array n e)) (hn : n = vs.length) (he : P.underlying e = some d) (hd : aggB d = false)
    (hs : (P.info? e).map (fun i => i.size) = some 1) (k : K v w) : RunP P (Instr.index t (.agg vs.toArray) (.int ki i)) w K := by
  refine ⟨v, w, ?_, k⟩
  subst hj
  have hl := (List.getElem?_eq_some_iff.1 hv).1
  have hp : (part e vs.toArray j).run P w = .ok v w := by
    unfold part
    simp only [Sem.run_bind, isAgg_run he, hd, Result.andThen_ok]
    simp [hv]
  cases hi : P.info? e with
  | none => simp [hi] at hs
  | some i' =>
    simp only [hi, Option.map_some, Option.some.injEq] at hs
    simp [Instr.index, asIntOf, run_underlying ht, sizeOf, typeInfo, hi, hs, show (j : Int) < n by omega, hp]
    intro h; omega
end
section
variable {P : Program} {g : Glob} {w w' : World} {l : List As} {K : Value → World → Prop} {α : Type} {en : α → List Value} {e t : TypeId} {s : Nat}
/-- make([]T, n, c) -/
theorem rMakeS {z : Value} {kl kc : IntKind} {ln cp : Int} (H : Sat g w l) (x : α) (n c by_ : Nat) (ht : P.underlying t = some (.slice e)) (hz : (P.info? e).map (fun i => (i.zero, i.size, i.bytes)) = some (some z, s, by_))
    (hx : z.cells.toList = en x) (hs : ∀ x, (en x).length = s) (hln : ln = n) (hcp : cp = c) (hnc : n ≤ c) (hb : by_ * c ≤ 281474976710656) (hc : c ≤ 9223372036854775807)
    (k : ∀ v w', Sat g w' (Sl e s en v (List.replicate n x) :: l) → K v w') : RunP P (Instr.makeSlice t (.int kl ln) (.int kc cp)) w K := by
  subst hln; subst hcp
  cases hi : P.info? e with
  | none => simp [hi] at hz
  | some i =>
    simp only [hi, Option.map_some, Option.some.injEq, Prod.mk.injEq] at hz
    obtain ⟨h2, h3, h4⟩ := hz
    have hr := run_make (P := P) w t e i z ht hi h2 kl kc n c (by omega) (by omega) (by rw [h4]; have h : ((by_ * c : Nat) : Int) ≤ 281474976710656 := (by omega); rwa [Int.natCast_mul] at h) (by omega)
    rw [Int.toNat_natCast, Int.toNat_natCast] at hr
    refine ⟨_, _, hr, ?_⟩
    have hzs : z.cells.size = s := by
      have := hs x
      rw [← hx, Array.length_toList] at this; exact this
    have hm : madeCells z.cells (c * i.size) = (List.replicate c z.cells.toList).flatten.toArray := by
      have := zeros_eq c z.cells
      rw [hzs] at this
      rw [h3]; unfold madeCells; rw [hzs]; exact this
    rw [hm]
    have nw := New.mk' w (List.replicate c z.cells.toList).flatten e
    have hfl : ∀ k, (List.replicate k z.cells.toList).flatten = (List.replicate k x).flatMap en := fun k => by
      rw [hx]; induction k with
      | zero => rfl
      | succ k ih => rw [List.replicate_succ, List.replicate_succ, List.flatten_cons, List.flatMap_cons, ih]
    refine k _ _ (H.more nw.below (a := fun k => if k = w.heap.size then some (.cells (List.replicate c z.cells.toList).flatten.toArray e (0, 0)) else none) ⟨.inr ⟨w.heap.size, 0, c, _, by rw [List.length_replicate], if_pos rfl, ?_, by rw [List.length_replicate]; exact hnc, hc, ?_⟩, hs⟩ (fun k o hk => ?_) fun k hk => if_neg (by omega))
    · rw [hfl, flat_len hs, List.length_replicate]; omega
    · rw [List.drop_zero, List.length_replicate, hfl]
      rw [show List.replicate c x = List.replicate n x ++ List.replicate (c - n) x by rw [List.replicate_append_replicate]; congr 1; omega, List.flatMap_append, List.take_append_of_le_length (by rw [flat_len hs, List.length_replicate]; exact Nat.le_refl _), List.take_of_length_le (by rw [flat_len hs, List.length_replicate]; exact Nat.le_refl _)]
    · dsimp only at hk
      split at hk
      · rename_i h; subst h; obtain rfl := Option.some.inj hk; exact nw.blk
      · cases hk
theorem rMin3 {ts : Array TypeId} {ty : TypeId} {k k' k2 : IntKind} {a b c : Int} (h : K (.int k (min (min a b) c)) w) : RunP P (Builtin.min_ ts ty #[.int k a, .int k' b, .int k2 c]) w K := by
  refine ⟨_, w, ?_, h⟩
  have e1 : (if b < a then b else a) = min a b := by omega
  have e2 : (if c < min a b then c else min a b) = min (min a b) c := by omega
  simp [Builtin.min_, Builtin.min2, e1, e2]
end
end Go.Proofs.YtcpniokopahakaaDoor.Eng
