/- Slices of arrays, copies of strings, cells at places that a number tells. -/
import Derived.Test.YtffkcgogkhdcdaaSepByt
set_option linter.unusedVariables false
set_option linter.unusedSimpArgs false
namespace Go.Proofs.Ytffkcgogkhdcdaa.Eng
open Go Go.RowKit Go.Lib
section
variable {P : Program} {g : Glob} {w w' : World} {l : List As} {K : Value → World → Prop} {α : Type} {en : α → List Value} {s : Nat} {v v' : Value} {xs : List α} {ys : List UInt8} {b o j i : Nat} {e e1 t u ty : TypeId} {x : α}
/-- a[lo:] of an array -/
theorem rSlArr {n lo : Nat} {ki : IntKind} {q : Int} (hi : q = lo) (hl : lo < n) (ht : P.underlying t = some (.array n e)) (hsz : (P.info? e).map (fun i => i.size) = some 1)
    (k : K (.slice (some ⟨b, o + lo, none⟩) (n - lo) (n - lo)) w) : RunP P (Instr.sliceAt t (.pointer (some ⟨b, o, none⟩)) (some (.int ki q)) none none) w K := by
  refine ⟨_, w, ?_, k⟩
  subst hi
  cases hi' : P.info? e with
  | none => simp [hi'] at hsz
  | some i' =>
    simp only [hi', Option.map_some, Option.some.injEq] at hsz
    have hb : (Instr.sliceBounds false n n (some (.int ki lo)) none none).run P w = .ok (lo, n, n) w := by
      unfold Instr.sliceBounds
      simp [run_sliceBound (P := P) w ki (lo : Int) n _ (by omega) (by omega)]
    have hne : n ≠ lo := by omega
    unfold Instr.sliceAt
    simp only [Sem.run_bind, run_underlying ht, Result.andThen_ok]
    simp [Instr.sureAddr, hb, sizeOf, typeInfo, hi', hsz, hne, Addr.add_lit]
/-- copy(row of an element, s) -/
theorem rCopyStr (H : Sat g w l) (j : Nat) (hj : l[j]? = some (Sl e s en v xs)) (E : El v s i b o) (hx : xs[i]? = some x) (off m c : Nat) (hm : off + m ≤ s) (x' : α) (hset : setsL (en x) off ((ys.take m).flatMap enY) = en x')
    (ht : P.underlying t = some (.slice e1)) (hsz : (P.info? e1).map (fun i => i.size) = some 1)
    (k : setA l j (Sl e s en v (xs.set i x')) fun l' => ∀ w', Sat g w' l' → K (.int .i64 (min ys.length m : Nat)) w') : RunP P (Builtin.copy_ #[t, u] ty #[.slice (some ⟨b, o + off, none⟩) m c, .string (bs ys)]) w K := by
  obtain ⟨cur, hb, hle, _, hk⟩ := H.elSet hj E hx
  rw [setA_eq] at k
  have hnl : ((ys.take m).flatMap enY).length = min ys.length m := by rw [flat_len enY1, Nat.mul_one, List.length_take, Nat.min_comm]
  cases hi : P.info? e1 with
  | none => simp [hi] at hsz
  | some i1 =>
    simp only [hi, Option.map_some, Option.some.injEq] at hsz
    have h1 : ∀ u ∈ (ys.take m).flatMap enY, u.oneCell' = true := fun u hu => by
      obtain ⟨y, _, hu⟩ := List.mem_flatMap.1 hu
      rw [show u = _ from List.mem_singleton.1 hu]; rfl
    have hst := run_storeCells_at (P := P) b (o + off) e ((ys.take m).flatMap enY) 0 cur.toArray w hb (by rw [hnl]; simp; omega) h1
    simp only [Nat.add_zero] at hst
    obtain ⟨hU, hB⟩ := setRow_upd (o := o + off) (vs := (ys.take m).flatMap enY) hb (by rw [hnl]; omega)
    refine ⟨_, _, ?_, k _ (hk _ x' off _ (by rw [hnl]; omega) hset hU hB)⟩
    have hf : (Array.map (fun b : UInt8 => Value.int .u8 b.toNat) ((bs ys).extract 0 (Nat.min ys.length m)).data).toList = (ys.take m).flatMap enY := by
      rw [← strCells_bs]
      unfold strCells bs
      simp
      exact Nat.min_comm _ _
    have hfc : (Builtin.firstCells 1 (Nat.min ys.length m) (.string (bs ys))).run P w = .ok ((ys.take m).flatMap enY).toArray w := by
      show Sem.run P (pure _) w = _
      rw [Sem.run_pure]
      congr 1
      apply Array.ext'
      exact hf
    simp [Builtin.copy_, run_underlying ht, Builtin.lenOf, bs_size, sizeOf, typeInfo, hi, hsz, hfc, hst]
    rfl
/-- a[:] of an array -/
theorem rSlArr0 {n : Nat} (ht : P.underlying t = some (.array n e)) (hsz : (P.info? e).map (fun i => i.size) = some 1)
    (k : K (.slice (some ⟨b, o, none⟩) n n) w) : RunP P (Instr.sliceAt t (.pointer (some ⟨b, o, none⟩)) none none none) w K := by
  refine ⟨_, w, ?_, k⟩
  cases hi' : P.info? e with
  | none => simp [hi'] at hsz
  | some i' =>
    simp only [hi', Option.map_some, Option.some.injEq] at hsz
    have hb : (Instr.sliceBounds false n n none none none).run P w = .ok (0, n, n) w := by
      unfold Instr.sliceBounds
      simp
    unfold Instr.sliceAt
    simp only [Sem.run_bind, run_underlying ht, Result.andThen_ok]
    simp [Instr.sureAddr, hb, sizeOf, typeInfo, hi', hsz]
    exact fun _ => Addr.add_zero' _
/-- string(b) of what lies at a place -/
theorem rBytesStrAt {s d : TypeId} {n c : Nat} (ys : List UInt8) (hat : At w b o (ys.flatMap enY)) (hn : n = ys.length) (hs : P.underlying s = some (.slice e)) (he : P.underlying e = some (.int .u8)) (hd : P.underlying d = some .string)
    (k : K (.string (bs ys)) w) : RunP P (convert s d (.slice (some ⟨b, o, none⟩) n c)) w K := by
  subst hn
  refine ⟨_, w, ?_, k⟩
  rw [run_convert_bytes_string (P := P) w s d e _ _ _ hs he hd]
  have hl : (loadCells ⟨b, o, none⟩ ys.length).run P w = .ok ((ys.map fun c => (c.toNat : Int)).map (Value.int .u8)).toArray w := by
    have := run_loadCells_list (P := P) w ⟨b, o, none⟩ (ys.flatMap enY) (fun i u hi => by
      rw [Addr.add_lit]
      exact hat.cell hi)
    rw [flat_len enY1, Nat.mul_one] at this
    rw [this, flatY]
  rw [run_bytesToString (P := P) w _ ys.length c _ hl, foldl_push_bytes]
  simp only [List.map_map]
  congr 2
  apply ByteArray.ext
  simp [bs, Function.comp_def]
end
end Go.Proofs.Ytffkcgogkhdcdaa.Eng
