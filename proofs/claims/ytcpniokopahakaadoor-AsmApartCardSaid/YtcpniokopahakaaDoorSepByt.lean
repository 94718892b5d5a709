/- Bytes of a string as a row of one's own: []byte(s). -/
import Derived.Test.YtcpniokopahakaaDoorBitN
import Derived.Lib.ConvBytes
import Derived.Lib.AtoiErrMem
set_option linter.unusedVariables false
set_option linter.unusedSimpArgs false
namespace Go.Proofs.YtcpniokopahakaaDoor.Eng
open Go Go.RowKit
/-- The row that []byte(s) made: behind its cells a mark, which no store comes to. -/
def Sb (e : TypeId) (v : Value) (xs : List UInt8) : As := fun h =>
  ∃ g cap cs fz, v = .slice (some ⟨g, 0, none⟩) xs.length cap ∧ h g = some (.cells (List.toArray cs) e fz) ∧ cs.length ≤ fz.1 ∧ cs.take xs.length = xs.flatMap enY ∧ xs.length ≤ cs.length
section
variable {P : Program} {g : Glob} {w w' : World} {l : List As} {K : Value → World → Prop} {v v' : Value} {xs ys : List UInt8} {i j b o : Nat} {e t u ty : TypeId} {x : UInt8}
theorem Sat.sb (H : Sat g w l) (j : Nat) (hj : l[j]? = some (Sb e v xs)) : ∃ g cap cs fz, v = .slice (some ⟨g, 0, none⟩) xs.length cap ∧ w.heap[g]? = some (.cells (List.toArray cs) e fz) ∧ cs.length ≤ fz.1 ∧ cs.take xs.length = xs.flatMap enY ∧ xs.length ≤ cs.length := by
  obtain ⟨a, ⟨g, cap, cs, fz, h1, h2, h3⟩, hs⟩ := H.part hj
  exact ⟨g, cap, cs, fz, h1, hs g _ h2, h3⟩
theorem rStrBytesS {s d : TypeId} {e : TypeId} (H : Sat g w l) (hs : P.underlying s = some .string) (hd : P.underlying d = some (.slice e)) (he : P.underlying e = some (.int .u8)) (k : ∀ v w', Sat g w' (Sb e v xs :: l) → K v w') : RunP P (convert s d (.string (bs xs))) w K := by
  have hr := Go.Lib.run_convert_string_bytes (P := P) w s d e (bs xs) hs hd he
  refine ⟨_, _, hr, k _ _ (H.more (Go.Lib.bytesWorld_below w e (bs xs)) (a := fun k => if k = w.heap.size then some (.cells (Go.Lib.bytesCells w e (bs xs)) e ((Go.Lib.bytesCells w e (bs xs)).size, (Go.Lib.bytesCells w e (bs xs)).size + 1)) else none) ⟨w.heap.size, _, (Go.Lib.bytesCells w e (bs xs)).toList, _, by rw [bs_size], if_pos rfl, ?_, ?_, ?_⟩ (fun k o hk => ?_) fun k hk => if_neg (by omega))⟩
  · rw [Array.length_toList]; exact Nat.le_refl _
  · have hm : ((bs xs).data.map fun b => Value.int .u8 b.toNat).toList = xs.flatMap enY := by
      unfold bs
      rw [Array.toList_map, List.toList_toArray]
      clear k hr
      induction xs with
      | nil => rfl
      | cons y ys ih => rw [List.map_cons, List.flatMap_cons, ih]; rfl
    unfold Go.Lib.bytesCells
    rw [Array.toList_append, hm, List.take_append_of_le_length (by rw [flat_len enY1, Nat.mul_one]; exact Nat.le_refl _), List.take_of_length_le (by rw [flat_len enY1, Nat.mul_one]; exact Nat.le_refl _)]
  · unfold Go.Lib.bytesCells
    have : (bs xs).data.toList.length = xs.length := by simp [bs]
    show xs.length ≤ _
    rw [Array.toList_append, List.length_append, Array.toList_map, List.length_map]
    omega
  · dsimp only at hk
    split at hk
    · rename_i h; subst h; obtain rfl := Option.some.inj hk; exact Go.Lib.bytesWorld_at_new w e (bs xs)
    · cases hk
theorem Sat.eltb (H : Sat g w l) (j : Nat) (hj : l[j]? = some (Sb e v xs)) (i : Nat) (hi : i < xs.length) : ∃ b o, El v 1 i b o := by
  obtain ⟨g, cap, cs, fz, rfl, _⟩ := H.sb j hj
  exact ⟨g, 0 + i * 1, 0, xs.length, cap, rfl, hi, rfl⟩
theorem Sat.elb (H : Sat g w l) (j : Nat) (hj : l[j]? = some (Sb e v xs)) (E : El v 1 i b o) (hx : xs[i]? = some x) : At w b o (enY x) := by
  obtain ⟨g, cap, cs, fz, rfl, hb, hfz, ht, hl⟩ := H.sb j hj
  obtain ⟨b0, m, c, he, hlt, rfl⟩ := E
  injection he with h1 h2 h3
  injection h1 with h1
  injection h1 with h1 h4
  subst h1; subst h4
  refine ⟨cs.toArray, e, fz, hb, fun q u hq => ?_⟩
  have hp := flat_part enY1 xs i x hx
  rw [← ht] at hp
  have hq0 : q = 0 := by
    rcases q with _ | q
    · rfl
    · simp [enY] at hq
  subst hq0
  have hil := (List.getElem?_eq_some_iff.1 hx).1
  rw [← hp, List.getElem?_take] at hq
  rw [if_pos (by omega), List.getElem?_drop, List.getElem?_take] at hq
  split at hq
  · simpa using hq
  · cases hq
theorem rLenB (H : Sat g w l) (j : Nat) (hj : l[j]? = some (Sb e v xs)) (ht : P.underlying t = some (.slice e)) (k : K (.int .i64 xs.length) w) : RunP P (Builtin.len_ #[t] ty #[v]) w K := by
  obtain ⟨g, cap, cs, fz, rfl, _⟩ := H.sb j hj
  exact rLenSl ht k
theorem Sat.formb (H : Sat g w l) (j : Nat) (hj : l[j]? = some (Sb e v xs)) : ∃ a c, v = .slice a xs.length c := by
  obtain ⟨g, cap, cs, fz, rfl, _⟩ := H.sb j hj
  exact ⟨_, _, rfl⟩
theorem rBytesStrB {s d : TypeId} (H : Sat g w l) (j : Nat) (hj : l[j]? = some (Sb e v xs)) (hs : P.underlying s = some (.slice e)) (he : P.underlying e = some (.int .u8)) (hd : P.underlying d = some .string)
    (k : K (.string (bs xs)) w) : RunP P (convert s d v) w K := by
  refine ⟨_, w, ?_, k⟩
  obtain ⟨gb, cap, cs, fz, rfl, hb, hfz, ht, hl⟩ := H.sb j hj
  rw [run_convert_bytes_string (P := P) w s d e _ _ _ hs he hd]
  have hl : (loadCells ⟨gb, 0, none⟩ xs.length).run P w = .ok ((xs.map fun c => (c.toNat : Int)).map (Value.int .u8)).toArray w := by
    have := run_loadCells_list (P := P) w ⟨gb, 0, none⟩ (xs.flatMap enY) (fun i u hi => by
      rw [Addr.add_lit, Nat.zero_add, cell_of_row w gb i cs.toArray e fz hb]
      rw [← ht, List.getElem?_take] at hi
      split at hi
      · simpa using hi
      · cases hi)
    rw [flat_len enY1, Nat.mul_one] at this
    rw [this, flatY]
  rw [run_bytesToString (P := P) w _ xs.length cap _ hl, foldl_push_bytes]
  simp only [List.map_map]
  congr 2
  apply ByteArray.ext
  simp [bs, Function.comp_def]
theorem flat_set (xs : List UInt8) (i : Nat) (c : UInt8) : (xs.set i c).flatMap enY = (xs.flatMap enY).set i (.int .u8 (c.toNat : Int)) := by
  induction xs generalizing i with
  | nil => rfl
  | cons a xs ih =>
    cases i with
    | zero => rfl
    | succ i => rw [List.set_cons_succ, List.flatMap_cons, List.flatMap_cons, ih]; rfl
theorem rStB {K : World → Prop} {u : Value} (H : Sat g w l) (j : Nat) (hj : l[j]? = some (Sb e v xs)) (E : El v 1 i b o) (hi : i < xs.length) (c : UInt8) (hs : (P.info? t).map (·.size) = some 1) (hu : u = .int .u8 (c.toNat : Int))
    (k : setA l j (Sb e v (xs.set i c)) fun l' => ∀ w', Sat g w' l' → K w') : DoP P (Instr.storeAt t (.pointer (some ⟨b, o, none⟩)) u) w K := by
  obtain ⟨gb, cap, cs, fz, rfl, hb, hfz, ht, hl⟩ := H.sb j hj
  obtain ⟨b0, m, c0, he, hlt, rfl⟩ := E
  injection he with h1 h2 h3
  injection h1 with h1
  injection h1 with h1 h4
  subst h1; subst h4; subst hu
  rw [Nat.zero_add, Nat.mul_one]
  rw [setA_eq] at k
  cases hi2 : P.info? t with
  | none => simp [hi2] at hs
  | some i2 =>
    have hl2 : i2.size = 1 := by simpa [hi2] using hs
    have hc : w.cell? ⟨gb, i, none⟩ = some cs[i] := by
      rw [cell_of_row w gb i _ e fz hb]; simp
    have hf : w.frozen? ⟨gb, i, none⟩ = false := by
      unfold World.frozen?
      rw [hb]
      obtain ⟨lo, hi⟩ := fz
      simp only at hfz ⊢
      have : ¬ lo ≤ i := by omega
      simp [this]
    have hw2 : (w.setCell ⟨gb, i, none⟩ (.int .u8 (c.toNat : Int))).heap[gb]? = some (.cells (cs.set i (.int .u8 (c.toNat : Int))).toArray e fz) := by
      unfold World.setCell
      simp only [Array.getElem?_modify, if_true, hb, Option.map_some]
      simp
    have hst : (store ⟨gb, i, none⟩ (.int .u8 (c.toNat : Int))).run P w = .ok () (w.setCell ⟨gb, i, none⟩ (.int .u8 (c.toNat : Int))) := by
      simp [store, Sem.run, hc, hf]
    refine ⟨w.setCell ⟨gb, i, none⟩ (.int .u8 (c.toNat : Int)), ?_, k _ (H.step hj rfl rfl rfl fun a ha hsub => ?_)⟩
    · simp [Instr.storeAt, Instr.sureAddr, storeVar, sizeOf, typeInfo, hi2, hl2, Value.cells, storeCells, Addr.add_zero', hst]
    · obtain ⟨g1, cap1, cs1, fz1, q1, q2, _⟩ := ha
      injection q1 with q1
      injection q1 with q1
      injection q1 with q1
      subst q1
      refine ⟨fun k => if k = gb then some (.cells (cs.set i (.int .u8 (c.toNat : Int))).toArray e fz) else none, ⟨gb, cap, _, fz, by rw [List.length_set], if_pos rfl, by rw [List.length_set]; exact hfz, ?_, by rw [List.length_set, List.length_set]; exact hl⟩, (fun k o hk => ?_), fun k _ hn => ?_⟩
      · rw [List.length_set, List.take_set, ht, flat_set]
      · dsimp only at hk
        split at hk
        · rename_i h; subst h; obtain rfl := Option.some.inj hk; exact hw2
        · cases hk
      · have hne : k ≠ gb := fun h => by subst h; rw [q2] at hn; cases hn
        exact ⟨if_neg hne, heap_setCell_other w _ k _ hne⟩
theorem cgSb (h : xs = ys) : Sb e v xs = Sb e v ys := by rw [h]
end
end Go.Proofs.YtcpniokopahakaaDoor.Eng
