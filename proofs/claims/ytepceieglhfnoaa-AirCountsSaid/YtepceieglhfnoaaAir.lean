/- Package air: slices.Delete. -/
import Derived.Test.YtepceieglhfnoaaBase
import Derived.Test.YtepceieglhfnoaaOpen
set_option maxRecDepth 100000
set_option maxHeartbeats 4000000
set_option linter.unusedVariables false
set_option linter.unusedSimpArgs false
namespace Go.Proofs.Ytepceieglhfnoaa.Air
open Go Go.Proofs.Ytepceieglhfnoaa.Eng Go.RowKit
structure Way where
  dest : Int
  text : List UInt8
def enW (x : Way) : List Value := [.int .i64 x.dest, .string (bs x.text)]
def okW (x : Way) : Prop := True
theorem enW_len (x : Way) : (enW x).length = 2 := rfl
theorem drop_setsL (cur vs : List Value) (o k : Nat) (h : o + k + vs.length ≤ cur.length) : (setsL cur (o + k) vs).drop o = setsL (cur.drop o) k vs := by
  apply List.ext_getElem?
  intro q
  rw [List.getElem?_drop, setsL_get _ _ _ _ (by omega), setsL_get _ _ _ _ (by rw [List.length_drop]; omega), List.getElem?_drop]
  by_cases h1 : o + k ≤ o + q ∧ o + q < o + k + vs.length
  · rw [if_pos h1, if_pos (by omega)]; congr 1; omega
  · rw [if_neg h1, if_neg (by omega)]
theorem rAppInO {P : Program} {w : World} {K : Value → World → Prop} {t ty e : TypeId} {g d n cap m c b o s : Nat} {cur news : List Value} (hb : Blk w g cur e) (hat : At w b o news) (hl : news.length = m * s) (ht : P.underlying t = some (.slice e)) (hsz : (P.info? e).map (fun i => i.size) = some s)
    (h1 : ∀ u ∈ news, u.oneCell' = true) (hroom : n + m ≤ cap) (hfit : d + n * s + news.length ≤ cur.length)
    (k : ∀ w', Upd w w' g → Blk w' g (setsL cur (d + n * s) news) e → K (.slice (some ⟨g, d, none⟩) (n + m) cap) w') :
    RunP P (Builtin.append_ #[t, t] ty #[.slice (some ⟨g, d, none⟩) n cap, .slice (some ⟨b, o, none⟩) m c]) w K := by
  cases hi : P.info? e with
  | none => simp [hi] at hsz
  | some i =>
    have hs : i.size = s := by simpa [hi] using hsz
    subst hs
    have hst := run_storeCells_at (P := P) g (d + n * i.size) e news 0 cur.toArray w hb (by simpa using hfit) h1
    simp only [Nat.add_zero] at hst
    have hfc := run_firstCells_some (P := P) w i.size m ⟨b, o, none⟩ m c news hl (fun j u hj => by rw [Addr.add_lit]; exact hat.cell hj)
    obtain ⟨h2, h3⟩ := setRow_upd (o := d + n * i.size) (vs := news) hb hfit
    refine ⟨_, _, ?_, k _ h2 h3⟩
    simp [Builtin.append_, run_underlying ht, sizeOf, typeInfo, hi, Builtin.lenOf, hroom, hfc, Addr.add_lit, hst]
theorem deleteI {g : Glob} {w : World} {l : List As} {v : Value} {ls : List Way} {ii jj : Int} (H : Sat g w (Sl 88 2 enW v ls :: l)) (i : Nat) (hi : i < ls.length) (hii : ii = i) (hjj : jj = i + 1) :
    Fc Try.prog 37 #[v, .int .i64 ii, .int .i64 jj] w (fun u w' => Sat g w' (Sl 88 2 enW u (ls.eraseIdx i) :: l)) := by
  rcases (H.off 0 rfl).1 with ⟨_, rfl⟩ | ⟨gb, of, cap, cur, rfl, hlo, hb, hfit, hcap, hcm, ht⟩
  · cases hi
  obtain ⟨n, hn⟩ : ∃ n, n = ls.length := ⟨_, rfl⟩
  have hlen : ls.length * 2 ≤ (cur.drop of).length := by rw [List.length_drop]; omega
  have hcut := cut_row enW_len ht hlen i hi [.int .i64 0, .string (bs [])] (by simp only [List.length_cons, List.length_nil]; omega)
  have hel : (ls.eraseIdx i).length = n - 1 := by rw [List.length_eraseIdx, if_pos hi, hn]
  have H0 := H
  rw [hel] at hcut
  rw [← hn] at ht hlen hcap hi hcut H ⊢
  refine Fc.of Try.func37 rfl (by kernel_rfl) ?_
  refine rLenSl rfl ?_
  refine rSlB rfl rfl (sb_lhm (l := i) (h := i + 1) (m := n) hii hjj rfl (by omega) hi hcap) ?_
  refine cF (by rw [vEq_iff]; first | (simp; done) | (simp; omega)) ?_
  refine rLenSl rfl ?_
  refine drawz (fun wx => True) [(0, .pure), (1, .pure), (2, .pure), (3, .pure), (4, .pure), (5, .pure), (6, .free), (7, .pure)] mixed (by kernel_rfl) (by kernel_rfl) (fun wd hd => ⟨trivial, ?_⟩)
  have st : Still w wd := by rw [hd]; exact Still.drew _
  have b1 := kS hb st
  refine tk (fun wx hS => rSlH i rfl rfl hii (by omega) ⟨rfl, rfl⟩) ?_
  refine tk (fun wx hS => rSlL (i + 1) rfl rfl hjj hi ⟨rfl, rfl⟩) ?_
  have hcl : of + n * 2 ≤ cur.length := by omega
  have hnl : ((cur.drop (of + (i + 1) * 2)).take ((n - (i + 1)) * 2)).length = (n - (i + 1)) * 2 := by rw [List.length_take, List.length_drop]; omega
  have hat : At wd gb (if cap = i + 1 then of else of + (i + 1) * 2) ((cur.drop (of + (i + 1) * 2)).take ((n - (i + 1)) * 2)) := by
    split
    · have : n - (i + 1) = 0 := by omega
      rw [this, Nat.zero_mul, List.take_zero]
      exact At.none b1
    · have := b1.at.sub (of + (i + 1) * 2) ((n - (i + 1)) * 2)
      rw [Nat.zero_add] at this; exact this
  have hone : ∀ u ∈ (cur.drop (of + (i + 1) * 2)).take ((n - (i + 1)) * 2), u.oneCell' = true := fun u hu => by
    rw [← List.drop_drop, show (n - (i + 1)) * 2 = n * 2 - (i + 1) * 2 by omega, ← List.drop_take, ht] at hu
    obtain ⟨x, _, hu⟩ := List.mem_flatMap.1 (List.mem_of_mem_drop hu)
    simp only [enW, List.mem_cons, List.not_mem_nil, or_false] at hu
    rcases hu with rfl | rfl <;> rfl
  refine rAppInO (s := 2) b1 hat hnl rfl rfl hone (by omega) (by rw [hnl]; omega) ?_
  intro w2 u2 b2
  refine rLenSl rfl ?_
  refine rSlLH (sz := 2) (n - 1) n rfl rfl (by omega) rfl (by omega) hcap (by omega) ?_
  refine rClear [.int .i64 0, .string (bs [])] rfl rfl rfl b2 (by omega) (by rw [setsL_length]; simp only [List.length_cons, List.length_nil]; omega) rfl ?_
  intro w3 u3 b3
  rw [show n - (n - 1) = 1 by omega, List.replicate_one, List.flatten_singleton] at b3
  have hv : i + (n - (i + 1)) = n - 1 := by omega
  rw [hv]
  have U : Upd w w3 gb := ⟨(u3.os.trans u2.os).trans (by rw [hd]; rfl), (u3.tape.trans u2.tape).trans (by rw [hd]; rfl), (u3.output.trans u2.output).trans (by rw [hd]; rfl), (u3.size.trans u2.size).trans (by rw [st.heap]), fun k hk => ((u3.block k hk).trans (u2.block k hk)).trans (by rw [st.heap])⟩
  refine Done.mk (H0.slSet (lo := 0) (j := 0) rfl ⟨.inr ⟨gb, of, cap, _, by rw [hel], Nat.zero_le _, b3, by rw [setsL_length, setsL_length]; exact hfit, by rw [hel]; omega, hcm, ?_⟩, enW_len⟩ ⟨⟨U.os, U.tape, U.output, by rw [U.size]; exact Nat.le_refl _, fun k _ hk => U.block k fun e => hk (by rw [e]; rfl)⟩, .inl rfl⟩)
  rw [hel, drop_setsL _ _ _ _ (by rw [setsL_length]; simp only [List.length_cons, List.length_nil]; omega), drop_setsL _ _ _ _ (by rw [hnl]; omega), ← List.drop_drop]
  exact hcut
theorem delete {g : Glob} {w : World} {l : List As} {v : Value} {ls : List Way} (H : Sat g w (Sl 88 2 enW v ls :: l)) (k : Int) (h0 : 0 ≤ k) (hk : k < ls.length) :
    Fc Try.prog 37 #[v, .int .i64 k, .int .i64 (k + 1)] w (fun u w' => Sat g w' (Sl 88 2 enW u (ls.eraseIdx k.toNat) :: l)) := deleteI H k.toNat (by omega) (by omega) (by omega)
end Go.Proofs.Ytepceieglhfnoaa.Air
