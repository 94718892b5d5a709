/- Package mail: find, Has, Lost, Take. -/
import Derived.Test.YtkkfjhaknbaiaaaMail1
import Derived.Test.YtkkfjhaknbaiaaaApd
import Derived.Test.YtkkfjhaknbaiaaaBits
set_option maxRecDepth 100000
set_option linter.unusedVariables false
set_option linter.unusedSimpArgs false
namespace Go.Proofs.Ytkkfjhaknbaiaaa.Mail
open Go Go.Proofs.Ytkkfjhaknbaiaaa.Eng Go.RowKit
/-- The bit that a mask has for a tag. -/
def bitI (mask tag : Int) : Int := vAnd .u64 (vShr .u64 mask tag) 1
theorem bit01 (mask tag : Int) : bitI mask tag = 0 ∨ bitI mask tag = 1 := by
  have h := vAnd_mask .u64 (vShr .u64 mask tag) 1 (by decide)
  have e : (2 : Int) ^ 1 - 1 = 1 := by decide
  have e2 : (2 : Int) ^ 1 = 2 := by decide
  rw [e, e2] at h
  unfold bitI
  rw [h]; omega
theorem find1 {w : World} {q : Nat} {mask : Int} (x : Letter) (hq : Blk w q [.int .u64 mask] 47) (hx : 0 ≤ x.tag) :
    Fc Try.prog 59 #[.agg (enL x).toArray, .pointer (some ⟨q, 0, none⟩)] w (fun v w' => v = .bool (vEq (bitI mask x.tag) 1) ∧ Below w.heap.size w w') := by
  refine Fc.of Try.func59 rfl (by kernel_rfl) ?_
  refine rBox ?_
  intro w1 n1
  refine rLoad0 (kN hq n1).at rfl rfl ?_
  refine rFieldAt rfl ?_
  refine rLoad n1.blk.at 2 rfl rfl ?_
  refine ShiftP.mk hx ?_
  exact Done.mk ⟨rfl, n1.below⟩
/-- What find answers. -/
def Found (mask : Int) (ls : List Letter) (r : Int) : Prop := (r = -1 ∧ ∀ l ∈ ls, bitI mask l.tag ≠ 1) ∨ ∃ (k : Nat) (l : Letter), r = (k : Int) ∧ ls[k]? = some l ∧ bitI mask l.tag = 1 ∧ ∀ x ∈ ls.take k, bitI mask x.tag ≠ 1
theorem indexFunc {w : World} {q : Nat} {mask : Int} {v : Value} {ls : List Letter} (hq : Blk w q [.int .u64 mask] 47) (hr : Rd enL fine 4 w v ls) :
    Fc Try.prog 58 #[v, .func (.func 59) #[] #[.pointer (some ⟨q, 0, none⟩)]] w (fun u w' => ∃ r, u = .int .i64 r ∧ Found mask ls r ∧ Below w.heap.size w w') := by
  refine Fc.of Try.func58 rfl (by kernel_rfl) ?_
  refine rLenR hr rfl ?_
  have hll := hr.len
  refine LoopP.rule (α := Nat) 0 (fun i => [(8, .int .i64 i)]) (fun i w' => Below w.heap.size w w' ∧ i ≤ ls.length ∧ ∀ l ∈ ls.take i, bitI mask l.tag ≠ 1) (fun i => ls.length - i) (mt_cons rfl mt_nil) ⟨Below.refl _ _, Nat.zero_le _, by simp⟩ ?_
  rintro i f w1 ⟨G, hi, hno⟩
  refine cI (fun h1 => ?_) (fun h1 => ?_)
  · have h1 := vLt_t h1
    refine bk ?_
    have hlt : i < ls.length := by omega
    have hr1 := sG hr G
    refine rIdxE 4 hr1 i ls[i] rfl (List.getElem?_eq_getElem hlt) rfl rfl ?_
    intro b o hat hok
    refine rLoadA0 hat rfl rfl rfl ?_
    refine CallP.mk (Fc.imp (find1 (mask := mask) ls[i] (hq.below G hq.lt) hok.2.1) ?_)
    rintro _ w2 ⟨rfl, g2⟩
    have G2 := gB G g2
    refine cI (fun h2 => ?_) (fun h2 => ?_)
    · have h2 := vEq_t h2
      exact Done.mk ⟨i, rfl, .inr ⟨i, ls[i], rfl, List.getElem?_eq_getElem hlt, h2, hno⟩, G2⟩
    have h2 := vEq_f h2
    refine Nxt.mk (i + 1) (mt_i rfl (by rw [wi64 (by omega)]; omega) mt_nil) ⟨G2, by omega, fun l hl => ?_⟩ (by omega)
    rw [List.take_add_one, List.getElem?_eq_getElem hlt] at hl
    rcases List.mem_append.1 hl with h | h
    · exact hno l h
    · obtain rfl : l = ls[i] := by simpa using h
      exact h2
  have h1 := vLt_f h1
  have : i = ls.length := by omega
  subst this
  rw [List.take_length] at hno
  exact Done.mk ⟨-1, rfl, .inl ⟨rfl, hno⟩, G⟩
theorem find {w : World} {p : Nat} {fp : Nat → Prop} {room lost mask : Int} {ls : List Letter} (h : Bx w p fp room lost ls) :
    Fc Try.prog 45 #[.pointer (some ⟨p, 0, none⟩), .int .u64 mask] w (fun u w' => ∃ r, u = .int .i64 r ∧ Found mask ls r ∧ Below w.heap.size w w') := by
  obtain ⟨v, hp, ho, hne, hf, rfl⟩ := h
  refine Fc.of Try.func45 rfl (by kernel_rfl) ?_
  refine rBox ?_
  intro w1 n1
  refine rFieldAt rfl ?_
  refine rLoad (kN hp n1).at 2 rfl rfl ?_
  refine CallP.mk (Fc.imp (indexFunc (mask := mask) n1.blk ((oN ho n1).rd (ok := fine) hf (by decide)).wide') ?_)
  rintro u w2 ⟨r, rfl, hr, g2⟩
  exact Done.mk ⟨r, rfl, hr, gB (gN (Below.refl _ _) n1) g2⟩
theorem has {w : World} {p : Nat} {fp : Nat → Prop} {room lost mask : Int} {ls : List Letter} (h : Bx w p fp room lost ls) :
    Fc Try.prog 27 #[.pointer (some ⟨p, 0, none⟩), .int .u64 mask] w (fun u w' => ∃ r, u = .bool (vLe 0 r) ∧ Found mask ls r ∧ Below w.heap.size w w') := by
  refine Fc.of Try.func27 rfl (by kernel_rfl) ?_
  refine CallP.mk (Fc.imp (find (mask := mask) h) ?_)
  rintro u w2 ⟨r, rfl, hr, g2⟩
  exact Done.mk ⟨r, rfl, hr, g2⟩
theorem delete {w : World} {lo : Nat} {v : Value} {ls : List Letter} {ii jj : Int} (ho : Own lo w 49 4 enL v ls) (i : Nat) (hi : i < ls.length) (hii : ii = i) (hjj : jj = i + 1) :
    Fc Try.prog 46 #[v, .int .i64 ii, .int .i64 jj] w (fun u w' => ∃ g cap, v = .slice (some ⟨g, 0, none⟩) ls.length cap ∧ u = .slice (some ⟨g, 0, none⟩) (ls.eraseIdx i).length cap ∧ Own lo w' 49 4 enL u (ls.eraseIdx i) ∧ Upd w w' g) := by
  obtain ⟨g, cap, cur, rfl, hlo, hb, ht, hlen, hcap, hcm, hcl⟩ := ho.blk (by intro e; subst e; simp at hi)
  obtain ⟨n, hn⟩ : ∃ n, n = ls.length := ⟨_, rfl⟩
  have hcut := cut_row enL_len ht hlen i hi [.int .i64 0, .int .i64 0, .int .i64 0, .string (bs [])] (by simp only [List.length_cons, List.length_nil]; omega)
  have hel : (ls.eraseIdx i).length = n - 1 := by rw [List.length_eraseIdx, if_pos hi, hn]
  rw [hel] at hcut ⊢
  rw [← hn] at ht hlen hcap hi hcut ⊢
  refine Fc.of Try.func46 rfl (by kernel_rfl) ?_
  refine rLenSl rfl ?_
  refine rSlB rfl rfl (sb_lhm (l := i) (h := i + 1) (m := n) hii hjj rfl (by omega) hi hcap) ?_
  refine cF (by rw [vEq_iff]; first | (simp; done) | (simp; omega)) ?_
  refine rLenSl rfl ?_
  refine drawz (fun wx => True) [(0, .pure), (1, .pure), (2, .pure), (3, .pure), (4, .pure), (5, .pure), (6, .free), (7, .pure)] mixed (by kernel_rfl) (by kernel_rfl) (fun wd hd => ⟨trivial, ?_⟩)
  have st : Still w wd := by rw [hd]; exact Still.drew _
  have b1 := kS hb st
  refine tk (fun wx hS => rSlH i rfl rfl hii (by omega) ⟨rfl, rfl⟩) ?_
  refine tk (fun wx hS => rSlL (i + 1) rfl rfl hjj hi ⟨rfl, rfl⟩) ?_
  have hnl : ((cur.drop ((i + 1) * 4)).take ((n - (i + 1)) * 4)).length = (n - (i + 1)) * 4 := by rw [List.length_take, List.length_drop]; omega
  have hat : At wd g (if cap = i + 1 then 0 else 0 + (i + 1) * 4) ((cur.drop ((i + 1) * 4)).take ((n - (i + 1)) * 4)) := by
    split
    · have : n - (i + 1) = 0 := by omega
      rw [this, Nat.zero_mul, List.take_zero]
      exact At.none b1
    · exact b1.at.sub _ _
  have hone : ∀ u ∈ (cur.drop ((i + 1) * 4)).take ((n - (i + 1)) * 4), u.oneCell' = true := fun u hu => by
    rw [show (n - (i + 1)) * 4 = n * 4 - (i + 1) * 4 by omega, ← List.drop_take, ht] at hu
    obtain ⟨l, _, hu⟩ := List.mem_flatMap.1 (List.mem_of_mem_drop hu)
    exact List.all_eq_true.1 (enL_one l) u hu
  refine rAppIn (s := 4) b1 hat hnl rfl rfl hone (by omega) (by rw [hnl]; omega) ?_
  intro w2 u2 b2
  refine rLenSl rfl ?_
  refine rSlLH (sz := 4) (n - 1) n rfl rfl (by omega) rfl (by omega) hcap (by omega) ?_
  refine rClear [.int .i64 0, .int .i64 0, .int .i64 0, .string (bs [])] rfl rfl rfl b2 (by omega) (by rw [setsL_length]; simp only [List.length_cons, List.length_nil]; omega) rfl ?_
  intro w3 u3 b3
  rw [show n - (n - 1) = 1 by omega, List.replicate_one, List.flatten_singleton, Nat.zero_add] at b3
  have hv : i + (n - (i + 1)) = n - 1 := by omega
  rw [hv]
  have U : Upd w w3 g := ⟨(u3.os.trans u2.os).trans (by rw [hd]; rfl), (u3.tape.trans u2.tape).trans (by rw [hd]; rfl), (u3.output.trans u2.output).trans (by rw [hd]; rfl), (u3.size.trans u2.size).trans (by rw [st.heap]), fun k hk => ((u3.block k hk).trans (u2.block k hk)).trans (by rw [st.heap])⟩
  have hO := Own.of_blk (lo := lo) (xs := ls.eraseIdx i) (s := 4) (en := enL) (cap := cap) hlo b3 (by rw [hel]; exact hcut) (by rw [hel]; omega) hcm (by rw [setsL_length, setsL_length]; exact hcl) enL_len
  rw [hel] at hO
  exact Done.mk ⟨g, cap, rfl, rfl, hO, U⟩
theorem lostOf {w : World} {p : Nat} {fp : Nat → Prop} {room lost : Int} {ls : List Letter} (h : Bx w p fp room lost ls) :
    Fc Try.prog 25 #[.pointer (some ⟨p, 0, none⟩)] w (fun u w' => u = .int .i64 lost ∧ w = w') := by
  obtain ⟨v, hp, ho, hne, hf, rfl⟩ := h
  refine Fc.of Try.func25 rfl (by kernel_rfl) ?_
  refine rFieldAt rfl ?_
  refine rLoad hp.at 1 rfl rfl ?_
  exact Done.mk ⟨rfl, rfl⟩
/-- What Take takes. -/
def TakeS (mask : Int) (ls : List Letter) (y : Letter) (b : Bool) (ls' : List Letter) : Prop :=
  (b = false ∧ ls' = ls ∧ ∀ l ∈ ls, bitI mask l.tag ≠ 1) ∨ ∃ k, b = true ∧ ls[k]? = some y ∧ bitI mask y.tag = 1 ∧ (∀ x ∈ ls.take k, bitI mask x.tag ≠ 1) ∧ ls' = ls.eraseIdx k
theorem take {w : World} {p : Nat} {fp : Nat → Prop} {room lost mask : Int} {ls : List Letter} (h : Bx w p fp room lost ls) (hl : ls.length ≤ 1000000000) :
    Fc Try.prog 24 #[.pointer (some ⟨p, 0, none⟩), .int .u64 mask] w (fun u w' => ∃ y b ls', u = .tuple #[.agg (enL y).toArray, .bool b] ∧ TakeS mask ls y b ls' ∧ Bx w' p fp room lost ls' ∧ Ev w w' fp) := by
  refine Fc.of Try.func24 rfl (by kernel_rfl) ?_
  refine rAlloc rfl ?_
  intro w1 n1
  have h1 := h.ev (Ev.new n1 (fun _ => False)) (fun _ _ h => h)
  have E1 : Ev w w1 fp := Ev.new n1 _
  have b1 := n1.blk
  have hlt := fun k (hk : fp k) => h.lt hk
  clear n1 h
  refine CallP.mk (Fc.imp (find (mask := mask) h1) ?_)
  rintro u w2 ⟨r, rfl, hr, g2⟩
  have h2 := h1.next g2
  have E2 := E1.trans (Ev.below g2 (fun _ => False)) (fun _ h => h) (fun _ _ h => h.elim)
  have b2 := kB b1 g2
  clear h1 g2 E1 b1
  refine cI (fun ht => ?_) (fun ht => ?_)
  · have ht := vLt_t ht
    refine rBuild rfl rfl rfl ?_
    refine rStoreA b2 rfl rfl rfl ?_
    intro w3 u3 b3
    refine rdA b3.at rfl rfl rfl ?_
    have hnp : ∀ k, fp k → k ≠ w.heap.size := fun k hk e => by have := hlt k hk; omega
    rcases hr with ⟨_, hn⟩ | ⟨k, l, hk, _⟩
    · exact Done.mk ⟨⟨0, 0, 0, []⟩, false, ls, rfl, .inl ⟨rfl, rfl, hn⟩, h2.ev (Ev.upd u3 (fp := fun k => k = w.heap.size) rfl) (fun k hk => hnp k hk), E2.trans (Ev.upd u3 (fp := fun k => k = w.heap.size) rfl) (fun _ h => h) (fun k hk e => by omega)⟩
    · omega
  have ht := vLt_f ht
  rcases hr with ⟨hr, _⟩ | ⟨k, l, hk, hkl, hbit, hno⟩
  · omega
  have hki := (List.getElem?_eq_some_iff.1 hkl).1
  obtain ⟨v, hp, ho, hne, hf, rfl⟩ := h2
  refine rFieldAt rfl ?_
  refine rLoad hp.at 2 rfl rfl ?_
  refine rIdxE 4 ((ho.rd (ok := fine) hf (by decide)).wide') k l hk hkl rfl rfl ?_
  intro b o hat hok
  refine rLoadA0 hat rfl rfl rfl ?_
  refine rAlloc rfl ?_
  intro w3 n3
  refine rStoreA n3.blk rfl rfl rfl ?_
  intro w4 u4 b4
  have hpl := hp.lt
  have p4 := kU (kN hp n3) u4 (by omega)
  have o4 := oU (oN ho n3) u4 (fun e => by have := (ho.lt e).2; omega)
  have hb2 := b2.lt
  have r4 := kU (kN b2 n3) u4 (by omega)
  have E4 := (E2.trans (Ev.new n3 (fun _ => False)) (fun _ h => h) (fun _ _ h => h.elim)).trans (Ev.upd u4 (fp := fun k => k = w2.heap.size) rfl) (fun _ h => h) (fun k hk e => by have := E2.size; omega)
  clear n3 u4 E2 b2
  refine rFieldAt rfl ?_
  refine rLoad p4.at 2 rfl rfl ?_
  refine CallP.mk (Fc.imp (delete o4 k hki hk (by rw [wi64 (by omega)]; omega)) ?_)
  rintro _ w5 ⟨g, cap, hv, rfl, o5, u5⟩
  subst hv
  have hgp : g ≠ p := fun e => hne (by rw [e]; rfl)
  have hgl := (o4.lt (k := g) rfl).2
  have p5 := kU p4 u5 (fun e => hgp e.symm)
  have hg0 := hlt g (.inr rfl)
  have b5 := kU b4 u5 (fun e => by have := hlt g (.inr rfl); have := E4.size; omega)
  have r5 := kU r4 u5 (fun e => by omega)
  refine rFieldAt rfl ?_
  refine rStoreL p5 (bl rfl) rfl rfl ?_
  intro w6 u6 p6
  have hp0 := hlt p (.inl rfl)
  have b6 := kU b5 u6 (by omega)
  have r6 := kU r5 u6 (by omega)
  refine rLoadA0 b6.at rfl rfl rfl ?_
  refine rStoreA r6 rfl rfl rfl ?_
  intro w7 u7 r7
  refine rdA r7.at rfl rfl rfl ?_
  have p7 := kU p6 u7 (by omega)
  have o7 := oU (oU o5 u6 (fun e => hgp (Option.some.inj e))) u7 (fun e => by have := Option.some.inj e; dsimp only at this; omega)
  have E5 := ((E4.trans (Ev.upd u5 (fp := fun k => k = g) rfl) (fun _ h => h) (fun k _ e => .inr (by rw [e]; rfl))).trans (Ev.upd u6 (fp := fun k => k = p) rfl) (fun _ h => h) (fun k _ e => .inl e)).trans (Ev.upd u7 (fp := fun k => k = w.heap.size) rfl) (fun _ h => h) (fun k hk e => by omega)
  exact Done.mk ⟨l, true, ls.eraseIdx k, rfl, .inr ⟨k, rfl, hkl, hbit, hno, rfl⟩, ⟨_, p7, o7, fun e => hgp (Option.some.inj e), fun x hx => hf x (List.mem_of_mem_eraseIdx hx), rfl⟩, E5⟩
end Go.Proofs.Ytkkfjhaknbaiaaa.Mail
