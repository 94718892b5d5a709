/- Package frame: Check, Write, Read. -/
import Derived.Test.YtepceieglhfnoaaFrame5
set_option maxRecDepth 100000
set_option maxHeartbeats 4000000
set_option linter.unusedVariables false
set_option linter.unusedSimpArgs false
namespace Go.Proofs.Ytepceieglhfnoaa.Frame
open Go Go.Proofs.Ytepceieglhfnoaa.Eng Go.RowKit
theorem checkF (x : Fr) (hx : x.body.length ≤ 9223372036854775807) (w : World) : Fc Try.prog 22 #[aggF x] w (fun v w' => ∃ e, v = .int .i64 e ∧ e = chkF x ∧ Sat (froz w) w' []) := by
  refine Fc.of Try.func22 rfl (by kernel_rfl) ?_
  have H := Sat.start w
  have hne : x.body ≠ [] ∨ x.body.length = 0 := by rcases x.body with _ | _ <;> simp
  refine rBoxS H ?_
  clear H
  intro p1 w1 H
  refine bk ?_
  refine rFieldAt rfl ?_
  refine rLd (H.at 0 rfl) 0 rfl rfl rfl ?_
  refine CallP.mk (Fc.imp (Go.Proofs.Ytepceieglhfnoaa.Frame.isNode _ _) ?_)
  rintro _ _ ⟨⟨b1, ⟨rfl, h1⟩⟩, rfl⟩
  refine cI (fun c1 => ?_) (fun c1 => ?_)
  · replace c1 := iff_f h1 (not_t (c1))
    refine cT (not_T (iff_F h1 (by assumption))) ?_
    refine Done.mk ?_
    refine ⟨1, ?_⟩
    refine ⟨?_, ?_⟩
    · refine int_eq ?_
      omega
    refine ⟨?_, ?_⟩
    · (unfold chkF okF; split <;> first | omega | (split <;> omega))
    refine H.firsts 0 ?_
    clear H
    intro H
    exact H
  replace c1 := h1.1 (not_f (c1))
  refine rFieldAt rfl ?_
  refine rLd (H.at 0 rfl) 1 rfl rfl rfl ?_
  refine CallP.mk (Fc.imp (Go.Proofs.Ytepceieglhfnoaa.Frame.isNode _ _) ?_)
  rintro _ _ ⟨⟨b2, ⟨rfl, h2⟩⟩, rfl⟩
  refine cI (fun c2 => ?_) (fun c2 => ?_)
  · replace c2 := iff_f h2 (not_t (c2))
    refine cT (not_T (iff_F h2 (by assumption))) ?_
    refine Done.mk ?_
    refine ⟨1, ?_⟩
    refine ⟨?_, ?_⟩
    · refine int_eq ?_
      omega
    refine ⟨?_, ?_⟩
    · (unfold chkF okF; split <;> first | omega | (split <;> omega))
    refine H.firsts 0 ?_
    clear H
    intro H
    exact H
  replace c2 := h2.1 (not_f (c2))
  refine rFieldAt rfl ?_
  refine rLd (H.at 0 rfl) 0 rfl rfl rfl ?_
  refine rFieldAt rfl ?_
  refine rLd (H.at 0 rfl) 1 rfl rfl rfl ?_
  refine cI (fun c3 => ?_) (fun c3 => ?_)
  · replace c3 := vEq_t (c3)
    refine cT (vEq_T (by assumption)) ?_
    refine Done.mk ?_
    refine ⟨1, ?_⟩
    refine ⟨?_, ?_⟩
    · refine int_eq ?_
      omega
    refine ⟨?_, ?_⟩
    · (unfold chkF okF; split <;> first | omega | (split <;> omega))
    refine H.firsts 0 ?_
    clear H
    intro H
    exact H
  replace c3 := vEq_f (c3)
  refine rFieldAt rfl ?_
  refine rLd (H.at 0 rfl) 2 rfl rfl rfl ?_
  refine CallP.mk (Fc.imp (Go.Proofs.Ytepceieglhfnoaa.Frame.isCount _ _) ?_)
  rintro _ _ ⟨⟨b3, ⟨rfl, h3⟩⟩, rfl⟩
  refine cI (fun c4 => ?_) (fun c4 => ?_)
  · replace c4 := iff_f h3 (not_t (c4))
    refine cT (not_T (iff_F h3 (by assumption))) ?_
    refine Done.mk ?_
    refine ⟨1, ?_⟩
    refine ⟨?_, ?_⟩
    · refine int_eq ?_
      omega
    refine ⟨?_, ?_⟩
    · (unfold chkF okF; split <;> first | omega | (split <;> omega))
    refine H.firsts 0 ?_
    clear H
    intro H
    exact H
  replace c4 := h3.1 (not_f (c4))
  refine rFieldAt rfl ?_
  refine rLd (H.at 0 rfl) 3 rfl rfl rfl ?_
  refine CallP.mk (Fc.imp (Go.Proofs.Ytepceieglhfnoaa.Frame.isCount _ _) ?_)
  rintro _ _ ⟨⟨b4, ⟨rfl, h4⟩⟩, rfl⟩
  refine cI (fun c5 => ?_) (fun c5 => ?_)
  · replace c5 := iff_f h4 (not_t (c5))
    refine cT (not_T (iff_F h4 (by assumption))) ?_
    refine Done.mk ?_
    refine ⟨1, ?_⟩
    refine ⟨?_, ?_⟩
    · refine int_eq ?_
      omega
    refine ⟨?_, ?_⟩
    · (unfold chkF okF; split <;> first | omega | (split <;> omega))
    refine H.firsts 0 ?_
    clear H
    intro H
    exact H
  replace c5 := h4.1 (not_f (c5))
  refine rFieldAt rfl ?_
  refine rLd (H.at 0 rfl) 2 rfl rfl rfl ?_
  refine br (fun c6 => ?_) (fun c6 => ?_)
  · replace c6 := vEq_t (c6)
    refine rFieldAt rfl ?_
    refine rLd (H.at 0 rfl) 4 rfl rfl rfl ?_
    refine rStrNe ?_
    refine cI (fun c7 => ?_) (fun c7 => ?_)
    · replace c7 := dec_f (not_t (c7))
      refine Done.mk ?_
      refine ⟨1, ?_⟩
      refine ⟨?_, ?_⟩
      · refine int_eq ?_
        omega
      refine ⟨?_, ?_⟩
      · (unfold chkF; rw [if_neg (by intro h; exact h.2.2.2.2.2 ⟨by assumption, by assumption⟩)]; done)
      refine H.firsts 0 ?_
      clear H
      intro H
      exact H
    replace c7 := dec_t (not_f (c7))
    refine rFieldAt rfl ?_
    refine rLd (H.at 0 rfl) 4 rfl rfl rfl ?_
    refine rLenStr rfl ?_
    refine cI (fun c8 => ?_) (fun c8 => ?_)
    · replace c8 := vLt_t (c8)
      refine Done.mk ?_
      refine ⟨2, ?_⟩
      refine ⟨?_, ?_⟩
      · refine int_eq ?_
        omega
      refine ⟨?_, ?_⟩
      · (unfold chkF; rw [if_pos ⟨by assumption, by assumption, by assumption, by assumption, by assumption, by rintro ⟨h1, h2⟩; contradiction⟩]; split <;> omega)
      refine H.firsts 0 ?_
      clear H
      intro H
      exact H
    replace c8 := vLt_f (c8)
    refine Done.mk ?_
    refine ⟨0, ?_⟩
    refine ⟨?_, ?_⟩
    · refine int_eq ?_
      omega
    refine ⟨?_, ?_⟩
    · (unfold chkF; rw [if_pos ⟨by assumption, by assumption, by assumption, by assumption, by assumption, by rintro ⟨h1, h2⟩; contradiction⟩]; split <;> omega)
    refine H.firsts 0 ?_
    clear H
    intro H
    exact H
  replace c6 := vEq_f (c6)
  refine cF rfl ?_
  refine rFieldAt rfl ?_
  refine rLd (H.at 0 rfl) 4 rfl rfl rfl ?_
  refine rLenStr rfl ?_
  refine cI (fun c7 => ?_) (fun c7 => ?_)
  · replace c7 := vLt_t (c7)
    refine Done.mk ?_
    refine ⟨2, ?_⟩
    refine ⟨?_, ?_⟩
    · refine int_eq ?_
      omega
    refine ⟨?_, ?_⟩
    · (unfold chkF okF; split <;> first | omega | (split <;> omega))
    refine H.firsts 0 ?_
    clear H
    intro H
    exact H
  replace c7 := vLt_f (c7)
  refine Done.mk ?_
  refine ⟨0, ?_⟩
  refine ⟨?_, ?_⟩
  · refine int_eq ?_
    omega
  refine ⟨?_, ?_⟩
  · (unfold chkF okF; split <;> first | omega | (split <;> omega))
  refine H.firsts 0 ?_
  clear H
  intro H
  exact H
theorem chkF_ok {x : Fr} (h : chkF x = 0) : okF x ∧ x.body.length ≤ 64 := by
  unfold chkF at h
  split at h
  · rename_i c
    split at h
    · exact ⟨c, by assumption⟩
    · cases h
  · cases h
def hdF (f : Fr) : List UInt8 := [UInt8.ofNat f.src.toNat, UInt8.ofNat f.dst.toNat] ++ highL f.seq.toNat 8 ++ highL f.ack.toNat 8 ++ [UInt8.ofNat f.body.length] ++ f.body
def wrF (f : Fr) : List UInt8 := hdF f ++ le4 (sumL (hdF f))
open Classical in
noncomputable def wrR (f : Fr) : List UInt8 × Int := if chkF f = 0 then (wrF f, 0) else ([], chkF f)
theorem write (x : Fr) (hx : x.body.length ≤ 9223372036854775807) (w : World) : Fc Try.prog 21 #[aggF x] w (fun v w' => ∃ s e, v = .tuple #[.string (bs s), .int .i64 e] ∧ (s, e) = wrR x ∧ Sat (froz w) w' []) := by
  by_cases hc : chkF x = 0
  · obtain ⟨⟨h1, h2, h3, h4, h5, h6⟩, hb⟩ := chkF_ok hc
    have hwr : wrR x = (wrF x, 0) := by unfold wrR; rw [if_pos hc]
    obtain ⟨src, dst, seq, ack, body⟩ := x
    simp only at h1 h2 h3 h4 h5 h6 hb
    obtain ⟨sq, rfl⟩ : ∃ n : Nat, seq = n := ⟨seq.toNat, by omega⟩
    obtain ⟨ak, rfl⟩ : ∃ n : Nat, ack = n := ⟨ack.toNat, by omega⟩
    have h8a := highL_len sq 8
    have h8b := highL_len ak 8
    show Fc Try.prog _ #[Value.agg #[.int .i64 src, .int .i64 dst, .int .i64 sq, .int .i64 ak, .string (bs body)]] w _
    refine Fc.of Try.func21 rfl (by kernel_rfl) ?_
    have H := Sat.start w
    refine rBoxS H ?_
    clear H
    intro p1 w1 H
    refine rLdA (H.at 0 rfl) 0 rfl rfl rfl ?_
    refine CallP.mk (Fc.imp (Go.Proofs.Ytepceieglhfnoaa.Frame.checkF (x := { src := src, dst := dst, seq := ↑sq, ack := ↑ak, body := body }) ?_ _) ?_)
    · assumption
    rintro _ w2 ⟨e1, ⟨rfl, ⟨h7, H'⟩⟩⟩
    refine H.mergeK H' ?_
    clear H H'
    intro H
    refine cF (vNe_F (by omega)) ?_
    refine rFieldAt rfl ?_
    refine rLd (H.at 0 rfl) 0 rfl rfl rfl ?_
    refine rConvU8 (by omega) rfl rfl ?_
    refine rFieldAt rfl ?_
    refine rLd (H.at 0 rfl) 1 rfl rfl rfl ?_
    refine rConvU8 (by omega) rfl rfl ?_
    refine rBuildSliceS H rfl rfl rfl rfl ?_
    clear H
    intro p2 w3 H
    clear w2
    refine rFieldAt rfl ?_
    refine rLd (H.at 1 rfl) 2 rfl rfl rfl ?_
    refine rConvU64 (by omega) rfl rfl ?_
    have hs1 : src = ((UInt8.ofNat src.toNat).toNat : Int) := byteIs (by omega)
    have hs2 : dst = ((UInt8.ofNat dst.toNat).toNat : Int) := byteIs (by omega)
    replace H := H.cg (cgC (cgPt (show [Value.int .u8 src, Value.int .u8 dst] = [Value.int .u8 ((UInt8.ofNat src.toNat).toNat : Int), Value.int .u8 ((UInt8.ofNat dst.toNat).toNat : Int)] by rw [← hs1, ← hs2])) (cgC rfl cg0))
    refine H.ptSl (n := 2) (en := enY) (s := 1) 0 rfl [UInt8.ofNat src.toNat, UInt8.ofNat dst.toNat] rfl rfl (fun _ => rfl) rfl ?_
    clear H
    intro H
    refine CallP.mk (Fc.imp (Go.Proofs.Ytepceieglhfnoaa.Frame.high H _ _ ?_ ?_ ?_) ?_)
    · omega
    · (constructor <;> omega)
    · (simp only [List.length_append, List.length_set, List.length_cons, List.length_nil]; omega)
    clear H
    rintro v' w2 H
    refine rFieldAt rfl ?_
    refine rLd (H.at 1 rfl) 3 rfl rfl rfl ?_
    refine rConvU64 (by omega) rfl rfl ?_
    refine CallP.mk (Fc.imp (Go.Proofs.Ytepceieglhfnoaa.Frame.high H _ _ ?_ ?_ ?_) ?_)
    · omega
    · (constructor <;> omega)
    · (simp only [List.length_append, List.length_set, List.length_cons, List.length_nil]; omega)
    clear H
    rintro v' w4 H
    refine rFieldAt rfl ?_
    refine rLd (H.at 1 rfl) 4 rfl rfl rfl ?_
    refine rLenStr rfl ?_
    refine rConvU8 (by omega) rfl rfl ?_
    refine rBuildSliceS H rfl rfl rfl rfl ?_
    clear H
    intro p3 w5 H
    clear w4
    have hbk1 := byteIs (x := (↑body.length : Int)) (n := (body.length)) (by omega)
    rw [hbk1] at H
    clear hbk1
    refine rApS (ys := [_]) 1 H 1 rfl (H.at 0 rfl) rfl (fun y _ => rfl) rfl rfl rfl (by (simp only [List.length_append, List.length_set, List.length_cons, List.length_nil]; omega)) (by (simp only [List.length_append, List.length_set, List.length_cons, List.length_nil]; omega)) ?_
    intro v1
    clear H
    intro w4 H
    clear w5
    refine rFieldAt rfl ?_
    refine rLd (H.at 2 rfl) 4 rfl rfl rfl ?_
    refine rApStr H 1 rfl rfl rfl rfl (by (simp only [List.length_append, List.length_set, List.length_cons, List.length_nil]; omega)) ?_
    intro v2
    clear H
    intro w5 H
    clear w4
    have hL : (hdF ⟨src, dst, sq, ak, body⟩).length = 19 + body.length := by
      simp only [hdF, List.length_append, List.length_cons, List.length_nil, highL_len]
    obtain ⟨hd, hh⟩ : ∃ hd, hd = hdF ⟨src, dst, sq, ak, body⟩ := ⟨_, rfl⟩
    rw [show [UInt8.ofNat src.toNat, UInt8.ofNat dst.toNat] ++ highL sq 8 ++ highL ak 8 ++ [UInt8.ofNat body.length] ++ body = hdF ⟨src, dst, sq, ak, body⟩ from rfl, ← hh] at H
    rw [← hh] at hL
    have hle : (le4 (sumL hd)).length = 4 := rfl
    refine drawzS H [] [(0, .pure), (1, .held), (2, .pure), (3, .held), (4, .forced), (5, .pure), (6, .pure), (7, .pure)] mixed (by kernel_rfl) (by kernel_rfl) ?_
    clear H
    intro w4 H
    clear w5
    refine tk (fun wx HS => rBytesStrS HS 1 rfl rfl rfl rfl ⟨rfl, rfl⟩) ?_
    refine tk (fun wx HS => rBytesStrS HS 1 rfl rfl rfl rfl ⟨rfl, rfl⟩) ?_
    refine CallP.mk (Fc.imp (Go.Proofs.Ytepceieglhfnoaa.Frame.ending _ ?_ _) ?_)
    · omega
    rintro _ w5 ⟨rfl, H'⟩
    refine H.mergeK H' ?_
    clear H H'
    intro H
    refine KeepP.mk (H) ?_
    refine tk (fun wx HS => rCat (by omega) ⟨rfl, rfl⟩) ?_
    refine Done.mk ?_
    refine ⟨hd ++ le4 (sumL hd), 0, ?_⟩
    refine ⟨?_, ?_⟩
    · rfl
    refine ⟨?_, ?_⟩
    · (rw [hwr]; unfold wrF; rw [← hh])
    refine H.firsts 0 ?_
    clear H
    intro H
    exact H
  · refine Fc.of Try.func21 rfl (by kernel_rfl) ?_
    have H := Sat.start w
    refine rBoxS H ?_
    clear H
    intro p1 w1 H
    refine rLdA (H.at 0 rfl) 0 rfl rfl rfl ?_
    refine CallP.mk (Fc.imp (Go.Proofs.Ytepceieglhfnoaa.Frame.checkF _ ?_ _) ?_)
    · assumption
    rintro _ w2 ⟨e1, ⟨rfl, ⟨h1, H'⟩⟩⟩
    refine H.mergeK H' ?_
    clear H H'
    intro H
    refine cT (vNe_T (by omega)) ?_
    refine Done.mk ?_
    refine ⟨[], e1, ?_⟩
    refine ⟨?_, ?_⟩
    · rfl
    refine ⟨?_, ?_⟩
    · (unfold wrR; rw [if_neg hc, h1])
    refine H.firsts 0 ?_
    clear H
    intro H
    exact H
def zeroF : Fr := ⟨0, 0, 0, 0, []⟩
def rdF (s : List UInt8) : Fr := ⟨byteAt s 0, byteAt s 1, valB ((s.take 10).drop 2), valB ((s.take 18).drop 10), (s.take (s.length - 4)).drop 19⟩
open Classical in
noncomputable def rdR (s : List UInt8) : Fr × Int := if s.length < 23 then (zeroF, 3) else if s.drop (s.length - 4) ≠ le4 (sumL (s.take (s.length - 4))) then (zeroF, 5)
  else if byteAt s 18 ≠ (s.length : Int) - 23 then (zeroF, 4) else if 1099511627776 < valB ((s.take 10).drop 2) ∨ 1099511627776 < valB ((s.take 18).drop 10) then (zeroF, 1)
  else if chkF (rdF s) = 0 then (rdF s, 0) else (zeroF, chkF (rdF s))
section
variable {s : List UInt8} {x y z : UInt8} {e : Int}
theorem rd3 (h : s.length < 23) : rdR s = (zeroF, 3) := by unfold rdR; rw [if_pos h]
theorem rd5 (h : 23 ≤ s.length) (h1 : ¬ s.drop (s.length - 4) = le4 (sumL (s.take (s.length - 4)))) : rdR s = (zeroF, 5) := by unfold rdR; rw [if_neg (by omega), if_pos h1]
theorem rd4 (h : 23 ≤ s.length) (h1 : s.drop (s.length - 4) = le4 (sumL (s.take (s.length - 4)))) (hx : s[18]? = some x) (h2 : (x.toNat : Int) ≠ (s.length : Int) - 4 - 19) : rdR s = (zeroF, 4) := by
  have hb : byteAt s 18 = (x.toNat : Int) := by unfold byteAt; rw [hx]; rfl
  unfold rdR; rw [if_neg (by omega), if_neg (by simpa using h1), if_pos (by omega)]
theorem rd1 (h : 23 ≤ s.length) (h1 : s.drop (s.length - 4) = le4 (sumL (s.take (s.length - 4)))) (hx : s[18]? = some x) (h2 : (x.toNat : Int) = (s.length : Int) - 4 - 19) (h3 : 1099511627776 < valB ((s.take 10).drop 2) ∨ 1099511627776 < valB ((s.take 18).drop 10)) : rdR s = (zeroF, 1) := by
  have hb : byteAt s 18 = (x.toNat : Int) := by unfold byteAt; rw [hx]; rfl
  unfold rdR; rw [if_neg (by omega), if_neg (by simpa using h1), if_neg (by omega), if_pos h3]
theorem rdF_of (hy : s[0]? = some y) (hz : s[1]? = some z) : rdF s = ⟨y.toNat, z.toNat, valB ((s.take 10).drop 2), valB ((s.take 18).drop 10), (s.take (s.length - 4)).drop 19⟩ := by
  unfold rdF byteAt; rw [hy, hz]; rfl
theorem rdB (h : 23 ≤ s.length) (h1 : s.drop (s.length - 4) = le4 (sumL (s.take (s.length - 4)))) (hx : s[18]? = some x) (h2 : (x.toNat : Int) = (s.length : Int) - 4 - 19) (h3 : ¬ (1099511627776 < valB ((s.take 10).drop 2) ∨ 1099511627776 < valB ((s.take 18).drop 10)))
    (hy : s[0]? = some y) (hz : s[1]? = some z) (he : e = chkF ⟨y.toNat, z.toNat, valB ((s.take 10).drop 2), valB ((s.take 18).drop 10), (s.take (s.length - 4)).drop 19⟩) (hn : e ≠ 0) : rdR s = (zeroF, e) := by
  have hb : byteAt s 18 = (x.toNat : Int) := by unfold byteAt; rw [hx]; rfl
  unfold rdR; rw [if_neg (by omega), if_neg (by simpa using h1), if_neg (by omega), if_neg h3, rdF_of hy hz, ← he, if_neg hn]
theorem rdO (h : 23 ≤ s.length) (h1 : s.drop (s.length - 4) = le4 (sumL (s.take (s.length - 4)))) (hx : s[18]? = some x) (h2 : (x.toNat : Int) = (s.length : Int) - 4 - 19) (h3 : ¬ (1099511627776 < valB ((s.take 10).drop 2) ∨ 1099511627776 < valB ((s.take 18).drop 10)))
    (hy : s[0]? = some y) (hz : s[1]? = some z) (he : e = chkF ⟨y.toNat, z.toNat, valB ((s.take 10).drop 2), valB ((s.take 18).drop 10), (s.take (s.length - 4)).drop 19⟩) (hn : e = 0) : rdR s = (⟨y.toNat, z.toNat, valB ((s.take 10).drop 2), valB ((s.take 18).drop 10), (s.take (s.length - 4)).drop 19⟩, 0) := by
  have hb : byteAt s 18 = (x.toNat : Int) := by unfold byteAt; rw [hx]; rfl
  unfold rdR; rw [if_neg (by omega), if_neg (by simpa using h1), if_neg (by omega), if_neg h3, rdF_of hy hz, ← he, if_pos hn]
end
theorem read (s : List UInt8) (hs : s.length ≤ 9223372036854775807) (w : World) : Fc Try.prog 23 #[.string (bs s)] w (fun v w' => ∃ x e, v = .tuple #[aggF x, .int .i64 e] ∧ (x, e) = rdR s ∧ Sat (froz w) w' []) := by
  refine Fc.of Try.func23 rfl (by kernel_rfl) ?_
  have H := Sat.start w
  refine rAllocS H rfl ?_
  clear H
  intro p1 w1 H
  refine rLenStr rfl ?_
  refine eqI64 (by omega) ?_
  refine bk ?_
  refine cI (fun c1 => ?_) (fun c1 => ?_)
  · replace c1 := vLt_t (c1)
    refine rBuild rfl rfl rfl ?_
    refine rStAS H 0 rfl rfl rfl rfl ?_
    clear H
    intro w2 H
    clear w1
    refine rdAN (H.at 0 rfl) 0 rfl rfl rfl ?_
    refine Done.mk ?_
    refine ⟨{ src := 0, dst := 0, seq := 0, ack := 0, body := [] }, 3, ?_⟩
    refine ⟨?_, ?_⟩
    · rfl
    refine ⟨?_, ?_⟩
    · exact (rd3 (by omega)).symm
    refine H.firsts 0 ?_
    clear H
    intro H
    exact H
  replace c1 := vLt_f (c1)
  refine drawzS H [] [(0, .pure), (1, .pure), (2, .pure), (3, .pure), (4, .pure), (5, .pure), (6, .free), (7, .pure), (8, .pure)] mixed (by kernel_rfl) (by kernel_rfl) ?_
  clear H
  intro w2 H
  clear w1
  refine tk (fun wx HS => rSubL rfl ((s.length) - 4) (by omega) (by omega) ⟨rfl, rfl⟩) ?_
  refine tk (fun wx HS => rSubH rfl ((s.length) - 4) (by omega) (by omega) ⟨rfl, rfl⟩) ?_
  refine CallP.mk (Fc.imp (Go.Proofs.Ytepceieglhfnoaa.Frame.ending _ ?_ _) ?_)
  · (simp; omega)
  rintro _ w1 ⟨rfl, H'⟩
  refine H.mergeK H' ?_
  clear H H'
  intro H
  refine tk (fun wx HS => rStrNe ⟨rfl, rfl⟩) ?_
  refine cI (fun c2 => ?_) (fun c2 => ?_)
  · replace c2 := dec_f (not_t (c2))
    refine rBuild rfl rfl rfl ?_
    refine rStAS H 0 rfl rfl rfl rfl ?_
    clear H
    intro w3 H
    clear w1
    refine rdAN (H.at 0 rfl) 0 rfl rfl rfl ?_
    refine Done.mk ?_
    refine ⟨{ src := 0, dst := 0, seq := 0, ack := 0, body := [] }, 5, ?_⟩
    refine ⟨?_, ?_⟩
    · rfl
    refine ⟨?_, ?_⟩
    · exact (rd5 (by omega) (by assumption)).symm
    refine H.firsts 0 ?_
    clear H
    intro H
    exact H
  replace c2 := dec_t (not_f (c2))
  obtain ⟨x1, hx1⟩ : ∃ x, (s)[18]? = some x := ⟨_, List.getElem?_eq_getElem (by omega)⟩
  have hb1 := byteLt hx1
  refine rIdxStrX rfl 18 hx1 rfl ?_
  refine rConvI64 (by omega) rfl rfl ?_
  refine eqI64 (by omega) ?_
  refine cI (fun c3 => ?_) (fun c3 => ?_)
  · replace c3 := vNe_t (c3)
    refine rBuild rfl rfl rfl ?_
    refine rStAS H 0 rfl rfl rfl rfl ?_
    clear H
    intro w3 H
    clear w1
    refine rdAN (H.at 0 rfl) 0 rfl rfl rfl ?_
    refine Done.mk ?_
    refine ⟨{ src := 0, dst := 0, seq := 0, ack := 0, body := [] }, 4, ?_⟩
    refine ⟨?_, ?_⟩
    · rfl
    refine ⟨?_, ?_⟩
    · exact (rd4 (by omega) (by assumption) hx1 (by omega)).symm
    refine H.firsts 0 ?_
    clear H
    intro H
    exact H
  replace c3 := vNe_f (c3)
  refine drawzS H [] [(0, .pure), (1, .pure), (3, .pure), (4, .pure), (2, .free), (5, .free), (6, .pure), (7, .pure)] mixed (by kernel_rfl) (by kernel_rfl) ?_
  clear H
  intro w3 H
  clear w1
  refine tk (fun wx HS => rSub rfl 2 10 (by omega) (by omega) (by omega) (by omega) ⟨rfl, rfl⟩) ?_
  refine tk (fun wx HS => rSub rfl 10 18 (by omega) (by omega) (by omega) (by omega) ⟨rfl, rfl⟩) ?_
  refine CallP.mk (Fc.imp (Go.Proofs.Ytepceieglhfnoaa.Frame.low _ ?_ _) ?_)
  · (simp; omega)
  rintro _ w1 ⟨rfl, H'⟩
  refine H.mergeK H' ?_
  clear H H'
  intro H
  refine CallP.mk (Fc.imp (Go.Proofs.Ytepceieglhfnoaa.Frame.low _ ?_ _) ?_)
  · (simp; omega)
  rintro _ w4 ⟨rfl, H'⟩
  refine H.mergeK H' ?_
  clear H H'
  intro H
  refine br (fun c4 => ?_) (fun c4 => ?_)
  · replace c4 := vLt_t (c4)
    refine cT rfl ?_
    refine rBuild rfl rfl rfl ?_
    refine rStAS H 0 rfl rfl rfl rfl ?_
    clear H
    intro w5 H
    clear w4
    refine rdAN (H.at 0 rfl) 0 rfl rfl rfl ?_
    refine Done.mk ?_
    refine ⟨{ src := 0, dst := 0, seq := 0, ack := 0, body := [] }, 1, ?_⟩
    refine ⟨?_, ?_⟩
    · rfl
    refine ⟨?_, ?_⟩
    · exact (rd1 (by omega) (by assumption) hx1 (by omega) (by omega)).symm
    refine H.firsts 0 ?_
    clear H
    intro H
    exact H
  replace c4 := vLt_f (c4)
  refine cI (fun c5 => ?_) (fun c5 => ?_)
  · replace c5 := vLt_t (c5)
    refine rBuild rfl rfl rfl ?_
    refine rStAS H 0 rfl rfl rfl rfl ?_
    clear H
    intro w5 H
    clear w4
    refine rdAN (H.at 0 rfl) 0 rfl rfl rfl ?_
    refine Done.mk ?_
    refine ⟨{ src := 0, dst := 0, seq := 0, ack := 0, body := [] }, 1, ?_⟩
    refine ⟨?_, ?_⟩
    · rfl
    refine ⟨?_, ?_⟩
    · exact (rd1 (by omega) (by assumption) hx1 (by omega) (by omega)).symm
    refine H.firsts 0 ?_
    clear H
    intro H
    exact H
  replace c5 := vLt_f (c5)
  refine drawzS H [] [(0, .pure), (1, .pure), (2, .pure), (3, .pure), (4, .pure), (5, .pure), (6, .pure), (7, .pure), (8, .pure), (9, .pure), (10, .pure), (11, .pure), (12, .pure), (13, .pure), (14, .free), (15, .free)] mixed (by kernel_rfl) (by kernel_rfl) ?_
  clear H
  intro w5 H
  clear w4
  obtain ⟨x2, hx2⟩ : ∃ x, (s)[0]? = some x := ⟨_, List.getElem?_eq_getElem (by omega)⟩
  have hb2 := byteLt hx2
  refine tk (fun wx HS => rIdxStrX rfl 0 hx2 rfl ⟨rfl, rfl⟩) ?_
  refine tk (fun wx HS => rConvI64 (by omega) rfl rfl ⟨rfl, rfl⟩) ?_
  obtain ⟨x3, hx3⟩ : ∃ x, (s)[1]? = some x := ⟨_, List.getElem?_eq_getElem (by omega)⟩
  have hb3 := byteLt hx3
  refine tk (fun wx HS => rIdxStrX rfl 1 hx3 rfl ⟨rfl, rfl⟩) ?_
  refine tk (fun wx HS => rConvI64 (by omega) rfl rfl ⟨rfl, rfl⟩) ?_
  refine tk (fun wx HS => rConvI64 (by omega) rfl rfl ⟨rfl, rfl⟩) ?_
  refine tk (fun wx HS => rConvI64 (by omega) rfl rfl ⟨rfl, rfl⟩) ?_
  refine tk (fun wx HS => rSub rfl 19 ((s.length) - 4) (by omega) (by omega) (by omega) (by omega) ⟨rfl, rfl⟩) ?_
  refine tk (fun wx HS => rBuild rfl rfl rfl ⟨rfl, rfl⟩) ?_
  refine rAllocS H rfl ?_
  clear H
  intro p2 w4 H
  clear w5
  refine rStAS H 0 rfl rfl rfl rfl ?_
  clear H
  intro w5 H
  clear w4
  refine rLdA (H.at 0 rfl) 0 rfl rfl rfl ?_
  refine CallP.mk (Fc.imp (Go.Proofs.Ytepceieglhfnoaa.Frame.checkF (x := { src := ↑x2.toNat, dst := ↑x3.toNat, seq := ↑(valB (List.drop 2 (List.take 10 s))), ack := ↑(valB (List.drop 10 (List.take 18 s))), body := List.drop 19 (List.take (s.length - 4) s) }) ?_ _) ?_)
  · (simp; omega)
  rintro _ w4 ⟨e1, ⟨rfl, ⟨h1, H'⟩⟩⟩
  refine H.mergeK H' ?_
  clear H H'
  intro H
  refine cI (fun c6 => ?_) (fun c6 => ?_)
  · replace c6 := vNe_t (c6)
    refine rBuild rfl rfl rfl ?_
    refine rStAS H 1 rfl rfl rfl rfl ?_
    clear H
    intro w6 H
    clear w4
    refine rdAN (H.at 1 rfl) 0 rfl rfl rfl ?_
    refine Done.mk ?_
    refine ⟨{ src := 0, dst := 0, seq := 0, ack := 0, body := [] }, e1, ?_⟩
    refine ⟨?_, ?_⟩
    · rfl
    refine ⟨?_, ?_⟩
    · exact (rdB (by omega) (by assumption) hx1 (by omega) (by omega) hx2 hx3 h1 (by assumption)).symm
    refine H.firsts 0 ?_
    clear H
    intro H
    exact H
  replace c6 := vNe_f (c6)
  refine rLdA (H.at 0 rfl) 0 rfl rfl rfl ?_
  refine rStAS H 1 rfl rfl rfl rfl ?_
  clear H
  intro w6 H
  clear w4
  refine rdAN (H.at 1 rfl) 0 rfl rfl rfl ?_
  refine Done.mk ?_
  refine ⟨{ src := ↑x2.toNat, dst := ↑x3.toNat, seq := ↑(valB (List.drop 2 (List.take 10 s))), ack := ↑(valB (List.drop 10 (List.take 18 s))), body := List.drop 19 (List.take (s.length - 4) s) }, 0, ?_⟩
  refine ⟨?_, ?_⟩
  · rfl
  refine ⟨?_, ?_⟩
  · exact (rdO (by omega) (by assumption) hx1 (by omega) (by omega) hx2 hx3 h1 (by assumption)).symm
  refine H.firsts 0 ?_
  clear H
  intro H
  exact H
end Go.Proofs.Ytepceieglhfnoaa.Frame
