/- Package frame: Pack and Unpack. -/
import Derived.Test.YtepceieglhfnoaaFrame2
set_option maxRecDepth 100000
set_option maxHeartbeats 4000000
set_option linter.unusedVariables false
set_option linter.unusedSimpArgs false
namespace Go.Proofs.Ytepceieglhfnoaa.Frame
open Go Go.Proofs.Ytepceieglhfnoaa.Eng Go.RowKit
theorem check (x : Sg) (hx : x.body.length ≤ 9223372036854775807) (w : World) : Fc Try.prog 34 #[aggG x] w (fun v w' => ∃ e, v = .int .i64 e ∧ e = chkG x ∧ Sat (froz w) w' []) := by
  refine Fc.of Try.func34 rfl (by kernel_rfl) ?_
  have H := Sat.start w
  refine rBoxS H ?_
  clear H
  intro p1 w1 H
  refine bk ?_
  refine rFieldAt rfl ?_
  refine rLd (H.at 0 rfl) 0 rfl rfl rfl ?_
  refine cI (fun c1 => ?_) (fun c1 => ?_)
  · replace c1 := vLt_t (c1)
    refine cT (vLt_T (by assumption)) ?_
    refine Done.mk ?_
    refine ⟨1, ?_⟩
    refine ⟨?_, ?_⟩
    · refine int_eq ?_
      omega
    refine ⟨?_, ?_⟩
    · (unfold chkG okG; split <;> first | omega | (split <;> omega))
    refine H.firsts 0 ?_
    clear H
    intro H
    exact H
  replace c1 := vLt_f (c1)
  refine rFieldAt rfl ?_
  refine rLd (H.at 0 rfl) 0 rfl rfl rfl ?_
  refine cI (fun c2 => ?_) (fun c2 => ?_)
  · replace c2 := vLt_t (c2)
    refine cT (vLt_T (by assumption)) ?_
    refine Done.mk ?_
    refine ⟨1, ?_⟩
    refine ⟨?_, ?_⟩
    · refine int_eq ?_
      omega
    refine ⟨?_, ?_⟩
    · (unfold chkG okG; split <;> first | omega | (split <;> omega))
    refine H.firsts 0 ?_
    clear H
    intro H
    exact H
  replace c2 := vLt_f (c2)
  refine rFieldAt rfl ?_
  refine rLdA (H.at 0 rfl) 1 rfl rfl rfl ?_
  refine CallP.mk (Fc.imp (Go.Proofs.Ytepceieglhfnoaa.Frame.isPid _ _ _) ?_)
  rintro _ w2 ⟨⟨b1, ⟨rfl, h1⟩⟩, H'⟩
  refine H.mergeK H' ?_
  clear H H'
  intro H
  refine cI (fun c3 => ?_) (fun c3 => ?_)
  · replace c3 := iff_f h1 (not_t (c3))
    refine cT (not_T (iff_F h1 (by assumption))) ?_
    refine Done.mk ?_
    refine ⟨1, ?_⟩
    refine ⟨?_, ?_⟩
    · refine int_eq ?_
      omega
    refine ⟨?_, ?_⟩
    · (unfold chkG okG; split <;> first | omega | (split <;> omega))
    refine H.firsts 0 ?_
    clear H
    intro H
    exact H
  replace c3 := h1.1 (not_f (c3))
  refine rFieldAt rfl ?_
  refine rLdA (H.at 0 rfl) 3 rfl rfl rfl ?_
  refine CallP.mk (Fc.imp (Go.Proofs.Ytepceieglhfnoaa.Frame.isPid _ _ _) ?_)
  rintro _ w3 ⟨⟨b2, ⟨rfl, h2⟩⟩, H'⟩
  refine H.mergeK H' ?_
  clear H H'
  intro H
  refine cI (fun c4 => ?_) (fun c4 => ?_)
  · replace c4 := iff_f h2 (not_t (c4))
    refine cT (not_T (iff_F h2 (by assumption))) ?_
    refine Done.mk ?_
    refine ⟨1, ?_⟩
    refine ⟨?_, ?_⟩
    · refine int_eq ?_
      omega
    refine ⟨?_, ?_⟩
    · (unfold chkG okG; split <;> first | omega | (split <;> omega))
    refine H.firsts 0 ?_
    clear H
    intro H
    exact H
  replace c4 := h2.1 (not_f (c4))
  refine rFieldAt rfl ?_
  refine rLd (H.at 0 rfl) 5 rfl rfl rfl ?_
  refine CallP.mk (Fc.imp (Go.Proofs.Ytepceieglhfnoaa.Frame.isOctet _ _) ?_)
  rintro _ _ ⟨⟨b3, ⟨rfl, h3⟩⟩, rfl⟩
  refine cI (fun c5 => ?_) (fun c5 => ?_)
  · replace c5 := iff_f h3 (not_t (c5))
    refine cT (not_T (iff_F h3 (by assumption))) ?_
    refine Done.mk ?_
    refine ⟨1, ?_⟩
    refine ⟨?_, ?_⟩
    · refine int_eq ?_
      omega
    refine ⟨?_, ?_⟩
    · (unfold chkG okG; split <;> first | omega | (split <;> omega))
    refine H.firsts 0 ?_
    clear H
    intro H
    exact H
  replace c5 := h3.1 (not_f (c5))
  refine rFieldAt rfl ?_
  refine rLd (H.at 0 rfl) 6 rfl rfl rfl ?_
  refine CallP.mk (Fc.imp (Go.Proofs.Ytepceieglhfnoaa.Frame.isOctet _ _) ?_)
  rintro _ _ ⟨⟨b4, ⟨rfl, h4⟩⟩, rfl⟩
  refine cI (fun c6 => ?_) (fun c6 => ?_)
  · replace c6 := iff_f h4 (not_t (c6))
    refine cT (not_T (iff_F h4 (by assumption))) ?_
    refine Done.mk ?_
    refine ⟨1, ?_⟩
    refine ⟨?_, ?_⟩
    · refine int_eq ?_
      omega
    refine ⟨?_, ?_⟩
    · (unfold chkG okG; split <;> first | omega | (split <;> omega))
    refine H.firsts 0 ?_
    clear H
    intro H
    exact H
  replace c6 := h4.1 (not_f (c6))
  refine rFieldAt rfl ?_
  refine rLd (H.at 0 rfl) 7 rfl rfl rfl ?_
  refine CallP.mk (Fc.imp (Go.Proofs.Ytepceieglhfnoaa.Frame.isOctet _ _) ?_)
  rintro _ _ ⟨⟨b5, ⟨rfl, h5⟩⟩, rfl⟩
  refine cI (fun c7 => ?_) (fun c7 => ?_)
  · replace c7 := iff_f h5 (not_t (c7))
    refine Done.mk ?_
    refine ⟨1, ?_⟩
    refine ⟨?_, ?_⟩
    · refine int_eq ?_
      omega
    refine ⟨?_, ?_⟩
    · (unfold chkG okG; split <;> first | omega | (split <;> omega))
    refine H.firsts 0 ?_
    clear H
    intro H
    exact H
  replace c7 := h5.1 (not_f (c7))
  refine rFieldAt rfl ?_
  refine rLd (H.at 0 rfl) 8 rfl rfl rfl ?_
  refine rLenStr rfl ?_
  refine cI (fun c8 => ?_) (fun c8 => ?_)
  · replace c8 := vLt_t (c8)
    refine Done.mk ?_
    refine ⟨2, ?_⟩
    refine ⟨?_, ?_⟩
    · refine int_eq ?_
      omega
    refine ⟨?_, ?_⟩
    · (unfold chkG okG; split <;> first | omega | (split <;> omega))
    refine H.firsts 0 ?_
    clear H
    intro H
    exact H
  replace c8 := vLt_f (c8)
  refine Done.mk ?_
  refine ⟨0, ?_⟩
  refine ⟨?_, ?_⟩
  · refine int_eq ?_
    omega
  refine ⟨?_, ?_⟩
  · (unfold chkG okG; split <;> first | omega | (split <;> omega))
  refine H.firsts 0 ?_
  clear H
  intro H
  exact H
def u8 (n : Int) : UInt8 := UInt8.ofNat n.toNat
theorem u8_of {n : Int} (h : 0 ≤ n ∧ n ≤ 255) : ((u8 n).toNat : Int) = n := by
  unfold u8
  rw [UInt8.toNat_ofNat']
  omega
def numsG (x : Sg) : List Int := [x.kind, x.fn, x.fm, x.tn, x.tm, x.ref, x.why, x.tag]
def packG (x : Sg) : List UInt8 := (numsG x).map u8 ++ x.body
open Classical in
noncomputable def packR (x : Sg) : List UInt8 × Int := if chkG x = 0 then (packG x, 0) else ([], chkG x)
theorem chk_ok {x : Sg} (h : chkG x = 0) : okG x ∧ x.body.length ≤ 32 := by
  unfold chkG at h
  split at h
  · rename_i c
    split at h
    · exact ⟨c, by assumption⟩
    · cases h
  · cases h
theorem nums_ok {x : Sg} (h : okG x) : ∀ k ∈ numsG x, 0 ≤ k ∧ k ≤ 255 := by
  intro k hk
  unfold okG at h
  simp only [numsG, List.mem_cons, List.not_mem_nil, or_false] at hk
  omega
theorem pack (x : Sg) (hx : x.body.length ≤ 9223372036854775807) (w : World) : Fc Try.prog 11 #[aggG x] w (fun v w' => ∃ s e, v = .tuple #[.string (bs s), .int .i64 e] ∧ (s, e) = packR x ∧ Sat (froz w) w' []) := by
  refine Fc.of Try.func11 rfl (by kernel_rfl) ?_
  have H := Sat.start w
  refine rBoxS H ?_
  clear H
  intro p1 w1 H
  refine rLdA (H.at 0 rfl) 0 rfl rfl rfl ?_
  refine CallP.mk (Fc.imp (Go.Proofs.Ytepceieglhfnoaa.Frame.check _ ?_ _) ?_)
  · assumption
  rintro _ w2 ⟨e1, ⟨rfl, ⟨h1, H'⟩⟩⟩
  refine H.mergeK H' ?_
  clear H H'
  intro H
  refine cI (fun c1 => ?_) (fun c1 => ?_)
  · replace c1 := vNe_t (c1)
    refine Done.mk ?_
    refine ⟨[], e1, ?_⟩
    refine ⟨?_, ?_⟩
    · rfl
    refine ⟨?_, ?_⟩
    · (unfold packR; rw [if_neg (show ¬ chkG x = 0 by omega)]; congr 1)
    refine H.firsts 0 ?_
    clear H
    intro H
    exact H
  replace c1 := vNe_f (c1)
  refine rFieldAt rfl ?_
  refine rLd (H.at 0 rfl) 0 rfl rfl rfl ?_
  refine rFieldAt rfl ?_
  refine rFieldAt rfl ?_
  refine rLd (H.at 0 rfl) 1 rfl rfl rfl ?_
  refine rFieldAt rfl ?_
  refine rFieldAt rfl ?_
  refine rLd (H.at 0 rfl) 2 rfl rfl rfl ?_
  refine rFieldAt rfl ?_
  refine rFieldAt rfl ?_
  refine rLd (H.at 0 rfl) 3 rfl rfl rfl ?_
  refine rFieldAt rfl ?_
  refine rFieldAt rfl ?_
  refine rLd (H.at 0 rfl) 4 rfl rfl rfl ?_
  refine rFieldAt rfl ?_
  refine rLd (H.at 0 rfl) 5 rfl rfl rfl ?_
  refine rFieldAt rfl ?_
  refine rLd (H.at 0 rfl) 6 rfl rfl rfl ?_
  refine rFieldAt rfl ?_
  refine rLd (H.at 0 rfl) 7 rfl rfl rfl ?_
  refine rBuildArr rfl rfl rfl ?_
  have hc : chkG x = 0 := by omega
  obtain ⟨hok, hb⟩ := chk_ok hc
  have hnm := nums_ok hok
  refine LoopP.rule (α := Nat × Value) (0, .slice none 0 0) (fun x_ => [(34, .int .i64 x_.1), (5, x_.2)]) (fun x_ w_ => (x_.1 ≤ 8) ∧ Sat (froz w) w_ ([Pt p1 (cellsG x) 26, Sl 5 1 enY x_.2 (((numsG x).map u8).take x_.1)])) (fun x_ => 8 - x_.1) ?_ ?_ ?_
  · repeat first | exact mt_nil | refine mt_cons rfl ?_ | refine mt_i rfl (by first | omega | (simp only; omega) | (simp; omega) | (simp; done)) ?_
  · try simp only
    refine ⟨?_, ?_⟩
    · omega
    replace H := H.sl0 (en := enY) (s := 1) (5) (fun _ => rfl)
    refine H.fronts [0, 1] ?_
    clear H
    intro H
    exact H
  clear H
  rintro ⟨i, vo⟩ f_ w_ ⟨hi, H⟩
  try simp only at hi H ⊢
  have hl8 : ((numsG x).map u8).length = 8 := rfl
  have htl : (((numsG x).map u8).take i).length ≤ 8 := by rw [← hl8]; exact List.length_take_le' ..
  rcases Nat.lt_or_ge i 8 with hlt | hge
  · obtain ⟨k, hk⟩ : ∃ k, (numsG x)[i]? = some k := ⟨_, List.getElem?_eq_getElem hlt⟩
    obtain ⟨c, hc8, hku⟩ : ∃ c : UInt8, k = (c.toNat : Int) ∧ u8 k = c := ⟨u8 k, (u8_of (hnm k (List.mem_of_getElem? hk))).symm, rfl⟩
    have hcb := c.toNat_lt
    have hv : ([.int .i64 x.kind, .int .i64 x.fn, .int .i64 x.fm, .int .i64 x.tn, .int .i64 x.tm, .int .i64 x.ref, .int .i64 x.why, .int .i64 x.tag] : List Value)[i]? = some (.int .i64 (c.toNat : Int)) := by
      rw [← hc8, show ([.int .i64 x.kind, .int .i64 x.fn, .int .i64 x.fm, .int .i64 x.tn, .int .i64 x.tm, .int .i64 x.ref, .int .i64 x.why, .int .i64 x.tag] : List Value) = (numsG x).map (Value.int .i64) from rfl, List.getElem?_map, hk]; rfl
    have htk : ((numsG x).map u8).take (i + 1) = ((numsG x).map u8).take i ++ [c] := by
      rw [List.take_add_one, List.getElem?_map, hk, Option.map_some, hku]; rfl
    refine cT (vLt_T (by omega)) ?_
    refine bk ?_
    refine rIdxAgg _ hv rfl rfl rfl rfl rfl rfl ?_
    refine rConvU8 (by omega) rfl rfl ?_
    refine rBuildSliceS H rfl rfl rfl rfl ?_
    clear H
    intro p2 w3 H
    clear w_
    refine rApS (ys := [_]) 1 H 2 rfl (H.at 0 rfl) rfl (fun y _ => rfl) rfl rfl rfl (by omega) (by omega) ?_
    intro v1
    clear H
    intro w4 H
    clear w3
    refine eqI64 (by omega) ?_
    refine Nxt.mk ((i + 1, v1)) (mt_i rfl (by first | omega | (simp only; omega) | (simp; omega)) (mt_cons rfl (mt_nil))) ?_ ?_
    · refine ⟨?_, ?_⟩
      · assumption
      refine H.fronts [2, 2] ?_
      clear H
      intro H
      refine H.firsts 2 ?_
      clear H
      intro H
      refine H.cg (cgC rfl (cgC (cgSl ?_) (rfl)))
      (rw [htk]; done)
    omega
  · have htk : ((numsG x).map u8).take i = (numsG x).map u8 := List.take_of_length_le (by omega)
    rw [htk] at H
    refine cF (vLt_F (by omega)) ?_
    refine rFieldAt rfl ?_
    refine rLd (H.at 0 rfl) 8 rfl rfl rfl ?_
    refine rApStr H 1 rfl rfl rfl rfl (by omega) ?_
    intro v1
    clear H
    intro w3 H
    clear w_
    refine rBytesStrS H 1 rfl rfl rfl rfl ?_
    refine Done.mk ?_
    refine ⟨List.map u8 (numsG x) ++ x.body, 0, ?_⟩
    refine ⟨?_, ?_⟩
    · rfl
    refine ⟨?_, ?_⟩
    · (unfold packR; rw [if_pos hc]; rfl)
    refine H.firsts 0 ?_
    clear H
    intro H
    exact H
def byteAt (t : List UInt8) (i : Nat) : Int := ((t[i]?.getD 0).toNat : Int)
theorem unpackAt {g : Glob} {w : World} {l : List As} {p : Nat} {t : List UInt8} (H : Sat g w (Pt p [.string (bs t)] 9 :: l)) (i : Int) (hi : 0 ≤ i ∧ i < t.length) :
    Fc Try.prog 35 #[.int .i64 i, .pointer (some ⟨p, 0, none⟩)] w (fun v w' => v = .int .i64 (byteAt t i.toNat) ∧ w = w') := by
  refine Fc.of Try.func35 rfl (by kernel_rfl) ?_
  obtain ⟨x, hx⟩ : ∃ x, t[i.toNat]? = some x := ⟨_, List.getElem?_eq_getElem (by omega)⟩
  have hxb := x.toNat_lt
  refine rLd (H.at 0 rfl) 0 rfl rfl rfl ?_
  refine rIdxStrX rfl (i).toNat hx (by omega) ?_
  refine rConvI64 (by omega) rfl rfl ?_
  refine Done.mk ?_
  refine ⟨?_, ?_⟩
  · (unfold byteAt; rw [hx]; rfl)
  rfl
def unG (t : List UInt8) : Sg := ⟨byteAt t 0, byteAt t 1, byteAt t 2, byteAt t 3, byteAt t 4, byteAt t 5, byteAt t 6, byteAt t 7, t.drop 8⟩
def zeroG : Sg := ⟨0, 0, 0, 0, 0, 0, 0, 0, []⟩
open Classical in
noncomputable def unR (t : List UInt8) : Sg × Int := if t.length < 8 then (zeroG, 3) else if chkG (unG t) = 0 then (unG t, 0) else (zeroG, chkG (unG t))
theorem unpack (t : List UInt8) (ht : t.length ≤ 9223372036854775807) (w : World) : Fc Try.prog 12 #[.string (bs t)] w (fun v w' => ∃ x e, v = .tuple #[aggG x, .int .i64 e] ∧ (x, e) = unR t ∧ Sat (froz w) w' []) := by
  refine Fc.of Try.func12 rfl (by kernel_rfl) ?_
  have H := Sat.start w
  refine rBoxS H ?_
  clear H
  intro p1 w1 H
  refine rAllocS H rfl ?_
  clear H
  intro p2 w2 H
  clear w1
  refine rLd (H.at 1 rfl) 0 rfl rfl rfl ?_
  refine rLenStr rfl ?_
  refine cI (fun c1 => ?_) (fun c1 => ?_)
  · replace c1 := vLt_t (c1)
    refine rBuild rfl rfl rfl ?_
    refine rStAS H 0 rfl rfl rfl rfl ?_
    clear H
    intro w1 H
    clear w2
    refine rdAN (H.at 0 rfl) 0 rfl rfl rfl ?_
    refine Done.mk ?_
    refine ⟨{ kind := 0, fn := 0, fm := 0, tn := 0, tm := 0, ref := 0, why := 0, tag := 0, body := [] }, 3, ?_⟩
    refine ⟨?_, ?_⟩
    · rfl
    refine ⟨?_, ?_⟩
    · (unfold unR; rw [if_pos (show t.length < 8 by omega)]; rfl)
    refine H.firsts 0 ?_
    clear H
    intro H
    exact H
  replace c1 := vLt_f (c1)
  refine drawtS H [] (.op 0 .pure (.op 2 .pure (.op 4 .pure (.op 7 .pure (.op 9 .pure (.op 12 .pure (.op 14 .pure (.op 16 .pure (.op 18 .held (.op 19 .pure (.fork (.op 1 .forced (.fork (.op 3 .forced (.fork (.op 5 .forced (.op 6 .pure (.fork (.op 8 .forced (.fork (.op 10 .forced (.op 11 .pure (.fork (.op 13 .forced (.fork (.op 15 .forced (.fork (.op 17 .forced (.op 20 .pure (.op 21 .forced (.op 22 .free .nil)))) (.op 21 .forced (.op 17 .forced (.op 20 .pure (.op 22 .free .nil)))))) (.op 21 .forced (.op 15 .forced (.op 17 .forced (.op 20 .pure (.op 22 .free .nil))))))) (.op 21 .forced (.op 13 .forced (.op 15 .forced (.op 17 .forced (.op 20 .pure (.op 22 .free .nil))))))))) (.op 21 .forced (.op 10 .forced (.op 11 .pure (.op 13 .forced (.op 15 .forced (.op 17 .forced (.op 20 .pure (.op 22 .free .nil)))))))))) (.op 21 .forced (.op 8 .forced (.op 10 .forced (.op 11 .pure (.op 13 .forced (.op 15 .forced (.op 17 .forced (.op 20 .pure (.op 22 .free .nil)))))))))))) (.op 21 .forced (.op 5 .forced (.op 6 .pure (.op 8 .forced (.op 10 .forced (.op 11 .pure (.op 13 .forced (.op 15 .forced (.op 17 .forced (.op 20 .pure (.op 22 .free .nil))))))))))))) (.op 21 .forced (.op 3 .forced (.op 5 .forced (.op 6 .pure (.op 8 .forced (.op 10 .forced (.op 11 .pure (.op 13 .forced (.op 15 .forced (.op 17 .forced (.op 20 .pure (.op 22 .free .nil)))))))))))))) (.op 21 .forced (.op 1 .forced (.op 3 .forced (.op 5 .forced (.op 6 .pure (.op 8 .forced (.op 10 .forced (.op 11 .pure (.op 13 .forced (.op 15 .forced (.op 17 .forced (.op 20 .pure (.op 22 .free .nil)))))))))))))))))))))))) mixed (by kernel_rfl) ?_
  clear H
  intro w1 H
  clear w2
  refine tk (fun wx HS => rLd (HS.at 1 rfl) 0 rfl rfl rfl ⟨rfl, rfl⟩) ?_
  refine tk (fun wx HS => rSubL rfl 8 (by omega) (by omega) ⟨rfl, rfl⟩) ?_
  refine ⟨?_, ?_⟩
  · refine H.fronts [1] ?_
    clear H
    intro H
    refine CallP.mk (Fc.imp (Go.Proofs.Ytepceieglhfnoaa.Frame.unpackAt H _ ?_) ?_)
    · omega
    rintro _ _ ⟨rfl, rfl⟩
    refine H.fronts [0, 1] ?_
    clear H
    intro H
    refine KeepP.mk (H) ?_
    refine ⟨?_, ?_⟩
    · refine H.fronts [1] ?_
      clear H
      intro H
      refine CallP.mk (Fc.imp (Go.Proofs.Ytepceieglhfnoaa.Frame.unpackAt H _ ?_) ?_)
      · omega
      rintro _ _ ⟨rfl, rfl⟩
      refine H.fronts [0, 1] ?_
      clear H
      intro H
      refine KeepP.mk (H) ?_
      refine ⟨?_, ?_⟩
      · refine H.fronts [1] ?_
        clear H
        intro H
        refine CallP.mk (Fc.imp (Go.Proofs.Ytepceieglhfnoaa.Frame.unpackAt H _ ?_) ?_)
        · omega
        rintro _ _ ⟨rfl, rfl⟩
        refine H.fronts [0, 1] ?_
        clear H
        intro H
        refine KeepP.mk (H) ?_
        refine tk (fun wx HS => rBuild rfl rfl rfl ⟨rfl, rfl⟩) ?_
        refine ⟨?_, ?_⟩
        · refine H.fronts [1] ?_
          clear H
          intro H
          refine CallP.mk (Fc.imp (Go.Proofs.Ytepceieglhfnoaa.Frame.unpackAt H _ ?_) ?_)
          · omega
          rintro _ _ ⟨rfl, rfl⟩
          refine H.fronts [0, 1] ?_
          clear H
          intro H
          refine KeepP.mk (H) ?_
          refine ⟨?_, ?_⟩
          · refine H.fronts [1] ?_
            clear H
            intro H
            refine CallP.mk (Fc.imp (Go.Proofs.Ytepceieglhfnoaa.Frame.unpackAt H _ ?_) ?_)
            · omega
            rintro _ _ ⟨rfl, rfl⟩
            refine H.fronts [0, 1] ?_
            clear H
            intro H
            refine KeepP.mk (H) ?_
            refine tk (fun wx HS => rBuild rfl rfl rfl ⟨rfl, rfl⟩) ?_
            refine ⟨?_, ?_⟩
            · refine H.fronts [1] ?_
              clear H
              intro H
              refine CallP.mk (Fc.imp (Go.Proofs.Ytepceieglhfnoaa.Frame.unpackAt H _ ?_) ?_)
              · omega
              rintro _ _ ⟨rfl, rfl⟩
              refine H.fronts [0, 1] ?_
              clear H
              intro H
              refine KeepP.mk (H) ?_
              refine ⟨?_, ?_⟩
              · refine H.fronts [1] ?_
                clear H
                intro H
                refine CallP.mk (Fc.imp (Go.Proofs.Ytepceieglhfnoaa.Frame.unpackAt H _ ?_) ?_)
                · omega
                rintro _ _ ⟨rfl, rfl⟩
                refine H.fronts [0, 1] ?_
                clear H
                intro H
                refine KeepP.mk (H) ?_
                refine ⟨?_, ?_⟩
                · refine H.fronts [1] ?_
                  clear H
                  intro H
                  refine CallP.mk (Fc.imp (Go.Proofs.Ytepceieglhfnoaa.Frame.unpackAt H _ ?_) ?_)
                  · omega
                  rintro _ _ ⟨rfl, rfl⟩
                  refine H.fronts [0, 1] ?_
                  clear H
                  intro H
                  refine KeepP.mk (H) ?_
                  refine tk (fun wx HS => rBuild rfl rfl rfl ⟨rfl, rfl⟩) ?_
                  refine rAllocS H rfl ?_
                  clear H
                  intro p3 w2 H
                  clear w1
                  refine KeepP.mk (H.drop 0 (fun H => H)) ?_
                  refine rStAS H 0 rfl rfl rfl rfl ?_
                  clear H
                  intro w1 H
                  clear w2
                  refine rLdA (H.at 0 rfl) 0 rfl rfl rfl ?_
                  refine CallP.mk (Fc.imp (Go.Proofs.Ytepceieglhfnoaa.Frame.check (x := { kind := ↑(t[Int.toNat 0]?.getD 0).toNat, fn := ↑(t[Int.toNat 1]?.getD 0).toNat, fm := ↑(t[Int.toNat 2]?.getD 0).toNat, tn := ↑(t[Int.toNat 3]?.getD 0).toNat, tm := ↑(t[Int.toNat 4]?.getD 0).toNat, ref := ↑(t[Int.toNat 5]?.getD 0).toNat, why := ↑(t[Int.toNat 6]?.getD 0).toNat, tag := ↑(t[Int.toNat 7]?.getD 0).toNat, body := List.drop 8 t }) ?_ _) ?_)
                  · (simp; omega)
                  rintro _ w2 ⟨e1, ⟨rfl, ⟨h1, H'⟩⟩⟩
                  refine H.mergeK H' ?_
                  clear H H'
                  intro H
                  refine cI (fun c2 => ?_) (fun c2 => ?_)
                  · replace c2 := vNe_t (c2)
                    refine rBuild rfl rfl rfl ?_
                    refine rStAS H 1 rfl rfl rfl rfl ?_
                    clear H
                    intro w3 H
                    clear w2
                    refine rdAN (H.at 1 rfl) 0 rfl rfl rfl ?_
                    refine Done.mk ?_
                    refine ⟨{ kind := 0, fn := 0, fm := 0, tn := 0, tm := 0, ref := 0, why := 0, tag := 0, body := [] }, e1, ?_⟩
                    refine ⟨?_, ?_⟩
                    · rfl
                    refine ⟨?_, ?_⟩
                    · (unfold unR; rw [if_neg (show ¬ t.length < 8 by omega), if_neg (show ¬ chkG (unG t) = 0 from fun h => absurd (h1.trans h) (by assumption))]; exact congrArg (Prod.mk zeroG) h1)
                    refine H.firsts 0 ?_
                    clear H
                    intro H
                    exact H
                  replace c2 := vNe_f (c2)
                  refine rLdA (H.at 0 rfl) 0 rfl rfl rfl ?_
                  refine rStAS H 1 rfl rfl rfl rfl ?_
                  clear H
                  intro w3 H
                  clear w2
                  refine rdAN (H.at 1 rfl) 0 rfl rfl rfl ?_
                  refine Done.mk ?_
                  refine ⟨{ kind := ↑(t[Int.toNat 0]?.getD 0).toNat, fn := ↑(t[Int.toNat 1]?.getD 0).toNat, fm := ↑(t[Int.toNat 2]?.getD 0).toNat, tn := ↑(t[Int.toNat 3]?.getD 0).toNat, tm := ↑(t[Int.toNat 4]?.getD 0).toNat, ref := ↑(t[Int.toNat 5]?.getD 0).toNat, why := ↑(t[Int.toNat 6]?.getD 0).toNat, tag := ↑(t[Int.toNat 7]?.getD 0).toNat, body := List.drop 8 t }, 0, ?_⟩
                  refine ⟨?_, ?_⟩
                  · rfl
                  refine ⟨?_, ?_⟩
                  · (unfold unR; rw [if_neg (show ¬ t.length < 8 by omega), if_pos (show chkG (unG t) = 0 from h1.symm.trans (by assumption))]; rfl)
                  refine H.firsts 0 ?_
                  clear H
                  intro H
                  exact H
                refine rAllocS H rfl ?_
                clear H
                intro p3 w2 H
                clear w1
                refine KeepP.mk (H.drop 0 (fun H => H)) ?_
                refine H.fronts [2] ?_
                clear H
                intro H
                refine CallP.mk (Fc.imp (Go.Proofs.Ytepceieglhfnoaa.Frame.unpackAt H _ ?_) ?_)
                · omega
                rintro _ _ ⟨rfl, rfl⟩
                refine H.fronts [0, 2] ?_
                clear H
                intro H
                refine KeepP.mk (H.drop 2 (fun H => H)) ?_
                refine tk (fun wx HS => rBuild rfl rfl rfl ⟨rfl, rfl⟩) ?_
                refine rStAS H 2 rfl rfl rfl rfl ?_
                clear H
                intro w1 H
                clear w2
                refine rLdA (H.at 2 rfl) 0 rfl rfl rfl ?_
                refine CallP.mk (Fc.imp (Go.Proofs.Ytepceieglhfnoaa.Frame.check (x := { kind := ↑(t[Int.toNat 0]?.getD 0).toNat, fn := ↑(t[Int.toNat 1]?.getD 0).toNat, fm := ↑(t[Int.toNat 2]?.getD 0).toNat, tn := ↑(t[Int.toNat 3]?.getD 0).toNat, tm := ↑(t[Int.toNat 4]?.getD 0).toNat, ref := ↑(t[Int.toNat 5]?.getD 0).toNat, why := ↑(t[Int.toNat 6]?.getD 0).toNat, tag := ↑(t[Int.toNat 7]?.getD 0).toNat, body := List.drop 8 t }) ?_ _) ?_)
                · (simp; omega)
                rintro _ w2 ⟨e1, ⟨rfl, ⟨h1, H'⟩⟩⟩
                refine H.mergeK H' ?_
                clear H H'
                intro H
                refine cI (fun c2 => ?_) (fun c2 => ?_)
                · replace c2 := vNe_t (c2)
                  refine rBuild rfl rfl rfl ?_
                  refine rStAS H 0 rfl rfl rfl rfl ?_
                  clear H
                  intro w3 H
                  clear w2
                  refine rdAN (H.at 0 rfl) 0 rfl rfl rfl ?_
                  refine Done.mk ?_
                  refine ⟨{ kind := 0, fn := 0, fm := 0, tn := 0, tm := 0, ref := 0, why := 0, tag := 0, body := [] }, e1, ?_⟩
                  refine ⟨?_, ?_⟩
                  · rfl
                  refine ⟨?_, ?_⟩
                  · (unfold unR; rw [if_neg (show ¬ t.length < 8 by omega), if_neg (show ¬ chkG (unG t) = 0 from fun h => absurd (h1.trans h) (by assumption))]; exact congrArg (Prod.mk zeroG) h1)
                  refine H.firsts 0 ?_
                  clear H
                  intro H
                  exact H
                replace c2 := vNe_f (c2)
                refine rLdA (H.at 2 rfl) 0 rfl rfl rfl ?_
                refine rStAS H 0 rfl rfl rfl rfl ?_
                clear H
                intro w3 H
                clear w2
                refine rdAN (H.at 0 rfl) 0 rfl rfl rfl ?_
                refine Done.mk ?_
                refine ⟨{ kind := ↑(t[Int.toNat 0]?.getD 0).toNat, fn := ↑(t[Int.toNat 1]?.getD 0).toNat, fm := ↑(t[Int.toNat 2]?.getD 0).toNat, tn := ↑(t[Int.toNat 3]?.getD 0).toNat, tm := ↑(t[Int.toNat 4]?.getD 0).toNat, ref := ↑(t[Int.toNat 5]?.getD 0).toNat, why := ↑(t[Int.toNat 6]?.getD 0).toNat, tag := ↑(t[Int.toNat 7]?.getD 0).toNat, body := List.drop 8 t }, 0, ?_⟩
                refine ⟨?_, ?_⟩
                · rfl
                refine ⟨?_, ?_⟩
                · (unfold unR; rw [if_neg (show ¬ t.length < 8 by omega), if_pos (show chkG (unG t) = 0 from h1.symm.trans (by assumption))]; rfl)
                refine H.firsts 0 ?_
                clear H
                intro H
                exact H
              refine rAllocS H rfl ?_
              clear H
              intro p3 w2 H
              clear w1
              refine KeepP.mk (H.drop 0 (fun H => H)) ?_
              refine H.fronts [2] ?_
              clear H
              intro H
              refine CallP.mk (Fc.imp (Go.Proofs.Ytepceieglhfnoaa.Frame.unpackAt H _ ?_) ?_)
              · omega
              rintro _ _ ⟨rfl, rfl⟩
              refine H.fronts [0, 2] ?_
              clear H
              intro H
              refine KeepP.mk (H.drop 2 (fun H => H)) ?_
              refine H.fronts [1] ?_
              clear H
              intro H
              refine CallP.mk (Fc.imp (Go.Proofs.Ytepceieglhfnoaa.Frame.unpackAt H _ ?_) ?_)
              · omega
              rintro _ _ ⟨rfl, rfl⟩
              refine H.fronts [0, 1] ?_
              clear H
              intro H
              refine KeepP.mk (H.drop 2 (fun H => H)) ?_
              refine tk (fun wx HS => rBuild rfl rfl rfl ⟨rfl, rfl⟩) ?_
              refine rStAS H 2 rfl rfl rfl rfl ?_
              clear H
              intro w1 H
              clear w2
              refine rLdA (H.at 2 rfl) 0 rfl rfl rfl ?_
              refine CallP.mk (Fc.imp (Go.Proofs.Ytepceieglhfnoaa.Frame.check (x := { kind := ↑(t[Int.toNat 0]?.getD 0).toNat, fn := ↑(t[Int.toNat 1]?.getD 0).toNat, fm := ↑(t[Int.toNat 2]?.getD 0).toNat, tn := ↑(t[Int.toNat 3]?.getD 0).toNat, tm := ↑(t[Int.toNat 4]?.getD 0).toNat, ref := ↑(t[Int.toNat 5]?.getD 0).toNat, why := ↑(t[Int.toNat 6]?.getD 0).toNat, tag := ↑(t[Int.toNat 7]?.getD 0).toNat, body := List.drop 8 t }) ?_ _) ?_)
              · (simp; omega)
              rintro _ w2 ⟨e1, ⟨rfl, ⟨h1, H'⟩⟩⟩
              refine H.mergeK H' ?_
              clear H H'
              intro H
              refine cI (fun c2 => ?_) (fun c2 => ?_)
              · replace c2 := vNe_t (c2)
                refine rBuild rfl rfl rfl ?_
                refine rStAS H 0 rfl rfl rfl rfl ?_
                clear H
                intro w3 H
                clear w2
                refine rdAN (H.at 0 rfl) 0 rfl rfl rfl ?_
                refine Done.mk ?_
                refine ⟨{ kind := 0, fn := 0, fm := 0, tn := 0, tm := 0, ref := 0, why := 0, tag := 0, body := [] }, e1, ?_⟩
                refine ⟨?_, ?_⟩
                · rfl
                refine ⟨?_, ?_⟩
                · (unfold unR; rw [if_neg (show ¬ t.length < 8 by omega), if_neg (show ¬ chkG (unG t) = 0 from fun h => absurd (h1.trans h) (by assumption))]; exact congrArg (Prod.mk zeroG) h1)
                refine H.firsts 0 ?_
                clear H
                intro H
                exact H
              replace c2 := vNe_f (c2)
              refine rLdA (H.at 2 rfl) 0 rfl rfl rfl ?_
              refine rStAS H 0 rfl rfl rfl rfl ?_
              clear H
              intro w3 H
              clear w2
              refine rdAN (H.at 0 rfl) 0 rfl rfl rfl ?_
              refine Done.mk ?_
              refine ⟨{ kind := ↑(t[Int.toNat 0]?.getD 0).toNat, fn := ↑(t[Int.toNat 1]?.getD 0).toNat, fm := ↑(t[Int.toNat 2]?.getD 0).toNat, tn := ↑(t[Int.toNat 3]?.getD 0).toNat, tm := ↑(t[Int.toNat 4]?.getD 0).toNat, ref := ↑(t[Int.toNat 5]?.getD 0).toNat, why := ↑(t[Int.toNat 6]?.getD 0).toNat, tag := ↑(t[Int.toNat 7]?.getD 0).toNat, body := List.drop 8 t }, 0, ?_⟩
              refine ⟨?_, ?_⟩
              · rfl
              refine ⟨?_, ?_⟩
              · (unfold unR; rw [if_neg (show ¬ t.length < 8 by omega), if_pos (show chkG (unG t) = 0 from h1.symm.trans (by assumption))]; rfl)
              refine H.firsts 0 ?_
              clear H
              intro H
              exact H
            refine rAllocS H rfl ?_
            clear H
            intro p3 w2 H
            clear w1
            refine KeepP.mk (H.drop 0 (fun H => H)) ?_
            refine H.fronts [2] ?_
            clear H
            intro H
            refine CallP.mk (Fc.imp (Go.Proofs.Ytepceieglhfnoaa.Frame.unpackAt H _ ?_) ?_)
            · omega
            rintro _ _ ⟨rfl, rfl⟩
            refine H.fronts [0, 2] ?_
            clear H
            intro H
            refine KeepP.mk (H.drop 2 (fun H => H)) ?_
            refine H.fronts [1] ?_
            clear H
            intro H
            refine CallP.mk (Fc.imp (Go.Proofs.Ytepceieglhfnoaa.Frame.unpackAt H _ ?_) ?_)
            · omega
            rintro _ _ ⟨rfl, rfl⟩
            refine H.fronts [0, 1] ?_
            clear H
            intro H
            refine KeepP.mk (H.drop 2 (fun H => H)) ?_
            refine H.fronts [1] ?_
            clear H
            intro H
            refine CallP.mk (Fc.imp (Go.Proofs.Ytepceieglhfnoaa.Frame.unpackAt H _ ?_) ?_)
            · omega
            rintro _ _ ⟨rfl, rfl⟩
            refine H.fronts [0, 1] ?_
            clear H
            intro H
            refine KeepP.mk (H.drop 2 (fun H => H)) ?_
            refine tk (fun wx HS => rBuild rfl rfl rfl ⟨rfl, rfl⟩) ?_
            refine rStAS H 2 rfl rfl rfl rfl ?_
            clear H
            intro w1 H
            clear w2
            refine rLdA (H.at 2 rfl) 0 rfl rfl rfl ?_
            refine CallP.mk (Fc.imp (Go.Proofs.Ytepceieglhfnoaa.Frame.check (x := { kind := ↑(t[Int.toNat 0]?.getD 0).toNat, fn := ↑(t[Int.toNat 1]?.getD 0).toNat, fm := ↑(t[Int.toNat 2]?.getD 0).toNat, tn := ↑(t[Int.toNat 3]?.getD 0).toNat, tm := ↑(t[Int.toNat 4]?.getD 0).toNat, ref := ↑(t[Int.toNat 5]?.getD 0).toNat, why := ↑(t[Int.toNat 6]?.getD 0).toNat, tag := ↑(t[Int.toNat 7]?.getD 0).toNat, body := List.drop 8 t }) ?_ _) ?_)
            · (simp; omega)
            rintro _ w2 ⟨e1, ⟨rfl, ⟨h1, H'⟩⟩⟩
            refine H.mergeK H' ?_
            clear H H'
            intro H
            refine cI (fun c2 => ?_) (fun c2 => ?_)
            · replace c2 := vNe_t (c2)
              refine rBuild rfl rfl rfl ?_
              refine rStAS H 0 rfl rfl rfl rfl ?_
              clear H
              intro w3 H
              clear w2
              refine rdAN (H.at 0 rfl) 0 rfl rfl rfl ?_
              refine Done.mk ?_
              refine ⟨{ kind := 0, fn := 0, fm := 0, tn := 0, tm := 0, ref := 0, why := 0, tag := 0, body := [] }, e1, ?_⟩
              refine ⟨?_, ?_⟩
              · rfl
              refine ⟨?_, ?_⟩
              · (unfold unR; rw [if_neg (show ¬ t.length < 8 by omega), if_neg (show ¬ chkG (unG t) = 0 from fun h => absurd (h1.trans h) (by assumption))]; exact congrArg (Prod.mk zeroG) h1)
              refine H.firsts 0 ?_
              clear H
              intro H
              exact H
            replace c2 := vNe_f (c2)
            refine rLdA (H.at 2 rfl) 0 rfl rfl rfl ?_
            refine rStAS H 0 rfl rfl rfl rfl ?_
            clear H
            intro w3 H
            clear w2
            refine rdAN (H.at 0 rfl) 0 rfl rfl rfl ?_
            refine Done.mk ?_
            refine ⟨{ kind := ↑(t[Int.toNat 0]?.getD 0).toNat, fn := ↑(t[Int.toNat 1]?.getD 0).toNat, fm := ↑(t[Int.toNat 2]?.getD 0).toNat, tn := ↑(t[Int.toNat 3]?.getD 0).toNat, tm := ↑(t[Int.toNat 4]?.getD 0).toNat, ref := ↑(t[Int.toNat 5]?.getD 0).toNat, why := ↑(t[Int.toNat 6]?.getD 0).toNat, tag := ↑(t[Int.toNat 7]?.getD 0).toNat, body := List.drop 8 t }, 0, ?_⟩
            refine ⟨?_, ?_⟩
            · rfl
            refine ⟨?_, ?_⟩
            · (unfold unR; rw [if_neg (show ¬ t.length < 8 by omega), if_pos (show chkG (unG t) = 0 from h1.symm.trans (by assumption))]; rfl)
            refine H.firsts 0 ?_
            clear H
            intro H
            exact H
          refine rAllocS H rfl ?_
          clear H
          intro p3 w2 H
          clear w1
          refine KeepP.mk (H.drop 0 (fun H => H)) ?_
          refine H.fronts [2] ?_
          clear H
          intro H
          refine CallP.mk (Fc.imp (Go.Proofs.Ytepceieglhfnoaa.Frame.unpackAt H _ ?_) ?_)
          · omega
          rintro _ _ ⟨rfl, rfl⟩
          refine H.fronts [0, 2] ?_
          clear H
          intro H
          refine KeepP.mk (H.drop 2 (fun H => H)) ?_
          refine tk (fun wx HS => rBuild rfl rfl rfl ⟨rfl, rfl⟩) ?_
          refine H.fronts [1] ?_
          clear H
          intro H
          refine CallP.mk (Fc.imp (Go.Proofs.Ytepceieglhfnoaa.Frame.unpackAt H _ ?_) ?_)
          · omega
          rintro _ _ ⟨rfl, rfl⟩
          refine H.fronts [0, 1] ?_
          clear H
          intro H
          refine KeepP.mk (H.drop 2 (fun H => H)) ?_
          refine H.fronts [1] ?_
          clear H
          intro H
          refine CallP.mk (Fc.imp (Go.Proofs.Ytepceieglhfnoaa.Frame.unpackAt H _ ?_) ?_)
          · omega
          rintro _ _ ⟨rfl, rfl⟩
          refine H.fronts [0, 1] ?_
          clear H
          intro H
          refine KeepP.mk (H.drop 2 (fun H => H)) ?_
          refine H.fronts [1] ?_
          clear H
          intro H
          refine CallP.mk (Fc.imp (Go.Proofs.Ytepceieglhfnoaa.Frame.unpackAt H _ ?_) ?_)
          · omega
          rintro _ _ ⟨rfl, rfl⟩
          refine H.fronts [0, 1] ?_
          clear H
          intro H
          refine KeepP.mk (H.drop 2 (fun H => H)) ?_
          refine tk (fun wx HS => rBuild rfl rfl rfl ⟨rfl, rfl⟩) ?_
          refine rStAS H 2 rfl rfl rfl rfl ?_
          clear H
          intro w1 H
          clear w2
          refine rLdA (H.at 2 rfl) 0 rfl rfl rfl ?_
          refine CallP.mk (Fc.imp (Go.Proofs.Ytepceieglhfnoaa.Frame.check (x := { kind := ↑(t[Int.toNat 0]?.getD 0).toNat, fn := ↑(t[Int.toNat 1]?.getD 0).toNat, fm := ↑(t[Int.toNat 2]?.getD 0).toNat, tn := ↑(t[Int.toNat 3]?.getD 0).toNat, tm := ↑(t[Int.toNat 4]?.getD 0).toNat, ref := ↑(t[Int.toNat 5]?.getD 0).toNat, why := ↑(t[Int.toNat 6]?.getD 0).toNat, tag := ↑(t[Int.toNat 7]?.getD 0).toNat, body := List.drop 8 t }) ?_ _) ?_)
          · (simp; omega)
          rintro _ w2 ⟨e1, ⟨rfl, ⟨h1, H'⟩⟩⟩
          refine H.mergeK H' ?_
          clear H H'
          intro H
          refine cI (fun c2 => ?_) (fun c2 => ?_)
          · replace c2 := vNe_t (c2)
            refine rBuild rfl rfl rfl ?_
            refine rStAS H 0 rfl rfl rfl rfl ?_
            clear H
            intro w3 H
            clear w2
            refine rdAN (H.at 0 rfl) 0 rfl rfl rfl ?_
            refine Done.mk ?_
            refine ⟨{ kind := 0, fn := 0, fm := 0, tn := 0, tm := 0, ref := 0, why := 0, tag := 0, body := [] }, e1, ?_⟩
            refine ⟨?_, ?_⟩
            · rfl
            refine ⟨?_, ?_⟩
            · (unfold unR; rw [if_neg (show ¬ t.length < 8 by omega), if_neg (show ¬ chkG (unG t) = 0 from fun h => absurd (h1.trans h) (by assumption))]; exact congrArg (Prod.mk zeroG) h1)
            refine H.firsts 0 ?_
            clear H
            intro H
            exact H
          replace c2 := vNe_f (c2)
          refine rLdA (H.at 2 rfl) 0 rfl rfl rfl ?_
          refine rStAS H 0 rfl rfl rfl rfl ?_
          clear H
          intro w3 H
          clear w2
          refine rdAN (H.at 0 rfl) 0 rfl rfl rfl ?_
          refine Done.mk ?_
          refine ⟨{ kind := ↑(t[Int.toNat 0]?.getD 0).toNat, fn := ↑(t[Int.toNat 1]?.getD 0).toNat, fm := ↑(t[Int.toNat 2]?.getD 0).toNat, tn := ↑(t[Int.toNat 3]?.getD 0).toNat, tm := ↑(t[Int.toNat 4]?.getD 0).toNat, ref := ↑(t[Int.toNat 5]?.getD 0).toNat, why := ↑(t[Int.toNat 6]?.getD 0).toNat, tag := ↑(t[Int.toNat 7]?.getD 0).toNat, body := List.drop 8 t }, 0, ?_⟩
          refine ⟨?_, ?_⟩
          · rfl
          refine ⟨?_, ?_⟩
          · (unfold unR; rw [if_neg (show ¬ t.length < 8 by omega), if_pos (show chkG (unG t) = 0 from h1.symm.trans (by assumption))]; rfl)
          refine H.firsts 0 ?_
          clear H
          intro H
          exact H
        refine rAllocS H rfl ?_
        clear H
        intro p3 w2 H
        clear w1
        refine KeepP.mk (H.drop 0 (fun H => H)) ?_
        refine H.fronts [2] ?_
        clear H
        intro H
        refine CallP.mk (Fc.imp (Go.Proofs.Ytepceieglhfnoaa.Frame.unpackAt H _ ?_) ?_)
        · omega
        rintro _ _ ⟨rfl, rfl⟩
        refine H.fronts [0, 2] ?_
        clear H
        intro H
        refine KeepP.mk (H.drop 2 (fun H => H)) ?_
        refine H.fronts [1] ?_
        clear H
        intro H
        refine CallP.mk (Fc.imp (Go.Proofs.Ytepceieglhfnoaa.Frame.unpackAt H _ ?_) ?_)
        · omega
        rintro _ _ ⟨rfl, rfl⟩
        refine H.fronts [0, 1] ?_
        clear H
        intro H
        refine KeepP.mk (H.drop 2 (fun H => H)) ?_
        refine tk (fun wx HS => rBuild rfl rfl rfl ⟨rfl, rfl⟩) ?_
        refine H.fronts [1] ?_
        clear H
        intro H
        refine CallP.mk (Fc.imp (Go.Proofs.Ytepceieglhfnoaa.Frame.unpackAt H _ ?_) ?_)
        · omega
        rintro _ _ ⟨rfl, rfl⟩
        refine H.fronts [0, 1] ?_
        clear H
        intro H
        refine KeepP.mk (H.drop 2 (fun H => H)) ?_
        refine H.fronts [1] ?_
        clear H
        intro H
        refine CallP.mk (Fc.imp (Go.Proofs.Ytepceieglhfnoaa.Frame.unpackAt H _ ?_) ?_)
        · omega
        rintro _ _ ⟨rfl, rfl⟩
        refine H.fronts [0, 1] ?_
        clear H
        intro H
        refine KeepP.mk (H.drop 2 (fun H => H)) ?_
        refine H.fronts [1] ?_
        clear H
        intro H
        refine CallP.mk (Fc.imp (Go.Proofs.Ytepceieglhfnoaa.Frame.unpackAt H _ ?_) ?_)
        · omega
        rintro _ _ ⟨rfl, rfl⟩
        refine H.fronts [0, 1] ?_
        clear H
        intro H
        refine KeepP.mk (H.drop 2 (fun H => H)) ?_
        refine tk (fun wx HS => rBuild rfl rfl rfl ⟨rfl, rfl⟩) ?_
        refine rStAS H 2 rfl rfl rfl rfl ?_
        clear H
        intro w1 H
        clear w2
        refine rLdA (H.at 2 rfl) 0 rfl rfl rfl ?_
        refine CallP.mk (Fc.imp (Go.Proofs.Ytepceieglhfnoaa.Frame.check (x := { kind := ↑(t[Int.toNat 0]?.getD 0).toNat, fn := ↑(t[Int.toNat 1]?.getD 0).toNat, fm := ↑(t[Int.toNat 2]?.getD 0).toNat, tn := ↑(t[Int.toNat 3]?.getD 0).toNat, tm := ↑(t[Int.toNat 4]?.getD 0).toNat, ref := ↑(t[Int.toNat 5]?.getD 0).toNat, why := ↑(t[Int.toNat 6]?.getD 0).toNat, tag := ↑(t[Int.toNat 7]?.getD 0).toNat, body := List.drop 8 t }) ?_ _) ?_)
        · (simp; omega)
        rintro _ w2 ⟨e1, ⟨rfl, ⟨h1, H'⟩⟩⟩
        refine H.mergeK H' ?_
        clear H H'
        intro H
        refine cI (fun c2 => ?_) (fun c2 => ?_)
        · replace c2 := vNe_t (c2)
          refine rBuild rfl rfl rfl ?_
          refine rStAS H 0 rfl rfl rfl rfl ?_
          clear H
          intro w3 H
          clear w2
          refine rdAN (H.at 0 rfl) 0 rfl rfl rfl ?_
          refine Done.mk ?_
          refine ⟨{ kind := 0, fn := 0, fm := 0, tn := 0, tm := 0, ref := 0, why := 0, tag := 0, body := [] }, e1, ?_⟩
          refine ⟨?_, ?_⟩
          · rfl
          refine ⟨?_, ?_⟩
          · (unfold unR; rw [if_neg (show ¬ t.length < 8 by omega), if_neg (show ¬ chkG (unG t) = 0 from fun h => absurd (h1.trans h) (by assumption))]; exact congrArg (Prod.mk zeroG) h1)
          refine H.firsts 0 ?_
          clear H
          intro H
          exact H
        replace c2 := vNe_f (c2)
        refine rLdA (H.at 2 rfl) 0 rfl rfl rfl ?_
        refine rStAS H 0 rfl rfl rfl rfl ?_
        clear H
        intro w3 H
        clear w2
        refine rdAN (H.at 0 rfl) 0 rfl rfl rfl ?_
        refine Done.mk ?_
        refine ⟨{ kind := ↑(t[Int.toNat 0]?.getD 0).toNat, fn := ↑(t[Int.toNat 1]?.getD 0).toNat, fm := ↑(t[Int.toNat 2]?.getD 0).toNat, tn := ↑(t[Int.toNat 3]?.getD 0).toNat, tm := ↑(t[Int.toNat 4]?.getD 0).toNat, ref := ↑(t[Int.toNat 5]?.getD 0).toNat, why := ↑(t[Int.toNat 6]?.getD 0).toNat, tag := ↑(t[Int.toNat 7]?.getD 0).toNat, body := List.drop 8 t }, 0, ?_⟩
        refine ⟨?_, ?_⟩
        · rfl
        refine ⟨?_, ?_⟩
        · (unfold unR; rw [if_neg (show ¬ t.length < 8 by omega), if_pos (show chkG (unG t) = 0 from h1.symm.trans (by assumption))]; rfl)
        refine H.firsts 0 ?_
        clear H
        intro H
        exact H
      refine rAllocS H rfl ?_
      clear H
      intro p3 w2 H
      clear w1
      refine KeepP.mk (H.drop 0 (fun H => H)) ?_
      refine H.fronts [2] ?_
      clear H
      intro H
      refine CallP.mk (Fc.imp (Go.Proofs.Ytepceieglhfnoaa.Frame.unpackAt H _ ?_) ?_)
      · omega
      rintro _ _ ⟨rfl, rfl⟩
      refine H.fronts [0, 2] ?_
      clear H
      intro H
      refine KeepP.mk (H.drop 2 (fun H => H)) ?_
      refine tk (fun wx HS => rBuild rfl rfl rfl ⟨rfl, rfl⟩) ?_
      refine H.fronts [1] ?_
      clear H
      intro H
      refine CallP.mk (Fc.imp (Go.Proofs.Ytepceieglhfnoaa.Frame.unpackAt H _ ?_) ?_)
      · omega
      rintro _ _ ⟨rfl, rfl⟩
      refine H.fronts [0, 1] ?_
      clear H
      intro H
      refine KeepP.mk (H.drop 2 (fun H => H)) ?_
      refine H.fronts [1] ?_
      clear H
      intro H
      refine CallP.mk (Fc.imp (Go.Proofs.Ytepceieglhfnoaa.Frame.unpackAt H _ ?_) ?_)
      · omega
      rintro _ _ ⟨rfl, rfl⟩
      refine H.fronts [0, 1] ?_
      clear H
      intro H
      refine KeepP.mk (H.drop 2 (fun H => H)) ?_
      refine tk (fun wx HS => rBuild rfl rfl rfl ⟨rfl, rfl⟩) ?_
      refine H.fronts [1] ?_
      clear H
      intro H
      refine CallP.mk (Fc.imp (Go.Proofs.Ytepceieglhfnoaa.Frame.unpackAt H _ ?_) ?_)
      · omega
      rintro _ _ ⟨rfl, rfl⟩
      refine H.fronts [0, 1] ?_
      clear H
      intro H
      refine KeepP.mk (H.drop 2 (fun H => H)) ?_
      refine H.fronts [1] ?_
      clear H
      intro H
      refine CallP.mk (Fc.imp (Go.Proofs.Ytepceieglhfnoaa.Frame.unpackAt H _ ?_) ?_)
      · omega
      rintro _ _ ⟨rfl, rfl⟩
      refine H.fronts [0, 1] ?_
      clear H
      intro H
      refine KeepP.mk (H.drop 2 (fun H => H)) ?_
      refine H.fronts [1] ?_
      clear H
      intro H
      refine CallP.mk (Fc.imp (Go.Proofs.Ytepceieglhfnoaa.Frame.unpackAt H _ ?_) ?_)
      · omega
      rintro _ _ ⟨rfl, rfl⟩
      refine H.fronts [0, 1] ?_
      clear H
      intro H
      refine KeepP.mk (H.drop 2 (fun H => H)) ?_
      refine tk (fun wx HS => rBuild rfl rfl rfl ⟨rfl, rfl⟩) ?_
      refine rStAS H 2 rfl rfl rfl rfl ?_
      clear H
      intro w1 H
      clear w2
      refine rLdA (H.at 2 rfl) 0 rfl rfl rfl ?_
      refine CallP.mk (Fc.imp (Go.Proofs.Ytepceieglhfnoaa.Frame.check (x := { kind := ↑(t[Int.toNat 0]?.getD 0).toNat, fn := ↑(t[Int.toNat 1]?.getD 0).toNat, fm := ↑(t[Int.toNat 2]?.getD 0).toNat, tn := ↑(t[Int.toNat 3]?.getD 0).toNat, tm := ↑(t[Int.toNat 4]?.getD 0).toNat, ref := ↑(t[Int.toNat 5]?.getD 0).toNat, why := ↑(t[Int.toNat 6]?.getD 0).toNat, tag := ↑(t[Int.toNat 7]?.getD 0).toNat, body := List.drop 8 t }) ?_ _) ?_)
      · (simp; omega)
      rintro _ w2 ⟨e1, ⟨rfl, ⟨h1, H'⟩⟩⟩
      refine H.mergeK H' ?_
      clear H H'
      intro H
      refine cI (fun c2 => ?_) (fun c2 => ?_)
      · replace c2 := vNe_t (c2)
        refine rBuild rfl rfl rfl ?_
        refine rStAS H 0 rfl rfl rfl rfl ?_
        clear H
        intro w3 H
        clear w2
        refine rdAN (H.at 0 rfl) 0 rfl rfl rfl ?_
        refine Done.mk ?_
        refine ⟨{ kind := 0, fn := 0, fm := 0, tn := 0, tm := 0, ref := 0, why := 0, tag := 0, body := [] }, e1, ?_⟩
        refine ⟨?_, ?_⟩
        · rfl
        refine ⟨?_, ?_⟩
        · (unfold unR; rw [if_neg (show ¬ t.length < 8 by omega), if_neg (show ¬ chkG (unG t) = 0 from fun h => absurd (h1.trans h) (by assumption))]; exact congrArg (Prod.mk zeroG) h1)
        refine H.firsts 0 ?_
        clear H
        intro H
        exact H
      replace c2 := vNe_f (c2)
      refine rLdA (H.at 2 rfl) 0 rfl rfl rfl ?_
      refine rStAS H 0 rfl rfl rfl rfl ?_
      clear H
      intro w3 H
      clear w2
      refine rdAN (H.at 0 rfl) 0 rfl rfl rfl ?_
      refine Done.mk ?_
      refine ⟨{ kind := ↑(t[Int.toNat 0]?.getD 0).toNat, fn := ↑(t[Int.toNat 1]?.getD 0).toNat, fm := ↑(t[Int.toNat 2]?.getD 0).toNat, tn := ↑(t[Int.toNat 3]?.getD 0).toNat, tm := ↑(t[Int.toNat 4]?.getD 0).toNat, ref := ↑(t[Int.toNat 5]?.getD 0).toNat, why := ↑(t[Int.toNat 6]?.getD 0).toNat, tag := ↑(t[Int.toNat 7]?.getD 0).toNat, body := List.drop 8 t }, 0, ?_⟩
      refine ⟨?_, ?_⟩
      · rfl
      refine ⟨?_, ?_⟩
      · (unfold unR; rw [if_neg (show ¬ t.length < 8 by omega), if_pos (show chkG (unG t) = 0 from h1.symm.trans (by assumption))]; rfl)
      refine H.firsts 0 ?_
      clear H
      intro H
      exact H
    refine rAllocS H rfl ?_
    clear H
    intro p3 w2 H
    clear w1
    refine KeepP.mk (H.drop 0 (fun H => H)) ?_
    refine H.fronts [2] ?_
    clear H
    intro H
    refine CallP.mk (Fc.imp (Go.Proofs.Ytepceieglhfnoaa.Frame.unpackAt H _ ?_) ?_)
    · omega
    rintro _ _ ⟨rfl, rfl⟩
    refine H.fronts [0, 2] ?_
    clear H
    intro H
    refine KeepP.mk (H.drop 2 (fun H => H)) ?_
    refine H.fronts [1] ?_
    clear H
    intro H
    refine CallP.mk (Fc.imp (Go.Proofs.Ytepceieglhfnoaa.Frame.unpackAt H _ ?_) ?_)
    · omega
    rintro _ _ ⟨rfl, rfl⟩
    refine H.fronts [0, 1] ?_
    clear H
    intro H
    refine KeepP.mk (H.drop 2 (fun H => H)) ?_
    refine tk (fun wx HS => rBuild rfl rfl rfl ⟨rfl, rfl⟩) ?_
    refine H.fronts [1] ?_
    clear H
    intro H
    refine CallP.mk (Fc.imp (Go.Proofs.Ytepceieglhfnoaa.Frame.unpackAt H _ ?_) ?_)
    · omega
    rintro _ _ ⟨rfl, rfl⟩
    refine H.fronts [0, 1] ?_
    clear H
    intro H
    refine KeepP.mk (H.drop 2 (fun H => H)) ?_
    refine H.fronts [1] ?_
    clear H
    intro H
    refine CallP.mk (Fc.imp (Go.Proofs.Ytepceieglhfnoaa.Frame.unpackAt H _ ?_) ?_)
    · omega
    rintro _ _ ⟨rfl, rfl⟩
    refine H.fronts [0, 1] ?_
    clear H
    intro H
    refine KeepP.mk (H.drop 2 (fun H => H)) ?_
    refine tk (fun wx HS => rBuild rfl rfl rfl ⟨rfl, rfl⟩) ?_
    refine H.fronts [1] ?_
    clear H
    intro H
    refine CallP.mk (Fc.imp (Go.Proofs.Ytepceieglhfnoaa.Frame.unpackAt H _ ?_) ?_)
    · omega
    rintro _ _ ⟨rfl, rfl⟩
    refine H.fronts [0, 1] ?_
    clear H
    intro H
    refine KeepP.mk (H.drop 2 (fun H => H)) ?_
    refine H.fronts [1] ?_
    clear H
    intro H
    refine CallP.mk (Fc.imp (Go.Proofs.Ytepceieglhfnoaa.Frame.unpackAt H _ ?_) ?_)
    · omega
    rintro _ _ ⟨rfl, rfl⟩
    refine H.fronts [0, 1] ?_
    clear H
    intro H
    refine KeepP.mk (H.drop 2 (fun H => H)) ?_
    refine H.fronts [1] ?_
    clear H
    intro H
    refine CallP.mk (Fc.imp (Go.Proofs.Ytepceieglhfnoaa.Frame.unpackAt H _ ?_) ?_)
    · omega
    rintro _ _ ⟨rfl, rfl⟩
    refine H.fronts [0, 1] ?_
    clear H
    intro H
    refine KeepP.mk (H.drop 2 (fun H => H)) ?_
    refine tk (fun wx HS => rBuild rfl rfl rfl ⟨rfl, rfl⟩) ?_
    refine rStAS H 2 rfl rfl rfl rfl ?_
    clear H
    intro w1 H
    clear w2
    refine rLdA (H.at 2 rfl) 0 rfl rfl rfl ?_
    refine CallP.mk (Fc.imp (Go.Proofs.Ytepceieglhfnoaa.Frame.check (x := { kind := ↑(t[Int.toNat 0]?.getD 0).toNat, fn := ↑(t[Int.toNat 1]?.getD 0).toNat, fm := ↑(t[Int.toNat 2]?.getD 0).toNat, tn := ↑(t[Int.toNat 3]?.getD 0).toNat, tm := ↑(t[Int.toNat 4]?.getD 0).toNat, ref := ↑(t[Int.toNat 5]?.getD 0).toNat, why := ↑(t[Int.toNat 6]?.getD 0).toNat, tag := ↑(t[Int.toNat 7]?.getD 0).toNat, body := List.drop 8 t }) ?_ _) ?_)
    · (simp; omega)
    rintro _ w2 ⟨e1, ⟨rfl, ⟨h1, H'⟩⟩⟩
    refine H.mergeK H' ?_
    clear H H'
    intro H
    refine cI (fun c2 => ?_) (fun c2 => ?_)
    · replace c2 := vNe_t (c2)
      refine rBuild rfl rfl rfl ?_
      refine rStAS H 0 rfl rfl rfl rfl ?_
      clear H
      intro w3 H
      clear w2
      refine rdAN (H.at 0 rfl) 0 rfl rfl rfl ?_
      refine Done.mk ?_
      refine ⟨{ kind := 0, fn := 0, fm := 0, tn := 0, tm := 0, ref := 0, why := 0, tag := 0, body := [] }, e1, ?_⟩
      refine ⟨?_, ?_⟩
      · rfl
      refine ⟨?_, ?_⟩
      · (unfold unR; rw [if_neg (show ¬ t.length < 8 by omega), if_neg (show ¬ chkG (unG t) = 0 from fun h => absurd (h1.trans h) (by assumption))]; exact congrArg (Prod.mk zeroG) h1)
      refine H.firsts 0 ?_
      clear H
      intro H
      exact H
    replace c2 := vNe_f (c2)
    refine rLdA (H.at 2 rfl) 0 rfl rfl rfl ?_
    refine rStAS H 0 rfl rfl rfl rfl ?_
    clear H
    intro w3 H
    clear w2
    refine rdAN (H.at 0 rfl) 0 rfl rfl rfl ?_
    refine Done.mk ?_
    refine ⟨{ kind := ↑(t[Int.toNat 0]?.getD 0).toNat, fn := ↑(t[Int.toNat 1]?.getD 0).toNat, fm := ↑(t[Int.toNat 2]?.getD 0).toNat, tn := ↑(t[Int.toNat 3]?.getD 0).toNat, tm := ↑(t[Int.toNat 4]?.getD 0).toNat, ref := ↑(t[Int.toNat 5]?.getD 0).toNat, why := ↑(t[Int.toNat 6]?.getD 0).toNat, tag := ↑(t[Int.toNat 7]?.getD 0).toNat, body := List.drop 8 t }, 0, ?_⟩
    refine ⟨?_, ?_⟩
    · rfl
    refine ⟨?_, ?_⟩
    · (unfold unR; rw [if_neg (show ¬ t.length < 8 by omega), if_pos (show chkG (unG t) = 0 from h1.symm.trans (by assumption))]; rfl)
    refine H.firsts 0 ?_
    clear H
    intro H
    exact H
  refine rAllocS H rfl ?_
  clear H
  intro p3 w2 H
  clear w1
  refine KeepP.mk (H.drop 0 (fun H => H)) ?_
  refine H.fronts [2] ?_
  clear H
  intro H
  refine CallP.mk (Fc.imp (Go.Proofs.Ytepceieglhfnoaa.Frame.unpackAt H _ ?_) ?_)
  · omega
  rintro _ _ ⟨rfl, rfl⟩
  refine H.fronts [0, 2] ?_
  clear H
  intro H
  refine KeepP.mk (H.drop 2 (fun H => H)) ?_
  refine H.fronts [1] ?_
  clear H
  intro H
  refine CallP.mk (Fc.imp (Go.Proofs.Ytepceieglhfnoaa.Frame.unpackAt H _ ?_) ?_)
  · omega
  rintro _ _ ⟨rfl, rfl⟩
  refine H.fronts [0, 1] ?_
  clear H
  intro H
  refine KeepP.mk (H.drop 2 (fun H => H)) ?_
  refine H.fronts [1] ?_
  clear H
  intro H
  refine CallP.mk (Fc.imp (Go.Proofs.Ytepceieglhfnoaa.Frame.unpackAt H _ ?_) ?_)
  · omega
  rintro _ _ ⟨rfl, rfl⟩
  refine H.fronts [0, 1] ?_
  clear H
  intro H
  refine KeepP.mk (H.drop 2 (fun H => H)) ?_
  refine tk (fun wx HS => rBuild rfl rfl rfl ⟨rfl, rfl⟩) ?_
  refine H.fronts [1] ?_
  clear H
  intro H
  refine CallP.mk (Fc.imp (Go.Proofs.Ytepceieglhfnoaa.Frame.unpackAt H _ ?_) ?_)
  · omega
  rintro _ _ ⟨rfl, rfl⟩
  refine H.fronts [0, 1] ?_
  clear H
  intro H
  refine KeepP.mk (H.drop 2 (fun H => H)) ?_
  refine H.fronts [1] ?_
  clear H
  intro H
  refine CallP.mk (Fc.imp (Go.Proofs.Ytepceieglhfnoaa.Frame.unpackAt H _ ?_) ?_)
  · omega
  rintro _ _ ⟨rfl, rfl⟩
  refine H.fronts [0, 1] ?_
  clear H
  intro H
  refine KeepP.mk (H.drop 2 (fun H => H)) ?_
  refine tk (fun wx HS => rBuild rfl rfl rfl ⟨rfl, rfl⟩) ?_
  refine H.fronts [1] ?_
  clear H
  intro H
  refine CallP.mk (Fc.imp (Go.Proofs.Ytepceieglhfnoaa.Frame.unpackAt H _ ?_) ?_)
  · omega
  rintro _ _ ⟨rfl, rfl⟩
  refine H.fronts [0, 1] ?_
  clear H
  intro H
  refine KeepP.mk (H.drop 2 (fun H => H)) ?_
  refine H.fronts [1] ?_
  clear H
  intro H
  refine CallP.mk (Fc.imp (Go.Proofs.Ytepceieglhfnoaa.Frame.unpackAt H _ ?_) ?_)
  · omega
  rintro _ _ ⟨rfl, rfl⟩
  refine H.fronts [0, 1] ?_
  clear H
  intro H
  refine KeepP.mk (H.drop 2 (fun H => H)) ?_
  refine H.fronts [1] ?_
  clear H
  intro H
  refine CallP.mk (Fc.imp (Go.Proofs.Ytepceieglhfnoaa.Frame.unpackAt H _ ?_) ?_)
  · omega
  rintro _ _ ⟨rfl, rfl⟩
  refine H.fronts [0, 1] ?_
  clear H
  intro H
  refine KeepP.mk (H.drop 2 (fun H => H)) ?_
  refine tk (fun wx HS => rBuild rfl rfl rfl ⟨rfl, rfl⟩) ?_
  refine rStAS H 2 rfl rfl rfl rfl ?_
  clear H
  intro w1 H
  clear w2
  refine rLdA (H.at 2 rfl) 0 rfl rfl rfl ?_
  refine CallP.mk (Fc.imp (Go.Proofs.Ytepceieglhfnoaa.Frame.check (x := { kind := ↑(t[Int.toNat 0]?.getD 0).toNat, fn := ↑(t[Int.toNat 1]?.getD 0).toNat, fm := ↑(t[Int.toNat 2]?.getD 0).toNat, tn := ↑(t[Int.toNat 3]?.getD 0).toNat, tm := ↑(t[Int.toNat 4]?.getD 0).toNat, ref := ↑(t[Int.toNat 5]?.getD 0).toNat, why := ↑(t[Int.toNat 6]?.getD 0).toNat, tag := ↑(t[Int.toNat 7]?.getD 0).toNat, body := List.drop 8 t }) ?_ _) ?_)
  · (simp; omega)
  rintro _ w2 ⟨e1, ⟨rfl, ⟨h1, H'⟩⟩⟩
  refine H.mergeK H' ?_
  clear H H'
  intro H
  refine cI (fun c2 => ?_) (fun c2 => ?_)
  · replace c2 := vNe_t (c2)
    refine rBuild rfl rfl rfl ?_
    refine rStAS H 0 rfl rfl rfl rfl ?_
    clear H
    intro w3 H
    clear w2
    refine rdAN (H.at 0 rfl) 0 rfl rfl rfl ?_
    refine Done.mk ?_
    refine ⟨{ kind := 0, fn := 0, fm := 0, tn := 0, tm := 0, ref := 0, why := 0, tag := 0, body := [] }, e1, ?_⟩
    refine ⟨?_, ?_⟩
    · rfl
    refine ⟨?_, ?_⟩
    · (unfold unR; rw [if_neg (show ¬ t.length < 8 by omega), if_neg (show ¬ chkG (unG t) = 0 from fun h => absurd (h1.trans h) (by assumption))]; exact congrArg (Prod.mk zeroG) h1)
    refine H.firsts 0 ?_
    clear H
    intro H
    exact H
  replace c2 := vNe_f (c2)
  refine rLdA (H.at 2 rfl) 0 rfl rfl rfl ?_
  refine rStAS H 0 rfl rfl rfl rfl ?_
  clear H
  intro w3 H
  clear w2
  refine rdAN (H.at 0 rfl) 0 rfl rfl rfl ?_
  refine Done.mk ?_
  refine ⟨{ kind := ↑(t[Int.toNat 0]?.getD 0).toNat, fn := ↑(t[Int.toNat 1]?.getD 0).toNat, fm := ↑(t[Int.toNat 2]?.getD 0).toNat, tn := ↑(t[Int.toNat 3]?.getD 0).toNat, tm := ↑(t[Int.toNat 4]?.getD 0).toNat, ref := ↑(t[Int.toNat 5]?.getD 0).toNat, why := ↑(t[Int.toNat 6]?.getD 0).toNat, tag := ↑(t[Int.toNat 7]?.getD 0).toNat, body := List.drop 8 t }, 0, ?_⟩
  refine ⟨?_, ?_⟩
  · rfl
  refine ⟨?_, ?_⟩
  · (unfold unR; rw [if_neg (show ¬ t.length < 8 by omega), if_pos (show chkG (unG t) = 0 from h1.symm.trans (by assumption))]; rfl)
  refine H.firsts 0 ?_
  clear H
  intro H
  exact H
/-! ## What they are to each other -/
theorem byteAt_lt (t : List UInt8) (i : Nat) : 0 ≤ byteAt t i ∧ byteAt t i ≤ 255 := by
  unfold byteAt
  have := (t[i]?.getD 0).toNat_lt
  omega
theorem u8_byteAt (t : List UInt8) {i : Nat} {c : UInt8} (h : t[i]? = some c) : u8 (byteAt t i) = c := by
  unfold u8 byteAt
  rw [h]
  simp
theorem pack_un {t : List UInt8} (h : 8 ≤ t.length) : packG (unG t) = t := by
  match t, h with
  | a :: b :: c :: d :: e :: f :: g :: i :: r, _ =>
    simp [packG, numsG, unG, byteAt, u8]
theorem un_pack {x : Sg} (h : okG x) : unG (packG x) = x := by
  have hn := nums_ok h
  have key : ∀ k ∈ numsG x, ((u8 k).toNat : Int) = k := fun k hk => u8_of (hn k hk)
  simp only [numsG, List.mem_cons, List.not_mem_nil, or_false, forall_eq_or_imp, forall_eq] at key
  obtain ⟨k1, k2, k3, k4, k5, k6, k7, k8⟩ := key
  obtain ⟨a, b, c, d, e, f, g, i, r⟩ := x
  simp only [packG, numsG, unG, byteAt, List.map_cons, List.map_nil, List.cons_append, List.nil_append]
  simp [k1, k2, k3, k4, k5, k6, k7, k8]
theorem pack_len (x : Sg) : (packG x).length = 8 + x.body.length := by simp [packG, numsG]; omega
theorem chk_un (t : List UInt8) (x : Sg) (h : (x, 0) = unR t) : 8 ≤ t.length ∧ x = unG t ∧ chkG x = 0 := by
  unfold unR at h
  split at h
  · cases h
  · split at h
    · rename_i h1 h2
      injection h with h3 h4
      subst h3
      exact ⟨by omega, rfl, h2⟩
    · rename_i h1 h2
      injection h with h3 h4
      exact absurd h4.symm h2
theorem packR_ok {x : Sg} (h : chkG x = 0) : packR x = (packG x, 0) := by unfold packR; rw [if_pos h]
theorem unR_pack {x : Sg} (h : chkG x = 0) : unR (packG x) = (x, 0) := by
  unfold unR
  rw [if_neg (by rw [pack_len]; omega), un_pack (chk_ok h).1, if_pos h]
theorem packR_bad {x : Sg} (h : chkG x ≠ 0) : packR x = ([], chkG x) := by unfold packR; rw [if_neg h]
theorem unR_nil : unR [] = (zeroG, 3) := by unfold unR; rw [if_pos (by simp)]
theorem chk_zero : chkG zeroG = 1 := by unfold chkG; rw [if_neg (by simp [okG, zeroG])]
theorem packR_zero : packR zeroG = ([], 1) := by unfold packR; rw [chk_zero, if_neg (by simp)]
/-- The two ways of reading. -/
theorem unR_ways (t : List UInt8) : (∃ x, unR t = (x, 0) ∧ packR x = (t, 0) ∧ x.body.length ≤ 32) ∨ ∃ e, e ≠ 0 ∧ unR t = (zeroG, e) := by
  by_cases h : t.length < 8
  · exact .inr ⟨3, by simp, by unfold unR; rw [if_pos h]⟩
  · by_cases h2 : chkG (unG t) = 0
    · refine .inl ⟨unG t, by unfold unR; rw [if_neg h, if_pos h2], ?_, (chk_ok h2).2⟩
      rw [packR_ok h2, pack_un (by omega)]
    · exact .inr ⟨_, h2, by unfold unR; rw [if_neg h, if_neg h2]⟩
end Go.Proofs.Ytepceieglhfnoaa.Frame
