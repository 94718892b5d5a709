/- The law MemBack. -/
import Derived.Test.YtffkcgogkhdcdaaMemL2
import Derived.Test.YtffkcgogkhdcdaaRefW
set_option maxRecDepth 100000
set_option maxHeartbeats 4000000
set_option linter.unusedVariables false
set_option linter.unusedSimpArgs false
namespace Go.Proofs.Ytffkcgogkhdcdaa.Mem
open Go Go.Proofs.Ytffkcgogkhdcdaa.Eng Go.RowKit
open RefW (insWidth FoundW NoneW rowsW subW contains)
theorem all {g : Glob} {w : World} {l : List As} {p : Nat} {v mo : Value} {ps : List Page} (H : Sat g w (Pt p [v, mo] 110 :: Sl 116 256 enP v ps :: l)) (hp : ps.length ≤ 8) :
    Fc Try.prog 28 #[.pointer (some ⟨p, 0, none⟩)] w (fun r w' => r = .string (bs (flat ps)) ∧ Sat g w' (Pt p [v, mo] 110 :: Sl 116 256 enP v ps :: l)) := by
  refine Fc.of Try.func28 rfl (by kernel_rfl) ?_
  have hf : ((flat ps).drop (0 : Int).toNat).take (((ps.length : Int) * 256).toNat) = flat ps := by
    rw [show (0 : Int).toNat = 0 from rfl, List.drop_zero, List.take_of_length_le]
    rw [flat_length]; omega
  refine rFieldAt rfl ?_
  refine rLd (H.at 0 rfl) 0 rfl rfl rfl ?_
  refine rLenS H 1 rfl rfl ?_
  refine eqI64 (by omega) ?_
  refine CallP.mk (Fc.imp (Go.Proofs.Ytffkcgogkhdcdaa.Mem.bytes H _ _ ?_ ?_ ?_) ?_)
  · assumption
  · omega
  · omega
  clear H
  rintro _ w1 ⟨e1, ⟨zs1, ⟨rfl, ⟨(⟨h1, ⟨h2, h3⟩⟩ | ⟨h4, ⟨⟨h5, ⟨h6, h7⟩⟩, h8⟩⟩), H⟩⟩⟩⟩
  · refine Done.mk ?_
    refine ⟨?_, ?_⟩
    · omega
    exact H
  refine Done.mk ?_
  refine ⟨?_, ?_⟩
  · exact congrArg (fun x => Value.string (bs x)) (h8.trans hf)
  exact H
theorem ow_mid {xs zs : List UInt8} {a : Nat} (h : a + zs.length ≤ xs.length) : ((ow xs a zs).drop a).take zs.length = zs := by
  unfold ow
  rw [List.append_assoc, List.drop_append_of_le_length (by rw [List.length_take]; omega), List.drop_of_length_le (by rw [List.length_take]; omega), List.nil_append, List.take_append_of_le_length (Nat.le_refl _), List.take_length]
def hasW (n q : Nat) : Bool := match rowsW[q]? with | some y => Lib.contains y.2 (subW n) | none => false
def iwf (n : Nat) : Int := if hasW n 0 = true then 1 else if hasW n 1 = true then 2 else if hasW n 2 = true then 4 else if hasW n 3 = true then 8 else 0
theorem has_no {n i q : Nat} (h : NoneW n i) (hq : q < i) : ¬ hasW n q = true := by
  unfold hasW
  split
  · rename_i y hy
    rw [h q y hq hy]; decide
  · decide
theorem has_yes {n i : Nat} {x : Int × List UInt8} (hx : rowsW[i]? = some x) (hc : Lib.contains x.2 (subW n) = true) : hasW n i = true := by
  unfold hasW
  rw [hx]; exact hc
theorem foundW_eq {n : Nat} {r : Int} (h : FoundW n r) : r = iwf n := by
  unfold iwf
  rcases h with ⟨i, x, hx, rfl, hc, hn⟩ | ⟨rfl, hn⟩
  · have hy := has_yes hx hc
    match i, hx, hn, hy with
    | 0, hx, hn, hy => rw [if_pos hy]; exact (congrArg (·.1) (Option.some.inj hx)).symm
    | 1, hx, hn, hy => rw [if_neg (has_no hn (by omega)), if_pos hy]; exact (congrArg (·.1) (Option.some.inj hx)).symm
    | 2, hx, hn, hy => rw [if_neg (has_no hn (by omega)), if_neg (has_no hn (by omega)), if_pos hy]; exact (congrArg (·.1) (Option.some.inj hx)).symm
    | 3, hx, hn, hy => rw [if_neg (has_no hn (by omega)), if_neg (has_no hn (by omega)), if_neg (has_no hn (by omega)), if_pos hy]; exact (congrArg (·.1) (Option.some.inj hx)).symm
    | i + 4, hx, hn, hy => simp [rowsW] at hx
  · rw [if_neg (has_no hn (by omega)), if_neg (has_no hn (by omega)), if_neg (has_no hn (by omega)), if_neg (has_no hn (by omega))]
def rows7 : List (Nat × Nat × Nat) := [(54, 40, 40), (55, 41, 41), (58, 44, 45), (59, 46, 47), (60, 48, 49), (61, 50, 51), (62, 52, 53)]
def en3 (x : Nat × Nat × Nat) : List Value := [.int .u8 x.1, .int .u8 x.2.1, .int .u8 x.2.2]
structure Good (x : Nat × Nat × Nat) : Prop where
  lo : 54 ≤ x.1 ∧ x.1 ≤ 62
  l1 : x.2.1 < 54
  l2 : x.2.2 < 54
  w1 : Ins.wd x.2.1 = Ins.wd x.1
  w2 : Ins.wd x.2.2 = Ins.wd x.1
  wi : iwf x.1 = Ins.wd x.1
  w0 : Ins.wd x.1 = 1 ∨ Ins.wd x.1 = 2 ∨ Ins.wd x.1 = 4 ∨ Ins.wd x.1 = 8
  s1 : sgn x.2.1
  s2 : (x.2.2 = 40 ∧ sgn x.2.2) ∨ (x.2.2 ≠ 40 ∧ sgn x.2.2 ∧ Ins.wd x.1 = 8) ∨ (x.2.2 ≠ 40 ∧ ¬ sgn x.2.2)
theorem iwf7 : iwf 54 = 4 ∧ iwf 55 = 8 ∧ iwf 58 = 1 ∧ iwf 59 = 2 ∧ iwf 60 = 1 ∧ iwf 61 = 2 ∧ iwf 62 = 4 := by decide +kernel
theorem good7 : ∀ x ∈ rows7, Good x := by
  obtain ⟨i1, i2, i3, i4, i5, i6, i7⟩ := iwf7
  intro x hx
  simp only [rows7, List.mem_cons, List.not_mem_nil, or_false] at hx
  rcases hx with rfl | rfl | rfl | rfl | rfl | rfl | rfl <;> (constructor <;> simp [Ins.wd, sgn, *])
theorem wrap_congr {x y : Int} (h : x % 18446744073709551616 = y % 18446744073709551616) : vWrap .i64 x = vWrap .i64 y := by
  unfold vWrap
  simp only [IntKind.wrap, IntKind.bits, IntKind.signed]
  simp [h]
theorem valsN {v : Int} (n : Nat) (M B : Int) (hn : n ≤ 64) (hM : (2 : Int) ^ n = M) (hB : M * B = 18446744073709551616) (hx : (M = 72057594037927936 ∧ B = 256) ∨ (M = 281474976710656 ∧ B = 65536) ∨ (M = 4294967296 ∧ B = 4294967296) ∨ (M = 1 ∧ B = 18446744073709551616)) :
    vShr .i64 (vWrap .i64 (vShl .u64 (v % B) (n : Int))) (n : Int) = vShr .i64 (vShl .i64 v (n : Int)) (n : Int) ∧ vWrap .i64 (vShr .u64 (vShl .u64 (vWrap .u64 v) (n : Int)) (n : Int)) = vWrap .i64 (v % B) := by
  constructor
  · congr 1
    rw [vShl_eq .u64 _ n hn, vShl_eq .i64 _ n hn, wrapMU64, hM]
    refine wrap_congr ?_
    rcases hx with ⟨rfl, rfl⟩ | ⟨rfl, rfl⟩ | ⟨rfl, rfl⟩ | ⟨rfl, rfl⟩ <;> omega
  · rw [vShl_eq .u64 _ n hn, vShr_eq .u64 _ n hn, wrapMU64, wrapMU64, hM]
    congr 1
    rcases hx with ⟨rfl, rfl⟩ | ⟨rfl, rfl⟩ | ⟨rfl, rfl⟩ | ⟨rfl, rfl⟩ <;> omega
theorem vals {v : Int} {W : Int} (hW : W = 1 ∨ W = 2 ∨ W = 4 ∨ W = 8) :
    lowV (v % 256 ^ W.toNat) W = vShr .i64 (vShl .i64 v (64 - 8 * W)) (64 - 8 * W) ∧ vWrap .i64 (vShr .u64 (vShl .u64 (vWrap .u64 v) (64 - 8 * W)) (64 - 8 * W)) = vWrap .i64 (v % 256 ^ W.toNat) := by
  rcases hW with rfl | rfl | rfl | rfl
  · exact valsN 56 72057594037927936 256 (by decide) rfl rfl (by decide)
  · exact valsN 48 281474976710656 65536 (by decide) rfl rfl (by decide)
  · exact valsN 32 4294967296 4294967296 (by decide) rfl rfl (by decide)
  · exact valsN 0 1 18446744073709551616 (by decide) rfl rfl (by decide)
theorem back_n {qs ps' : List Page} {A W u : Int} (hf : flat ps' = ow (flat qs) A.toNat (leB W.toNat u)) (hA : 0 ≤ A) (hW : 0 < W) (hb : A + W ≤ 256 * qs.length) : ((leV (((flat ps').drop A.toNat).take W.toNat) : Nat) : Int) = u % 256 ^ W.toNat := by
  have h := ow_mid (xs := flat qs) (zs := leB W.toNat u) (a := A.toNat) (by rw [leB_len, flat_length]; omega)
  rw [leB_len] at h
  rw [hf, h, leV_leB]
theorem backV {x : Nat × Nat × Nat} {qs ps' : List Page} {A u n r : Int} {xi : Nat} (hwi : Ins.wd xi = Ins.wd x.1) (hw : Ins.wd x.1 = 1 ∨ Ins.wd x.1 = 2 ∨ Ins.wd x.1 = 4 ∨ Ins.wd x.1 = 8) (hf : flat ps' = ow (flat qs) A.toNat (leB (Ins.wd x.1).toNat u)) (hA : 0 ≤ A) (hb : A + Ins.wd x.1 ≤ 256 * qs.length) (hn : n = ldV xi (leV (((flat ps').drop A.toNat).take (Ins.wd xi).toNat))) (hr : r = Ins.wd x.1) :
    (sgn xi → n = vShr .i64 (vShl .i64 u (64 - 8 * r)) (64 - 8 * r)) ∧ (¬ sgn xi ∨ Ins.wd x.1 = 8 → n = vWrap .i64 (vShr .u64 (vShl .u64 (u % 18446744073709551616) (64 - 8 * r)) (64 - 8 * r))) := by
  rw [hwi, back_n hf hA (by omega) hb] at hn
  obtain ⟨h1, h2⟩ := vals (v := u) hw
  rw [wrapMU64] at h2
  subst hr
  unfold ldV at hn
  refine ⟨fun hs => ?_, fun hs => ?_⟩
  · rw [if_pos hs, hwi] at hn
    rw [hn, h1]
  · by_cases h : sgn xi
    · have h8 : Ins.wd x.1 = 8 := hs.resolve_left (fun k => k h)
      rw [if_pos h, hwi, h1] at hn
      rw [hn, h2, h8]
      have e1 := vShl_eq .i64 u 0 (by decide)
      have e2 := vShr_eq .i64 (vWrap .i64 (u * 2 ^ 0)) 0 (by decide)
      rw [show (64 : Int) - 8 * 8 = ((0 : Nat) : Int) from rfl, e1, e2]
      rw [Int.pow_zero, Int.mul_one, Int.ediv_one]
      exact wrap_congr (by rw [show (256 : Int) ^ (8 : Int).toNat = 18446744073709551616 from rfl]; omega)
    · rw [if_neg h] at hn
      rw [hn, h2]
theorem plainG {y : Nat} {W : Int} (h : (y = 40 ∧ sgn y) ∨ (y ≠ 40 ∧ sgn y ∧ W = 8) ∨ (y ≠ 40 ∧ ¬ sgn y)) (h4 : (y : Int) ≠ 40) : ¬ sgn y ∨ W = 8 := by
  rcases h with ⟨k, _⟩ | ⟨_, _, k⟩ | ⟨_, k⟩
  · omega
  · exact .inr k
  · exact .inl k
theorem memBack (w : World) (ys : List UInt8) (base off u : Int) (m : Int) (hM : FAt (froz w) 0 0 [.int .i64 m]) (hy : ys.length ≤ 9223372036854775807) (hb : -9223372036854775808 ≤ base ∧ base ≤ 9223372036854775807) (ho : -9223372036854775808 ≤ off ∧ off ≤ 9223372036854775807) (hu : -9223372036854775808 ≤ u ∧ u ≤ 9223372036854775807) :
    Fc Try.prog 7 #[.string (bs ys), .int .i64 base, .int .i64 off, .int .i64 u] w (fun v w' => v = .bool true ∧ Below w.heap.size w w') := by
  refine Fc.of Try.func7 rfl (by kernel_rfl) ?_
  have H := Sat.start w
  by_cases hoff : 0 ≤ off ∧ off ≤ 4294967295
  · refine CallP.mk (Fc.imp (Go.Proofs.Ytffkcgogkhdcdaa.Mem.of _ _ _ ?_) ?_)
    · assumption
    rintro _ w1 (⟨h1, ⟨p1, ⟨v1, ⟨ps1, ⟨rfl, ⟨h2, ⟨h3, H'⟩⟩⟩⟩⟩⟩⟩ | ⟨h4, ⟨rfl, H'⟩⟩)
    rotate_left
    · refine H.mergeK H' ?_
      clear H H'
      intro H
      refine br_t (vNe_T (by omega)) ?_
      refine cT rfl ?_
      refine br_t (vEq_T (by omega)) ?_
      refine rPtrNil rfl ?_
      refine Done.mk ?_
      exact ⟨rfl, H.finish⟩
    refine H.mergeK H' ?_
    clear H H'
    intro H
    refine br_f (vNe_F (by omega)) ?_
    refine rPtrNil rfl ?_
    refine cF rfl ?_
    refine rBuildArr rfl rfl rfl ?_
    refine rBuildArr rfl rfl rfl ?_
    refine rBuildArr rfl rfl rfl ?_
    refine rBuildArr rfl rfl rfl ?_
    refine rBuildArr rfl rfl rfl ?_
    refine rBuildArr rfl rfl rfl ?_
    refine rBuildArr rfl rfl rfl ?_
    refine rBuildSliceS H rfl rfl rfl rfl ?_
    clear H
    intro p2 w2 H
    clear w1
    refine rLenSl rfl ?_
    have hr7 : rows7.length = 7 := rfl
    refine H.ptSl (n := 7) (en := en3) (s := 3) 0 rfl rows7 rfl rfl (fun _ => rfl) rfl ?_
    clear H
    intro H
    refine LoopP.rule (α := Nat × List Page) (0, ps1) (fun x_ => [(50, .int .i64 x_.1)]) (fun x_ w_ => (x_.1 ≤ 7) ∧ (x_.2.length = ps1.length) ∧ Sat (froz w) w_ ([Pt p1 [v1, .int .i64 8] 110, Sl 116 256 enP v1 x_.2, Sl 70 3 en3 (.slice (some ⟨p2, 0, none⟩) 7 7) rows7])) (fun x_ => 7 - x_.1) ?_ ?_ ?_
    · repeat first | exact mt_nil | refine mt_cons rfl ?_ | refine mt_i rfl (by first | omega | (simp only; omega) | (simp; omega) | (simp; done)) ?_
    · try simp only
      refine ⟨?_, ?_⟩
      · omega
      refine ⟨?_, ?_⟩
      · (constructor <;> omega)
      refine H.fronts [0, 2, 2] ?_
      clear H
      intro H
      exact H
    clear H
    rintro ⟨i, qs⟩ f_ w_ ⟨hi, hq, H⟩
    try simp only at hi hq H ⊢
    rcases Nat.lt_or_ge i 7 with hlt | hge
    · obtain ⟨x, hx⟩ : ∃ x, rows7[i]? = some x := ⟨_, List.getElem?_eq_getElem (by rw [hr7]; exact hlt)⟩
      have hA0 : 0 ≤ base % 4294967296 + off ∨ off < 0 := by omega
      obtain ⟨g1, g2, g3, g4, g5, g6, g7, g8, g9⟩ := good7 x (List.mem_of_getElem? hx)
      refine cT (vLt_T (by omega)) ?_
      refine bk ?_
      obtain ⟨b1, o1, E1⟩ := H.elt 2 rfl (i) (by omega)
      refine rIxE E1 rfl rfl rfl ?_
      refine rLdA (H.el 2 rfl E1 hx) 0 rfl rfl rfl ?_
      refine rAllocS H rfl ?_
      clear H
      intro p3 w1 H
      clear w_
      refine rStAS H 0 rfl rfl rfl rfl ?_
      clear H
      intro w3 H
      clear w1
      refine H.fronts [2, 2] ?_
      clear H
      intro H
      refine CallP.mk (Fc.imp (Go.Proofs.Ytffkcgogkhdcdaa.Mem.all H ?_) ?_)
      · omega
      clear H
      rintro _ w1 ⟨rfl, H⟩
      refine rIxArr 1 0 (by omega) (by omega) rfl rfl ?_
      refine rLd (H.at 2 rfl) 0 rfl rfl rfl ?_
      refine CallP.mk (Fc.imp (Go.Proofs.Ytffkcgogkhdcdaa.Mem.store H _ _ _ _ ?_ ?_ ?_ ?_ ?_) ?_)
      · omega
      · omega
      · omega
      · assumption
      · assumption
      clear H
      rintro _ w4 ⟨e1, ⟨ps'1, ⟨rfl, ⟨(⟨h4, ⟨h5, h6⟩⟩ | ⟨h7, ⟨h8, h9⟩⟩), ⟨h10, H⟩⟩⟩⟩⟩
      · refine cT (vNe_T (by omega)) ?_
        refine rIxArr 1 1 (by omega) (by omega) rfl rfl ?_
        refine rLd (H.at 2 rfl) 1 rfl rfl rfl ?_
        refine CallP.mk (Fc.imp (Go.Proofs.Ytffkcgogkhdcdaa.Mem.load H _ _ _ ?_ ?_ ?_ ?_) ?_)
        · omega
        · omega
        · omega
        · assumption
        clear H
        rintro _ w5 ⟨n1, ⟨e2, ⟨rfl, ⟨(⟨h7, h8⟩ | ⟨h9, ⟨h11, h12⟩⟩), H⟩⟩⟩⟩
        · refine br_f (vNe_F (by omega)) ?_
          refine CallP.mk (Fc.imp (Go.Proofs.Ytffkcgogkhdcdaa.Mem.all H ?_) ?_)
          · omega
          clear H
          rintro _ w6 ⟨rfl, H⟩
          refine rStrNe ?_
          refine cI (fun c1 => ?_) (fun c1 => ?_)
          · replace c1 := dec_f (not_t (c1))
            refine Done.mk ?_
            exact absurd (congrArg flat (by assumption)) (by assumption)
          replace c1 := dec_t (not_f (c1))
          refine eqI64 (by omega) ?_
          refine Nxt.mk ((i + 1, ps'1)) (mt_i rfl (by first | omega | (simp only; omega) | (simp; omega)) (mt_nil)) ?_ ?_
          · refine ⟨?_, ?_⟩
            · assumption
            refine ⟨?_, ?_⟩
            · (simp only [List.length_append, List.length_set, List.length_cons, List.length_nil]; omega)
            refine H.fronts [3, 2, 2] ?_
            clear H
            intro H
            refine H.firsts 3 ?_
            clear H
            intro H
            exact H
          omega
        refine br_t (vNe_T (by omega)) ?_
        refine cT rfl ?_
        refine Done.mk ?_
        refine ⟨?_, ?_⟩
        · exact congrArg Value.bool ((by omega))
        omega
      refine cF (vNe_F (by assumption)) ?_
      refine rIxArr 1 1 (by omega) (by omega) rfl rfl ?_
      refine rLd (H.at 2 rfl) 1 rfl rfl rfl ?_
      refine CallP.mk (Fc.imp (Go.Proofs.Ytffkcgogkhdcdaa.Mem.load H _ _ _ ?_ ?_ ?_ ?_) ?_)
      · omega
      · omega
      · omega
      · assumption
      clear H
      rintro _ w5 ⟨n1, ⟨e2, ⟨rfl, ⟨(⟨h4, h5⟩ | ⟨h6, ⟨h11, h12⟩⟩), H⟩⟩⟩⟩
      · refine rIxArr 1 2 (by omega) (by omega) rfl rfl ?_
        refine rLd (H.at 2 rfl) 2 rfl rfl rfl ?_
        refine CallP.mk (Fc.imp (Go.Proofs.Ytffkcgogkhdcdaa.Mem.loadOff H _ _ _ ?_ ?_ ?_) ?_)
        · omega
        · omega
        · omega
        clear H
        rintro _ w6 ⟨rfl, H⟩
        refine rIxArr 1 0 (by omega) (by omega) rfl rfl ?_
        refine rLd (H.at 2 rfl) 0 rfl rfl rfl ?_
        refine CallP.mk (Fc.imp (Go.Proofs.Ytffkcgogkhdcdaa.RefW.insWidth H _ hM (x.fst) ?_) ?_)
        · omega
        clear H
        rintro _ w7 ⟨r1, ⟨rfl, ⟨h6, H⟩⟩⟩
        have hr9 := (foundW_eq ‹FoundW _ _›).trans g6
        refine eqI64 (by omega) ?_
        refine eqI64 (by omega) ?_
        refine drawzS H [] [(0, .pure), (1, .pure), (2, .pure), (3, .pure), (4, .pure), (5, .pure), (6, .pure), (7, .pure), (8, .pure), (9, .pure), (10, .pure), (11, .pure), (12, .pure), (13, .pure)] mixed (by kernel_rfl) (by kernel_rfl) ?_
        clear H
        intro w8 H
        clear w7
        refine ShiftP.mk (by omega) ?_
        refine eqShlNI64 ((u).toNat) ((64 - (8 * r1).toNat)) (by omega) (by omega) (by omega) (by omega) ?_
        refine ShiftP.mk (by omega) ?_
        refine eqShrN ((u.toNat * 2 ^ (64 - (8 * r1).toNat))) ((64 - (8 * r1).toNat)) (by omega) (by omega) (by show _ ≤ 64; omega) ?_
        refine tk (fun wx HS => rConvU64 (by omega) rfl rfl ⟨rfl, rfl⟩) ?_
        refine ShiftP.mk (by omega) ?_
        refine eqShlNU64 ((u).toNat) ((64 - (8 * r1).toNat)) (by omega) (by omega) (by omega) (by omega) ?_
        refine ShiftP.mk (by omega) ?_
        refine eqShrN ((u.toNat * 2 ^ (64 - (8 * r1).toNat))) ((64 - (8 * r1).toNat)) (by omega) (by omega) (by show _ ≤ 64; omega) ?_
        refine tk (fun wx HS => rConvI64 (by omega) rfl rfl ⟨rfl, rfl⟩) ?_
        refine rIxArr 1 2 (by omega) (by omega) rfl rfl ?_
        refine rLd (H.at 2 rfl) 2 rfl rfl rfl ?_
        refine cT (vEq_T (by omega)) ?_
        refine br_t (vNe_T (by omega)) ?_
        refine cT rfl ?_
        refine Done.mk ?_
        refine ⟨?_, ?_⟩
        · exact congrArg Value.bool ((by omega))
        omega
      refine rIxArr 1 2 (by omega) (by omega) rfl rfl ?_
      refine rLd (H.at 2 rfl) 2 rfl rfl rfl ?_
      refine CallP.mk (Fc.imp (Go.Proofs.Ytffkcgogkhdcdaa.Mem.load H _ _ _ ?_ ?_ ?_ ?_) ?_)
      · omega
      · omega
      · omega
      · assumption
      clear H
      rintro _ w6 ⟨n2, ⟨e3, ⟨rfl, ⟨(⟨h4, h5⟩ | ⟨h13, ⟨h14, h15⟩⟩), H⟩⟩⟩⟩
      · refine rIxArr 1 0 (by omega) (by omega) rfl rfl ?_
        refine rLd (H.at 2 rfl) 0 rfl rfl rfl ?_
        refine CallP.mk (Fc.imp (Go.Proofs.Ytffkcgogkhdcdaa.RefW.insWidth H _ hM (x.fst) ?_) ?_)
        · omega
        clear H
        rintro _ w7 ⟨r1, ⟨rfl, ⟨h13, H⟩⟩⟩
        have hr9 := (foundW_eq ‹FoundW _ _›).trans g6
        refine eqI64 (by omega) ?_
        refine eqI64 (by omega) ?_
        refine drawzS H [] [(0, .pure), (1, .pure), (2, .pure), (3, .pure), (4, .pure), (5, .pure), (6, .pure), (7, .pure), (8, .pure), (9, .pure), (10, .pure), (11, .pure), (12, .pure), (13, .pure)] mixed (by kernel_rfl) (by kernel_rfl) ?_
        clear H
        intro w8 H
        clear w7
        refine ShiftP.mk (by omega) ?_
        refine eqShlNI64 ((u).toNat) ((64 - (8 * r1).toNat)) (by omega) (by omega) (by omega) (by omega) ?_
        refine ShiftP.mk (by omega) ?_
        refine eqShrN ((u.toNat * 2 ^ (64 - (8 * r1).toNat))) ((64 - (8 * r1).toNat)) (by omega) (by omega) (by show _ ≤ 64; omega) ?_
        refine tk (fun wx HS => rConvU64 (by omega) rfl rfl ⟨rfl, rfl⟩) ?_
        refine ShiftP.mk (by omega) ?_
        refine eqShlNU64 ((u).toNat) ((64 - (8 * r1).toNat)) (by omega) (by omega) (by omega) (by omega) ?_
        refine ShiftP.mk (by omega) ?_
        refine eqShrN ((u.toNat * 2 ^ (64 - (8 * r1).toNat))) ((64 - (8 * r1).toNat)) (by omega) (by omega) (by show _ ≤ 64; omega) ?_
        refine tk (fun wx HS => rConvI64 (by omega) rfl rfl ⟨rfl, rfl⟩) ?_
        refine rIxArr 1 2 (by omega) (by omega) rfl rfl ?_
        refine rLd (H.at 2 rfl) 2 rfl rfl rfl ?_
        refine cT (vEq_T (by omega)) ?_
        refine br_f (vNe_F (by assumption)) ?_
        refine br_t (vNe_T (by omega)) ?_
        refine cT rfl ?_
        refine Done.mk ?_
        refine ⟨?_, ?_⟩
        · exact congrArg Value.bool ((by omega))
        omega
      refine rIxArr 1 0 (by omega) (by omega) rfl rfl ?_
      refine rLd (H.at 2 rfl) 0 rfl rfl rfl ?_
      refine CallP.mk (Fc.imp (Go.Proofs.Ytffkcgogkhdcdaa.RefW.insWidth H _ hM (x.fst) ?_) ?_)
      · omega
      clear H
      rintro _ w7 ⟨r1, ⟨rfl, ⟨h4, H⟩⟩⟩
      have hr9 := (foundW_eq ‹FoundW _ _›).trans g6
      refine eqI64 (by omega) ?_
      refine eqI64 (by omega) ?_
      refine drawzS H [] [(0, .pure), (1, .pure), (2, .pure), (3, .pure), (4, .pure), (5, .pure), (6, .pure), (7, .pure), (8, .pure), (9, .pure), (10, .pure), (11, .pure), (12, .pure), (13, .pure)] mixed (by kernel_rfl) (by kernel_rfl) ?_
      clear H
      intro w8 H
      clear w7
      refine ShiftP.mk (by omega) ?_
      refine EqP.keep ?_
      refine ShiftP.mk (by omega) ?_
      refine EqP.keep ?_
      refine tk (fun wx HS => rConvU64M rfl rfl ⟨rfl, rfl⟩) ?_
      refine ShiftP.mk (by omega) ?_
      refine EqP.keep ?_
      refine ShiftP.mk (by omega) ?_
      refine EqP.keep ?_
      refine tk (fun wx HS => rConvInt rfl rfl ⟨rfl, rfl⟩) ?_
      refine rIxArr 1 2 (by omega) (by omega) rfl rfl ?_
      refine rLd (H.at 2 rfl) 2 rfl rfl rfl ?_
      refine cI (fun c1 => ?_) (fun c1 => ?_)
      · replace c1 := vEq_t (c1)
        refine br_f (vNe_F (by assumption)) ?_
        refine br_f (vNe_F (by assumption)) ?_
        refine br (fun c2 => ?_) (fun c2 => ?_)
        · replace c2 := vNe_t (c2)
          refine cT rfl ?_
          refine Done.mk ?_
          exact absurd ((backV g4 g7 h9 (by omega) h8 h12 hr9).1 g8) (by assumption)
        replace c2 := vNe_f (c2)
        refine cI (fun c3 => ?_) (fun c3 => ?_)
        · replace c3 := vNe_t (c3)
          refine Done.mk ?_
          exact absurd ((backV g5 g7 h9 (by omega) h8 h15 hr9).1 (by rcases g9 with ⟨_, k⟩ | ⟨k, _⟩ | ⟨k, _⟩ <;> first | exact k | omega)) (by assumption)
        replace c3 := vNe_f (c3)
        refine eqI64 (by omega) ?_
        refine Nxt.mk ((i + 1, ps'1)) (mt_i rfl (by first | omega | (simp only; omega) | (simp; omega)) (mt_nil)) ?_ ?_
        · refine ⟨?_, ?_⟩
          · assumption
          refine ⟨?_, ?_⟩
          · (simp only [List.length_append, List.length_set, List.length_cons, List.length_nil]; omega)
          refine H.fronts [3, 2, 2] ?_
          clear H
          intro H
          refine H.firsts 3 ?_
          clear H
          intro H
          exact H
        omega
      replace c1 := vEq_f (c1)
      refine br_f (vNe_F (by assumption)) ?_
      refine br_f (vNe_F (by assumption)) ?_
      refine br (fun c2 => ?_) (fun c2 => ?_)
      · replace c2 := vNe_t (c2)
        refine cT rfl ?_
        refine Done.mk ?_
        exact absurd ((backV g4 g7 h9 (by omega) h8 h12 hr9).1 g8) (by assumption)
      replace c2 := vNe_f (c2)
      refine cI (fun c3 => ?_) (fun c3 => ?_)
      · replace c3 := vNe_t (c3)
        refine Done.mk ?_
        exact absurd ((backV g5 g7 h9 (by omega) h8 h15 hr9).2 (plainG g9 (by assumption))) (by assumption)
      replace c3 := vNe_f (c3)
      refine eqI64 (by omega) ?_
      refine Nxt.mk ((i + 1, ps'1)) (mt_i rfl (by first | omega | (simp only; omega) | (simp; omega)) (mt_nil)) ?_ ?_
      · refine ⟨?_, ?_⟩
        · assumption
        refine ⟨?_, ?_⟩
        · (simp only [List.length_append, List.length_set, List.length_cons, List.length_nil]; omega)
        refine H.fronts [3, 2, 2] ?_
        clear H
        intro H
        refine H.firsts 3 ?_
        clear H
        intro H
        exact H
      omega
    · refine cF (vLt_F (by omega)) ?_
      refine Done.mk ?_
      exact ⟨rfl, H.finish⟩
  · refine CallP.mk (Fc.imp (Go.Proofs.Ytffkcgogkhdcdaa.Mem.of _ _ _ ?_) ?_)
    · assumption
    rintro _ w1 (⟨h1, ⟨p1, ⟨v1, ⟨ps1, ⟨rfl, ⟨h2, ⟨h3, H'⟩⟩⟩⟩⟩⟩⟩ | ⟨h4, ⟨rfl, H'⟩⟩)
    rotate_left
    · refine H.mergeK H' ?_
      clear H H'
      intro H
      refine br_t (vNe_T (by omega)) ?_
      refine cT rfl ?_
      refine br_t (vEq_T (by omega)) ?_
      refine rPtrNil rfl ?_
      refine Done.mk ?_
      exact ⟨rfl, H.finish⟩
    refine H.mergeK H' ?_
    clear H H'
    intro H
    refine br_f (vNe_F (by omega)) ?_
    refine rPtrNil rfl ?_
    refine cF rfl ?_
    refine rBuildArr rfl rfl rfl ?_
    refine rBuildArr rfl rfl rfl ?_
    refine rBuildArr rfl rfl rfl ?_
    refine rBuildArr rfl rfl rfl ?_
    refine rBuildArr rfl rfl rfl ?_
    refine rBuildArr rfl rfl rfl ?_
    refine rBuildArr rfl rfl rfl ?_
    refine rBuildSliceS H rfl rfl rfl rfl ?_
    clear H
    intro p2 w2 H
    clear w1
    refine rLenSl rfl ?_
    have hr7 : rows7.length = 7 := rfl
    refine H.ptSl (n := 7) (en := en3) (s := 3) 0 rfl rows7 rfl rfl (fun _ => rfl) rfl ?_
    clear H
    intro H
    refine LoopP.rule (α := Nat × List Page) (0, ps1) (fun x_ => [(50, .int .i64 x_.1)]) (fun x_ w_ => (x_.1 ≤ 7) ∧ (x_.2.length = ps1.length) ∧ Sat (froz w) w_ ([Pt p1 [v1, .int .i64 8] 110, Sl 116 256 enP v1 x_.2, Sl 70 3 en3 (.slice (some ⟨p2, 0, none⟩) 7 7) rows7])) (fun x_ => 7 - x_.1) ?_ ?_ ?_
    · repeat first | exact mt_nil | refine mt_cons rfl ?_ | refine mt_i rfl (by first | omega | (simp only; omega) | (simp; omega) | (simp; done)) ?_
    · try simp only
      refine ⟨?_, ?_⟩
      · omega
      refine ⟨?_, ?_⟩
      · (constructor <;> omega)
      refine H.fronts [0, 2, 2] ?_
      clear H
      intro H
      exact H
    clear H
    rintro ⟨i, qs⟩ f_ w_ ⟨hi, hq, H⟩
    try simp only at hi hq H ⊢
    rcases Nat.lt_or_ge i 7 with hlt | hge
    · obtain ⟨x, hx⟩ : ∃ x, rows7[i]? = some x := ⟨_, List.getElem?_eq_getElem (by rw [hr7]; exact hlt)⟩
      have hA0 : 0 ≤ base % 4294967296 + off ∨ off < 0 := by omega
      obtain ⟨g1, g2, g3, g4, g5, g6, g7, g8, g9⟩ := good7 x (List.mem_of_getElem? hx)
      refine cT (vLt_T (by omega)) ?_
      refine bk ?_
      obtain ⟨b1, o1, E1⟩ := H.elt 2 rfl (i) (by omega)
      refine rIxE E1 rfl rfl rfl ?_
      refine rLdA (H.el 2 rfl E1 hx) 0 rfl rfl rfl ?_
      refine rAllocS H rfl ?_
      clear H
      intro p3 w1 H
      clear w_
      refine rStAS H 0 rfl rfl rfl rfl ?_
      clear H
      intro w3 H
      clear w1
      refine H.fronts [2, 2] ?_
      clear H
      intro H
      refine CallP.mk (Fc.imp (Go.Proofs.Ytffkcgogkhdcdaa.Mem.all H ?_) ?_)
      · omega
      clear H
      rintro _ w1 ⟨rfl, H⟩
      refine rIxArr 1 0 (by omega) (by omega) rfl rfl ?_
      refine rLd (H.at 2 rfl) 0 rfl rfl rfl ?_
      refine CallP.mk (Fc.imp (Go.Proofs.Ytffkcgogkhdcdaa.Mem.storeOff H _ _ _ _ ?_ ?_ ?_) ?_)
      · omega
      · omega
      · omega
      clear H
      rintro _ w4 ⟨rfl, H⟩
      refine cT (vNe_T (by omega)) ?_
      refine rIxArr 1 1 (by omega) (by omega) rfl rfl ?_
      refine rLd (H.at 2 rfl) 1 rfl rfl rfl ?_
      refine CallP.mk (Fc.imp (Go.Proofs.Ytffkcgogkhdcdaa.Mem.loadOff H _ _ _ ?_ ?_ ?_) ?_)
      · omega
      · omega
      · omega
      clear H
      rintro _ w5 ⟨rfl, H⟩
      refine br_f (vNe_F (by omega)) ?_
      refine CallP.mk (Fc.imp (Go.Proofs.Ytffkcgogkhdcdaa.Mem.all H ?_) ?_)
      · omega
      clear H
      rintro _ w6 ⟨rfl, H⟩
      refine rStrNe ?_
      refine cI (fun c1 => ?_) (fun c1 => ?_)
      · replace c1 := dec_f (not_t (c1))
        refine Done.mk ?_
        exact absurd rfl (by assumption)
      replace c1 := dec_t (not_f (c1))
      refine eqI64 (by omega) ?_
      refine Nxt.mk ((i + 1, qs)) (mt_i rfl (by first | omega | (simp only; omega) | (simp; omega)) (mt_nil)) ?_ ?_
      · refine ⟨?_, ?_⟩
        · assumption
        refine ⟨?_, ?_⟩
        · assumption
        refine H.fronts [3, 2, 2] ?_
        clear H
        intro H
        refine H.firsts 3 ?_
        clear H
        intro H
        exact H
      omega
    · refine cF (vLt_F (by omega)) ?_
      refine Done.mk ?_
      exact ⟨rfl, H.finish⟩
theorem memBack' (w : World) (ys : List UInt8) (base off u : Int) (hy : ys.length ≤ 9223372036854775807) (hb : -9223372036854775808 ≤ base ∧ base ≤ 9223372036854775807) (ho : -9223372036854775808 ≤ off ∧ off ≤ 9223372036854775807) (hu : -9223372036854775808 ≤ u ∧ u ≤ 9223372036854775807) (m : Int) (hM : FAt (froz w) 0 0 [.int .i64 m]) :
    Fc Try.prog 7 #[.string (bs ys), .int .i64 base, .int .i64 off, .int .i64 u] w (fun v w' => v = .bool true ∧ Below w.heap.size w w') := memBack w ys base off u m hM hy hb ho hu
end Go.Proofs.Ytffkcgogkhdcdaa.Mem
