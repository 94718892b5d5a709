/- Actors and their numbers. -/
import Derived.Test.YtkkfjhaknbaiaaaSt
import Derived.Test.YtkkfjhaknbaiaaaOpen
import Derived.Test.YtkkfjhaknbaiaaaRest
import Derived.Test.YtkkfjhaknbaiaaaBits
import Derived.Test.YtkkfjhaknbaiaaaPlanZ
set_option maxRecDepth 100000
set_option linter.unusedVariables false
set_option linter.unusedSimpArgs false
namespace Go.Proofs.Ytkkfjhaknbaiaaa.Host
open Go Go.Proofs.Ytkkfjhaknbaiaaa.Eng Go.RowKit
theorem nShr (k : IntKind) (a n : Nat) (hn : n ≤ k.bits) : vShr k a n = ((a / 2 ^ n : Nat) : Int) := by
  rw [vShr_eq k a n hn, Int.natCast_ediv]; norm_cast
theorem mixed : (Try.prog).follows .mixedOrders = true := by kernel_rfl
/-- The pair of a number. -/
def goodP (a b : Nat) : Prop := a < 3 ∧ 1 ≤ b ∧ b ≤ 16
theorem hostPid (n : Int) (m : Nat) (hm : vWrap .u32 n = m) (hm2 : m < 2 ^ 32) (w : World) : Fc Try.prog 15 #[.int .i64 n] w
    (fun v w' => (∃ (a b : Nat) (is : Bool), v = .tuple #[.agg #[.int .i64 a, .int .i64 b], .bool is] ∧ (is = true ↔ goodP (m / 256) (m % 256)) ∧ (is = true → a = m / 256 ∧ b = m % 256) ∧ (is = false → a = 0 ∧ b = 0)) ∧ Below w.heap.size w w') := by
  refine Fc.of Try.func15 rfl (by kernel_rfl) ?_
  refine rAlloc rfl ?_
  intro w1 n1
  have G := gN (Below.refl _ _) n1
  refine rConvIntE ((m : Int)) (by exact hm) rfl rfl ?_
  refine ShiftP.mk (by decide) ?_
  have e1 : vShr .u32 (m : Int) 8 = ((m / 256 : Nat) : Int) := nShr .u32 m 8 (by decide)
  have e2 : vAnd .u32 (m : Int) 255 = ((m % 256 : Nat) : Int) := by
    have := vAnd_mask .u32 (m : Int) 8 (by decide)
    rw [show ((2 : Int) ^ 8 - 1) = 255 from rfl] at this
    rw [this]; omega
  refine rConvIntE (((m / 256 : Nat) : Int)) (by rw [e1, wi64 (by omega)]) rfl rfl ?_
  refine rConvIntE (((m % 256 : Nat) : Int)) (by rw [e2, wi64 (by omega)]) rfl rfl ?_
  refine rBuild rfl rfl rfl ?_
  refine rAlloc rfl ?_
  intro w2 n2
  replace G := gN G n2
  refine rStoreA n2.blk rfl rfl rfl ?_
  intro w3 u3 b3
  have hs1 := n1.size
  replace G := gU G u3 (by omega)
  have b1 := kU (kN n1.blk n2) u3 (by omega)
  refine rFieldAt rfl ?_
  refine rLoad0 b3.at rfl rfl ?_
  have bad : ¬ goodP (m / 256) (m % 256) → ∀ w', Upd w3 w' w.heap.size → Below w.heap.size w w' ∧ (∃ (a b : Nat) (is : Bool), Value.tuple #[.agg #[.int .i64 0, .int .i64 0], .bool false] = .tuple #[.agg #[.int .i64 a, .int .i64 b], .bool is] ∧ (is = true ↔ goodP (m / 256) (m % 256)) ∧ (is = true → a = m / 256 ∧ b = m % 256) ∧ (is = false → a = 0 ∧ b = 0)) := fun h w' u =>
    ⟨gU G u (Nat.le_refl _), 0, 0, false, rfl, ⟨nofun, fun hh => absurd hh h⟩, nofun, fun _ => ⟨rfl, rfl⟩⟩
  refine br (fun h1 => ?_) (fun h1 => ?_)
  · have h1 := vLe_t h1
    refine cT (rfl) ?_
    refine rBuild rfl rfl rfl ?_
    refine rStoreA b1 rfl rfl rfl ?_
    intro w4 u4 b4
    refine rdA b4.at rfl rfl rfl ?_
    obtain ⟨g1, g2⟩ := bad (by unfold goodP; omega) w4 u4
    exact Done.mk ⟨g2, g1⟩
  have h1 := vLe_f h1
  refine rFieldAt rfl ?_
  refine rLoad b3.at 1 rfl rfl ?_
  refine br (fun h2 => ?_) (fun h2 => ?_)
  · have h2 := vLt_t h2
    refine cT (rfl) ?_
    refine rBuild rfl rfl rfl ?_
    refine rStoreA b1 rfl rfl rfl ?_
    intro w4 u4 b4
    refine rdA b4.at rfl rfl rfl ?_
    obtain ⟨g1, g2⟩ := bad (by unfold goodP; omega) w4 u4
    exact Done.mk ⟨g2, g1⟩
  have h2 := vLt_f h2
  refine rFieldAt rfl ?_
  refine rLoad b3.at 1 rfl rfl ?_
  refine cI (fun h3 => ?_) (fun h3 => ?_)
  · have h3 := vLt_t h3
    refine rBuild rfl rfl rfl ?_
    refine rStoreA b1 rfl rfl rfl ?_
    intro w4 u4 b4
    refine rdA b4.at rfl rfl rfl ?_
    obtain ⟨g1, g2⟩ := bad (by unfold goodP; omega) w4 u4
    exact Done.mk ⟨g2, g1⟩
  have h3 := vLt_f h3
  refine rLoadA0 b3.at rfl rfl rfl ?_
  refine rStoreA b1 rfl rfl rfl ?_
  intro w4 u4 b4
  refine rdA b4.at rfl rfl rfl ?_
  exact Done.mk ⟨⟨_, _, true, rfl, ⟨fun _ => by unfold goodP; omega, fun _ => rfl⟩, fun _ => ⟨rfl, rfl⟩, nofun⟩, gU G u4 (Nat.le_refl _)⟩
theorem hostNumber (a b : Int) (ha : 0 ≤ a ∧ a < 256) (hb : 0 ≤ b ∧ b < 256) (w : World) : Fc Try.prog 16 #[.agg #[.int .i64 a, .int .i64 b]] w
    (fun v w' => (∃ r, v = .int .i64 r ∧ r = 256 * a + b) ∧ Below w.heap.size w w') := by
  refine Fc.of Try.func16 rfl (by kernel_rfl) ?_
  refine rBox ?_
  intro w1 n1
  have m8 : ∀ x : Int, 0 ≤ x ∧ x < 256 → vAnd .i64 x 255 = x := fun x hx => by
    have := vAnd_mask .i64 x 8 (by decide)
    rw [show ((2 : Int) ^ 8 - 1) = 255 from rfl] at this
    rw [this]; omega
  refine rFieldAt rfl ?_
  refine rLoad0 n1.blk.at rfl rfl ?_
  refine ShiftP.mk (by decide) ?_
  refine rFieldAt rfl ?_
  refine rLoad n1.blk.at 1 rfl rfl ?_
  refine Done.mk ⟨⟨_, rfl, ?_⟩, n1.below⟩
  obtain ⟨c, rfl⟩ := Int.eq_ofNat_of_zero_le ha.1
  obtain ⟨d, rfl⟩ := Int.eq_ofNat_of_zero_le hb.1
  have e := vShl_eq .i64 (c : Int) 8 (by decide)
  rw [show ((8 : Nat) : Int) = 8 from rfl, show (c : Int) * 2 ^ 8 = ((256 * c : Nat) : Int) by omega, wi64 (by omega)] at e
  have e2 := vOr_add .i64 d (256 * c) 8 (by omega) ⟨c, rfl⟩ (by rw [show IntKind.max .i64 = 9223372036854775807 from rfl]; omega)
  have e3 : vOr .i64 ((256 * c : Nat) : Int) (d : Int) = vOr .i64 (d : Int) ((256 * c : Nat) : Int) := by
    unfold vOr; rw [BitVec.or_comm]
  rw [m8 _ ha, m8 _ hb, e, e3, e2]; omega
theorem nat32 (a : Int) : ∃ n : Nat, vWrap .u32 a = n ∧ n < 2 ^ 32 := by
  have h := vWrap_range .u32 a
  rw [show IntKind.min .u32 = 0 from rfl, show IntKind.max .u32 = 4294967295 from rfl] at h
  exact ⟨(vWrap .u32 a).toNat, by omega, by omega⟩
def enPid (x : Int × Int) : List Value := [.int .i64 x.1, .int .i64 x.2]
def okPid (x : Int × Int) : Prop := (-9223372036854775808 ≤ x.1 ∧ x.1 ≤ 9223372036854775807) ∧ (-9223372036854775808 ≤ x.2 ∧ x.2 ≤ 9223372036854775807)
theorem fitsPid (cs : List Value) (h : fitsL [.int .i64, .int .i64] cs) : ∃ x, cs = enPid x ∧ okPid x := by
  obtain ⟨_, _, rfl, ⟨a, rfl, ha⟩, _, _, rfl, ⟨b, rfl, hb⟩, rfl⟩ := h
  exact ⟨(a, b), rfl, ha, hb⟩
theorem hostNumbers (p : Int × Int) (n : Int) (hp : okPid p) (hn : -9223372036854775808 ≤ n ∧ n ≤ 9223372036854775807) (w : World) : Fc Try.prog 3 #[.agg (enPid p).toArray, .int .i64 n] w (fun v w' => v = .bool true ∧ Below w.heap.size w w') := by
  obtain ⟨pa, pb⟩ := p
  obtain ⟨hpa, hpb⟩ := hp
  dsimp only at hpa hpb
  refine Fc.of Try.func3 rfl (by kernel_rfl) ?_
  refine rBox ?_
  intro w1 n1
  have G := gN (Below.refl _ _) n1
  have B1 := n1.blk
  have s1 := n1.size
  clear n1
  refine CallP.mk (Fc.imp (hostPid 1 1 (by rw [wu32 (by decide)]; rfl) (by decide) _) ?_)
  rintro _ w2 ⟨⟨a, b, is, rfl, hi1, hi2, hi3⟩, g2⟩
  replace B1 := kB B1 g2
  replace G := gB G g2
  have hT : is = true := hi1.2 (by unfold goodP; decide)
  subst hT
  refine rAlloc rfl ?_
  intro w3 n3
  replace G := gN G n3
  replace B1 := kN B1 n3
  refine rStoreA n3.blk rfl rfl rfl ?_
  intro w4 u4 b4
  have h2 := g2.size
  replace G := gU G u4 (by omega)
  replace B1 := kU B1 u4 (by omega)
  refine cF (rfl) ?_
  obtain ⟨m, hm, hm2⟩ := nat32 n
  refine CallP.mk (Fc.imp (hostPid n m hm hm2 _) ?_)
  rintro _ w5 ⟨⟨a', b', is, rfl, hi1, hi2, hi3⟩, g5⟩
  replace B1 := kB B1 g5
  replace G := gB G g5
  clear n3 u4 b4
  have hw5 := B1.lt
  refine rAlloc rfl ?_
  intro w6 n6
  replace G := gN G n6
  replace B1 := kN B1 n6
  refine rStoreA n6.blk rfl rfl rfl ?_
  intro w7 u7 B7
  have h5 := g5.size
  have h6 := n6.size
  replace G := gU G u7 (by omega)
  replace B1 := kU B1 u7 (by omega)
  clear n6 u7
  refine br (fun hz => ?_) (fun hz => ?_)
  case' refine_1 =>
    obtain ⟨rfl, rfl⟩ := hi2 hz
    have hgd := hi1.1 hz
    unfold goodP at hgd
    refine rLoadA0 B7.at rfl rfl rfl ?_
    refine CallP.mk (Fc.imp (hostNumber _ _ (by omega) (by omega) _) ?_)
    rintro _ w8 ⟨⟨r, rfl, hr⟩, g8⟩
    replace G := gB G g8
    replace B1 := kB B1 g8
    replace B7 := kB B7 g8
    clear g8
    refine rConvInt rfl rfl ?_
    refine rConvInt rfl rfl ?_
    refine br_f (by rw [vNe_iff, hr]; simp; unfold vWrap at hm ⊢; simp [IntKind.wrap, IntKind.bits, IntKind.signed] at hm ⊢; omega) ?_
    refine rFieldAt rfl ?_
    refine rLoad0 B7.at rfl rfl ?_
    refine br_f (by rw [vLt_iff]; simp; omega) ?_
    refine rFieldAt rfl ?_
    refine rLoad0 B7.at rfl rfl ?_
    refine br_f (by rw [vLt_iff]; simp; omega) ?_
    refine rFieldAt rfl ?_
    refine rLoad B7.at 1 rfl rfl ?_
    refine br_f (by rw [vLt_iff]; simp; omega) ?_
    refine rFieldAt rfl ?_
    refine rLoad B7.at 1 rfl rfl ?_
    refine cF (by rw [vLt_iff]; simp; omega) ?_
  case' refine_2 =>
    refine cF (rfl) ?_
  all_goals
    clear hi1 hi2 hi3 hm hm2 B7
    refine drawz (fun wx => Blk wx w.heap.size [.int .i64 pa, .int .i64 pb] 23) [(0, .pure), (1, .held), (3, .pure), (4, .held), (2, .forced), (5, .forced), (6, .pure), (7, .pure), (8, .free)] mixed (by kernel_rfl) (by kernel_rfl) (fun wd hd => ⟨kS B1 (by rw [hd]; exact Still.drew _), ?_⟩)
    replace G := gS G (by rw [hd]; exact Still.drew _ : Still _ wd)
    replace B1 : Blk wd w.heap.size [.int .i64 pa, .int .i64 pb] 23 := kS B1 (by rw [hd]; exact Still.drew _)
    clear hd
    refine tk (fun wx hS => rFieldAt rfl ⟨rfl, rfl⟩) ?_
    refine tk (fun wx hS => rLoad0 hS.at rfl rfl ⟨rfl, rfl⟩) ?_
    refine tk (fun wx hS => rFieldAt rfl ⟨rfl, rfl⟩) ?_
    refine tk (fun wx hS => rLoad hS.at 1 rfl rfl ⟨rfl, rfl⟩) ?_
    refine CallP.mk (Fc.imp (restW pa 3 hpa (by decide) _) ?_)
    rintro _ _ ⟨⟨x, rfl, hx⟩, rfl⟩
    refine KeepP.mk (B1) ?_
    refine CallP.mk (Fc.imp (restW pb 16 hpb (by decide) _) ?_)
    rintro _ _ ⟨⟨y, rfl, hy⟩, rfl⟩
    refine KeepP.mk (B1) ?_
    obtain ⟨x, rfl⟩ := Int.eq_ofNat_of_zero_le (show 0 ≤ x by omega)
    obtain ⟨y, rfl⟩ := Int.eq_ofNat_of_zero_le (show 0 ≤ y by omega)
    have ey : vWrap .i64 (1 + (y : Int)) = ((y + 1 : Nat) : Int) := by rw [wi64 (by omega)]; omega
    refine tk (v := .agg #[.int .i64 (x : Int), .int .i64 ((y + 1 : Nat) : Int)]) (fun wx hS => rBuild rfl rfl rfl (by rw [ey]; exact ⟨rfl, rfl⟩)) ?_
    refine rStoreA B1 rfl rfl rfl ?_
    intro wu uu bu
    replace G := gU G uu (Nat.le_refl _)
    clear uu B1
    refine rLoadA0 bu.at rfl rfl rfl ?_
    refine CallP.mk (Fc.imp (hostNumber _ _ (by omega) (by omega) _) ?_)
    rintro _ wv ⟨⟨r, rfl, hr⟩, gv⟩
    replace G := gB G gv
    replace bu := kB bu gv
    clear gv
    refine CallP.mk (Fc.imp (hostPid r (256 * x + (y + 1)) (by rw [hr, wu32 (by omega)]; omega) (by omega) _) ?_)
    rintro _ wp ⟨⟨c, d, is, rfl, hc1, hc2, hc3⟩, gp⟩
    replace G := gB G gp
    replace bu := kB bu gp
    clear gp
    rw [show (256 * x + (y + 1)) / 256 = x by omega, show (256 * x + (y + 1)) % 256 = y + 1 by omega] at hc1 hc2
    have hT : is = true := hc1.2 (by unfold goodP; omega)
    subst hT
    obtain ⟨rfl, rfl⟩ := hc2 rfl
    have hlt := bu.lt
    refine rAlloc rfl ?_
    intro wq nq
    replace G := gN G nq
    replace bu := kN bu nq
    refine rStoreA nq.blk rfl rfl rfl ?_
    intro wr ur br
    replace G := gU G ur (by omega)
    replace bu := kU bu ur (by omega)
    refine rLoadA0 br.at rfl rfl rfl ?_
    refine rLoadA0 bu.at rfl rfl rfl ?_
    refine rStructEq (by kernel_rfl) (by kernel_rfl) ?_
    refine Done.mk ?_
    exact ⟨congrArg Value.bool (by simp [vEq_iff]), G⟩
end Go.Proofs.Ytkkfjhaknbaiaaa.Host
