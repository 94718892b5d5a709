/- The document's InsCheck of an instruction that has a number and 64: unsupported just if nothing is known to stand beside it. -/
import Derived.Test.YtcpniokopahakaaDoorRefB
set_option maxRecDepth 100000
set_option maxHeartbeats 4000000
set_option linter.unusedVariables false
set_option linter.unusedSimpArgs false
namespace Go.Proofs.YtcpniokopahakaaDoor.RefD
open Go Go.Proofs.YtcpniokopahakaaDoor.Eng Go.RowKit
open Asm
section
variable {g : Glob} {w : World} {l : List As}
theorem wide (n : Int) (w : World) : Fc Tryd.prog 40 #[.int .i64 n] w (fun v w' => (∃ b, v = .bool b) ∧ Sat (froz w) w' []) := by
  refine Fc.of Tryd.func40 rfl (by kernel_rfl) ?_
  have H := Sat.start w
  refine br (fun c1 => ?_) (fun c1 => ?_)
  · replace c1 := vLt_t (c1)
    refine Done.mk ?_
    refine ⟨?_, ?_⟩
    · refine ⟨true, ?_⟩
      exact congrArg Value.bool (rfl)
    exact H
  replace c1 := vLt_f (c1)
  refine Done.mk ?_
  refine ⟨?_, ?_⟩
  · refine ⟨vLt 4294967295 n, ?_⟩
    rfl
  exact H
theorem e6 {e : Int} {s : List UInt8} {n : Nat} (hs : s = besideL n) (h : s ≠ [63]) (he : e ≠ 6) : e = 6 ↔ besideL n = [63] := ⟨fun k => absurd k he, fun k => absurd (hs.trans k) h⟩
theorem insCheck (H : Sat g w l) (m : Int) (hM : FAt g 2 0 [.int .i64 m]) (n : Nat) (hn : n ≤ 255) : Fc Tryd.prog 13 #[.agg #[.int .u8 n, .int .i64 64, .int .i64 0, .slice none 0 0]] w (fun v w' => (∃ e, v = .int .i64 e ∧ (e = 6 ↔ besideL n = [63])) ∧ Sat g w' l) := by
  refine Fc.of Tryd.func13 rfl (by kernel_rfl) ?_
  refine rBoxS H ?_
  clear H
  intro p1 w1 H
  refine rFieldAt rfl ?_
  refine rLd (H.at 0 rfl) 0 rfl rfl rfl ?_
  refine CallP.mk (Fc.imp (Go.Proofs.YtcpniokopahakaaDoor.RefD.beside H _ hM (n) ?_) ?_)
  · assumption
  clear H
  rintro _ w2 ⟨s1, ⟨rfl, ⟨h1, H⟩⟩⟩
  refine rStrEq ?_
  refine cI (fun c1 => ?_) (fun c1 => ?_)
  · replace c1 := dec_t (c1)
    refine Done.mk ?_
    refine ⟨?_, ?_⟩
    · refine ⟨6, ?_⟩
      refine ⟨?_, ?_⟩
      · refine int_eq ?_
        omega
      exact ⟨fun _ => by rw [← ‹_ = besideL n›]; assumption, fun _ => rfl⟩
    refine H.drop 0 ?_
    clear H
    intro H
    exact H
  replace c1 := dec_f (c1)
  refine rFieldAt rfl ?_
  refine rLd (H.at 0 rfl) 3 rfl rfl rfl ?_
  refine rLenSl rfl ?_
  refine cF (vLt_F (by omega)) ?_
  refine rFieldAt rfl ?_
  refine rLd (H.at 0 rfl) 1 rfl rfl rfl ?_
  refine block_join (α := Bool) (fun x_ => [(5, .bool x_)]) (fun x_ w_ => Sat g w_ ((Pt p1 [.int .u8 n, .int .i64 64, .int .i64 0, .slice none 0 0] 28 :: l))) ?_ ?_
  · have hs2 : s1.length ≤ 2 := h1 ▸ beside_len n
    have hat : ([97, 116] : List UInt8).length = 2 := rfl
    refine rStrEq ?_
    refine cI (fun c2 => ?_) (fun c2 => ?_)
    · replace c2 := dec_t (c2)
      refine rFieldAt rfl ?_
      refine rLd (H.at 0 rfl) 1 rfl rfl rfl ?_
      refine br_f (vNe_F (by omega)) ?_
      refine Jn.mk (false) (mt_cons rfl (mt_nil)) ?_
      exact H
    replace c2 := dec_f (c2)
    refine rStrEq ?_
    refine cI (fun c3 => ?_) (fun c3 => ?_)
    · replace c3 := dec_t (c3)
      refine rFieldAt rfl ?_
      refine rLd (H.at 0 rfl) 1 rfl rfl rfl ?_
      refine br_f (vLt_F (by omega)) ?_
      refine rFieldAt rfl ?_
      refine rLd (H.at 0 rfl) 1 rfl rfl rfl ?_
      refine Jn.mk (vLt 2147483647 64) (mt_cons rfl (mt_nil)) ?_
      exact H
    replace c3 := dec_f (c3)
    refine rStrEq ?_
    refine cI (fun c4 => ?_) (fun c4 => ?_)
    · replace c4 := dec_t (c4)
      refine Jn.mk (false) (mt_cons rfl (mt_nil)) ?_
      exact H
    replace c4 := dec_f (c4)
    refine CallP.mk (Fc.imp (Go.Proofs.YtcpniokopahakaaDoor.RefD.containsAny H _ _ ?_ ?_ ?_ ?_) ?_)
    · omega
    · omega
    · (rw [h1]; exact beside_ascii n)
    · exact fun j b hb => by match j, hb with | 0, hb => (simp at hb; subst hb; decide) | 1, hb => (simp at hb; subst hb; decide)
    clear H
    rintro _ w3 ⟨⟨b1, rfl⟩, H⟩
    refine cI (fun c5 => ?_) (fun c5 => ?_)
    · refine rFieldAt rfl ?_
      refine rLd (H.at 0 rfl) 1 rfl rfl rfl ?_
      refine CallP.mk (Fc.imp (Go.Proofs.YtcpniokopahakaaDoor.RefD.wide _ _) ?_)
      rintro _ w4 ⟨⟨b2, rfl⟩, H'⟩
      refine H.mergeK H' ?_
      clear H H'
      intro H
      refine Jn.mk (b2) (mt_cons rfl (mt_nil)) ?_
      exact H
    refine Jn.mk (vNe 64 0) (mt_cons rfl (mt_nil)) ?_
    exact H
  clear H
  rintro b f_ w_ H
  try simp only at H ⊢
  refine rFieldAt rfl ?_
  refine rLd (H.at 0 rfl) 2 rfl rfl rfl ?_
  refine rStrEq ?_
  refine cI (fun c2 => ?_) (fun c2 => ?_)
  focus
    replace c2 := dec_t (c2)
    refine rFieldAt rfl ?_
    refine rLd (H.at 0 rfl) 2 rfl rfl rfl ?_
    refine CallP.mk (Fc.imp (Go.Proofs.YtcpniokopahakaaDoor.RefD.wide _ _) ?_)
    rintro _ w3 ⟨⟨b1, rfl⟩, H'⟩
    refine H.mergeK H' ?_
    clear H H'
    intro H
    refine rFieldAt rfl ?_
    refine rLd (H.at 0 rfl) 3 rfl rfl rfl ?_
    refine rLenSl rfl ?_
    refine br_f (vLt_F (by omega)) ?_
    refine rFieldAt rfl ?_
    refine rLd (H.at 0 rfl) 3 rfl rfl rfl ?_
    refine rLenSl rfl ?_
  rotate_left 1
  focus
    replace c2 := dec_f (c2)
    refine rFieldAt rfl ?_
    refine rLd (H.at 0 rfl) 3 rfl rfl rfl ?_
    refine rLenSl rfl ?_
    refine br_f (vLt_F (by omega)) ?_
    refine rFieldAt rfl ?_
    refine rLd (H.at 0 rfl) 3 rfl rfl rfl ?_
    refine rLenSl rfl ?_
  rotate_left 1
  · refine LoopP.rule (α := Nat) (0) (fun x_ => [(79, .int .i64 x_), (7, .bool false)]) (fun x_ w_ => (x_ ≤ 0) ∧ Sat g w_ ((Pt p1 [.int .u8 n, .int .i64 64, .int .i64 0, .slice none 0 0] 28 :: l))) (fun x_ => 0) ?_ ?_ ?_
    · repeat first | exact mt_nil | refine mt_cons rfl ?_ | refine mt_i rfl (by first | omega | (simp only; omega) | (simp; omega) | (simp; done)) ?_
    · try simp only
      refine ⟨?_, ?_⟩
      · omega
      exact H
    clear H
    rintro i f_ w_ ⟨hi, H⟩
    try simp only at hi H ⊢
    refine cF (vLt_F (by omega)) ?_
    refine br (fun c3 => ?_) (fun c3 => ?_)
    · refine cT rfl ?_
      refine Done.mk ?_
      refine ⟨?_, ?_⟩
      · refine ⟨1, ?_⟩
        refine ⟨?_, ?_⟩
        · refine int_eq ?_
          omega
        exact e6 h1 (by assumption) (by decide)
      refine H.drop 0 ?_
      clear H
      intro H
      exact H
    refine br (fun c4 => ?_) (fun c4 => ?_)
    · refine cT rfl ?_
      refine Done.mk ?_
      refine ⟨?_, ?_⟩
      · refine ⟨1, ?_⟩
        refine ⟨?_, ?_⟩
        · refine int_eq ?_
          omega
        exact e6 h1 (by assumption) (by decide)
      refine H.drop 0 ?_
      clear H
      intro H
      exact H
    refine cF rfl ?_
    refine Done.mk ?_
    refine ⟨?_, ?_⟩
    · refine ⟨0, ?_⟩
      refine ⟨?_, ?_⟩
      · refine int_eq ?_
        omega
      exact e6 h1 (by assumption) (by decide)
    refine H.drop 0 ?_
    clear H
    intro H
    exact H
  · refine LoopP.rule (α := Nat) (0) (fun x_ => [(79, .int .i64 x_), (7, .bool false)]) (fun x_ w_ => (x_ ≤ 0) ∧ Sat g w_ ((Pt p1 [.int .u8 n, .int .i64 64, .int .i64 0, .slice none 0 0] 28 :: l))) (fun x_ => 0) ?_ ?_ ?_
    · repeat first | exact mt_nil | refine mt_cons rfl ?_ | refine mt_i rfl (by first | omega | (simp only; omega) | (simp; omega) | (simp; done)) ?_
    · try simp only
      refine ⟨?_, ?_⟩
      · omega
      exact H
    clear H
    rintro i f_ w_ ⟨hi, H⟩
    try simp only at hi H ⊢
    refine cF (vLt_F (by omega)) ?_
    refine br (fun c3 => ?_) (fun c3 => ?_)
    · refine cT rfl ?_
      refine Done.mk ?_
      refine ⟨?_, ?_⟩
      · refine ⟨1, ?_⟩
        refine ⟨?_, ?_⟩
        · refine int_eq ?_
          omega
        exact e6 h1 (by assumption) (by decide)
      refine H.drop 0 ?_
      clear H
      intro H
      exact H
    refine br_f (vNe_F (by omega)) ?_
    refine cF rfl ?_
    refine Done.mk ?_
    refine ⟨?_, ?_⟩
    · refine ⟨0, ?_⟩
      refine ⟨?_, ?_⟩
      · refine int_eq ?_
        omega
      exact e6 h1 (by assumption) (by decide)
    refine H.drop 0 ?_
    clear H
    intro H
    exact H
end
end Go.Proofs.YtcpniokopahakaaDoor.RefD
