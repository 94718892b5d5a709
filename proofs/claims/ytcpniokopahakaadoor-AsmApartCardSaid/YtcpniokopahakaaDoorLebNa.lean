/- Package leb: names that are written; utf8.ValidString. -/
import Derived.Test.YtcpniokopahakaaDoorLebWrU
import Derived.Test.YtcpniokopahakaaDoorFcC
import Derived.Test.YtcpniokopahakaaDoorLebV
import Derived.Test.YtcpniokopahakaaDoorShelfV
set_option maxRecDepth 100000
set_option maxHeartbeats 4000000
set_option linter.unusedVariables false
set_option linter.unusedSimpArgs false
namespace Go.Proofs.YtcpniokopahakaaDoor.Leb
open Go Go.Proofs.YtcpniokopahakaaDoor.Eng Go.RowKit
section
variable {g : Glob} {w : World} {l : List As}
/-- The tables of unicode/utf8 lie frozen. -/
def U8F (g : Glob) : Prop := ∀ (w : World) (l : List As), Sat g w l → Lib.Utf8Tabs (Tryd.lays196_ren.g 3) (Tryd.lays196_ren.g 4) w
theorem bs_list (s : List UInt8) : (bs s).data.toList = s := by unfold bs; simp
theorem validString (H : Sat g w l) (hT : U8F g) (s : List UInt8) (hs : s.length ≤ 9223372036854775807) : Fc Tryd.prog 158 #[.string (bs s)] w (fun v w' => ∃ b, v = .bool b ∧ b = Lib.validD s ∧ Sat g w' l) := by
  refine Fc.ofCalls Tryd.func158 rfl (by kernel_rfl) ?_
  refine (Tryd.utf8_ValidString (bs s) w (by rw [bs_size]; exact hs) (hT w l H)).mono ?_
  rintro e w' ⟨rfl, hb⟩
  exact ⟨_, rfl, _, rfl, by rw [bs_list], H.below hb⟩
def nameE (s : List UInt8) : Int := if 16 < s.length then 2 else if Lib.validD s = true then 0 else 4
theorem name (H : Sat g w l) (hT : U8F g) (s : List UInt8) (hs : s.length ≤ 9223372036854775807) : Fc Tryd.prog 118 #[.string (bs s)] w (fun v w' => ∃ t e, v = .tuple #[.string (bs t), .int .i64 e] ∧ e = nameE s ∧ t = (if nameE s = 0 then uleb s.length ++ s else []) ∧ t.length ≤ 30 ∧ Sat g w' l) := by
  refine Fc.of Tryd.func118 rfl (by kernel_rfl) ?_
  by_cases h16 : 16 < s.length
  · have hE : nameE s = 2 := if_pos h16
    rw [hE, if_neg (by decide)]
    refine bk ?_
    refine rLenStr rfl ?_
    refine cT (vLt_T (by omega)) ?_
    refine Done.mk ?_
    refine ⟨[], 2, ?_⟩
    refine ⟨?_, ?_⟩
    · rfl
    refine ⟨?_, ?_⟩
    · omega
    refine ⟨?_, ?_⟩
    · rfl
    refine ⟨?_, ?_⟩
    · (simp only [List.length_append, List.length_set, List.length_cons, List.length_nil]; omega)
    exact H
  · cases hv : Lib.validD s
    · have hE : nameE s = 4 := by unfold nameE; rw [if_neg h16, if_neg (by rw [hv]; decide)]
      rw [hE, if_neg (by decide)]
      refine bk ?_
      refine rLenStr rfl ?_
      refine cF (vLt_F (by omega)) ?_
      refine CallP.mk (Fc.imp (Go.Proofs.YtcpniokopahakaaDoor.Leb.validString H ?_ _ ?_) ?_)
      · assumption
      · assumption
      clear H
      rintro _ w1 ⟨b1, ⟨rfl, ⟨h1, H⟩⟩⟩
      rw [hv] at h1
      subst h1
      refine cT rfl ?_
      refine Done.mk ?_
      refine ⟨[], 4, ?_⟩
      refine ⟨?_, ?_⟩
      · rfl
      refine ⟨?_, ?_⟩
      · omega
      refine ⟨?_, ?_⟩
      · rfl
      refine ⟨?_, ?_⟩
      · (simp only [List.length_append, List.length_set, List.length_cons, List.length_nil]; omega)
      exact H
    · have hE : nameE s = 0 := by unfold nameE; rw [if_neg h16, if_pos hv]
      rw [hE, if_pos rfl]
      refine bk ?_
      refine rLenStr rfl ?_
      refine cF (vLt_F (by omega)) ?_
      refine CallP.mk (Fc.imp (Go.Proofs.YtcpniokopahakaaDoor.Leb.validString H ?_ _ ?_) ?_)
      · assumption
      · assumption
      clear H
      rintro _ w1 ⟨b1, ⟨rfl, ⟨h1, H⟩⟩⟩
      rw [hv] at h1
      subst h1
      refine cF rfl ?_
      refine rLenStr rfl ?_
      refine rConvU64 (by omega) rfl rfl ?_
      refine CallP.mk (Fc.imp (Go.Proofs.YtcpniokopahakaaDoor.Leb.U _ (s.length) ?_ ?_ _) ?_)
      · omega
      · omega
      rintro _ w2 ⟨l1, ⟨rfl, ⟨h1, ⟨h2, H'⟩⟩⟩⟩
      refine H.mergeK H' ?_
      clear H H'
      intro H
      refine rCat (by omega) ?_
      refine Done.mk ?_
      refine ⟨l1 ++ s, 0, ?_⟩
      refine ⟨?_, ?_⟩
      · rfl
      refine ⟨?_, ?_⟩
      · omega
      refine ⟨?_, ?_⟩
      · (simp; omega)
      refine ⟨?_, ?_⟩
      · (simp only [List.length_append, List.length_set, List.length_cons, List.length_nil]; omega)
      exact H
end
end Go.Proofs.YtcpniokopahakaaDoor.Leb
