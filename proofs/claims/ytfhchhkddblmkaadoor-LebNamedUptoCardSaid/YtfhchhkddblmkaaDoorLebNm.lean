/- Package leb: names; utf8.ValidString. -/
import Derived.Test.YtfhchhkddblmkaaDoorLebRdU
import Derived.Test.YtfhchhkddblmkaaDoorFcC
import Derived.Test.YtfhchhkddblmkaaDoorLebV
import Derived.Test.YtfhchhkddblmkaaDoorShelfV
set_option maxRecDepth 100000
set_option maxHeartbeats 4000000
set_option linter.unusedVariables false
set_option linter.unusedSimpArgs false
namespace Go.Proofs.YtfhchhkddblmkaaDoor.Leb
open Go Go.Proofs.YtfhchhkddblmkaaDoor.Eng Go.RowKit
section
variable {g : Glob} {w : World} {l : List As}
/-- The tables of unicode/utf8 lie frozen. -/
def U8F (g : Glob) : Prop := ∀ (w : World) (l : List As), Sat g w l → Lib.Utf8Tabs (Tryd.lays196_ren.g 3) (Tryd.lays196_ren.g 4) w
theorem bs_size (s : List UInt8) : (bs s).size = s.length := by unfold bs; simp [ByteArray.size]
theorem bs_list (s : List UInt8) : (bs s).data.toList = s := by unfold bs; simp
theorem validString (H : Sat g w l) (hT : U8F g) (s : List UInt8) (hs : s.length ≤ 9223372036854775807) : Fc Tryd.prog 6 #[.string (bs s)] w (fun v w' => ∃ b, v = .bool b ∧ b = Lib.validD s ∧ Sat g w' l) := by
  refine Fc.ofCalls Tryd.func6 rfl (by kernel_rfl) ?_
  refine (Tryd.utf8_ValidString (bs s) w (by rw [bs_size]; exact hs) (hT w l H)).mono ?_
  rintro e w' ⟨rfl, hb⟩
  exact ⟨_, rfl, _, rfl, by rw [bs_list], H.below hb⟩
def nameE (s : List UInt8) : Int := if 16 < s.length then 2 else if Lib.validD s = true then 0 else 4
theorem name (H : Sat g w l) (hT : U8F g) (s : List UInt8) (hs : s.length ≤ 9223372036854775807) : Fc Tryd.prog 4 #[.string (bs s)] w (fun v w' => ∃ t e, v = .tuple #[.string (bs t), .int .i64 e] ∧ e = nameE s ∧ t = (if nameE s = 0 then uleb s.length ++ s else []) ∧ t.length ≤ 30 ∧ Sat g w' l) := by
  refine Fc.of Tryd.func4 rfl (by kernel_rfl) ?_
  by_cases h16 : 16 < s.length
  · have hE : nameE s = 2 := if_pos h16
    rw [hE, if_neg (by decide)]
    refine bk ?_
    refine rLenStr rfl ?_
    refine cT (vLt_T (by omega)) ?_
    refine Done.mk ?_
    refine ⟨[], 2, ?_⟩
    refine ⟨?_, ?_⟩
    · rfl
    refine ⟨?_, ?_⟩
    · omega
    refine ⟨?_, ?_⟩
    · rfl
    refine ⟨?_, ?_⟩
    · (simp only [List.length_append, List.length_set, List.length_cons, List.length_nil]; omega)
    exact H
  · cases hv : Lib.validD s
    · have hE : nameE s = 4 := by unfold nameE; rw [if_neg h16, if_neg (by rw [hv]; decide)]
      rw [hE, if_neg (by decide)]
      refine bk ?_
      refine rLenStr rfl ?_
      refine cF (vLt_F (by omega)) ?_
      refine CallP.mk (Fc.imp (Go.Proofs.YtfhchhkddblmkaaDoor.Leb.validString H ?_ _ ?_) ?_)
      · assumption
      · assumption
      clear H
      rintro _ w1 ⟨b1, ⟨rfl, ⟨h1, H⟩⟩⟩
      rw [hv] at h1
      subst h1
      refine cT rfl ?_
      refine Done.mk ?_
      refine ⟨[], 4, ?_⟩
      refine ⟨?_, ?_⟩
      · rfl
      refine ⟨?_, ?_⟩
      · omega
      refine ⟨?_, ?_⟩
      · rfl
      refine ⟨?_, ?_⟩
      · (simp only [List.length_append, List.length_set, List.length_cons, List.length_nil]; omega)
      exact H
    · have hE : nameE s = 0 := by unfold nameE; rw [if_neg h16, if_pos hv]
      rw [hE, if_pos rfl]
      refine bk ?_
      refine rLenStr rfl ?_
      refine cF (vLt_F (by omega)) ?_
      refine CallP.mk (Fc.imp (Go.Proofs.YtfhchhkddblmkaaDoor.Leb.validString H ?_ _ ?_) ?_)
      · assumption
      · assumption
      clear H
      rintro _ w1 ⟨b1, ⟨rfl, ⟨h1, H⟩⟩⟩
      rw [hv] at h1
      subst h1
      refine cF rfl ?_
      refine rLenStr rfl ?_
      refine rConvU64 (by omega) rfl rfl ?_
      refine CallP.mk (Fc.imp (Go.Proofs.YtfhchhkddblmkaaDoor.Leb.U _ (s.length) ?_ ?_ _) ?_)
      · omega
      · omega
      rintro _ w2 ⟨l1, ⟨rfl, ⟨h1, ⟨h2, H'⟩⟩⟩⟩
      refine H.mergeK H' ?_
      clear H H'
      intro H
      refine rCat (by omega) ?_
      refine Done.mk ?_
      refine ⟨l1 ++ s, 0, ?_⟩
      refine ⟨?_, ?_⟩
      · rfl
      refine ⟨?_, ?_⟩
      · omega
      refine ⟨?_, ?_⟩
      · (simp; omega)
      refine ⟨?_, ?_⟩
      · (simp only [List.length_append, List.length_set, List.length_cons, List.length_nil]; omega)
      exact H
theorem readName (H : Sat g w l) (hT : U8F g) (t more q : List UInt8) (hq : q = uleb t.length ++ (t ++ more)) (h16 : t.length ≤ 16) (hv : Lib.validD t = true) (hm : q.length ≤ 9223372036854775807) : Fc Tryd.prog 5 #[.string (bs q)] w (fun v w' => v = .tuple #[.string (bs t), .int .i64 ((uleb t.length).length + t.length : Nat), .int .i64 0] ∧ Sat g w' l) := by
  refine Fc.of Tryd.func5 rfl (by kernel_rfl) ?_
  have hr : rdU 32 q 0 0 = (t.length, (uleb t.length).length, 0) := by rw [hq]; exact rdU32 _ _ (by omega)
  have hd : q.drop (uleb t.length).length = t ++ more := by rw [hq, List.drop_left]
  have ht : (t ++ more).take t.length = t := List.take_left
  have hl : (t ++ more).length = t.length + more.length := List.length_append
  have hql : q.length = (uleb t.length).length + (t.length + more.length) := by rw [hq, List.length_append, List.length_append]
  have hdl : (q.drop (uleb t.length).length).length = t.length + more.length := by rw [hd, hl]
  have hdt : (q.drop (uleb t.length).length).take t.length = t := by rw [hd, ht]
  have hu := uleb_pos t.length
  clear hd ht hl
  refine CallP.mk (Fc.imp (Go.Proofs.YtfhchhkddblmkaaDoor.Leb.readU _ _ (32) ?_ _ ?_ ?_) ?_)
  · omega
  · omega
  · assumption
  rintro _ w1 ⟨n1, ⟨k1, ⟨e1, ⟨rfl, ⟨h1, H'⟩⟩⟩⟩⟩
  refine H.mergeK H' ?_
  clear H H'
  intro H
  obtain ⟨ha, hb⟩ := Prod.mk.inj (hr.symm.trans ‹rdU 32 _ 0 0 = _›)
  obtain ⟨hb, hc⟩ := Prod.mk.inj hb
  subst ha
  subst hb
  subst hc
  refine cF (vNe_F (by omega)) ?_
  refine rSubL rfl ((uleb t.length).length) (by omega) (by omega) ?_
  refine bk ?_
  refine cF (vLt_F (by omega)) ?_
  refine rLenStr rfl ?_
  refine rConvU64 (by omega) rfl rfl ?_
  refine cF (vLt_F (by omega)) ?_
  refine rSubH rfl (t.length) (by omega) (by omega) ?_
  refine CallP.mk (Fc.imp (Go.Proofs.YtfhchhkddblmkaaDoor.Leb.validString H ?_ _ ?_) ?_)
  · assumption
  · (simp; omega)
  clear H
  rintro _ w2 ⟨b1, ⟨rfl, ⟨h2, H⟩⟩⟩
  have hz := ‹_ = Lib.validD _›
  rw [hdt, hv] at hz
  subst hz
  refine cF rfl ?_
  refine rSubH rfl (t.length) (by omega) (by omega) ?_
  refine rConvI64 (by omega) rfl rfl ?_
  refine eqI64 (by omega) ?_
  refine Done.mk ?_
  refine ⟨?_, ?_⟩
  · (rw [hdt]; rfl)
  exact H
end
end Go.Proofs.YtfhchhkddblmkaaDoor.Leb
