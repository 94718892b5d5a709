/- The walk of AsmApart. -/
import Derived.Test.YtcpniokopahakaaDoorRefE
set_option maxRecDepth 100000
set_option maxHeartbeats 4000000
set_option linter.unusedVariables false
set_option linter.unusedSimpArgs false
namespace Go.Proofs.YtcpniokopahakaaDoor.Asm
open Go Go.Proofs.YtcpniokopahakaaDoor.Eng Go.RowKit
open RefD
theorem known1 {n : Nat} (hn : n ≤ 255) {s : List UInt8} {b : Bool} (h : (s, b) = nameR n) : (b = true ↔ s ≠ []) ∧ (b = true ↔ besideL n ≠ [63]) := by
  obtain ⟨h1, h2⟩ := known n (by omega)
  rw [← h] at h1 h2
  simp only at h1 h2
  exact ⟨by rw [h2]; simp, by rw [h1]; simp⟩
theorem inj1 {a b : Nat} (ha : a ≤ 255) (hb : b ≤ 255) {s t : List UInt8} {u v : Bool} (h1 : (s, u) = nameR a) (h2 : (t, v) = nameR b) (hu : u = true) (hv : v = true) : s = t ↔ a = b := by
  subst hu
  subst hv
  refine ⟨fun h => name_inj ha hb (by rw [← h1]) (by rw [← h2]) (by rw [← h1, ← h2]; exact h), fun h => ?_⟩
  subst h
  rw [← h2] at h1
  injection h1
theorem end1 {s : List UInt8} {b : Bool} (h : (s, b) = nameR 11) : b = true := by
  have := end_known
  rw [← h] at this
  exact this
theorem cl1 {n : Nat} (hn : n ≤ 255) {s : List UInt8} {b : Bool} {e : Int} (h : (s, b) = nameR n) (he : e = 6 ↔ besideL n = [63]) : Value.bool (b == vNe e 6) = Value.bool true := by
  have h2 := (known1 hn h).2
  have : b = vNe e 6 := by
    rw [Bool.eq_iff_iff, h2, vNe_iff]
    simp [he]
  rw [this]; simp
theorem cl2 {n : Nat} (hn : n ≤ 255) {s : List UInt8} {b : Bool} (h : (s, b) = nameR n) (c : (b == !decide (s = [])) = false) {P : Prop} : P := by
  have h2 := (known1 hn h).1
  have : b = !decide (s = []) := by
    rw [Bool.eq_iff_iff, h2]; simp
  rw [this] at c
  simp at c
theorem cl3 {a b : Nat} (ha : a ≤ 255) (hb : b ≤ 255) {s t : List UInt8} {u v : Bool} (h1 : (s, u) = nameR a) (h2 : (t, v) = nameR b) (hu : u = true) (hv : v = true) (c : (decide (s = t) == vEq a b) = false) {P : Prop} : P := by
  have h := inj1 ha hb h1 h2 hu hv
  have : decide (s = t) = vEq a b := by
    rw [Bool.eq_iff_iff, vEq_iff, decide_eq_true_eq, h]
    simp only [decide_eq_true_eq]
    omega
  rw [this] at c
  simp at c
theorem cl4 {s : List UInt8} {b : Bool} (h : (s, b) = nameR 11) (c : b = false) {P : Prop} : P := by
  rw [end1 h] at c; cases c
theorem asmApart (w : World) (a b : Int) (ha : 0 ≤ a ∧ a ≤ 255) (hb : 0 ≤ b ∧ b ≤ 255) (m : Int) (hM : FAt (froz w) 2 0 [.int .i64 m]) : Fc Tryd.prog 3 #[.int .u8 a, .int .u8 b] w (fun v w' => v = .bool true ∧ Below w.heap.size w w') := by
  obtain ⟨x, rfl⟩ : ∃ x : Nat, a = x := ⟨a.toNat, by omega⟩
  obtain ⟨y, rfl⟩ : ∃ y : Nat, b = y := ⟨b.toNat, by omega⟩
  refine Fc.of Tryd.func3 rfl (by kernel_rfl) ?_
  have H := Sat.start w
  refine CallP.mk (Fc.imp (Go.Proofs.YtcpniokopahakaaDoor.Asm.name H _ hM (x) ?_) ?_)
  · omega
  clear H
  rintro _ w1 ⟨s1, ⟨b1, ⟨rfl, ⟨h1, H⟩⟩⟩⟩
  refine CallP.mk (Fc.imp (Go.Proofs.YtcpniokopahakaaDoor.Asm.name H _ hM (y) ?_) ?_)
  · omega
  clear H
  rintro _ w2 ⟨s2, ⟨b2, ⟨rfl, ⟨h2, H⟩⟩⟩⟩
  refine CallP.mk (Fc.imp (Go.Proofs.YtcpniokopahakaaDoor.Asm.name H _ hM (11) ?_) ?_)
  · omega
  clear H
  rintro _ w3 ⟨s3, ⟨b3, ⟨rfl, ⟨h3, H⟩⟩⟩⟩
  refine br (fun c1 => ?_) (fun c1 => ?_)
  · refine br (fun c2 => ?_) (fun c2 => ?_)
    · replace c2 := not_t (c2)
      refine rStrNe ?_
      refine rBoolEq rfl ?_
      refine br (fun c3 => ?_) (fun c3 => ?_)
      · refine rBuild rfl rfl rfl ?_
        refine CallP.mk (Fc.imp (Go.Proofs.YtcpniokopahakaaDoor.RefD.insCheck H _ hM (x) ?_) ?_)
        · omega
        clear H
        rintro _ w4 ⟨⟨e1, ⟨rfl, h4⟩⟩, H⟩
        refine rBoolEq rfl ?_
        refine Done.mk ?_
        refine ⟨?_, ?_⟩
        · exact cl1 (by omega) h1 (by assumption)
        exact H.finish
      refine Done.mk ?_
      exact cl2 (by omega) h1 (by assumption)
    replace c2 := not_f (c2)
    refine br (fun c3 => ?_) (fun c3 => ?_)
    · replace c3 := not_t (c3)
      refine rStrNe ?_
      refine rBoolEq rfl ?_
      refine br (fun c4 => ?_) (fun c4 => ?_)
      · refine rBuild rfl rfl rfl ?_
        refine CallP.mk (Fc.imp (Go.Proofs.YtcpniokopahakaaDoor.RefD.insCheck H _ hM (x) ?_) ?_)
        · omega
        clear H
        rintro _ w4 ⟨⟨e1, ⟨rfl, h4⟩⟩, H⟩
        refine rBoolEq rfl ?_
        refine Done.mk ?_
        refine ⟨?_, ?_⟩
        · exact cl1 (by omega) h1 (by assumption)
        exact H.finish
      refine Done.mk ?_
      exact cl2 (by omega) h1 (by assumption)
    replace c3 := not_f (c3)
    refine rStrEq ?_
    refine rBoolEq rfl ?_
    refine br (fun c4 => ?_) (fun c4 => ?_)
    · refine rStrNe ?_
      refine rBoolEq rfl ?_
      refine br (fun c5 => ?_) (fun c5 => ?_)
      · refine rBuild rfl rfl rfl ?_
        refine CallP.mk (Fc.imp (Go.Proofs.YtcpniokopahakaaDoor.RefD.insCheck H _ hM (x) ?_) ?_)
        · omega
        clear H
        rintro _ w4 ⟨⟨e1, ⟨rfl, h4⟩⟩, H⟩
        refine rBoolEq rfl ?_
        refine Done.mk ?_
        refine ⟨?_, ?_⟩
        · exact cl1 (by omega) h1 (by assumption)
        exact H.finish
      refine Done.mk ?_
      exact cl2 (by omega) h1 (by assumption)
    refine Done.mk ?_
    exact cl3 (by omega) (by omega) h1 h2 (by assumption) (by assumption) (by assumption)
  refine Done.mk ?_
  exact cl4 h3 (by assumption)
end Go.Proofs.YtcpniokopahakaaDoor.Asm
