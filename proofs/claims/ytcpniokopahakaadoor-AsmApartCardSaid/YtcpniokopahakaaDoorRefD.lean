/- The document's InsWidth, beside, InsCheck for a byte that has nothing beside it but a number. -/
import Derived.Test.YtcpniokopahakaaDoorAsmN
set_option maxRecDepth 100000
set_option maxHeartbeats 4000000
set_option linter.unusedVariables false
set_option linter.unusedSimpArgs false
namespace Go.Proofs.YtcpniokopahakaaDoor.RefD
open Go Go.Proofs.YtcpniokopahakaaDoor.Eng Go.RowKit
open Asm
section
variable {g : Glob} {w : World} {l : List As}
theorem bs_list (s : List UInt8) : (bs s).data.toList = s := by unfold bs; simp
theorem contains (H : Sat g w l) (m : Int) (hM : FAt g 2 0 [.int .i64 m]) (s sub : List UInt8) (hs : s.length < 4294967281) : Fc Tryd.prog 152 #[.string (bs s), .string (bs sub)] w (fun v w' => (∃ b, v = .bool b ∧ b = Lib.contains s sub) ∧ w = w') := by
  refine Fc.ofCalls Tryd.func152 rfl (by kernel_rfl) ?_
  refine (Tryd.strings_Contains (bs s) (bs sub) m w (by rw [bs_size]; exact hs) ((H.fat hM).cell (i := 0) rfl)).mono ?_
  rintro e w' ⟨rfl, rfl⟩
  exact ⟨_, rfl, ⟨_, rfl, by rw [bs_list, bs_list]⟩, rfl⟩
theorem chr (n : Int) (hn : 0 ≤ n ∧ n ≤ 255) (w : World) : Fc Tryd.prog 181 #[.int .i64 n] w (fun v w' => (∃ c, v = .string (bs c) ∧ c = [UInt8.ofNat n.toNat]) ∧ Sat (froz w) w' []) := by
  refine Fc.of Tryd.func181 rfl (by kernel_rfl) ?_
  have H := Sat.start w
  refine rConvU8 (by omega) rfl rfl ?_
  refine rBuildSliceS H rfl rfl rfl rfl ?_
  clear H
  intro p1 w1 H
  have hbk1 := byteIs (x := n) (n := (n).toNat) (by omega)
  rw [hbk1] at H
  clear hbk1
  refine H.ptSl (n := 1) (en := enY) (s := 1) 0 rfl [_] rfl rfl (fun _ => rfl) rfl ?_
  clear H
  intro H
  refine rBytesStrS H 0 rfl rfl rfl rfl ?_
  refine Done.mk ?_
  refine ⟨?_, ?_⟩
  · refine ⟨[UInt8.ofNat n.toNat], ?_⟩
    refine ⟨?_, ?_⟩
    · rfl
    rfl
  refine H.firsts 0 ?_
  clear H
  intro H
  exact H
theorem quo10 (a : Nat) (ha : a ≤ 1000) : vQuo .u64 (a : Int) 10 = ((a / 10 : Nat) : Int) := by
  have h : vQuo .u64 (a : Int) 10 = vWrap .u64 ((a : Int).tdiv 10) := by unfold vQuo vWrap; rfl
  rw [h, show ((a : Int).tdiv 10) = ((a / 10 : Nat) : Int) from rfl, wu64 (by omega)]
def dg (n : Nat) : UInt8 := UInt8.ofNat (48 + n)
def digL (n : Nat) : List UInt8 := if n < 10 then [dg (n % 10)] else if n < 100 then [dg (n / 10 % 10), dg (n % 10)] else [dg (n / 100 % 10), dg (n / 10 % 10), dg (n % 10)]
/-- The last k digits of a number, if it has more. -/
def DgI (n u : Nat) (out : List UInt8) : Prop := (u = n ∧ out = []) ∨ (10 ≤ n ∧ u = n / 10 ∧ out = [dg (n % 10)]) ∨ (100 ≤ n ∧ u = n / 100 ∧ out = [dg (n / 10 % 10), dg (n % 10)])
theorem DgI.len {n u : Nat} {out : List UInt8} (h : DgI n u out) : out.length ≤ 2 := by
  rcases h with ⟨_, rfl⟩ | ⟨_, _, rfl⟩ | ⟨_, _, rfl⟩ <;> simp
theorem DgI.le {n u : Nat} {out : List UInt8} (h : DgI n u out) : u ≤ n := by
  rcases h with ⟨h, _⟩ | ⟨_, h, _⟩ | ⟨_, h, _⟩ <;> omega
theorem DgI.step {n u : Nat} {out c : List UInt8} (h : DgI n u out) (hn : n ≤ 999) (hc : c = [UInt8.ofNat (48 + (u : Int) % 10).toNat]) (h0 : u / 10 ≠ 0) : DgI n (u / 10) (c ++ out) := by
  have e : (48 + (u : Int) % 10).toNat = 48 + u % 10 := by omega
  rw [e] at hc
  subst hc
  rcases h with ⟨rfl, rfl⟩ | ⟨h, rfl, rfl⟩ | ⟨h, rfl, rfl⟩
  · exact .inr (.inl ⟨by omega, rfl, rfl⟩)
  · exact .inr (.inr ⟨by omega, by omega, rfl⟩)
  · omega
theorem DgI.fin {n u : Nat} {out c : List UInt8} (h : DgI n u out) (hn : n ≤ 999) (hc : c = [UInt8.ofNat (48 + (u : Int) % 10).toNat]) (h0 : u / 10 = 0) : c ++ out = digL n := by
  have e : (48 + (u : Int) % 10).toNat = 48 + u % 10 := by omega
  rw [e] at hc
  subst hc
  unfold digL
  rcases h with ⟨rfl, rfl⟩ | ⟨h, rfl, rfl⟩ | ⟨h, rfl, rfl⟩
  · rw [if_pos (by omega)]; rfl
  · rw [if_neg (by omega), if_pos (by omega)]; rfl
  · rw [if_neg (by omega), if_neg (by omega)]; rfl
theorem digits (n : Nat) (hn : n ≤ 255) (w : World) : Fc Tryd.prog 153 #[.int .i64 n] w (fun v w' => (∃ c, v = .string (bs c) ∧ c = digL n) ∧ Sat (froz w) w' []) := by
  refine Fc.of Tryd.func153 rfl (by kernel_rfl) ?_
  have H := Sat.start w
  refine rConvU64 (by omega) rfl rfl ?_
  refine cF (vLt_F (by omega)) ?_
  refine LoopP.rule (α := Nat × List UInt8) (n, []) (fun x_ => [(3, .int .u64 x_.1), (5, .string (bs x_.2))]) (fun x_ w_ => (DgI n x_.1 x_.2) ∧ Sat (froz w) w_ ([])) (fun x_ => x_.1) ?_ ?_ ?_
  · repeat first | exact mt_nil | refine mt_cons rfl ?_ | refine mt_i rfl (by first | omega | (simp only; omega) | (simp; omega) | (simp; done)) ?_
  · try simp only
    refine ⟨?_, ?_⟩
    · exact .inl ⟨rfl, rfl⟩
    exact H
  clear H
  rintro ⟨u, out⟩ f_ w_ ⟨hu, H⟩
  try simp only at hu H ⊢
  have hl0 : ([] : List UInt8).length = 0 := rfl
  have hol := hu.len
  have hle := hu.le
  have hq := quo10 u (by omega)
  refine bk ?_
  refine DivP.mk (by decide) ?_
  refine eqRem (by omega) ?_
  refine eqU64 (by omega) ?_
  refine rConvI64 (by omega) rfl rfl ?_
  refine CallP.mk (Fc.imp (Go.Proofs.YtcpniokopahakaaDoor.RefD.chr _ ?_ _) ?_)
  · omega
  rintro _ w1 ⟨⟨c1, ⟨rfl, h1⟩⟩, H'⟩
  refine H.mergeK H' ?_
  clear H H'
  intro H
  have hcl := congrArg List.length h1
  simp only [List.length_singleton] at hcl
  refine rCat (by omega) ?_
  refine DivP.mk (by decide) ?_
  refine EqP.mk _ hq ?_
  refine cI (fun c2 => ?_) (fun c2 => ?_)
  · replace c2 := vEq_t (c2)
    refine rCat (by (simp only [List.length_append, List.length_set, List.length_cons, List.length_nil]; omega)) ?_
    refine Done.mk ?_
    refine ⟨?_, ?_⟩
    · refine ⟨[] ++ (c1 ++ out), ?_⟩
      refine ⟨?_, ?_⟩
      · rfl
      exact hu.fin (by omega) h1 (by omega)
    exact H
  replace c2 := vEq_f (c2)
  refine Nxt.mk ((u / 10, c1 ++ out)) (mt_cons rfl (mt_cons rfl (mt_nil))) ?_ ?_
  · refine ⟨?_, ?_⟩
    · exact hu.step (by omega) h1 (by omega)
    exact H
  omega
def enW (x : Int × List UInt8) : List Value := [.int .i64 x.1, .string (bs x.2)]
def rowsW : List (Int × List UInt8) := [(1, [44, 52, 52, 44, 52, 53, 44, 52, 56, 44, 52, 57, 44, 53, 56, 44, 54, 48, 44]), (2, [44, 52, 54, 44, 52, 55, 44, 53, 48, 44, 53, 49, 44, 53, 57, 44, 54, 49, 44]), (4, [44, 52, 48, 44, 53, 50, 44, 53, 51, 44, 53, 52, 44, 54, 50, 44]), (8, [44, 52, 49, 44, 53, 53, 44])]
def subW (n : Nat) : List UInt8 := [44] ++ digL n ++ [44]
theorem rowsW_len : ∀ x ∈ rowsW, x.2.length ≤ 20 := by decide
/-- How wide: the first row that has the number. -/
def wIn : List (Int × List UInt8) → Nat → Int
  | [], _ => 0
  | r :: q, n => if Lib.contains r.2 (subW n) = true then r.1 else wIn q n
def wR (n : Nat) : Int := wIn rowsW n
theorem digL_len (n : Nat) : (digL n).length ≤ 3 := by
  unfold digL
  repeat' split
  all_goals simp
theorem insWidth (H : Sat g w l) (m : Int) (hM : FAt g 2 0 [.int .i64 m]) (n : Nat) (hn : n ≤ 255) : Fc Tryd.prog 114 #[.int .u8 n] w (fun v w' => ∃ r, v = .int .i64 r ∧ r = wR n ∧ Sat g w' l) := by
  refine Fc.of Tryd.func114 rfl (by kernel_rfl) ?_
  have hl0 : ([] : List UInt8).length = 0 := rfl
  have hl1 : ([44] : List UInt8).length = 1 := rfl
  have hr4 : rowsW.length = 4 := rfl
  refine rBuild rfl rfl rfl ?_
  refine rBuild rfl rfl rfl ?_
  refine rBuild rfl rfl rfl ?_
  refine rBuild rfl rfl rfl ?_
  refine rBuildSliceS H rfl rfl rfl rfl ?_
  clear H
  intro p1 w1 H
  refine rLenSl rfl ?_
  refine H.ptSl (n := 4) (en := enW) (s := 2) 0 rfl rowsW rfl rfl (fun _ => rfl) rfl ?_
  clear H
  intro H
  refine LoopP.rule (α := Nat) (0) (fun x_ => [(11, .int .i64 x_)]) (fun x_ w_ => (x_ ≤ 4) ∧ (wIn (rowsW.drop x_) n = wR n) ∧ Sat g w_ ((Sl 220 2 enW (.slice (some ⟨p1, 0, none⟩) 4 4) rowsW :: l))) (fun x_ => 4 - x_) ?_ ?_ ?_
  · repeat first | exact mt_nil | refine mt_cons rfl ?_ | refine mt_i rfl (by first | omega | (simp only; omega) | (simp; omega) | (simp; done)) ?_
  · try simp only
    refine ⟨?_, ?_⟩
    · omega
    refine ⟨?_, ?_⟩
    · rfl
    exact H
  clear H
  rintro i f_ w_ ⟨hi, hno, H⟩
  try simp only at hi hno H ⊢
  rcases Nat.lt_or_ge i 4 with hlt | hge
  · obtain ⟨x, hx⟩ : ∃ x, rowsW[i]? = some x := ⟨_, List.getElem?_eq_getElem (by rw [hr4]; exact hlt)⟩
    have hx20 := rowsW_len x (List.mem_of_getElem? hx)
    have hd : rowsW.drop i = x :: rowsW.drop (i + 1) := by
      have h := (List.getElem?_eq_some_iff.1 hx)
      rw [List.drop_eq_getElem_cons h.1, h.2]
    rw [hd, wIn] at hno
    have hdl := digL_len n
    refine cT (vLt_T (by omega)) ?_
    refine bk ?_
    obtain ⟨b1, o1, E1⟩ := H.elt 0 rfl (i) (by omega)
    refine rIxE E1 rfl rfl rfl ?_
    refine rLdA (H.el 0 rfl E1 hx) 0 rfl rfl rfl ?_
    refine rAllocS H rfl ?_
    clear H
    intro p2 w2 H
    clear w_
    refine rStAS H 0 rfl rfl rfl rfl ?_
    clear H
    intro w3 H
    clear w2
    refine drawzS H [] [(0, .pure), (1, .held), (2, .pure), (3, .pure), (4, .forced), (5, .pure), (6, .pure), (7, .free)] mixed (by kernel_rfl) (by kernel_rfl) ?_
    clear H
    intro w2 H
    clear w3
    refine tk (fun wx HS => rFieldAt rfl ⟨rfl, rfl⟩) ?_
    refine tk (fun wx HS => rLd (HS.at 0 rfl) 1 rfl rfl rfl ⟨rfl, rfl⟩) ?_
    refine tk (fun wx HS => rConvI64 (by omega) rfl rfl ⟨rfl, rfl⟩) ?_
    refine CallP.mk (Fc.imp (Go.Proofs.YtcpniokopahakaaDoor.RefD.digits (n) ?_ _) ?_)
    · assumption
    rintro _ w3 ⟨⟨c1, ⟨rfl, h1⟩⟩, H'⟩
    refine H.mergeK H' ?_
    clear H H'
    intro H
    have hcl := congrArg List.length ‹_ = digL n›
    refine KeepP.mk (H) ?_
    refine tk (fun wx HS => rCat (by omega) ⟨rfl, rfl⟩) ?_
    refine tk (fun wx HS => rCat (by (simp only [List.length_append, List.length_set, List.length_cons, List.length_nil]; omega)) ⟨rfl, rfl⟩) ?_
    refine CallP.mk (Fc.imp (Go.Proofs.YtcpniokopahakaaDoor.RefD.contains H _ hM _ _ ?_) ?_)
    · omega
    rintro _ _ ⟨⟨b2, ⟨rfl, h2⟩⟩, rfl⟩
    refine cI (fun c2 => ?_) (fun c2 => ?_)
    · refine rFieldAt rfl ?_
      refine rLd (H.at 0 rfl) 0 rfl rfl rfl ?_
      refine Done.mk ?_
      refine ⟨x.fst, ?_⟩
      refine ⟨?_, ?_⟩
      · refine int_eq ?_
        omega
      refine ⟨?_, ?_⟩
      · (rw [← hno, if_pos (by rw [subW, ← h1, ← h2, c2])])
      refine H.drop 1 ?_
      clear H
      intro H
      refine H.drop 0 ?_
      clear H
      intro H
      exact H
    refine eqI64 (by omega) ?_
    refine Nxt.mk (i + 1) (mt_i rfl (by first | omega | (simp only; omega) | (simp; omega)) (mt_nil)) ?_ ?_
    · refine ⟨?_, ?_⟩
      · assumption
      refine ⟨?_, ?_⟩
      · (rw [← hno, if_neg (by rw [subW, ← h1, ← h2, c2]; exact Bool.false_ne_true)])
      refine H.fronts [1] ?_
      clear H
      intro H
      refine H.drop 1 ?_
      clear H
      intro H
      exact H
    omega
  · obtain rfl : i = 4 := by omega
    refine cF (vLt_F (by omega)) ?_
    refine Done.mk ?_
    refine ⟨0, ?_⟩
    refine ⟨?_, ?_⟩
    · refine int_eq ?_
      omega
    refine ⟨?_, ?_⟩
    · exact hno
    refine H.drop 0 ?_
    clear H
    intro H
    exact H
end
end Go.Proofs.YtcpniokopahakaaDoor.RefD
