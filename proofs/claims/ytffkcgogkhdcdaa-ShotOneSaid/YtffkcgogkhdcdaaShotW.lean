/- Package shot: the writer. -/
import Derived.Test.YtffkcgogkhdcdaaShotS
import Derived.Test.YtffkcgogkhdcdaaLebRs
import Derived.Test.YtffkcgogkhdcdaaExt
set_option maxRecDepth 100000
set_option maxHeartbeats 4000000
set_option linter.unusedVariables false
set_option linter.unusedSimpArgs false
namespace Go.Proofs.Ytffkcgogkhdcdaa.Shot
open Go Go.Proofs.Ytffkcgogkhdcdaa.Eng Go.RowKit
open Leb Txt
def enI (n : Int) : List Value := [.int .i64 n]
def okI (n : Int) : Prop := I64 n
/-- A step of a writer: what must hold, what it writes; the first thing that is wrong stays. -/
structure WS (P : Prop) (T : List UInt8) (K : Nat) (o : List UInt8) (b : Int) (o' : List UInt8) (b' : Int) : Prop where
  ok : b' = 0 ↔ b = 0 ∧ P
  txt : b' = 0 → o' = o ++ T
  bad : b' = b ∨ b' = 1 ∨ b' = 2
  len : o'.length ≤ o.length + K
theorem WS.trans {P Q : Prop} {T U o o1 o2 : List UInt8} {K L : Nat} {b b1 b2 : Int} (h : WS P T K o b o1 b1) (h' : WS Q U L o1 b1 o2 b2) : WS (P ∧ Q) (T ++ U) (K + L) o b o2 b2 := by
  refine ⟨?_, fun hb => ?_, ?_, ?_⟩
  · rw [h'.ok, h.ok, and_assoc]
  · rw [h'.txt hb, h.txt (h'.ok.1 hb).1, List.append_assoc]
  · rcases h'.bad with e | e | e
    · rw [e]; exact h.bad
    · exact .inr (.inl e)
    · exact .inr (.inr e)
  · have := h.len; have := h'.len; omega
theorem WS.cg {P Q : Prop} {T U o o1 : List UInt8} {K L : Nat} {b b1 : Int} (h : WS P T K o b o1 b1) (hp : P ↔ Q) (ht : Q → T = U) (hk : K ≤ L) : WS Q U L o b o1 b1 :=
  ⟨by rw [h.ok, hp], fun hb => by rw [h.txt hb, ht (hp.1 (h.ok.1 hb).2)], h.bad, by have := h.len; omega⟩
theorem WS.stop {P Q : Prop} {T U o o1 : List UInt8} {K L : Nat} {b b1 : Int} (h : WS P T K o b o1 b1) (hc : b1 ≠ 0) (hq : Q → P) (hk : K ≤ L) : WS Q U L o b o1 b1 :=
  ⟨⟨fun e => absurd e hc, fun e => absurd (h.ok.2 ⟨e.1, hq e.2⟩) hc⟩, fun e => absurd e hc, h.bad, by have := h.len; omega⟩
theorem flat_takeS {α : Type} {f : α → List UInt8} {l : List α} {k : Nat} {x : α} (hx : l[k]? = some x) : (l.take (k + 1)).flatMap f = (l.take k).flatMap f ++ f x := by
  rw [List.take_add_one, hx, List.flatMap_append]; simp
theorem WS.zero (o : List UInt8) (b : Int) : WS True [] 0 o b o b := ⟨by simp, fun _ => by simp, .inl rfl, by simp⟩
theorem WS.app (o t : List UInt8) (b : Int) {K : Nat} (h : t.length ≤ K) : WS True t K o b (o ++ t) b := ⟨by simp, fun _ => rfl, .inl rfl, by simp; omega⟩
section
variable {g : Glob} {w : World} {l : List As} {p : Nat} {v : Value} {b : Int} {o : List UInt8}
theorem fail (H : Sat g w (Pt p [v, .int .i64 b] 90 :: l)) (is : Bool) (e : Int) (he : e = 1 ∨ e = 2) : Fc Try.prog 39 #[.pointer (some ⟨p, 0, none⟩), .bool is, .int .i64 e] w (fun _ w' => ∃ c, (∀ o, WS (is = false) [] 0 o b o c) ∧ Sat g w' (Pt p [v, .int .i64 c] 90 :: l)) := by
  refine Fc.of Try.func39 rfl (by kernel_rfl) ?_
  cases is
  · refine cF rfl ?_
    refine Done.mk ?_
    refine ⟨b, ?_⟩
    refine ⟨?_, ?_⟩
    · exact fun o => ⟨by simp, fun _ => by simp, .inl rfl, by simp⟩
    exact H
  · by_cases hb : b = 0
    · refine rFieldAt rfl ?_
      refine rLd (H.at 0 rfl) 1 rfl rfl rfl ?_
      refine cT (vEq_T (by assumption)) ?_
      refine rFieldAt rfl ?_
      refine rStS H 0 rfl rfl rfl rfl ?_
      clear H
      intro w1 H
      refine Done.mk ?_
      refine ⟨e, ?_⟩
      refine ⟨?_, ?_⟩
      · exact fun o => ⟨by simp; omega, fun h => by omega, by omega, by simp⟩
      exact H
    · refine rFieldAt rfl ?_
      refine rLd (H.at 0 rfl) 1 rfl rfl rfl ?_
      refine cF (vEq_F (by assumption)) ?_
      refine Done.mk ?_
      refine ⟨b, ?_⟩
      refine ⟨?_, ?_⟩
      · exact fun o => ⟨by simp [hb], fun h => by omega, by omega, by simp⟩
      exact H
theorem count (H : Sat g w (Pt p [v, .int .i64 b] 90 :: Sl 5 1 enY v o :: l)) (n m : Nat) (hn : n < 2 ^ 63) (ho : o.length ≤ 1000000) : Fc Try.prog 40 #[.pointer (some ⟨p, 0, none⟩), .int .i64 n, .int .i64 m] w
    (fun _ w' => ∃ (c : Int) (u : Value) (q : List UInt8), WS (n ≤ m) (uleb n) 10 o b q c ∧ Sat g w' (Pt p [u, .int .i64 c] 90 :: Sl 5 1 enY u q :: l)) := by
  refine Fc.of Try.func40 rfl (by kernel_rfl) ?_
  refine CallP.mk (Fc.imp (Go.Proofs.Ytffkcgogkhdcdaa.Shot.fail H _ _ ?_) ?_)
  · omega
  clear H
  rintro v' w1 ⟨c1, ⟨h1, H⟩⟩
  refine drawzS H [] [(0, .pure), (1, .pure), (2, .pure), (3, .pure), (4, .held), (5, .pure), (6, .pure), (7, .forced), (8, .free), (9, .pure), (10, .pure), (11, .free)] mixed (by kernel_rfl) (by kernel_rfl) ?_
  clear H
  intro w2 H
  clear w1
  refine tk (fun wx HS => rFieldAt rfl ⟨rfl, rfl⟩) ?_
  refine tk (fun wx HS => rLd (HS.at 0 rfl) 0 rfl rfl rfl ⟨rfl, rfl⟩) ?_
  refine tk (fun wx HS => rConvU64 (by omega) rfl rfl ⟨rfl, rfl⟩) ?_
  refine CallP.mk (Fc.imp (Go.Proofs.Ytffkcgogkhdcdaa.Leb.U _ (n) ?_ ?_ _) ?_)
  · omega
  · omega
  rintro _ w1 ⟨l1, ⟨rfl, ⟨h2, ⟨h3, H'⟩⟩⟩⟩
  refine H.mergeK H' ?_
  clear H H'
  intro H
  refine KeepP.mk (H) ?_
  refine rApStr H 1 rfl rfl rfl rfl (by omega) ?_
  intro v1
  clear H
  intro w3 H
  clear w1
  refine tk (fun wx HS => rFieldAt rfl ⟨rfl, rfl⟩) ?_
  refine rStS H 0 rfl rfl rfl (H.one 1 rfl) ?_
  clear H
  intro w1 H
  clear w3
  refine Done.mk ?_
  refine ⟨c1, v1, o ++ l1, ?_⟩
  refine ⟨?_, ?_⟩
  · exact ((h1 o).trans (WS.app o l1 c1 h3)).cg (by rw [← Bool.not_eq_true, vLt_iff]; simp) (fun _ => by rw [h2]; rfl) (by omega)
  exact H
theorem plain (H : Sat g w (Pt p [v, .int .i64 b] 90 :: Sl 5 1 enY v o :: l)) (n : Int) (hn : I64 n) (ho : o.length ≤ 1000000) : Fc Try.prog 43 #[.pointer (some ⟨p, 0, none⟩), .int .i64 n] w
    (fun _ w' => ∃ (c : Int) (u : Value) (q : List UInt8), WS (isN n) (uleb n.toNat) 10 o b q c ∧ Sat g w' (Pt p [u, .int .i64 c] 90 :: Sl 5 1 enY u q :: l)) := by
  refine Fc.of Try.func43 rfl (by kernel_rfl) ?_
  by_cases h0 : 0 ≤ n
  · refine br_f (vLt_F (by assumption)) ?_
    refine CallP.mk (Fc.imp (Go.Proofs.Ytffkcgogkhdcdaa.Shot.fail H _ _ ?_) ?_)
    · omega
    clear H
    rintro v' w1 ⟨c1, ⟨h1, H⟩⟩
    refine drawzS H [] [(0, .pure), (1, .pure), (2, .pure), (3, .pure), (4, .held), (5, .pure), (6, .pure), (7, .forced), (8, .free), (9, .pure), (10, .pure), (11, .free)] mixed (by kernel_rfl) (by kernel_rfl) ?_
    clear H
    intro w2 H
    clear w1
    refine tk (fun wx HS => rFieldAt rfl ⟨rfl, rfl⟩) ?_
    refine tk (fun wx HS => rLd (HS.at 0 rfl) 0 rfl rfl rfl ⟨rfl, rfl⟩) ?_
    refine tk (fun wx HS => rConvU64 (by omega) rfl rfl ⟨rfl, rfl⟩) ?_
    refine CallP.mk (Fc.imp (Go.Proofs.Ytffkcgogkhdcdaa.Leb.U _ (n.toNat) ?_ ?_ _) ?_)
    · omega
    · omega
    rintro _ w1 ⟨l1, ⟨rfl, ⟨h2, ⟨h3, H'⟩⟩⟩⟩
    refine H.mergeK H' ?_
    clear H H'
    intro H
    refine KeepP.mk (H) ?_
    refine rApStr H 1 rfl rfl rfl rfl (by omega) ?_
    intro v1
    clear H
    intro w3 H
    clear w1
    refine tk (fun wx HS => rFieldAt rfl ⟨rfl, rfl⟩) ?_
    refine rStS H 0 rfl rfl rfl (H.one 1 rfl) ?_
    clear H
    intro w1 H
    clear w3
    refine Done.mk ?_
    refine ⟨c1, v1, o ++ l1, ?_⟩
    refine ⟨?_, ?_⟩
    · exact ((h1 o).trans (WS.app o l1 c1 h3)).cg (by unfold isN; rw [← Bool.not_eq_true, vLt_iff]; simp; omega) (fun _ => by rw [h2]; rfl) (by omega)
    exact H
  · have hnn : ¬ isN n := fun h => h0 h.1
    refine br_t (vLt_T (by omega)) ?_
    refine CallP.mk (Fc.imp (Go.Proofs.Ytffkcgogkhdcdaa.Shot.fail H _ _ ?_) ?_)
    · omega
    clear H
    rintro v' w1 ⟨c1, ⟨h1, H⟩⟩
    refine drawzS H [] [(0, .pure), (1, .pure), (2, .pure), (3, .pure), (4, .held), (5, .pure), (6, .pure), (7, .forced), (8, .free), (9, .pure), (10, .pure), (11, .free)] mixed (by kernel_rfl) (by kernel_rfl) ?_
    clear H
    intro w2 H
    clear w1
    refine tk (fun wx HS => rFieldAt rfl ⟨rfl, rfl⟩) ?_
    refine tk (fun wx HS => rLd (HS.at 0 rfl) 0 rfl rfl rfl ⟨rfl, rfl⟩) ?_
    refine tk (fun wx HS => rConvU64M rfl rfl ⟨rfl, rfl⟩) ?_
    refine CallP.mk (Fc.imp (Go.Proofs.Ytffkcgogkhdcdaa.Leb.U _ ((n % 18446744073709551616).toNat) ?_ ?_ _) ?_)
    · omega
    · omega
    rintro _ w1 ⟨l1, ⟨rfl, ⟨h2, ⟨h3, H'⟩⟩⟩⟩
    refine H.mergeK H' ?_
    clear H H'
    intro H
    refine KeepP.mk (H) ?_
    refine rApStr H 1 rfl rfl rfl rfl (by omega) ?_
    intro v1
    clear H
    intro w3 H
    clear w1
    refine tk (fun wx HS => rFieldAt rfl ⟨rfl, rfl⟩) ?_
    refine rStS H 0 rfl rfl rfl (H.one 1 rfl) ?_
    clear H
    intro w1 H
    clear w3
    refine Done.mk ?_
    refine ⟨c1, v1, o ++ l1, ?_⟩
    refine ⟨?_, ?_⟩
    · exact ((h1 o).trans (WS.app o l1 c1 h3)).cg (by simp [hnn]) (fun h => absurd h hnn) (by omega)
    exact H
theorem signed (H : Sat g w (Pt p [v, .int .i64 b] 90 :: Sl 5 1 enY v o :: l)) (n : Int) (hn : I64 n) (ho : o.length ≤ 1000000) : Fc Try.prog 41 #[.pointer (some ⟨p, 0, none⟩), .int .i64 n] w
    (fun _ w' => ∃ (u : Value) (q : List UInt8), WS True (sleb n) 10 o b q b ∧ Sat g w' (Pt p [u, .int .i64 b] 90 :: Sl 5 1 enY u q :: l)) := by
  refine Fc.of Try.func41 rfl (by kernel_rfl) ?_
  refine drawzS H [] [(0, .pure), (1, .pure), (2, .pure), (3, .pure), (4, .held), (5, .pure), (6, .forced), (7, .free), (8, .pure), (9, .pure), (10, .free)] mixed (by kernel_rfl) (by kernel_rfl) ?_
  clear H
  intro w1 H
  refine tk (fun wx HS => rFieldAt rfl ⟨rfl, rfl⟩) ?_
  refine tk (fun wx HS => rLd (HS.at 0 rfl) 0 rfl rfl rfl ⟨rfl, rfl⟩) ?_
  refine CallP.mk (Fc.imp (Go.Proofs.Ytffkcgogkhdcdaa.Leb.S _ ?_ _) ?_)
  · assumption
  rintro _ w2 ⟨l1, ⟨rfl, ⟨h1, ⟨h2, H'⟩⟩⟩⟩
  refine H.mergeK H' ?_
  clear H H'
  intro H
  refine KeepP.mk (H) ?_
  refine rApStr H 1 rfl rfl rfl rfl (by omega) ?_
  intro v1
  clear H
  intro w3 H
  clear w2
  refine tk (fun wx HS => rFieldAt rfl ⟨rfl, rfl⟩) ?_
  refine rStS H 0 rfl rfl rfl (H.one 1 rfl) ?_
  clear H
  intro w2 H
  clear w3
  refine Done.mk ?_
  refine ⟨v1, o ++ l1, ?_⟩
  refine ⟨?_, ?_⟩
  · exact (WS.app o l1 b h2).cg (by simp) (fun _ => h1) (by omega)
  exact H
theorem values (H : Sat g w (Pt p [v, .int .i64 b] 90 :: Sl 5 1 enY v o :: l)) (a : Value) (xs : List Int) (hx : FSl g enI okI 1 a xs) (m : Nat) (hm : m ≤ 300) (ho : o.length ≤ 900000) : Fc Try.prog 42 #[.pointer (some ⟨p, 0, none⟩), a, .int .i64 m] w
    (fun _ w' => ∃ (c : Int) (u : Value) (q : List UInt8), WS (xs.length ≤ m) (listT sleb xs) (10 + 10 * m) o b q c ∧ Sat g w' (Pt p [u, .int .i64 c] 90 :: Sl 5 1 enY u q :: l)) := by
  refine Fc.of Try.func42 rfl (by kernel_rfl) ?_
  have hxl := hx.len
  refine rLenF hx rfl ?_
  refine CallP.mk (Fc.imp (Go.Proofs.Ytffkcgogkhdcdaa.Shot.count H (xs.length) (m) ?_ ?_) ?_)
  · omega
  · omega
  clear H
  rintro v' w1 ⟨c1, ⟨u1, ⟨q1, ⟨h1, H⟩⟩⟩⟩
  refine rFieldAt rfl ?_
  refine rLd (H.at 0 rfl) 1 rfl rfl rfl ?_
  refine cI (fun c2 => ?_) (fun c2 => ?_)
  · replace c2 := vNe_t (c2)
    refine Done.mk ?_
    refine ⟨c1, u1, q1, ?_⟩
    refine ⟨?_, ?_⟩
    · exact h1.stop (by assumption) id (by omega)
    exact H
  replace c2 := vNe_f (c2)
  refine rLenF hx rfl ?_
  have hle : xs.length ≤ m := (h1.ok.1 (by assumption)).2
  refine LoopP.rule (α := Nat × List UInt8 × Value) (0, q1, u1) (fun x_ => [(20, .int .i64 x_.1)]) (fun x_ w_ => (x_.1 ≤ xs.length) ∧ (WS True ((xs.take x_.1).flatMap sleb) (10 * x_.1) q1 c1 x_.2.1 c1) ∧ Sat g w_ ((Pt p [x_.2.2, .int .i64 c1] 90 :: Sl 5 1 enY x_.2.2 x_.2.1 :: l))) (fun x_ => xs.length - x_.1) ?_ ?_ ?_
  · repeat first | exact mt_nil | refine mt_cons rfl ?_ | refine mt_i rfl (by first | omega | (simp only; omega) | (simp; omega) | (simp; done)) ?_
  · try simp only
    refine ⟨?_, ?_⟩
    · omega
    refine ⟨?_, ?_⟩
    · exact WS.zero _ _
    exact H
  clear H
  rintro ⟨k, o2, u2⟩ f_ w_ ⟨hk, hW, H⟩
  try simp only at hk hW H ⊢
  have hql := h1.len
  have hol := hW.len
  rcases Nat.lt_or_ge k xs.length with hlt | hge
  · obtain ⟨n, hn⟩ : ∃ n, xs[k]? = some n := ⟨_, List.getElem?_eq_getElem hlt⟩
    have hnb : I64 n := FSl.all hx n (List.mem_of_getElem? hn)
    refine cT (vLt_T (by omega)) ?_
    refine bk ?_
    obtain ⟨b1, o1, E1, F1, hok1⟩ := FSl.elt hx hn
    refine rIxE E1 rfl rfl rfl ?_
    refine rLd (H.fat F1) 0 rfl rfl rfl ?_
    refine CallP.mk (Fc.imp (Go.Proofs.Ytffkcgogkhdcdaa.Shot.signed H _ ?_ ?_) ?_)
    · assumption
    · omega
    clear H
    rintro va' w2 ⟨u3, ⟨q2, ⟨h2, H⟩⟩⟩
    refine eqI64 (by omega) ?_
    refine Nxt.mk ((k + 1, q2, u3)) (mt_i rfl (by first | omega | (simp only; omega) | (simp; omega)) (mt_nil)) ?_ ?_
    · refine ⟨?_, ?_⟩
      · assumption
      refine ⟨?_, ?_⟩
      · exact (hW.trans h2).cg (by simp) (fun _ => (flat_takeS hn).symm) (by omega)
      exact H
    omega
  · rw [List.take_of_length_le hge] at hW
    refine cF (vLt_F (by omega)) ?_
    refine Done.mk ?_
    refine ⟨c1, u2, o2, ?_⟩
    refine ⟨?_, ?_⟩
    · exact (h1.trans hW).cg (by simp) (fun _ => rfl) (by omega)
    exact H
end
end Go.Proofs.Ytffkcgogkhdcdaa.Shot
