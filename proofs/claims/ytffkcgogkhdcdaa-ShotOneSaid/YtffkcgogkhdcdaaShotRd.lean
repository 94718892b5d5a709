/- Package shot: Read. -/
import Derived.Test.YtffkcgogkhdcdaaShotR
set_option maxRecDepth 100000
set_option maxHeartbeats 4000000
set_option linter.unusedVariables false
set_option linter.unusedSimpArgs false
namespace Go.Proofs.Ytffkcgogkhdcdaa.Shot
open Go Go.Proofs.Ytffkcgogkhdcdaa.Eng Go.RowKit
open Leb Txt
theorem rdd_call {s : List UInt8} {k k1 k2 k3 k4 : Nat} {b b1 b2 b3 b4 : Int} {f a : Int} {l1 l2 : List Int} (h1 : plainR s ⟨k, b⟩ = (f, ⟨k1, b1⟩)) (h2 : plainR s ⟨k1, b1⟩ = (a, ⟨k2, b2⟩)) (h3 : Rdd (listR 20 (signedR 64) s ⟨k2, b2⟩) l1 k3 b3) (h4 : Rdd (listR 200 (signedR 64) s ⟨k3, b3⟩) l2 k4 b4) : Rdd (callR s ⟨k, b⟩) ⟨f, a, l1, l2⟩ k4 b4 :=
  Rdd.bind (Rdd.of h1) (Rdd.bind (Rdd.of h2) (Rdd.bind h3 (Rdd.bind (q := fun s => retR (⟨f, a, l1, s⟩ : CallD)) h4 (Rdd.ret _ _ _ _) fun _ => .ret _) fun _ => .bind (.list _ (.signed _)) fun _ => .ret _) fun _ => .bind (.list _ (.signed _)) fun _ => .bind (.list _ (.signed _)) fun _ => .ret _) fun _ => .bind .plain fun _ => .bind (.list _ (.signed _)) fun _ => .bind (.list _ (.signed _)) fun _ => .ret _
theorem takeR_bad {n : Nat} {s : List UInt8} {k : Nat} {b : Int} (h : b ≠ 0) : takeR n s ⟨k, b⟩ = ([], ⟨k, b⟩) := by unfold takeR; rw [if_pos h]
theorem takeR_short {n : Nat} {s : List UInt8} {k : Nat} (h : s.length - k < n) : takeR n s ⟨k, 0⟩ = ([], ⟨k, 3⟩) := by unfold takeR; rw [if_neg (by simp), if_pos h]
theorem takeR_get {n : Nat} {s : List UInt8} {k : Nat} (h : n ≤ s.length - k) : takeR n s ⟨k, 0⟩ = ((s.drop k).take n, ⟨k + n, 0⟩) := by unfold takeR; rw [if_neg (by simp), if_neg (by simp only; omega)]
theorem bind_at {α β : Type} {p : Rdr α} {q : α → Rdr β} {s : List UInt8} {r r' : RS} {x : α} (h : p s r = (x, r')) : bindR p q s r = q x s r' := by
  show q (p s r).1 s (p s r).2 = _
  rw [h]
theorem bind_bad {α β : Type} {p : Rdr α} {q : α → Rdr β} {s : List UInt8} {r r' : RS} (h : (p s r).2 = r') (hb : r'.bad ≠ 0) (hs : ∀ v, Strict (q v)) : (bindR p q s r).2 = r' := by
  show (q (p s r).1 s (p s r).2).2 = _
  rw [h, hs _ s _ hb]
theorem strictT (m : List UInt8) : Strict (bindR (listR 16 (signedR 32)) fun t => bindR (listR 8 (signedR 64)) fun g => bindR plainR fun h => bindR (listR 40 callR) fun c => retR (⟨m, t, g, h, c⟩ : ShotD)) :=
  .bind (.list _ (.signed _)) fun _ => .bind (.list _ (.signed _)) fun _ => .bind .plain fun _ => strictShot _ _ _ _
theorem errR_short {s : List UInt8} {n k : Nat} (h : countR 2048 s ⟨0, 0⟩ = (n, ⟨k, 0⟩)) (hk : s.length - k < n) : errR s = 3 := by
  have h1 : (shotR s ⟨0, 0⟩).2 = ⟨k, 3⟩ := by
    unfold shotR
    rw [bind_at h]
    exact bind_bad (r' := ⟨k, 3⟩) (by rw [takeR_short hk]) (fun h => absurd (show (3 : Int) = 0 from h) (by decide)) fun v => strictT v
  unfold errR
  rw [if_pos (by rw [h1]; exact fun h => absurd (show (3 : Int) = 0 from h) (by decide)), h1]
theorem rdd_take {n k : Nat} {b : Int} {s : List UInt8} (h : n ≤ s.length - k) (h0 : b ≠ 0 → n = 0) : Rdd (takeR n s ⟨k, b⟩) ((s.drop k).take n) (k + n) b := by
  by_cases hb : b = 0
  · subst hb; exact Rdd.of (takeR_get h)
  · obtain rfl := h0 hb
    exact Rdd.of (takeR_bad hb)
theorem all_snocV {α : Type} {p : α → Prop} {l : List α} {x : α} (h : ∀ n ∈ l, p n) (hx : p x) : ∀ n ∈ l ++ [x], p n := fun n hn => by
  rcases List.mem_append.1 hn with h1 | h1
  · exact h n h1
  · rw [List.mem_singleton.1 h1]; exact hx
theorem errR_bad {s : List UInt8} {D : ShotD} {k : Nat} {b : Int} (h : Rdd (shotR s ⟨0, 0⟩) D k b) (hb : b ≠ 0) : errR s = b := by
  obtain ⟨h1, h2⟩ := h
  unfold errR
  rw [h1, if_pos hb]
theorem errR_4 {s : List UInt8} {D : ShotD} {k : Nat} {b : Int} (h : Rdd (shotR s ⟨0, 0⟩) D k b) (hb : b = 0) (hx : k ≠ s.length ∨ wr D ≠ s) : errR s = 4 := by
  obtain ⟨h1, h2⟩ := h
  unfold errR
  rw [h1, h2 hb, if_neg (by simpa using hb), if_pos hx]
theorem errR_0 {s : List UInt8} {D : ShotD} {k : Nat} {b : Int} (h : Rdd (shotR s ⟨0, 0⟩) D k b) (hb : b = 0) (hk : k = s.length) (hx : wr D = s) : errR s = 0 ∧ D = (shotR s ⟨0, 0⟩).1 := by
  obtain ⟨h1, h2⟩ := h
  refine ⟨?_, (h2 hb).symm⟩
  unfold errR
  rw [h1, h2 hb, if_neg (by simpa using hb), if_neg (by simp [hk, hx])]
section
variable {g : Glob} {w : World} {l : List As}
theorem read (H : Sat g w l) (s : List UInt8) (hs : s.length ≤ 9223372036854775807) : Fc Try.prog 24 #[.string (bs s)] w
    (fun v w' => ∃ (g' : Glob) (mem : List UInt8) (tv gv cv : Value) (tab glob : List Int) (host : Int) (calls : List CallV) (e : Int), v = .tuple #[.agg #[.string (bs mem), tv, gv], .agg #[cv, .int .i64 host], .int .i64 e] ∧ e = errR s ∧ Ext g g' ∧ FSl g' enI okI 1 tv tab ∧ FSl g' enI okI 1 gv glob ∧ FSl g' enC (okV g') 4 cv calls ∧ I64 host ∧ mem.length ≤ s.length ∧ (e = 0 → shD mem tab glob host calls = (shotR s ⟨0, 0⟩).1) ∧ (e ≠ 0 → mem = [] ∧ tab = [] ∧ glob = [] ∧ host = 0 ∧ calls = []) ∧ Sat g' w' l) := by
  refine Fc.of Try.func24 rfl (by kernel_rfl) ?_
  refine rAllocS H rfl ?_
  clear H
  intro p1 w1 H
  refine rAllocS H rfl ?_
  clear H
  intro p2 w2 H
  clear w1
  refine rAllocS H rfl ?_
  clear H
  intro p3 w1 H
  clear w2
  refine rAllocS H rfl ?_
  clear H
  intro p4 w2 H
  clear w1
  refine rBuild rfl rfl rfl ?_
  refine rBoxS H ?_
  clear H
  intro p5 w1 H
  clear w2
  replace H : Sat g w1 (Pt p5 (rdC s 0 0) 100 :: Pt p4 [.slice none 0 0, .int .i64 0] 58 :: Pt p3 [.string (bs []), .slice none 0 0, .slice none 0 0] 55 :: Pt p2 [.slice none 0 0, .int .i64 0] 58 :: Pt p1 [.string (bs []), .slice none 0 0, .slice none 0 0] 55 :: l) := H
  refine CallP.mk (Fc.imp (Go.Proofs.Ytffkcgogkhdcdaa.Shot.rCount H ?_ ?_ (2048) ?_) ?_)
  · omega
  · assumption
  · omega
  clear H
  rintro _ w2 ⟨n1, ⟨k'1, ⟨b'1, ⟨rfl, ⟨h1, ⟨h2, ⟨h3, ⟨h4, H⟩⟩⟩⟩⟩⟩⟩⟩
  refine rFieldAt rfl ?_
  refine rLd (H.at 0 rfl) 0 rfl rfl rfl ?_
  refine rLenStr rfl ?_
  refine cI (fun c1 => ?_) (fun c1 => ?_)
  focus
    replace c1 := vLt_t (c1)
    refine rBuild rfl rfl rfl ?_
    refine rBuild rfl rfl rfl ?_
    refine rStAS H 4 rfl rfl rfl rfl ?_
    clear H
    intro w3 H
    clear w2
    refine rStAS H 3 rfl rfl rfl rfl ?_
    clear H
    intro w2 H
    clear w3
    refine rdAN (H.at 4 rfl) 0 rfl rfl rfl ?_
    refine rdAN (H.at 3 rfl) 0 rfl rfl rfl ?_
    refine Done.mk ?_
  rotate_left 1
  focus
    replace c1 := vLt_f (c1)
    refine drawzS H [2] [(0, .pure), (1, .pure), (2, .pure), (3, .pure), (4, .held), (5, .pure), (6, .pure), (7, .pure), (8, .pure), (9, .pure), (10, .held), (11, .pure), (12, .pure), (13, .pure), (14, .forced), (15, .pure), (16, .pure), (17, .free)] mixed (by kernel_rfl) (by kernel_rfl) ?_
    clear H
    intro w3 H
    clear w2
    refine tk (fun wx HS => rFieldAt rfl ⟨rfl, rfl⟩) ?_
    refine tk (fun wx HS => rLd (HS.at 0 rfl) 0 rfl rfl rfl ⟨rfl, rfl⟩) ?_
    refine tk (fun wx HS => rSubH rfl (n1) (by omega) (by omega) ⟨rfl, rfl⟩) ?_
    refine tk (fun wx HS => rFieldAt rfl ⟨rfl, rfl⟩) ?_
    refine tk (fun wx HS => rLd (HS.at 0 rfl) 0 rfl rfl rfl ⟨rfl, rfl⟩) ?_
    refine tk (fun wx HS => rSubL rfl (n1) (by omega) (by omega) ⟨rfl, rfl⟩) ?_
    refine tk (fun wx HS => rFieldAt rfl ⟨rfl, rfl⟩) ?_
    refine rStS H 2 rfl rfl rfl rfl ?_
    clear H
    intro w2 H
    clear w3
    refine KeepP.mk (H.drop 2 (fun H => H)) ?_
    refine tk (fun wx HS => rFieldAt rfl ⟨rfl, rfl⟩) ?_
    refine rStS H 0 rfl rfl rfl rfl ?_
    clear H
    intro w3 H
    clear w2
  rotate_left 1
  · rw [List.length_drop] at c1
    have hb0 : b'1 = 0 := by omega
    subst hb0
    exact ⟨g, [], _, _, _, [], [], 0, [], 3, rfl, (errR_short (k := k'1) h1 (by omega)).symm, Ext.refl _, FSl.nil0 _ _ _ _, FSl.nil0 _ _ _ _, FSl.nil0 _ _ _ _, (by decide : I64 0), Nat.zero_le _, fun h => absurd h (by decide), fun _ => ⟨rfl, rfl, rfl, rfl, rfl⟩, H.tl.tl.tl.tl.tl⟩
  rw [List.length_drop] at c1
  have hT := rdd_take (s := s) (k := k'1) (n := n1) (by omega) h4
  rw [List.drop_drop] at H
  have hml : ((s.drop k'1).take n1).length ≤ s.length := by rw [List.length_take, List.length_drop]; omega
  generalize (s.drop k'1).take n1 = mem at *
  replace H := H.sl0 (en := enI) (s := 1) 3 (fun _ => rfl)
  refine H.fronts [1] ?_
  clear H
  intro H
  refine CallP.mk (Fc.imp (Go.Proofs.Ytffkcgogkhdcdaa.Shot.rCount H ?_ ?_ (16) ?_) ?_)
  · omega
  · assumption
  · omega
  clear H
  rintro _ w2 ⟨n2, ⟨k'2, ⟨b'2, ⟨rfl, ⟨h5, ⟨h6, ⟨h7, ⟨h8, H⟩⟩⟩⟩⟩⟩⟩⟩
  refine LoopP.rule (α := Nat × Value × List Int × Nat × Int) (0, .slice none 0 0, [], k'2, b'2) (fun x_ => [(44, .int .i64 x_.1)]) (fun x_ w_ => (Many (signedR 32) n2 s ⟨k'2, b'2⟩ x_.1 x_.2.2.1 ⟨x_.2.2.2.1, x_.2.2.2.2⟩) ∧ (x_.2.2.2.1 ≤ s.length) ∧ (∀ n ∈ x_.2.2.1, I64 n) ∧ (x_.2.2.1.length = x_.1) ∧ Sat g w_ ((Pt p5 (rdC s x_.2.2.2.1 x_.2.2.2.2) 100 :: Sl 3 1 enI x_.2.1 x_.2.2.1 :: Pt p4 [.slice none 0 0, .int .i64 0] 58 :: Pt p3 [.string (bs mem), x_.2.1, .slice none 0 0] 55 :: Pt p2 [.slice none 0 0, .int .i64 0] 58 :: Pt p1 [.string (bs []), .slice none 0 0, .slice none 0 0] 55 :: l))) (fun x_ => n2 - x_.1) ?_ ?_ ?_
  · repeat first | exact mt_nil | refine mt_cons rfl ?_ | refine mt_i rfl (by first | omega | (simp only; omega) | (simp; omega) | (simp; done)) ?_
  · try simp only
    refine ⟨?_, ?_⟩
    · exact Many.zero _ _ _ _
    refine ⟨?_, ?_⟩
    · assumption
    refine ⟨?_, ?_⟩
    · nofun
    refine ⟨?_, ?_⟩
    · rfl
    exact H
  clear H
  rintro ⟨i, tv, tab, k2, b2⟩ f_ w_ ⟨hI, hk2, hto, htl, H⟩
  try simp only at hI hk2 hto htl H ⊢
  have hle := hI.le
  rcases Nat.lt_or_ge i n2 with hlt | hge
  · refine cT (vLt_T (by omega)) ?_
    refine bk ?_
    refine drawzS H [0] [(0, .pure), (1, .held), (2, .pure), (3, .forced), (4, .forced), (5, .free), (6, .pure), (7, .free)] mixed (by kernel_rfl) (by kernel_rfl) ?_
    clear H
    intro w4 H
    clear w_
    refine tk (fun wx HS => rFieldAt rfl ⟨rfl, rfl⟩) ?_
    refine tk (fun wx HS => rLd (HS.at 2 rfl) 1 rfl rfl rfl ⟨rfl, rfl⟩) ?_
    refine CallP.mk (Fc.imp (Go.Proofs.Ytffkcgogkhdcdaa.Shot.rSigned H ?_ ?_ _ (32) ?_ ?_) ?_)
    · assumption
    · assumption
    · omega
    · omega
    clear H
    rintro _ w5 ⟨n3, ⟨k'3, ⟨b'3, ⟨rfl, ⟨h9, ⟨h10, ⟨h11, H⟩⟩⟩⟩⟩⟩⟩
    refine KeepP.mk (H.drop 0 (fun H => H)) ?_
    refine rBuildSliceS H rfl rfl rfl rfl ?_
    clear H
    intro p6 w6 H
    clear w5
    refine KeepP.mk (H.drop 1 (fun H => H.drop 0 (fun H => H))) ?_
    refine rApS (ys := [_]) 8 H 2 rfl (H.at 0 rfl) rfl (fun y _ => rfl) rfl rfl rfl (by omega) (by omega) ?_
    intro v1
    clear H
    intro w5 H
    clear w6
    refine tk (fun wx HS => rFieldAt rfl ⟨rfl, rfl⟩) ?_
    refine rStS H 4 rfl rfl rfl (H.one 2 rfl) ?_
    clear H
    intro w6 H
    clear w5
    refine eqI64 (by omega) ?_
    refine Nxt.mk ((i + 1, v1, tab ++ [n3], k'3, b'3)) (mt_i rfl (by first | omega | (simp only; omega) | (simp; omega)) (mt_nil)) ?_ ?_
    · refine ⟨?_, ?_⟩
      · exact Many.step (Strict.signed _) hI (by omega) (Rdd.of (by assumption))
      refine ⟨?_, ?_⟩
      · assumption
      refine ⟨?_, ?_⟩
      · exact all_snoc hto (by constructor <;> omega)
      refine ⟨?_, ?_⟩
      · (simp only [List.length_append, List.length_set, List.length_cons, List.length_nil]; omega)
      refine H.fronts [6, 6, 6, 6, 6, 6] ?_
      clear H
      intro H
      refine H.drop 6 ?_
      clear H
      intro H
      exact H
    omega
  · have hD : Rdd (listR 16 (signedR 32) s ⟨k'1 + n1, b'1⟩) tab k2 b2 := Rdd.bind (Rdd.of h5) (hI.done hge) (fun n => Strict.rep (Strict.signed _) n)
    clear hI
    refine H.frz1 1 okI rfl hto ?_
    intro g1 E ht
    clear H
    intro H
    refine cF (vLt_F (by omega)) ?_
    refine CallP.mk (Fc.imp (Go.Proofs.Ytffkcgogkhdcdaa.Shot.rValues H ?_ ?_ (8) ?_) ?_)
    · assumption
    · assumption
    · omega
    clear H
    rintro v' w4 ⟨g'1, ⟨zs1, ⟨k'3, ⟨b'3, ⟨HE, ⟨h9, ⟨h10, ⟨h11, ⟨h12, H⟩⟩⟩⟩⟩⟩⟩⟩⟩
    replace ht := FSl.ext ht HE
    replace E := E.trans HE
    clear HE
    refine rFieldAt rfl ?_
    refine rStS H 2 rfl rfl rfl (by simp only [Bool.and_true, FSl.one ht, FSl.one h9]) ?_
    clear H
    intro w5 H
    clear w4
    refine CallP.mk (Fc.imp (Go.Proofs.Ytffkcgogkhdcdaa.Shot.rPlain H ?_ ?_) ?_)
    · assumption
    · assumption
    clear H
    rintro _ w4 ⟨n3, ⟨k'4, ⟨b'4, ⟨rfl, ⟨h13, ⟨h14, ⟨h15, H⟩⟩⟩⟩⟩⟩⟩
    refine rFieldAt rfl ?_
    refine rStS H 1 rfl rfl rfl rfl ?_
    clear H
    intro w6 H
    clear w4
    refine CallP.mk (Fc.imp (Go.Proofs.Ytffkcgogkhdcdaa.Shot.rCount H ?_ ?_ (40) ?_) ?_)
    · assumption
    · assumption
    · omega
    clear H
    rintro _ w4 ⟨n4, ⟨k'5, ⟨b'5, ⟨rfl, ⟨h16, ⟨h17, ⟨h18, ⟨h19, H⟩⟩⟩⟩⟩⟩⟩⟩
    replace H := H.sl0 (en := enC) (s := 4) 97 (fun _ => rfl)
    refine LoopP.rule (α := Glob × Nat × Value × List CallV × Nat × Int) (g'1, 0, .slice none 0 0, [], k'5, b'5) (fun x_ => [(62, .int .i64 x_.2.1)]) (fun x_ w_ => (Many callR n4 s ⟨k'5, b'5⟩ x_.2.1 (x_.2.2.2.1.map CallV.d) ⟨x_.2.2.2.2.1, x_.2.2.2.2.2⟩) ∧ (Ext g'1 x_.1) ∧ (x_.2.2.2.2.1 ≤ s.length) ∧ (∀ x ∈ x_.2.2.2.1, okV x_.1 x) ∧ (x_.2.2.2.1.length = x_.2.1) ∧ Sat x_.1 w_ ((Pt p5 (rdC s x_.2.2.2.2.1 x_.2.2.2.2.2) 100 :: Sl 97 4 enC x_.2.2.1 x_.2.2.2.1 :: Pt p4 [x_.2.2.1, .int .i64 n3] 58 :: Pt p3 [.string (bs mem), tv, v'] 55 :: Pt p2 [.slice none 0 0, .int .i64 0] 58 :: Pt p1 [.string (bs []), .slice none 0 0, .slice none 0 0] 55 :: l))) (fun x_ => n4 - x_.2.1) ?_ ?_ ?_
    · repeat first | exact mt_nil | refine mt_cons rfl ?_ | refine mt_i rfl (by first | omega | (simp only; omega) | (simp; omega) | (simp; done)) ?_
    · try simp only
      refine ⟨?_, ?_⟩
      · exact Many.zero _ _ _ _
      refine ⟨?_, ?_⟩
      · exact Ext.refl _
      refine ⟨?_, ?_⟩
      · assumption
      refine ⟨?_, ?_⟩
      · nofun
      refine ⟨?_, ?_⟩
      · rfl
      refine H.fronts [5, 5, 5, 5, 4, 5] ?_
      clear H
      intro H
      exact H
    clear H
    rintro ⟨gg, i, cv, cl, k2, b2⟩ f_ w_ ⟨hI, E2, hk2, hto, htl, H⟩
    try simp only at hI E2 hk2 hto htl H ⊢
    have hle := hI.le
    rcases Nat.lt_or_ge i n4 with hlt | hge
    · refine cT (vLt_T (by omega)) ?_
      refine bk ?_
      refine CallP.mk (Fc.imp (Go.Proofs.Ytffkcgogkhdcdaa.Shot.rPlain H ?_ ?_) ?_)
      · assumption
      · assumption
      clear H
      rintro _ w7 ⟨n5, ⟨k'6, ⟨b'6, ⟨rfl, ⟨h20, ⟨h21, ⟨h22, H⟩⟩⟩⟩⟩⟩⟩
      refine rBuild rfl rfl rfl ?_
      refine rAllocS H rfl ?_
      clear H
      intro p6 w8 H
      clear w7
      refine rStAS H 0 rfl rfl rfl rfl ?_
      clear H
      intro w7 H
      clear w8
      refine H.fronts [1] ?_
      clear H
      intro H
      refine CallP.mk (Fc.imp (Go.Proofs.Ytffkcgogkhdcdaa.Shot.rPlain H ?_ ?_) ?_)
      · assumption
      · assumption
      clear H
      rintro _ w8 ⟨n6, ⟨k'7, ⟨b'7, ⟨rfl, ⟨h23, ⟨h24, ⟨h25, H⟩⟩⟩⟩⟩⟩⟩
      refine rFieldAt rfl ?_
      refine rStS H 1 rfl rfl rfl rfl ?_
      clear H
      intro w9 H
      clear w8
      refine CallP.mk (Fc.imp (Go.Proofs.Ytffkcgogkhdcdaa.Shot.rValues H ?_ ?_ (20) ?_) ?_)
      · assumption
      · assumption
      · omega
      clear H
      rintro va' w8 ⟨g'2, ⟨zs2, ⟨k'8, ⟨b'8, ⟨HE, ⟨h26, ⟨h27, ⟨h28, ⟨h29, H⟩⟩⟩⟩⟩⟩⟩⟩⟩
      replace hto := fun y hy => (hto y hy).ext HE
      replace E2 := E2.trans HE
      clear HE
      refine rFieldAt rfl ?_
      refine rStS H 1 rfl rfl rfl (by simp only [Bool.and_true, H.one 2 rfl, FSl.one h26, FSl.one ht, FSl.one h9]) ?_
      clear H
      intro w10 H
      clear w8
      refine CallP.mk (Fc.imp (Go.Proofs.Ytffkcgogkhdcdaa.Shot.rValues H ?_ ?_ (200) ?_) ?_)
      · assumption
      · assumption
      · omega
      clear H
      rintro vb' w8 ⟨g'3, ⟨zs3, ⟨k'9, ⟨b'9, ⟨HE, ⟨h30, ⟨h31, ⟨h32, ⟨h33, H⟩⟩⟩⟩⟩⟩⟩⟩⟩
      replace E2 := E2.trans HE
      replace hto := fun y hy => (hto y hy).ext HE
      replace h26 := FSl.ext h26 HE
      clear HE
      refine rFieldAt rfl ?_
      refine rStS H 1 rfl rfl rfl (by simp only [Bool.and_true, H.one 2 rfl, FSl.one h26, FSl.one h30, FSl.one ht, FSl.one h9]) ?_
      clear H
      intro w11 H
      clear w8
      refine rFieldAt rfl ?_
      refine rLd (H.at 3 rfl) 0 rfl rfl rfl ?_
      refine rLdA (H.at 1 rfl) 0 rfl rfl rfl ?_
      refine rBuildSliceS H rfl rfl rfl rfl ?_
      clear H
      intro p7 w8 H
      clear w11
      refine rApS (ys := [⟨n5, n6, va', zs2, vb', zs3⟩]) 64 H 3 rfl (H.at 0 rfl) rfl (fun y hy => by rw [List.mem_singleton.1 hy]; simp only [Go.Proofs.Ytffkcgogkhdcdaa.Shot.enC, List.all_cons, List.all_nil, H.one 3 rfl, FSl.one h26, FSl.one h30, FSl.one ht, FSl.one h9]; rfl) rfl rfl rfl (by omega) (by omega) ?_
      intro v1
      clear H
      intro w11 H
      clear w8
      refine rFieldAt rfl ?_
      refine rStS H 4 rfl rfl rfl (H.one 3 rfl) ?_
      clear H
      intro w8 H
      clear w11
      refine eqI64 (by omega) ?_
      refine Nxt.mk ((g'3, i + 1, v1, cl ++ [{ fn := (↑n5 : Int), at_ := (↑n6 : Int), lv := va', ls := zs2, sv := vb', ss := zs3 }], k'9, b'9)) (mt_i rfl (by first | omega | (simp only; omega) | (simp; omega)) (mt_nil)) ?_ ?_
      · refine ⟨?_, ?_⟩
        · (rw [List.map_append]; exact Many.step strictCall hI (by omega) (rdd_call h20 h23 h27 h31))
        refine ⟨?_, ?_⟩
        · assumption
        refine ⟨?_, ?_⟩
        · assumption
        refine ⟨?_, ?_⟩
        · intro x1
          intro x2
          exact all_snocV hto ⟨(show I64 (n5 : Int) by constructor <;> omega), (show I64 (n6 : Int) by constructor <;> omega), h26, h30⟩ x1 x2
        refine ⟨?_, ?_⟩
        · (simp only [List.length_append, List.length_set, List.length_cons, List.length_nil]; omega)
        refine H.fronts [7, 7, 7, 7, 7, 6] ?_
        clear H
        intro H
        refine H.drop 7 ?_
        clear H
        intro H
        refine H.drop 6 ?_
        clear H
        intro H
        exact H
      (simp only [List.length_append, List.length_set, List.length_cons, List.length_nil]; omega)
    · have hD2 : Rdd (listR 40 callR s ⟨k'4, b'4⟩) (cl.map CallV.d) k2 b2 := Rdd.bind (Rdd.of h16) (hI.done hge) (fun n => Strict.rep strictCall n)
      clear hI
      refine H.frz1 1 (okV gg) rfl hto ?_
      intro g2 HE hc
      replace hc := FSl.okm hc (fun y _ h => h.ext HE)
      replace ht := FSl.ext ht (E2.trans HE)
      replace h9 := FSl.ext h9 (E2.trans HE)
      have hS : Rdd (shotR s ⟨0, 0⟩) (shD mem tab zs1 n3 cl) k2 b2 := by
        refine Rdd.bind (Rdd.of h1) (Rdd.bind hT (Rdd.bind hD (Rdd.bind h10 (Rdd.bind (Rdd.of h13) (Rdd.bind (q := fun c => retR (⟨mem, tab, zs1, n3, c⟩ : ShotD)) hD2 (Rdd.ret _ _ _ _) fun _ => .ret _) fun _ => strictShot _ _ _ _) ?_) ?_) ?_) ?_
        · exact fun _ => .bind .plain fun _ => strictShot _ _ _ _
        · exact fun _ => .bind (.list _ (.signed _)) fun _ => .bind .plain fun _ => strictShot _ _ _ _
        · exact fun _ => strictT _
        · exact fun _ => .bind (.take _) fun _ => strictT _
      clear H
      intro H
      have hx4 : ∀ t : List UInt8, t = wr (shD mem tab zs1 n3 cl) → ¬ t = s → wr (shD mem tab zs1 n3 cl) ≠ s := fun t h1 h2 h3 => h2 (h1.trans h3)
      have hk4 : ¬ s.drop k2 = [] → k2 ≠ s.length := fun h1 h2 => h1 (List.drop_eq_nil_of_le (by omega))
      have hk0 : s.drop k2 = [] → k2 = s.length := fun h1 => by have := List.drop_eq_nil_iff.1 h1; omega
      replace hto := fun y hy => (hto y hy).ext HE
      replace E2 := E2.trans HE
      clear HE
      refine cF (vLt_F (by omega)) ?_
      refine rFieldAt rfl ?_
      refine rLd (H.at 0 rfl) 1 rfl rfl rfl ?_
      refine cI (fun c2 => ?_) (fun c2 => ?_)
      · replace c2 := vEq_t (c2)
        refine rLdA (H.at 2 rfl) 0 rfl rfl rfl ?_
        refine rLdA (H.at 1 rfl) 0 rfl rfl rfl ?_
        refine CallP.mk (Fc.imp (Go.Proofs.Ytffkcgogkhdcdaa.Shot.write H _ _ _ _ _ _ _ _ ?_ ht h9 ?_ hc) ?_)
        · omega
        · omega
        clear H
        rintro _ w7 ⟨t1, ⟨e1, ⟨rfl, ⟨h20, ⟨h21, ⟨⟨h22, h23⟩, ⟨h24, H⟩⟩⟩⟩⟩⟩⟩
        refine rFieldAt rfl ?_
        refine rLd (H.at 0 rfl) 0 rfl rfl rfl ?_
        refine rStrNe ?_
        refine br (fun c3 => ?_) (fun c3 => ?_)
        · replace c3 := dec_f (not_t (c3))
          refine cT rfl ?_
          refine rFieldAt rfl ?_
          refine rStS H 0 rfl rfl rfl rfl ?_
          clear H
          intro w8 H
          clear w7
          refine rFieldAt rfl ?_
          refine rLd (H.at 0 rfl) 1 rfl rfl rfl ?_
          refine cT (vNe_T (by omega)) ?_
          refine drawzS H [4] [(0, .pure), (1, .pure), (2, .pure), (3, .pure), (4, .pure), (5, .held), (6, .forced), (7, .forced), (8, .pure)] mixed (by kernel_rfl) (by kernel_rfl) ?_
          clear H
          intro w7 H
          clear w8
          refine tk (fun wx HS => rBuild rfl rfl rfl ⟨rfl, rfl⟩) ?_
          refine tk (fun wx HS => rBuild rfl rfl rfl ⟨rfl, rfl⟩) ?_
          refine tk (fun wx HS => rFieldAt rfl ⟨rfl, rfl⟩) ?_
          refine tk (fun wx HS => rLd (HS.at 0 rfl) 1 rfl rfl rfl ⟨rfl, rfl⟩) ?_
          refine rStAS H 4 rfl rfl rfl rfl ?_
          clear H
          intro w8 H
          clear w7
          refine KeepP.mk (H.drop 4 (fun H => H)) ?_
          refine rStAS H 3 rfl rfl rfl rfl ?_
          clear H
          intro w7 H
          clear w8
          refine KeepP.mk (H.drop 4 (fun H => H)) ?_
          refine rdAN (H.at 4 rfl) 0 rfl rfl rfl ?_
          refine rdAN (H.at 3 rfl) 0 rfl rfl rfl ?_
          refine Done.mk ?_
          exact ⟨g2, [], _, _, _, [], [], 0, [], 4, rfl, (errR_4 hS c2 (.inl (hk4 (by assumption)))).symm, E.trans E2, FSl.nil0 _ _ _ _, FSl.nil0 _ _ _ _, FSl.nil0 _ _ _ _, (by decide : I64 0), Nat.zero_le _, fun h => absurd h (by decide), fun _ => ⟨rfl, rfl, rfl, rfl, rfl⟩, H.tl.tl.tl.tl.tl⟩
        replace c3 := dec_t (not_f (c3))
        refine rStrNe ?_
        refine cI (fun c4 => ?_) (fun c4 => ?_)
        · replace c4 := dec_f (not_t (c4))
          refine rFieldAt rfl ?_
          refine rStS H 0 rfl rfl rfl rfl ?_
          clear H
          intro w8 H
          clear w7
          refine rFieldAt rfl ?_
          refine rLd (H.at 0 rfl) 1 rfl rfl rfl ?_
          refine cT (vNe_T (by omega)) ?_
          refine drawzS H [4] [(0, .pure), (1, .pure), (2, .pure), (3, .pure), (4, .pure), (5, .held), (6, .forced), (7, .forced), (8, .pure)] mixed (by kernel_rfl) (by kernel_rfl) ?_
          clear H
          intro w7 H
          clear w8
          refine tk (fun wx HS => rBuild rfl rfl rfl ⟨rfl, rfl⟩) ?_
          refine tk (fun wx HS => rBuild rfl rfl rfl ⟨rfl, rfl⟩) ?_
          refine tk (fun wx HS => rFieldAt rfl ⟨rfl, rfl⟩) ?_
          refine tk (fun wx HS => rLd (HS.at 0 rfl) 1 rfl rfl rfl ⟨rfl, rfl⟩) ?_
          refine rStAS H 4 rfl rfl rfl rfl ?_
          clear H
          intro w8 H
          clear w7
          refine KeepP.mk (H.drop 4 (fun H => H)) ?_
          refine rStAS H 3 rfl rfl rfl rfl ?_
          clear H
          intro w7 H
          clear w8
          refine KeepP.mk (H.drop 4 (fun H => H)) ?_
          refine rdAN (H.at 4 rfl) 0 rfl rfl rfl ?_
          refine rdAN (H.at 3 rfl) 0 rfl rfl rfl ?_
          refine Done.mk ?_
          exact ⟨g2, [], _, _, _, [], [], 0, [], 4, rfl, (errR_4 hS c2 (.inr (hx4 t1 (by assumption) (by assumption)))).symm, E.trans E2, FSl.nil0 _ _ _ _, FSl.nil0 _ _ _ _, FSl.nil0 _ _ _ _, (by decide : I64 0), Nat.zero_le _, fun h => absurd h (by decide), fun _ => ⟨rfl, rfl, rfl, rfl, rfl⟩, H.tl.tl.tl.tl.tl⟩
        replace c4 := dec_t (not_f (c4))
        refine rFieldAt rfl ?_
        refine rLd (H.at 0 rfl) 1 rfl rfl rfl ?_
        refine cF (vNe_F (by assumption)) ?_
        refine drawzS H [4] [(0, .held), (1, .held), (2, .forced), (3, .free), (4, .pure)] mixed (by kernel_rfl) (by kernel_rfl) ?_
        clear H
        intro w8 H
        clear w7
        refine tk (fun wx HS => rLdA (HS.at 2 rfl) 0 rfl rfl rfl ⟨rfl, rfl⟩) ?_
        refine tk (fun wx HS => rLdA (HS.at 1 rfl) 0 rfl rfl rfl ⟨rfl, rfl⟩) ?_
        refine rStAS H 4 rfl rfl rfl (by simp only [List.all_cons, List.all_nil, FSl.one h9, FSl.one ht, FSl.one hc]; rfl) ?_
        clear H
        intro w7 H
        clear w8
        refine KeepP.mk (H.drop 4 (fun H => H)) ?_
        refine rStAS H 3 rfl rfl rfl (by simp only [List.all_cons, List.all_nil, FSl.one h9, FSl.one ht, FSl.one hc]; rfl) ?_
        clear H
        intro w8 H
        clear w7
        refine rdAN (H.at 4 rfl) 0 rfl rfl rfl ?_
        refine rdAN (H.at 3 rfl) 0 rfl rfl rfl ?_
        refine Done.mk ?_
        refine ⟨g2, mem, tv, v', cv, tab, zs1, (↑n3 : Int), cl, 0, ?_⟩
        refine ⟨?_, ?_⟩
        · rfl
        refine ⟨?_, ?_⟩
        · exact (errR_0 hS c2 (hk0 (by assumption)) (Eq.trans (Eq.symm (by assumption)) (by assumption))).1.symm
        refine ⟨?_, ?_⟩
        · exact E.trans E2
        refine ⟨?_, ?_⟩
        · assumption
        refine ⟨?_, ?_⟩
        · assumption
        refine ⟨?_, ?_⟩
        · assumption
        refine ⟨?_, ?_⟩
        · refine ⟨?_, ?_⟩
          · omega
          omega
        refine ⟨?_, ?_⟩
        · assumption
        refine ⟨?_, ?_⟩
        · intro x1
          exact (errR_0 hS c2 (hk0 (by assumption)) (Eq.trans (Eq.symm (by assumption)) (by assumption))).2
        refine ⟨?_, ?_⟩
        · intro x1
          refine ⟨?_, ?_⟩
          · omega
          refine ⟨?_, ?_⟩
          · omega
          refine ⟨?_, ?_⟩
          · omega
          refine ⟨?_, ?_⟩
          · omega
          omega
        refine H.drop 4 ?_
        clear H
        intro H
        refine H.drop 3 ?_
        clear H
        intro H
        refine H.drop 2 ?_
        clear H
        intro H
        refine H.drop 1 ?_
        clear H
        intro H
        refine H.drop 0 ?_
        clear H
        intro H
        exact H
      replace c2 := vEq_f (c2)
      refine rFieldAt rfl ?_
      refine rLd (H.at 0 rfl) 1 rfl rfl rfl ?_
      refine cT (vNe_T (by assumption)) ?_
      refine drawzS H [4] [(0, .pure), (1, .pure), (2, .pure), (3, .pure), (4, .pure), (5, .held), (6, .forced), (7, .forced), (8, .pure)] mixed (by kernel_rfl) (by kernel_rfl) ?_
      clear H
      intro w7 H
      clear w_
      refine tk (fun wx HS => rBuild rfl rfl rfl ⟨rfl, rfl⟩) ?_
      refine tk (fun wx HS => rBuild rfl rfl rfl ⟨rfl, rfl⟩) ?_
      refine tk (fun wx HS => rFieldAt rfl ⟨rfl, rfl⟩) ?_
      refine tk (fun wx HS => rLd (HS.at 0 rfl) 1 rfl rfl rfl ⟨rfl, rfl⟩) ?_
      refine rStAS H 4 rfl rfl rfl rfl ?_
      clear H
      intro w8 H
      clear w7
      refine KeepP.mk (H.drop 4 (fun H => H)) ?_
      refine rStAS H 3 rfl rfl rfl rfl ?_
      clear H
      intro w7 H
      clear w8
      refine KeepP.mk (H.drop 4 (fun H => H)) ?_
      refine rdAN (H.at 4 rfl) 0 rfl rfl rfl ?_
      refine rdAN (H.at 3 rfl) 0 rfl rfl rfl ?_
      refine Done.mk ?_
      exact ⟨g2, [], _, _, _, [], [], 0, [], b2, rfl, (errR_bad hS c2).symm, E.trans E2, FSl.nil0 _ _ _ _, FSl.nil0 _ _ _ _, FSl.nil0 _ _ _ _, (by decide : I64 0), Nat.zero_le _, fun h => absurd h c2, fun _ => ⟨rfl, rfl, rfl, rfl, rfl⟩, H.tl.tl.tl.tl.tl⟩
end
end Go.Proofs.Ytffkcgogkhdcdaa.Shot
