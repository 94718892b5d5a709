/- Package shot: Write. -/
import Derived.Test.YtffkcgogkhdcdaaShotW
set_option maxRecDepth 100000
set_option maxHeartbeats 4000000
set_option linter.unusedVariables false
set_option linter.unusedSimpArgs false
namespace Go.Proofs.Ytffkcgogkhdcdaa.Shot
open Go Go.Proofs.Ytffkcgogkhdcdaa.Eng Go.RowKit
open Leb Txt
structure CallV where
  fn : Int
  at_ : Int
  lv : Value
  ls : List Int
  sv : Value
  ss : List Int
def CallV.d (x : CallV) : CallD := ⟨x.fn, x.at_, x.ls, x.ss⟩
def enC (x : CallV) : List Value := [.int .i64 x.fn, .int .i64 x.at_, x.lv, x.sv]
structure okV (g : Glob) (x : CallV) : Prop where
  fn : I64 x.fn
  at_ : I64 x.at_
  ls : FSl g enI okI 1 x.lv x.ls
  ss : FSl g enI okI 1 x.sv x.ss
theorem okV.ext {g g' : Glob} {x : CallV} (h : okV g x) (E : Ext g g') : okV g' x := ⟨h.fn, h.at_, h.ls.ext E, h.ss.ext E⟩
abbrev shD (mem : List UInt8) (tab glob : List Int) (host : Int) (calls : List CallV) : ShotD := ⟨mem, tab, glob, host, calls.map CallV.d⟩
theorem tw32 {n : Int} (h : ¬ isI32 n) : ¬ vNe n (vWrap .i64 (vWrap .i32 n)) = false := by
  have h1 := vWrap_range .i32 n
  simp [IntKind.min, IntKind.max, IntKind.signed, IntKind.bits] at h1
  rw [wi64 (by omega), vNe_iff]
  intro e
  have : n = vWrap .i32 n := by simpa using e
  exact h (by unfold isI32; omega)
theorem fin_no {D : ShotD} {T o : List UInt8} {K : Nat} {b : Int} (h : WS (okS D) T K [] 0 o b) (hb : b ≠ 0) : [] = wr D ∧ (b = 0 ↔ okS D) ∧ (0 ≤ b ∧ b ≤ 2) := by
  have hn : ¬ okS D := fun k => hb (h.ok.2 ⟨rfl, k⟩)
  exact ⟨(if_neg hn).symm, ⟨fun k => absurd k hb, fun k => absurd k hn⟩, by have := h.bad; omega⟩
theorem fin_ok {D : ShotD} {o : List UInt8} {K : Nat} {b : Int} (h : WS (okS D) (shotT D) K [] 0 o b) (hb : b = 0) : o = wr D ∧ okS D ∧ o.length ≤ K := by
  have hn := (h.ok.1 hb).2
  exact ⟨by rw [h.txt hb]; exact (if_pos hn).symm, hn, by simpa using h.len⟩
theorem all_step {α : Type} {P : α → Prop} {xs : List α} {k : Nat} {x : α} (hx : xs[k]? = some x) : (∀ n ∈ xs.take (k + 1), P n) ↔ (∀ n ∈ xs.take k, P n) ∧ P x := by
  rw [List.take_add_one, hx]
  constructor
  · intro h
    exact ⟨fun n hn => h n (by simp [hn]), h x (by simp)⟩
  · rintro ⟨h1, h2⟩ n hn
    rcases List.mem_append.1 hn with h | h
    · exact h1 n h
    · simp at h; rw [h]; exact h2
section
variable {g : Glob} {w : World} {l : List As}
theorem write (H : Sat g w l) (mem : List UInt8) (tv gv cv : Value) (tab glob : List Int) (host : Int) (calls : List CallV) (hm : mem.length ≤ 9223372036854775807) (ht : FSl g enI okI 1 tv tab) (hg : FSl g enI okI 1 gv glob) (hh : I64 host) (hc : FSl g enC (okV g) 4 cv calls) :
    Fc Try.prog 23 #[.agg #[.string (bs mem), tv, gv], .agg #[cv, .int .i64 host]] w (fun v w' => ∃ t e, v = .tuple #[.string (bs t), .int .i64 e] ∧ t = wr (shD mem tab glob host calls) ∧ (e = 0 ↔ okS (shD mem tab glob host calls)) ∧ (0 ≤ e ∧ e ≤ 2) ∧ t.length ≤ 1000000 ∧ Sat g w' l) := by
  refine Fc.of Try.func23 rfl (by kernel_rfl) ?_
  have htl := ht.len
  have hgl := hg.len
  have hcl := hc.len
  replace H := H.sl0 (en := enY) (s := 1) 5 (fun _ => rfl)
  by_cases hA : mem.length ≤ 2048 ∧ tab.length ≤ 16 ∧ glob.length ≤ 8
  · obtain ⟨hA1, hA2, hA3⟩ := hA
    refine rBoxS H ?_
    clear H
    intro p1 w1 H
    refine rBoxS H ?_
    clear H
    intro p2 w2 H
    clear w1
    refine rBuild rfl rfl rfl ?_
    refine rBoxS H ?_
    clear H
    intro p3 w1 H
    clear w2
    refine rFieldAt rfl ?_
    refine rLd (H.at 2 rfl) 0 rfl rfl rfl ?_
    refine rLenStr rfl ?_
    refine br_f (vLt_F (by omega)) ?_
    refine rFieldAt rfl ?_
    refine rLd (H.at 2 rfl) 1 rfl rfl rfl ?_
    refine rLenF ht rfl ?_
    refine br_f (vLt_F (by omega)) ?_
    refine rFieldAt rfl ?_
    refine rLd (H.at 2 rfl) 2 rfl rfl rfl ?_
    refine rLenF hg rfl ?_
    refine CallP.mk (Fc.imp (Go.Proofs.Ytffkcgogkhdcdaa.Shot.fail H _ _ ?_) ?_)
    · omega
    clear H
    rintro v' w2 ⟨c1, ⟨h1, H⟩⟩
    have hf9 : c1 = 0 := (h1 []).ok.2 ⟨rfl, by rw [← Bool.not_eq_true, vLt_iff]; simp; omega⟩
    refine rFieldAt rfl ?_
    refine rLd (H.at 0 rfl) 1 rfl rfl rfl ?_
    refine cF (vNe_F (by assumption)) ?_
    refine rFieldAt rfl ?_
    refine rLd (H.at 2 rfl) 0 rfl rfl rfl ?_
    refine rLenStr rfl ?_
    refine H.fronts [3, 1] ?_
    clear H
    intro H
    refine CallP.mk (Fc.imp (Go.Proofs.Ytffkcgogkhdcdaa.Shot.count H (mem.length) (2048) ?_ ?_) ?_)
    · omega
    · (simp only [List.length_append, List.length_set, List.length_cons, List.length_nil]; omega)
    clear H
    rintro va' w3 ⟨c2, ⟨u1, ⟨q1, ⟨h2, H⟩⟩⟩⟩
    (first | have hl1 := ‹WS _ (uleb calls.length) _ _ _ _ _›.len | have hl2 := ‹WS _ (uleb tab.length) _ _ _ _ _›.len | have hl3 := ‹WS _ (uleb mem.length) _ _ _ _ _›.len)
    (first | simp only [List.length_append, List.length_nil] at hl1 | simp only [List.length_append, List.length_nil] at hl2 | simp only [List.length_append, List.length_nil] at hl3)
    refine drawzS H [] [(0, .pure), (1, .pure), (2, .pure), (3, .pure), (4, .held), (5, .pure), (6, .held), (7, .free), (8, .pure), (9, .pure), (10, .free)] mixed (by kernel_rfl) (by kernel_rfl) ?_
    clear H
    intro w4 H
    clear w3
    refine tk (fun wx HS => rFieldAt rfl ⟨rfl, rfl⟩) ?_
    refine tk (fun wx HS => rLd (HS.at 0 rfl) 0 rfl rfl rfl ⟨rfl, rfl⟩) ?_
    refine tk (fun wx HS => rFieldAt rfl ⟨rfl, rfl⟩) ?_
    refine tk (fun wx HS => rLd (HS.at 3 rfl) 0 rfl rfl rfl ⟨rfl, rfl⟩) ?_
    refine rApStr H 1 rfl rfl rfl rfl (by omega) ?_
    intro v1
    clear H
    intro w3 H
    clear w4
    refine tk (fun wx HS => rFieldAt rfl ⟨rfl, rfl⟩) ?_
    refine rStS H 0 rfl rfl rfl (H.one 1 rfl) ?_
    clear H
    intro w4 H
    clear w3
    refine rFieldAt rfl ?_
    refine rLd (H.at 3 rfl) 1 rfl rfl rfl ?_
    refine rLenF ht rfl ?_
    refine CallP.mk (Fc.imp (Go.Proofs.Ytffkcgogkhdcdaa.Shot.count H (tab.length) (16) ?_ ?_) ?_)
    · omega
    · (simp only [List.length_append, List.length_set, List.length_cons, List.length_nil]; omega)
    clear H
    rintro vb' w3 ⟨c3, ⟨u2, ⟨q2, ⟨h3, H⟩⟩⟩⟩
    (first | have hl1 := ‹WS _ (uleb calls.length) _ _ _ _ _›.len | have hl2 := ‹WS _ (uleb tab.length) _ _ _ _ _›.len | have hl3 := ‹WS _ (uleb mem.length) _ _ _ _ _›.len)
    (first | simp only [List.length_append, List.length_nil] at hl1 | simp only [List.length_append, List.length_nil] at hl2 | simp only [List.length_append, List.length_nil] at hl3)
    refine rFieldAt rfl ?_
    refine rLd (H.at 3 rfl) 1 rfl rfl rfl ?_
    refine rLenF ht rfl ?_
    have gW := (h2.trans (WS.app q1 mem c2 hA1)).trans h3
    refine LoopP.rule (α := Nat × List UInt8 × Value × Int) (0, q2, u2, c3) (fun x_ => [(63, .int .i64 x_.1)]) (fun x_ w_ => (x_.1 ≤ tab.length) ∧ (WS (∀ n ∈ tab.take x_.1, isI32 n) ((tab.take x_.1).flatMap sleb) (10 * x_.1) q2 c3 x_.2.1 x_.2.2.2) ∧ Sat g w_ ((Pt p3 [x_.2.2.1, .int .i64 x_.2.2.2] 90 :: Sl 5 1 enY x_.2.2.1 x_.2.1 :: Pt p2 [cv, .int .i64 host] 58 :: Pt p1 [.string (bs mem), tv, gv] 55 :: l))) (fun x_ => tab.length - x_.1) ?_ ?_ ?_
    · repeat first | exact mt_nil | refine mt_cons rfl ?_ | refine mt_i rfl (by first | omega | (simp only; omega) | (simp; omega) | (simp; done)) ?_
    · try simp only
      refine ⟨?_, ?_⟩
      · omega
      refine ⟨?_, ?_⟩
      · exact (WS.zero _ _).cg (by simp) (fun _ => by simp) (Nat.le_refl _)
      exact H
    clear H
    rintro ⟨k, o2, uu, b2⟩ f_ w_ ⟨hk, hW, H⟩
    try simp only at hk hW H ⊢
    have hol := hW.len
    rcases Nat.lt_or_ge k tab.length with hlt | hge
    · obtain ⟨n, hn⟩ : ∃ n, tab[k]? = some n := ⟨_, List.getElem?_eq_getElem hlt⟩
      have hnb : I64 n := FSl.all ht n (List.mem_of_getElem? hn)
      by_cases h32 : isI32 n
      · have h32' := h32
        unfold isI32 at h32'
        refine cT (vLt_T (by omega)) ?_
        refine bk ?_
        obtain ⟨b1, o1, E1, F1, hok1⟩ := FSl.elt ht hn
        refine rIxE E1 rfl rfl rfl ?_
        refine rLd (H.fat F1) 0 rfl rfl rfl ?_
        refine rConvI32 (by omega) rfl rfl ?_
        refine rConvI64 (by omega) rfl rfl ?_
        refine CallP.mk (Fc.imp (Go.Proofs.Ytffkcgogkhdcdaa.Shot.fail H _ _ ?_) ?_)
        · omega
        clear H
        rintro vc' w5 ⟨c4, ⟨h4, H⟩⟩
        refine CallP.mk (Fc.imp (Go.Proofs.Ytffkcgogkhdcdaa.Shot.signed H _ ?_ ?_) ?_)
        · assumption
        · omega
        clear H
        rintro vd' w6 ⟨u3, ⟨q3, ⟨h5, H⟩⟩⟩
        refine eqI64 (by omega) ?_
        refine Nxt.mk ((k + 1, q3, u3, c4)) (mt_i rfl (by first | omega | (simp only; omega) | (simp; omega)) (mt_nil)) ?_ ?_
        · refine ⟨?_, ?_⟩
          · assumption
          refine ⟨?_, ?_⟩
          · exact ((hW.trans (h4 o2)).trans h5).cg (by rw [all_step hn]; simp [vNe_iff, h32]) (fun _ => by rw [flat_takeS hn]; simp) (by omega)
          exact H
        omega
      · have h32' := h32
        unfold isI32 at h32'
        refine cT (vLt_T (by omega)) ?_
        refine bk ?_
        obtain ⟨b1, o1, E1, F1, hok1⟩ := FSl.elt ht hn
        refine rIxE E1 rfl rfl rfl ?_
        refine rLd (H.fat F1) 0 rfl rfl rfl ?_
        refine rConvInt rfl rfl ?_
        refine rConvInt rfl rfl ?_
        refine CallP.mk (Fc.imp (Go.Proofs.Ytffkcgogkhdcdaa.Shot.fail H _ _ ?_) ?_)
        · omega
        clear H
        rintro vc' w5 ⟨c4, ⟨h4, H⟩⟩
        refine CallP.mk (Fc.imp (Go.Proofs.Ytffkcgogkhdcdaa.Shot.signed H _ ?_ ?_) ?_)
        · assumption
        · omega
        clear H
        rintro vd' w6 ⟨u3, ⟨q3, ⟨h5, H⟩⟩⟩
        refine eqI64 (by omega) ?_
        refine Nxt.mk ((k + 1, q3, u3, c4)) (mt_i rfl (by first | omega | (simp only; omega) | (simp; omega)) (mt_nil)) ?_ ?_
        · refine ⟨?_, ?_⟩
          · assumption
          refine ⟨?_, ?_⟩
          · exact ((hW.trans (h4 o2)).trans h5).cg (by rw [all_step hn]; exact ⟨fun h => absurd h.1.2 (tw32 h32), fun h => absurd h.2 h32⟩) (fun _ => by rw [flat_takeS hn]; simp) (by omega)
          exact H
        omega
    · rw [List.take_of_length_le hge] at hW
      refine cF (vLt_F (by omega)) ?_
      refine rFieldAt rfl ?_
      refine rLd (H.at 3 rfl) 2 rfl rfl rfl ?_
      refine CallP.mk (Fc.imp (Go.Proofs.Ytffkcgogkhdcdaa.Shot.values H _ _ hg (8) ?_ ?_) ?_)
      · omega
      · omega
      clear H
      rintro vc' w5 ⟨c4, ⟨u3, ⟨q3, ⟨h4, H⟩⟩⟩⟩
      have hlv := ‹WS _ (listT sleb glob) _ _ _ _ _›.len
      refine rFieldAt rfl ?_
      refine rLd (H.at 2 rfl) 1 rfl rfl rfl ?_
      refine CallP.mk (Fc.imp (Go.Proofs.Ytffkcgogkhdcdaa.Shot.plain H _ ?_ ?_) ?_)
      · assumption
      · omega
      clear H
      rintro vd' w6 ⟨c5, ⟨u4, ⟨q4, ⟨h5, H⟩⟩⟩⟩
      have hlp := ‹WS _ (uleb host.toNat) _ _ _ _ _›.len
      refine rFieldAt rfl ?_
      refine rLd (H.at 2 rfl) 0 rfl rfl rfl ?_
      refine rLenF hc rfl ?_
      refine CallP.mk (Fc.imp (Go.Proofs.Ytffkcgogkhdcdaa.Shot.count H (calls.length) (40) ?_ ?_) ?_)
      · omega
      · omega
      clear H
      rintro ve' w7 ⟨c6, ⟨u5, ⟨q5, ⟨h6, H⟩⟩⟩⟩
      refine rFieldAt rfl ?_
      refine rLd (H.at 2 rfl) 0 rfl rfl rfl ?_
      refine rLenF hc rfl ?_
      have gA := (((gW.trans hW).trans h4).trans h5).trans h6
      have hl6 := h6.len
      subst hf9
      have hdl : (calls.map CallV.d).length = calls.length := List.length_map ..
      have fA : ∀ (i : Nat) (o3 : List UInt8) (b3 : Int), WS (∀ c ∈ calls.take i, okC c.d) ((calls.take i).flatMap fun c => callT c.d) (2500 * i) q5 c6 o3 b3 → i ≤ 40 → (b3 ≠ 0 ∨ calls.length ≤ i) → WS (okS (shD mem tab glob host calls)) (shotT (shD mem tab glob host calls)) 200000 [] 0 o3 b3 := fun i o3 b3 hV hi40 hx => by
        have gB := gA.trans hV
        by_cases hb : b3 = 0
        · have hle : calls.length ≤ i := by omega
          rw [List.take_of_length_le hle] at gB
          refine gB.cg ?_ (fun _ => ?_) (by omega)
          · unfold okS
            simp only [hdl, List.mem_map, forall_exists_index, and_imp, forall_apply_eq_imp_iff₂]
            constructor
            · rintro ⟨⟨⟨⟨⟨⟨⟨a1, _⟩, a2⟩, a3⟩, a4⟩, a5⟩, a6⟩, a7⟩
              exact ⟨a1, a2, a4, a3, a5, a6, a7⟩
            · rintro ⟨a1, a2, a4, a3, a5, a6, a7⟩
              exact ⟨⟨⟨⟨⟨⟨⟨a1, trivial⟩, a2⟩, a3⟩, a4⟩, a5⟩, a6⟩, a7⟩
          · unfold shotT listT
            simp only [hdl, List.flatMap_map, List.append_assoc]
        · refine gB.stop hb (fun h => ?_) (by omega)
          obtain ⟨a1, a2, a4, a3, a5, a6, a7⟩ := h
          exact ⟨⟨⟨⟨⟨⟨⟨a1, trivial⟩, a2⟩, a3⟩, a4⟩, a5⟩, by rw [← hdl]; exact a6⟩, fun c hc => a7 _ (List.mem_map_of_mem (List.mem_of_mem_take hc))⟩
      refine LoopP.rule (α := Nat × List UInt8 × Value × Int) (0, q5, u5, c6) (fun x_ => [(94, .int .i64 x_.1)]) (fun x_ w_ => (x_.1 ≤ calls.length) ∧ (x_.1 ≤ 40) ∧ (WS (∀ c ∈ calls.take x_.1, okC c.d) ((calls.take x_.1).flatMap fun c => callT c.d) (2500 * x_.1) q5 c6 x_.2.1 x_.2.2.2) ∧ Sat g w_ ((Pt p3 [x_.2.2.1, .int .i64 x_.2.2.2] 90 :: Sl 5 1 enY x_.2.2.1 x_.2.1 :: Pt p2 [cv, .int .i64 host] 58 :: Pt p1 [.string (bs mem), tv, gv] 55 :: l))) (fun x_ => calls.length - x_.1) ?_ ?_ ?_
      · repeat first | exact mt_nil | refine mt_cons rfl ?_ | refine mt_i rfl (by first | omega | (simp only; omega) | (simp; omega) | (simp; done)) ?_
      · try simp only
        refine ⟨?_, ?_⟩
        · omega
        refine ⟨?_, ?_⟩
        · omega
        refine ⟨?_, ?_⟩
        · exact (WS.zero _ _).cg (by simp) (fun _ => by simp) (Nat.le_refl _)
        exact H
      clear H
      rintro ⟨i, o3, uv, b3⟩ f_ w_ ⟨hi, hi40, hV, H⟩
      try simp only at hi hi40 hV H ⊢
      have hol3 := hV.len
      rcases Nat.lt_or_ge i calls.length with hlt | hge
      · obtain ⟨x, hx⟩ : ∃ x, calls[i]? = some x := ⟨_, List.getElem?_eq_getElem hlt⟩
        have hxo := FSl.all hc x (List.mem_of_getElem? hx)
        have h40 : b3 = 0 → calls.length ≤ 40 := fun h => (gA.ok.1 (hV.ok.1 h).1).2.2
        refine cT (vLt_T (by omega)) ?_
        refine bk ?_
        obtain ⟨b1, o1, E1, F1, hok1⟩ := FSl.elt hc hx
        have hok1_fn := hok1.fn
        have hok1_at_ := hok1.at_
        have hok1_ls := hok1.ls
        have hok1_ss := hok1.ss
        refine rIxE E1 rfl rfl rfl ?_
        refine rLdA (H.fat F1) 0 rfl rfl rfl ?_
        refine rAllocS H rfl ?_
        clear H
        intro p4 w8 H
        clear w_
        refine rStAS H 0 rfl rfl rfl (by simp only [List.all_cons, List.all_nil, H.one 2 rfl, FSl.one hok1_ss, FSl.one hok1_ls, FSl.one hc, FSl.one hg, FSl.one ht]; rfl) ?_
        clear H
        intro w9 H
        clear w8
        refine rFieldAt rfl ?_
        refine rLd (H.at 1 rfl) 1 rfl rfl rfl ?_
        refine cI (fun c1 => ?_) (fun c1 => ?_)
        · replace c1 := vNe_t (c1)
          refine rFieldAt rfl ?_
          refine rLd (H.at 1 rfl) 1 rfl rfl rfl ?_
          refine cT (vNe_T (by assumption)) ?_
          refine drawzS H [] [(0, .pure), (1, .pure), (2, .pure), (3, .held), (4, .pure), (5, .pure)] mixed (by kernel_rfl) (by kernel_rfl) ?_
          clear H
          intro w8 H
          clear w9
          refine tk (fun wx HS => rFieldAt rfl ⟨rfl, rfl⟩) ?_
          refine tk (fun wx HS => rLd (HS.at 1 rfl) 1 rfl rfl rfl ⟨rfl, rfl⟩) ?_
          refine Done.mk ?_
          refine ⟨[], b3, ?_⟩
          refine ⟨?_, ?_⟩
          · rfl
          refine ⟨?_, ?_⟩
          · exact (fin_no (fA i o3 b3 hV hi40 (by omega)) (by assumption)).1
          refine ⟨?_, ?_⟩
          · exact (fin_no (fA i o3 b3 hV hi40 (by omega)) (by assumption)).2.1
          refine ⟨?_, ?_⟩
          · exact (fin_no (fA i o3 b3 hV hi40 (by omega)) (by assumption)).2.2
          refine ⟨?_, ?_⟩
          · (simp only [List.length_append, List.length_set, List.length_cons, List.length_nil]; omega)
          refine H.drop 4 ?_
          clear H
          intro H
          refine H.drop 3 ?_
          clear H
          intro H
          refine H.drop 2 ?_
          clear H
          intro H
          refine H.drop 1 ?_
          clear H
          intro H
          refine H.drop 0 ?_
          clear H
          intro H
          exact H
        replace c1 := vNe_f (c1)
        refine rFieldAt rfl ?_
        refine rLd (H.at 0 rfl) 0 rfl rfl rfl ?_
        refine H.fronts [2, 2] ?_
        clear H
        intro H
        refine CallP.mk (Fc.imp (Go.Proofs.Ytffkcgogkhdcdaa.Shot.plain H _ ?_ ?_) ?_)
        · assumption
        · omega
        clear H
        rintro vf' w8 ⟨c7, ⟨u6, ⟨q6, ⟨h7, H⟩⟩⟩⟩
        (first | have hlq := ‹WS (isN x.at_) _ _ _ _ _ _›.len | have hlp := ‹WS (isN x.fn) _ _ _ _ _ _›.len)
        refine rFieldAt rfl ?_
        refine rLd (H.at 2 rfl) 1 rfl rfl rfl ?_
        refine CallP.mk (Fc.imp (Go.Proofs.Ytffkcgogkhdcdaa.Shot.plain H _ ?_ ?_) ?_)
        · assumption
        · omega
        clear H
        rintro vg' w10 ⟨c8, ⟨u7, ⟨q7, ⟨h8, H⟩⟩⟩⟩
        (first | have hlq := ‹WS (isN x.at_) _ _ _ _ _ _›.len | have hlp := ‹WS (isN x.fn) _ _ _ _ _ _›.len)
        refine rFieldAt rfl ?_
        refine rLd (H.at 2 rfl) 2 rfl rfl rfl ?_
        refine CallP.mk (Fc.imp (Go.Proofs.Ytffkcgogkhdcdaa.Shot.values H _ _ hok1_ls (20) ?_ ?_) ?_)
        · omega
        · omega
        clear H
        rintro vh' w11 ⟨c9, ⟨u8, ⟨q8, ⟨h9, H⟩⟩⟩⟩
        (first | have hlv := ‹WS (x.ss.length ≤ _) _ _ _ _ _ _›.len | have hlu := ‹WS (x.ls.length ≤ _) _ _ _ _ _ _›.len)
        refine rFieldAt rfl ?_
        refine rLd (H.at 2 rfl) 3 rfl rfl rfl ?_
        refine CallP.mk (Fc.imp (Go.Proofs.Ytffkcgogkhdcdaa.Shot.values H _ _ hok1_ss (200) ?_ ?_) ?_)
        · omega
        · omega
        clear H
        rintro v' w12 ⟨c10, ⟨u9, ⟨q9, ⟨h10, H⟩⟩⟩⟩
        (first | have hlv := ‹WS (x.ss.length ≤ _) _ _ _ _ _ _›.len | have hlu := ‹WS (x.ls.length ≤ _) _ _ _ _ _ _›.len)
        refine eqI64 (by omega) ?_
        refine Nxt.mk ((i + 1, q9, u9, c10)) (mt_i rfl (by first | omega | (simp only; omega) | (simp; omega)) (mt_nil)) ?_ ?_
        · refine ⟨?_, ?_⟩
          · assumption
          refine ⟨?_, ?_⟩
          · omega
          refine ⟨?_, ?_⟩
          · exact ((((hV.trans h7).trans h8).trans h9).trans h10).cg (by rw [all_step hx]; unfold okC; simp only [CallV.d, and_assoc]) (fun _ => by rw [flat_takeS hx]; simp [callT, CallV.d]) (by omega)
          refine H.fronts [4, 4, 3, 3] ?_
          clear H
          intro H
          refine H.drop 4 ?_
          clear H
          intro H
          exact H
        omega
      · refine cF (vLt_F (by omega)) ?_
        refine rFieldAt rfl ?_
        refine rLd (H.at 0 rfl) 1 rfl rfl rfl ?_
        refine cI (fun c1 => ?_) (fun c1 => ?_)
        · replace c1 := vNe_t (c1)
          refine drawzS H [] [(0, .pure), (1, .pure), (2, .pure), (3, .held), (4, .pure), (5, .pure)] mixed (by kernel_rfl) (by kernel_rfl) ?_
          clear H
          intro w8 H
          clear w_
          refine tk (fun wx HS => rFieldAt rfl ⟨rfl, rfl⟩) ?_
          refine tk (fun wx HS => rLd (HS.at 0 rfl) 1 rfl rfl rfl ⟨rfl, rfl⟩) ?_
          refine Done.mk ?_
          refine ⟨[], b3, ?_⟩
          refine ⟨?_, ?_⟩
          · rfl
          refine ⟨?_, ?_⟩
          · exact (fin_no (fA i o3 b3 hV hi40 (by omega)) (by assumption)).1
          refine ⟨?_, ?_⟩
          · exact (fin_no (fA i o3 b3 hV hi40 (by omega)) (by assumption)).2.1
          refine ⟨?_, ?_⟩
          · exact (fin_no (fA i o3 b3 hV hi40 (by omega)) (by assumption)).2.2
          refine ⟨?_, ?_⟩
          · (simp only [List.length_append, List.length_set, List.length_cons, List.length_nil]; omega)
          refine H.drop 3 ?_
          clear H
          intro H
          refine H.drop 2 ?_
          clear H
          intro H
          refine H.drop 1 ?_
          clear H
          intro H
          refine H.drop 0 ?_
          clear H
          intro H
          exact H
        replace c1 := vNe_f (c1)
        refine rFieldAt rfl ?_
        refine rLd (H.at 0 rfl) 0 rfl rfl rfl ?_
        refine rBytesStrS H 1 rfl rfl rfl rfl ?_
        refine Done.mk ?_
        refine ⟨o3, 0, ?_⟩
        refine ⟨?_, ?_⟩
        · rfl
        refine ⟨?_, ?_⟩
        · exact (fin_ok (fA i o3 b3 hV hi40 (by omega)) (by assumption)).1
        refine ⟨?_, ?_⟩
        · exact ⟨fun _ => (fin_ok (fA i o3 b3 hV hi40 (by omega)) (by assumption)).2.1, fun _ => rfl⟩
        refine ⟨?_, ?_⟩
        · refine ⟨?_, ?_⟩
          · omega
          omega
        refine ⟨?_, ?_⟩
        · exact Nat.le_trans (fin_ok (fA i o3 b3 hV hi40 (by omega)) (by assumption)).2.2 (by decide)
        refine H.drop 3 ?_
        clear H
        intro H
        refine H.drop 2 ?_
        clear H
        intro H
        refine H.drop 1 ?_
        clear H
        intro H
        refine H.drop 0 ?_
        clear H
        intro H
        exact H
  · have hno : ¬ okS (shD mem tab glob host calls) := fun h => hA ⟨h.1, h.2.1, h.2.2.1⟩
    refine rBoxS H ?_
    clear H
    intro p1 w1 H
    refine rBoxS H ?_
    clear H
    intro p2 w2 H
    clear w1
    refine rBuild rfl rfl rfl ?_
    refine rBoxS H ?_
    clear H
    intro p3 w1 H
    clear w2
    refine rFieldAt rfl ?_
    refine rLd (H.at 2 rfl) 0 rfl rfl rfl ?_
    refine rLenStr rfl ?_
    refine br (fun c1 => ?_) (fun c1 => ?_)
    · replace c1 := vLt_t (c1)
      refine CallP.mk (Fc.imp (Go.Proofs.Ytffkcgogkhdcdaa.Shot.fail H _ _ ?_) ?_)
      · omega
      clear H
      rintro v' w2 ⟨c2, ⟨h1, H⟩⟩
      (first | have hf9 : c2 ≠ 0 := fun e => absurd ((h1 []).ok.1 e).2 (by decide) | have hf9 : c3 ≠ 0 := fun e => absurd ((h1 []).ok.1 e).2 (by decide) | have hf9 : c3 ≠ 0 := fun e => by have := ((h1 []).ok.1 e).2; rw [← Bool.not_eq_true, vLt_iff] at this; simp at this; omega)
      refine rFieldAt rfl ?_
      refine rLd (H.at 0 rfl) 1 rfl rfl rfl ?_
      refine cT (vNe_T (by (have := (h1 []).bad; omega))) ?_
      refine drawzS H [] [(0, .pure), (1, .pure), (2, .pure), (3, .held), (4, .pure), (5, .pure)] mixed (by kernel_rfl) (by kernel_rfl) ?_
      clear H
      intro w3 H
      clear w2
      refine tk (fun wx HS => rFieldAt rfl ⟨rfl, rfl⟩) ?_
      refine tk (fun wx HS => rLd (HS.at 0 rfl) 1 rfl rfl rfl ⟨rfl, rfl⟩) ?_
      refine Done.mk ?_
      refine ⟨[], c2, ?_⟩
      refine ⟨?_, ?_⟩
      · rfl
      refine ⟨?_, ?_⟩
      · exact (if_neg hno).symm
      refine ⟨?_, ?_⟩
      · exact ⟨fun h => absurd h (by assumption), fun h => absurd h hno⟩
      refine ⟨?_, ?_⟩
      · (have := (h1 []).bad; omega)
      refine ⟨?_, ?_⟩
      · (simp only [List.length_append, List.length_set, List.length_cons, List.length_nil]; omega)
      refine H.drop 3 ?_
      clear H
      intro H
      refine H.drop 2 ?_
      clear H
      intro H
      refine H.drop 1 ?_
      clear H
      intro H
      refine H.drop 0 ?_
      clear H
      intro H
      exact H
    replace c1 := vLt_f (c1)
    refine rFieldAt rfl ?_
    refine rLd (H.at 2 rfl) 1 rfl rfl rfl ?_
    refine rLenF ht rfl ?_
    refine br (fun c2 => ?_) (fun c2 => ?_)
    · replace c2 := vLt_t (c2)
      refine CallP.mk (Fc.imp (Go.Proofs.Ytffkcgogkhdcdaa.Shot.fail H _ _ ?_) ?_)
      · omega
      clear H
      rintro v' w2 ⟨c3, ⟨h1, H⟩⟩
      (first | have hf9 : c2 ≠ 0 := fun e => absurd ((h1 []).ok.1 e).2 (by decide) | have hf9 : c3 ≠ 0 := fun e => absurd ((h1 []).ok.1 e).2 (by decide) | have hf9 : c3 ≠ 0 := fun e => by have := ((h1 []).ok.1 e).2; rw [← Bool.not_eq_true, vLt_iff] at this; simp at this; omega)
      refine rFieldAt rfl ?_
      refine rLd (H.at 0 rfl) 1 rfl rfl rfl ?_
      refine cT (vNe_T (by (have := (h1 []).bad; omega))) ?_
      refine drawzS H [] [(0, .pure), (1, .pure), (2, .pure), (3, .held), (4, .pure), (5, .pure)] mixed (by kernel_rfl) (by kernel_rfl) ?_
      clear H
      intro w3 H
      clear w2
      refine tk (fun wx HS => rFieldAt rfl ⟨rfl, rfl⟩) ?_
      refine tk (fun wx HS => rLd (HS.at 0 rfl) 1 rfl rfl rfl ⟨rfl, rfl⟩) ?_
      refine Done.mk ?_
      refine ⟨[], c3, ?_⟩
      refine ⟨?_, ?_⟩
      · rfl
      refine ⟨?_, ?_⟩
      · exact (if_neg hno).symm
      refine ⟨?_, ?_⟩
      · exact ⟨fun h => absurd h (by assumption), fun h => absurd h hno⟩
      refine ⟨?_, ?_⟩
      · (have := (h1 []).bad; omega)
      refine ⟨?_, ?_⟩
      · (simp only [List.length_append, List.length_set, List.length_cons, List.length_nil]; omega)
      refine H.drop 3 ?_
      clear H
      intro H
      refine H.drop 2 ?_
      clear H
      intro H
      refine H.drop 1 ?_
      clear H
      intro H
      refine H.drop 0 ?_
      clear H
      intro H
      exact H
    replace c2 := vLt_f (c2)
    refine rFieldAt rfl ?_
    refine rLd (H.at 2 rfl) 2 rfl rfl rfl ?_
    refine rLenF hg rfl ?_
    refine CallP.mk (Fc.imp (Go.Proofs.Ytffkcgogkhdcdaa.Shot.fail H _ _ ?_) ?_)
    · omega
    clear H
    rintro v' w2 ⟨c3, ⟨h1, H⟩⟩
    (first | have hf9 : c2 ≠ 0 := fun e => absurd ((h1 []).ok.1 e).2 (by decide) | have hf9 : c3 ≠ 0 := fun e => absurd ((h1 []).ok.1 e).2 (by decide) | have hf9 : c3 ≠ 0 := fun e => by have := ((h1 []).ok.1 e).2; rw [← Bool.not_eq_true, vLt_iff] at this; simp at this; omega)
    refine rFieldAt rfl ?_
    refine rLd (H.at 0 rfl) 1 rfl rfl rfl ?_
    refine cT (vNe_T (by (have := (h1 []).bad; omega))) ?_
    refine drawzS H [] [(0, .pure), (1, .pure), (2, .pure), (3, .held), (4, .pure), (5, .pure)] mixed (by kernel_rfl) (by kernel_rfl) ?_
    clear H
    intro w3 H
    clear w2
    refine tk (fun wx HS => rFieldAt rfl ⟨rfl, rfl⟩) ?_
    refine tk (fun wx HS => rLd (HS.at 0 rfl) 1 rfl rfl rfl ⟨rfl, rfl⟩) ?_
    refine Done.mk ?_
    refine ⟨[], c3, ?_⟩
    refine ⟨?_, ?_⟩
    · rfl
    refine ⟨?_, ?_⟩
    · exact (if_neg hno).symm
    refine ⟨?_, ?_⟩
    · exact ⟨fun h => absurd h (by assumption), fun h => absurd h hno⟩
    refine ⟨?_, ?_⟩
    · (have := (h1 []).bad; omega)
    refine ⟨?_, ?_⟩
    · (simp only [List.length_append, List.length_set, List.length_cons, List.length_nil]; omega)
    refine H.drop 3 ?_
    clear H
    intro H
    refine H.drop 2 ?_
    clear H
    intro H
    refine H.drop 1 ?_
    clear H
    intro H
    refine H.drop 0 ?_
    clear H
    intro H
    exact H
end
end Go.Proofs.Ytffkcgogkhdcdaa.Shot
