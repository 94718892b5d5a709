/- Texts of this claim, one behind the other. -/
import Derived.Test.YtndhikahjmgamaaGreatDoorM5
import Derived.Test.YtndhikahjmgamaaGreatDoorM3
import Derived.Test.YtndhikahjmgamaaGreatDoorM4
import Derived.Test.YtndhikahjmgamaaGreatDoorM6
import Derived.Lib.LaidTab
import Derived.Test.YtndhikahjmgamaaGreatDoorM2
import Derived.Test.YtndhikahjmgamaaGreatDoorTie
import Derived.SevenTiedAt
import Derived.Lib.LaidU8T
import Derived.LaidMore
import Derived.Lay
import Derived.JoinedCond
import Derived.Stop.LaidErr
/- Package valid: Head. -/
set_option maxRecDepth 100000
set_option maxHeartbeats 4000000
set_option linter.unusedVariables false
set_option linter.unusedSimpArgs false
namespace Go.Proofs.YtndhikahjmgamaaGreatDoor.Valid
open Go Go.Proofs.YtndhikahjmgamaaGreatDoor.Eng Go.RowKit
open Ins Nest Leb Bin
section
variable {m : ModV}
theorem be0 {n : Nat} {k : Int} (h : k < n) : belowE n k = 0 := if_neg (by omega)
theorem be8 {n : Nat} {k : Int} (h : (n : Int) ≤ k) : belowE n k = 8 := if_pos h
theorem im_all : allE (fun x => belowE m.d.types.length x.2) m.d.imps = allE (fun x : List UInt8 × Int => belowE m.types.length x.2) m.imps := by
  have e : m.d.types.length = m.types.length := List.length_map ..
  rw [e]; rfl
theorem fu_all : allE (fun f => belowE m.d.types.length f.ty) m.d.funcs = allE (fun f : FunV => belowE m.types.length f.ty) m.funcs := by
  have e : m.d.types.length = m.types.length := List.length_map ..
  rw [e]
  show allE _ (m.funcs.map FunV.d) = _
  rw [allE_map]; rfl
section
variable {i : Nat} {x : List UInt8 × Int} {f : FunV} {e c : Int}
theorem hd1 (hc : chkM m.d ≠ 0) (he : e = chkM m.d) : e = headE m.d := by
  unfold headE; rw [fst_ne _ hc, he]
theorem hd2 (hc : chkM m.d = 0) (h : AI (fun x : List UInt8 × Int => belowE m.types.length x.2) m.imps i) (hx : m.imps[i]? = some x) (hb : (m.types.length : Int) ≤ x.2) : 8 = headE m.d := by
  have hb8 := h.bad hx (by rw [be8 hb]; decide)
  rw [be8 hb] at hb8
  unfold headE
  rw [hc, fst_0, im_all, hb8]; rfl
theorem hd3 (hc : chkM m.d = 0) (h1 : allE (fun x : List UInt8 × Int => belowE m.types.length x.2) m.imps = 0) (h : AI (fun f : FunV => belowE m.types.length f.ty) m.funcs i) (hx : m.funcs[i]? = some f) (hb : (m.types.length : Int) ≤ f.ty) : 8 = headE m.d := by
  have hb8 := h.bad hx (by rw [be8 hb]; decide)
  rw [be8 hb] at hb8
  unfold headE
  rw [hc, fst_0, im_all, h1, fst_0, fu_all, hb8]; rfl
/-- What is left of Head, when imports and functions have types. -/
theorem hd4 (hc : chkM m.d = 0) (h1 : allE (fun x : List UInt8 × Int => belowE m.types.length x.2) m.imps = 0) (h2 : allE (fun f : FunV => belowE m.types.length f.ty) m.funcs = 0) : headE m.d = fst (expsE (envOf m.d) m.exps []) (fst (staE (envOf m.d) m.start) (partsE m.d)) := by
  unfold headE
  rw [hc, fst_0, im_all, h1, fst_0, fu_all, h2, fst_0]; rfl
theorem below_of (h : allE (fun x : List UInt8 × Int => belowE m.types.length x.2) m.imps = 0) : ∀ x ∈ m.imps, x.2 < m.types.length := fun x hx => by
  have := allE_0.1 h x hx
  unfold belowE at this
  split at this
  · cases this
  · omega
theorem below_fu (h : allE (fun f : FunV => belowE m.types.length f.ty) m.funcs = 0) : ∀ f ∈ m.funcs, f.ty < m.types.length := fun x hx => by
  have := allE_0.1 h x hx
  unfold belowE at this
  split at this
  · cases this
  · omega
end
section
variable {E : VEnv} {xs : List (List UInt8 × Int)} {i : Nat} {x : List UInt8 × Int} {sn : List (List UInt8)} {f : List UInt8 → Option Int} {v : Int} {d : SigD}
structure XI (E : VEnv) (xs : List (List UInt8 × Int)) (i : Nat) (sn : List (List UInt8)) (f : List UInt8 → Option Int) : Prop where
  run : expsE E xs [] = expsE E (xs.drop i) sn
  seen : ∀ s, f s = none ↔ s ∉ sn
theorem XI.zero : XI E xs 0 [] (fun _ => none) := ⟨rfl, fun s => by simp⟩
theorem XI.no (h : XI E xs i sn f) (hx : xs[i]? = some x) (ht : typS E x.2 = none) : expsE E xs [] = 8 := by
  have hh := List.getElem?_eq_some_iff.1 hx
  rw [h.run, List.drop_eq_getElem_cons hh.1, hh.2, expsE, if_pos ht]
theorem XI.twice (h : XI E xs i sn f) (hx : xs[i]? = some x) (ht : typS E x.2 = some d) (hf : f x.1 = some v) : expsE E xs [] = 12 := by
  have hh := List.getElem?_eq_some_iff.1 hx
  have hm : x.1 ∈ sn := Classical.byContradiction fun n => by rw [(h.seen x.1).2 n] at hf; cases hf
  rw [h.run, List.drop_eq_getElem_cons hh.1, hh.2, expsE, if_neg (by rw [ht]; nofun), if_pos hm]
theorem XI.step (h : XI E xs i sn f) (hx : xs[i]? = some x) (ht : typS E x.2 = some d) (hf : f x.1 = none) : XI E xs (i + 1) (x.1 :: sn) (upd f x.1 (some v)) := by
  have hh := List.getElem?_eq_some_iff.1 hx
  refine ⟨?_, fun s => ?_⟩
  · rw [h.run, List.drop_eq_getElem_cons hh.1, hh.2, expsE, if_neg (by rw [ht]; nofun), if_neg ((h.seen x.1).1 hf)]
  · unfold upd
    by_cases e : s = x.1
    · rw [if_pos e]; simp [e]
    · rw [if_neg e, h.seen s]; simp [e]
structure XJ (E : VEnv) (xs : List (List UInt8 × Int)) (i : Nat) (f : List UInt8 → Option Int) : Prop where
  ex : ∃ sn, XI E xs i sn f
theorem XJ.zero : XJ E xs 0 (fun _ => none) := ⟨⟨[], XI.zero⟩⟩
theorem XJ.step (h : XJ E xs i f) (hx : xs[i]? = some x) (ht : typS E x.2 = some d) (hf : f x.1 = none) : XJ E xs (i + 1) (upd f x.1 (some v)) := by
  obtain ⟨sn, h⟩ := h.ex; exact ⟨⟨_, h.step hx ht hf⟩⟩
theorem XI.fin (h : XI E xs i sn f) (hi : xs.length ≤ i) : expsE E xs [] = 0 := by
  rw [h.run, List.drop_of_length_le hi]; rfl
end
end
section
variable {g : Glob} {w : World} {l : List As} {pc : Nat} {m : ModV} {vl vs vo : Value} {st : List Int} {op : List PartD} {b : Int}
theorem mapNo {c : Bool} {f : Option Int} {x : Int} {Q : Prop} (h : c = true ∧ f = some x ∨ c = false ∧ f = none ∧ x = 0) (hc : c = true) (hf : f = none) : Q := by
  rcases h with ⟨_, h⟩ | ⟨h, _⟩
  · rw [hf] at h; cases h
  · rw [hc] at h; cases h
theorem mapYes {c : Bool} {f : Option Int} {x v : Int} {Q : Prop} (h : c = true ∧ f = some x ∨ c = false ∧ f = none ∧ x = 0) (hc : c = false) (hf : f = some v) : Q := by
  rcases h with ⟨h, _⟩ | ⟨_, h, _⟩
  · rw [hc] at h; cases h
  · rw [hf] at h; cases h
theorem st10 {a b : Nat} {p : Int} (h : 0 < (a : Int) + b) : 10 = fst (if 0 < a + b then 10 else 0) p := by
  rw [if_pos (show 0 < a + b by omega)]; exact (fst_ne _ (by decide)).symm
theorem st00 {a b : Nat} {p e : Int} (h : (a : Int) + b ≤ 0) (he : e = p) : e = fst (if 0 < a + b then 10 else 0) p := by
  rw [if_neg (show ¬ 0 < a + b by omega), fst_0]; exact he
theorem sigB_of (P : PartsM m) : SigB m := ⟨fun s hs => by have := (eachE_0.1 (fst_eq0.1 (P.typesE s hs)).1).1; simp only [SigV.d] at this; omega, fun s hs => by have := (eachE_0.1 (fst_eq0.1 (P.typesE s hs)).2).1; simp only [SigV.d] at this; omega⟩
theorem head (H : Sat g w l) (hT : U8F g) (hm : okMd g m) : Fc Tryz.prog 24 #[.agg #[m.vt, m.vm, m.vf, .int .i64 m.table, .int .i64 m.pages, .int .i64 m.most, m.vg, m.vx, .int .i64 m.start, m.ve, m.vd]] w (fun r w' => ∃ e, r = .int .i64 e ∧ e = headE m.d ∧ Sat g w' l) := by
  have hm_types := hm.types
  have hm_imps := hm.imps
  have hm_funcs := hm.funcs
  have hm_exps := hm.exps
  refine Fc.of Tryz.func24 rfl (by kernel_rfl) ?_
  by_cases hc : chkM m.d = 0
  · have P := chkM_0 hc
    have P_imps := P.imps
    have P_funcs := P.funcs
    have P_types := P.types
    have P_exps := P.exps
    have P_start := P.start
    refine rBoxS H ?_
    clear H
    intro p1 w1 H
    refine rLdA (H.at 0 rfl) 0 rfl rfl rfl ?_
    refine CallP.mk (Fc.imp (Go.Proofs.YtndhikahjmgamaaGreatDoor.Bin.check H ?_ _ ?_) ?_)
    · assumption
    · assumption
    clear H
    rintro _ w2 ⟨⟨e1, ⟨rfl, h1⟩⟩, H⟩
    refine cF (vNe_F (by omega)) ?_
    refine rFieldAt rfl ?_
    refine rLd (H.at 0 rfl) 1 rfl rfl rfl ?_
    refine rLenF hm_imps rfl ?_
    refine LoopP.rule (α := Nat) (0) (fun x_ => [(25, .int .i64 x_)]) (fun x_ w_ => (x_ ≤ m.imps.length) ∧ (AI (fun x : List UInt8 × Int => belowE m.types.length x.2) m.imps x_) ∧ Sat g w_ ((Pt p1 [m.vt, m.vm, m.vf, .int .i64 m.table, .int .i64 m.pages, .int .i64 m.most, m.vg, m.vx, .int .i64 m.start, m.ve, m.vd] 30 :: l))) (fun x_ => m.imps.length - x_) ?_ ?_ ?_
    · repeat first | exact mt_nil | refine mt_cons rfl ?_ | refine mt_i rfl (by first | omega | (simp only; omega) | (simp; omega) | (simp; done)) ?_
    · try simp only
      refine ⟨?_, ?_⟩
      · omega
      refine ⟨?_, ?_⟩
      · exact AI.zero
      exact H
    clear H
    rintro i f_ w_ ⟨hi, hA, H⟩
    try simp only at hi hA H ⊢
    rcases Nat.lt_or_ge i m.imps.length with hlt | hge
    · obtain ⟨x, hx⟩ : ∃ x, m.imps[i]? = some x := ⟨_, List.getElem?_eq_getElem hlt⟩
      refine cT (vLt_T (by omega)) ?_
      refine bk ?_
      obtain ⟨b1, o1, E1, F1, hok1⟩ := FSl.elt hm_imps hx
      have hok1_name := hok1.name
      have hok1_ty := hok1.ty
      refine rIxE E1 rfl rfl rfl ?_
      refine rLdA (H.fat F1) 0 rfl rfl rfl ?_
      refine rAllocS H rfl ?_
      clear H
      intro p2 w3 H
      clear w_
      refine rStAS H 0 rfl rfl rfl rfl ?_
      clear H
      intro w4 H
      clear w3
      refine rFieldAt rfl ?_
      refine rLd (H.at 0 rfl) 1 rfl rfl rfl ?_
      refine rFieldAt rfl ?_
      refine rLd (H.at 1 rfl) 0 rfl rfl rfl ?_
      refine rLenF hm_types rfl ?_
      refine cI (fun c1 => ?_) (fun c1 => ?_)
      · replace c1 := vLe_t (c1)
        refine Done.mk ?_
        refine ⟨8, ?_⟩
        refine ⟨?_, ?_⟩
        · refine int_eq ?_
          omega
        refine ⟨?_, ?_⟩
        · exact hd2 hc hA hx (by assumption)
        refine H.drop 1 ?_
        clear H
        intro H
        refine H.drop 0 ?_
        clear H
        intro H
        exact H
      replace c1 := vLe_f (c1)
      refine eqI64 (by omega) ?_
      refine Nxt.mk (i + 1) (mt_i rfl (by first | omega | (simp only; omega) | (simp; omega)) (mt_nil)) ?_ ?_
      · refine ⟨?_, ?_⟩
        · assumption
        refine ⟨?_, ?_⟩
        · exact hA.step hx (be0 (by omega))
        refine H.fronts [1] ?_
        clear H
        intro H
        refine H.drop 1 ?_
        clear H
        intro H
        exact H
      omega
    · have h1 := hA.fin hge
      refine cF (vLt_F (by omega)) ?_
      refine rFieldAt rfl ?_
      refine rLd (H.at 0 rfl) 2 rfl rfl rfl ?_
      refine rLenF hm_funcs rfl ?_
      refine LoopP.rule (α := Nat) (0) (fun x_ => [(39, .int .i64 x_)]) (fun x_ w_ => (x_ ≤ m.funcs.length) ∧ (AI (fun f : FunV => belowE m.types.length f.ty) m.funcs x_) ∧ Sat g w_ ((Pt p1 [m.vt, m.vm, m.vf, .int .i64 m.table, .int .i64 m.pages, .int .i64 m.most, m.vg, m.vx, .int .i64 m.start, m.ve, m.vd] 30 :: l))) (fun x_ => m.funcs.length - x_) ?_ ?_ ?_
      · repeat first | exact mt_nil | refine mt_cons rfl ?_ | refine mt_i rfl (by first | omega | (simp only; omega) | (simp; omega) | (simp; done)) ?_
      · try simp only
        refine ⟨?_, ?_⟩
        · omega
        refine ⟨?_, ?_⟩
        · exact AI.zero
        exact H
      clear H
      rintro k f_ w_ ⟨hk, hB, H⟩
      try simp only at hk hB H ⊢
      rcases Nat.lt_or_ge k m.funcs.length with hlt2 | hge2
      · obtain ⟨f, hf⟩ : ∃ f, m.funcs[k]? = some f := ⟨_, List.getElem?_eq_getElem hlt2⟩
        refine cT (vLt_T (by omega)) ?_
        refine bk ?_
        obtain ⟨b1, o1, E1, F1, hok1⟩ := FSl.elt hm_funcs hf
        have hok1_ty := hok1.ty
        have hok1_loc := hok1.loc
        have hok1_body := hok1.body
        refine rIxE E1 rfl rfl rfl ?_
        refine rLdA (H.fat F1) 0 rfl rfl rfl ?_
        refine rAllocS H rfl ?_
        clear H
        intro p2 w3 H
        clear w_
        refine rStAS H 0 rfl rfl rfl (by simp only [List.all_cons, List.all_nil, FSl.one hok1_body, FSl.one hok1_loc, FSl.one hm_exps, FSl.one hm_funcs, FSl.one hm_imps, FSl.one hm_types]; rfl) ?_
        clear H
        intro w4 H
        clear w3
        refine rFieldAt rfl ?_
        refine rLd (H.at 0 rfl) 0 rfl rfl rfl ?_
        refine rFieldAt rfl ?_
        refine rLd (H.at 1 rfl) 0 rfl rfl rfl ?_
        refine rLenF hm_types rfl ?_
        refine cI (fun c1 => ?_) (fun c1 => ?_)
        · replace c1 := vLe_t (c1)
          refine Done.mk ?_
          refine ⟨8, ?_⟩
          refine ⟨?_, ?_⟩
          · refine int_eq ?_
            omega
          refine ⟨?_, ?_⟩
          · exact hd3 hc h1 hB hf (by assumption)
          refine H.drop 1 ?_
          clear H
          intro H
          refine H.drop 0 ?_
          clear H
          intro H
          exact H
        replace c1 := vLe_f (c1)
        refine eqI64 (by omega) ?_
        refine Nxt.mk (k + 1) (mt_i rfl (by first | omega | (simp only; omega) | (simp; omega)) (mt_nil)) ?_ ?_
        · refine ⟨?_, ?_⟩
          · assumption
          refine ⟨?_, ?_⟩
          · exact hB.step hf (be0 (by omega))
          refine H.fronts [1] ?_
          clear H
          intro H
          refine H.drop 1 ?_
          clear H
          intro H
          exact H
        omega
      · have h2 := hB.fin hge2
        have hh := hd4 hc h1 h2
        have hI : HeadI m := ⟨fun x hx => ⟨(indexE_0 (fst_eq0.1 (P.impsE x hx)).2).1, below_of h1 x hx⟩, fun f hf => ⟨(indexE_0 (fst_eq0.1 (P.funcsE f hf)).1).1, below_fu h2 f hf⟩, P_imps, P_funcs, P_types⟩
        have hSB : SigB m := sigB_of P
        have hE : ∀ x ∈ m.elems, ∀ n ∈ x.fs, 0 ≤ n ∧ n ≤ 4294967295 := fun x hx n hn => indexE_0 ((eachE_0.1 (fst_eq0.1 (P.elemsE x hx)).2).2 n hn)
        rw [hh]
        refine cF (vLt_F (by omega)) ?_
        refine rMakeMap H ?_
        intro b1
        clear H
        intro w3 H
        clear w_
        refine rFieldAt rfl ?_
        refine rLd (H.at 1 rfl) 7 rfl rfl rfl ?_
        refine rLenF hm_exps rfl ?_
        refine LoopP.rule (α := Nat × MF × Nat) (0, (fun _ => none), 0) (fun x_ => [(54, .int .i64 x_.1)]) (fun x_ w_ => (x_.1 ≤ m.exps.length) ∧ (XJ (envOf m.d) m.exps x_.1 x_.2.1) ∧ Sat g w_ ((Mp b1 x_.2.1 x_.2.2 :: Pt p1 [m.vt, m.vm, m.vf, .int .i64 m.table, .int .i64 m.pages, .int .i64 m.most, m.vg, m.vx, .int .i64 m.start, m.ve, m.vd] 30 :: l))) (fun x_ => m.exps.length - x_.1) ?_ ?_ ?_
        · repeat first | exact mt_nil | refine mt_cons rfl ?_ | refine mt_i rfl (by first | omega | (simp only; omega) | (simp; omega) | (simp; done)) ?_
        · try simp only
          refine ⟨?_, ?_⟩
          · omega
          refine ⟨?_, ?_⟩
          · exact XJ.zero
          exact H
        clear H
        rintro ⟨i3, mf, nm⟩ f_ w_ ⟨hi3, hX, H⟩
        try simp only at hi3 hX H ⊢
        obtain ⟨sn, hXI⟩ := hX.ex
        rcases Nat.lt_or_ge i3 m.exps.length with hlt3 | hge3
        · obtain ⟨x, hx⟩ : ∃ x, m.exps[i3]? = some x := ⟨_, List.getElem?_eq_getElem hlt3⟩
          have hxm := List.mem_of_getElem? hx
          have hnb := indexE_0 (fst_eq0.1 (P.expsE x hxm)).2
          cases hty : typS (envOf m.d) x.2 with
          | none =>
            rw [hXI.no hx hty]
            refine cT (vLt_T (by omega)) ?_
            refine bk ?_
            obtain ⟨b2, o1, E1, F1, hok1⟩ := FSl.elt hm_exps hx
            have hok1_name := hok1.name
            have hok1_ty := hok1.ty
            refine rIxE E1 rfl rfl rfl ?_
            refine rLdA (H.fat F1) 0 rfl rfl rfl ?_
            refine rAllocS H rfl ?_
            clear H
            intro p2 w4 H
            clear w_
            refine rStAS H 0 rfl rfl rfl rfl ?_
            clear H
            intro w5 H
            clear w4
            refine rLdA (H.at 2 rfl) 0 rfl rfl rfl ?_
            refine rFieldAt rfl ?_
            refine rLd (H.at 0 rfl) 1 rfl rfl rfl ?_
            refine CallP.mk (Fc.imp (Go.Proofs.YtndhikahjmgamaaGreatDoor.Valid.typeOf H ?_ ?_ _ ?_) ?_)
            · assumption
            · assumption
            · omega
            clear H
            rintro _ w4 ⟨vi1, ⟨vo1, ⟨q1, ⟨rfl, ⟨h3, H⟩⟩⟩⟩⟩
            obtain ⟨rfl, rfl, rfl⟩ := TR.non ‹TR m x.2 _ _ _› hty
            refine rAllocS H rfl ?_
            clear H
            intro p3 w6 H
            clear w4
            refine rStAS H 0 rfl rfl rfl rfl ?_
            clear H
            intro w4 H
            clear w6
            refine cT rfl ?_
            refine Done.mk ?_
            refine ⟨8, ?_⟩
            refine ⟨?_, ?_⟩
            · refine int_eq ?_
              omega
            refine ⟨?_, ?_⟩
            · rfl
            refine H.drop 3 ?_
            clear H
            intro H
            refine H.drop 2 ?_
            clear H
            intro H
            refine H.drop 1 ?_
            clear H
            intro H
            refine H.drop 0 ?_
            clear H
            intro H
            exact H
          | some d =>
            cases hfk : mf x.1 with
            | none =>
              refine cT (vLt_T (by omega)) ?_
              refine bk ?_
              obtain ⟨b2, o1, E1, F1, hok1⟩ := FSl.elt hm_exps hx
              have hok1_name := hok1.name
              have hok1_ty := hok1.ty
              refine rIxE E1 rfl rfl rfl ?_
              refine rLdA (H.fat F1) 0 rfl rfl rfl ?_
              refine rAllocS H rfl ?_
              clear H
              intro p2 w4 H
              clear w_
              refine rStAS H 0 rfl rfl rfl rfl ?_
              clear H
              intro w5 H
              clear w4
              refine rLdA (H.at 2 rfl) 0 rfl rfl rfl ?_
              refine rFieldAt rfl ?_
              refine rLd (H.at 0 rfl) 1 rfl rfl rfl ?_
              refine CallP.mk (Fc.imp (Go.Proofs.YtndhikahjmgamaaGreatDoor.Valid.typeOf H ?_ ?_ _ ?_) ?_)
              · assumption
              · assumption
              · omega
              clear H
              rintro _ w4 ⟨vi1, ⟨vo1, ⟨q1, ⟨rfl, ⟨h3, H⟩⟩⟩⟩⟩
              obtain ⟨rfl, s, hs, rfl, rfl, rfl⟩ := TR.get ‹TR m x.2 _ _ _› hty
              have hs_inn := (FSl.all hm_types s hs).inn
              have hs_out := (FSl.all hm_types s hs).out
              refine rAllocS H rfl ?_
              clear H
              intro p3 w6 H
              clear w4
              refine rStAS H 0 rfl rfl rfl (by simp only [List.all_cons, List.all_nil, FSl.one hs_out, FSl.one hs_inn, FSl.one hm_exps, FSl.one hm_funcs, FSl.one hm_imps, FSl.one hm_types]; rfl) ?_
              clear H
              intro w4 H
              clear w6
              refine cF rfl ?_
              refine rFieldAt rfl ?_
              refine rLd (H.at 1 rfl) 0 rfl rfl rfl ?_
              refine rMapGet H 2 rfl rfl rfl rfl ?_
              intro mx1 mc1 hm1
              refine cI (fun c1 => ?_) (fun c1 => ?_)
              · refine Done.mk ?_
                exact mapNo hm1 c1 hfk
              refine rFieldAt rfl ?_
              refine rLd (H.at 1 rfl) 0 rfl rfl rfl ?_
              refine rMapPut H 2 rfl rfl rfl ?_
              intro n1 hn1
              clear H
              intro w6 H
              clear w4
              refine eqI64 (by omega) ?_
              refine Nxt.mk ((i3 + 1, fun x_1 => Decidable.rec (fun h => (fun x => mf x_1) h) (fun h => (fun x => some (↑i3 : Int)) h) (instDecidableEqList x_1 x.fst), n1)) (mt_i rfl (by first | omega | (simp only; omega) | (simp; omega)) (mt_nil)) ?_ ?_
              · refine ⟨?_, ?_⟩
                · assumption
                refine ⟨?_, ?_⟩
                · exact XJ.step hX hx hty hfk
                refine H.fronts [3, 3] ?_
                clear H
                intro H
                refine H.drop 3 ?_
                clear H
                intro H
                refine H.drop 2 ?_
                clear H
                intro H
                exact H
              omega
            | some v0 =>
              rw [hXI.twice hx hty hfk]
              refine cT (vLt_T (by omega)) ?_
              refine bk ?_
              obtain ⟨b2, o1, E1, F1, hok1⟩ := FSl.elt hm_exps hx
              have hok1_name := hok1.name
              have hok1_ty := hok1.ty
              refine rIxE E1 rfl rfl rfl ?_
              refine rLdA (H.fat F1) 0 rfl rfl rfl ?_
              refine rAllocS H rfl ?_
              clear H
              intro p2 w4 H
              clear w_
              refine rStAS H 0 rfl rfl rfl rfl ?_
              clear H
              intro w5 H
              clear w4
              refine rLdA (H.at 2 rfl) 0 rfl rfl rfl ?_
              refine rFieldAt rfl ?_
              refine rLd (H.at 0 rfl) 1 rfl rfl rfl ?_
              refine CallP.mk (Fc.imp (Go.Proofs.YtndhikahjmgamaaGreatDoor.Valid.typeOf H ?_ ?_ _ ?_) ?_)
              · assumption
              · assumption
              · omega
              clear H
              rintro _ w4 ⟨vi1, ⟨vo1, ⟨q1, ⟨rfl, ⟨h3, H⟩⟩⟩⟩⟩
              obtain ⟨rfl, s, hs, rfl, rfl, rfl⟩ := TR.get ‹TR m x.2 _ _ _› hty
              have hs_inn := (FSl.all hm_types s hs).inn
              have hs_out := (FSl.all hm_types s hs).out
              refine rAllocS H rfl ?_
              clear H
              intro p3 w6 H
              clear w4
              refine rStAS H 0 rfl rfl rfl (by simp only [List.all_cons, List.all_nil, FSl.one hs_out, FSl.one hs_inn, FSl.one hm_exps, FSl.one hm_funcs, FSl.one hm_imps, FSl.one hm_types]; rfl) ?_
              clear H
              intro w4 H
              clear w6
              refine cF rfl ?_
              refine rFieldAt rfl ?_
              refine rLd (H.at 1 rfl) 0 rfl rfl rfl ?_
              refine rMapGet H 2 rfl rfl rfl rfl ?_
              intro mx1 mc1 hm1
              refine cI (fun c1 => ?_) (fun c1 => ?_)
              · refine Done.mk ?_
                refine ⟨12, ?_⟩
                refine ⟨?_, ?_⟩
                · refine int_eq ?_
                  omega
                refine ⟨?_, ?_⟩
                · rfl
                refine H.drop 3 ?_
                clear H
                intro H
                refine H.drop 2 ?_
                clear H
                intro H
                refine H.drop 1 ?_
                clear H
                intro H
                refine H.drop 0 ?_
                clear H
                intro H
                exact H
              refine rFieldAt rfl ?_
              refine rLd (H.at 1 rfl) 0 rfl rfl rfl ?_
              refine rMapPut H 2 rfl rfl rfl ?_
              intro n1 hn1
              clear H
              intro w6 H
              clear w4
              refine eqI64 (by omega) ?_
              refine Nxt.mk ((i3 + 1, fun x_1 => Decidable.rec (fun h => (fun x => mf x_1) h) (fun h => (fun x => some (↑i3 : Int)) h) (instDecidableEqList x_1 x.fst), n1)) (mt_i rfl (by first | omega | (simp only; omega) | (simp; omega)) (mt_nil)) ?_ ?_
              · exact mapYes hm1 c1 hfk
              exact mapYes hm1 c1 hfk
        · rw [hXI.fin hge3, fst_0]
          by_cases hst : 0 < m.start
          · cases hty : typS (envOf m.d) (m.start - 1) with
            | none =>
              have hse : staE (envOf m.d) m.start = 8 := by unfold staE; rw [if_pos hst, hty]
              rw [hse]
              refine cF (vLt_F (by omega)) ?_
              refine rFieldAt rfl ?_
              refine rLd (H.at 1 rfl) 8 rfl rfl rfl ?_
              refine cT (vLt_T (by assumption)) ?_
              refine rLdA (H.at 1 rfl) 0 rfl rfl rfl ?_
              refine rFieldAt rfl ?_
              refine rLd (H.at 1 rfl) 8 rfl rfl rfl ?_
              refine eqI64 (by omega) ?_
              refine CallP.mk (Fc.imp (Go.Proofs.YtndhikahjmgamaaGreatDoor.Valid.typeOf H ?_ ?_ _ ?_) ?_)
              · assumption
              · assumption
              · omega
              clear H
              rintro _ w4 ⟨vi1, ⟨vo1, ⟨q1, ⟨rfl, ⟨h3, H⟩⟩⟩⟩⟩
              obtain ⟨rfl, rfl, rfl⟩ := TR.non ‹TR m (m.start - 1) _ _ _› hty
              refine rAllocS H rfl ?_
              clear H
              intro p2 w5 H
              clear w4
              refine rStAS H 0 rfl rfl rfl rfl ?_
              clear H
              intro w4 H
              clear w5
              refine cT rfl ?_
              refine Done.mk ?_
              refine ⟨8, ?_⟩
              refine ⟨?_, ?_⟩
              · refine int_eq ?_
                omega
              refine ⟨?_, ?_⟩
              · rfl
              refine H.drop 2 ?_
              clear H
              intro H
              refine H.drop 1 ?_
              clear H
              intro H
              refine H.drop 0 ?_
              clear H
              intro H
              exact H
            | some d =>
              have hse : staE (envOf m.d) m.start = if 0 < d.inn.length + d.out.length then 10 else 0 := by unfold staE; rw [if_pos hst, hty]
              rw [hse]
              refine cF (vLt_F (by omega)) ?_
              refine rFieldAt rfl ?_
              refine rLd (H.at 1 rfl) 8 rfl rfl rfl ?_
              refine cT (vLt_T (by assumption)) ?_
              refine rLdA (H.at 1 rfl) 0 rfl rfl rfl ?_
              refine rFieldAt rfl ?_
              refine rLd (H.at 1 rfl) 8 rfl rfl rfl ?_
              refine eqI64 (by omega) ?_
              refine CallP.mk (Fc.imp (Go.Proofs.YtndhikahjmgamaaGreatDoor.Valid.typeOf H ?_ ?_ _ ?_) ?_)
              · assumption
              · assumption
              · omega
              clear H
              rintro _ w4 ⟨vi1, ⟨vo1, ⟨q1, ⟨rfl, ⟨h3, H⟩⟩⟩⟩⟩
              obtain ⟨rfl, s, hs, rfl, rfl, rfl⟩ := TR.get ‹TR m (m.start - 1) _ _ _› hty
              have hs_inn := (FSl.all hm_types s hs).inn
              have hs_out := (FSl.all hm_types s hs).out
              have hsl1 := hSB.inn s hs
              have hsl2 := hSB.out s hs
              simp only [SigV.d]
              refine rAllocS H rfl ?_
              clear H
              intro p2 w5 H
              clear w4
              refine rStAS H 0 rfl rfl rfl (by simp only [List.all_cons, List.all_nil, FSl.one hs_out, FSl.one hs_inn, FSl.one hm_exps, FSl.one hm_funcs, FSl.one hm_imps, FSl.one hm_types]; rfl) ?_
              clear H
              intro w4 H
              clear w5
              refine cF rfl ?_
              refine rFieldAt rfl ?_
              refine rLd (H.at 0 rfl) 0 rfl rfl rfl ?_
              refine rLenF hs_inn rfl ?_
              refine rFieldAt rfl ?_
              refine rLd (H.at 0 rfl) 1 rfl rfl rfl ?_
              refine rLenF hs_out rfl ?_
              refine eqI64 (by omega) ?_
              refine cI (fun c1 => ?_) (fun c1 => ?_)
              · replace c1 := vLt_t (c1)
                refine Done.mk ?_
                refine ⟨10, ?_⟩
                refine ⟨?_, ?_⟩
                · refine int_eq ?_
                  omega
                refine ⟨?_, ?_⟩
                · exact st10 c1
                refine H.drop 2 ?_
                clear H
                intro H
                refine H.drop 1 ?_
                clear H
                intro H
                refine H.drop 0 ?_
                clear H
                intro H
                exact H
              replace c1 := vLt_f (c1)
              refine rLdA (H.at 2 rfl) 0 rfl rfl rfl ?_
              refine CallP.mk (Fc.imp (Go.Proofs.YtndhikahjmgamaaGreatDoor.Valid.parts H ?_ ?_ ?_) ?_)
              · assumption
              · assumption
              · assumption
              clear H
              rintro _ w5 ⟨e2, ⟨rfl, ⟨h4, H⟩⟩⟩
              refine Done.mk ?_
              refine ⟨e2, ?_⟩
              refine ⟨?_, ?_⟩
              · refine int_eq ?_
                omega
              refine ⟨?_, ?_⟩
              · exact st00 c1 (by assumption)
              refine H.drop 2 ?_
              clear H
              intro H
              refine H.drop 1 ?_
              clear H
              intro H
              refine H.drop 0 ?_
              clear H
              intro H
              exact H
          · have hse : staE (envOf m.d) m.start = 0 := if_neg hst
            rw [hse, fst_0]
            refine cF (vLt_F (by omega)) ?_
            refine rFieldAt rfl ?_
            refine rLd (H.at 1 rfl) 8 rfl rfl rfl ?_
            refine cF (vLt_F (by omega)) ?_
            refine rLdA (H.at 1 rfl) 0 rfl rfl rfl ?_
            refine CallP.mk (Fc.imp (Go.Proofs.YtndhikahjmgamaaGreatDoor.Valid.parts H ?_ ?_ ?_) ?_)
            · assumption
            · assumption
            · assumption
            clear H
            rintro _ w4 ⟨e2, ⟨rfl, ⟨h3, H⟩⟩⟩
            refine Done.mk ?_
            refine ⟨e2, ?_⟩
            refine ⟨?_, ?_⟩
            · refine int_eq ?_
              omega
            refine ⟨?_, ?_⟩
            · assumption
            refine H.drop 1 ?_
            clear H
            intro H
            refine H.drop 0 ?_
            clear H
            intro H
            exact H
  · refine rBoxS H ?_
    clear H
    intro p1 w1 H
    refine rLdA (H.at 0 rfl) 0 rfl rfl rfl ?_
    refine CallP.mk (Fc.imp (Go.Proofs.YtndhikahjmgamaaGreatDoor.Bin.check H ?_ _ ?_) ?_)
    · assumption
    · assumption
    clear H
    rintro _ w2 ⟨⟨e1, ⟨rfl, h1⟩⟩, H⟩
    refine cT (vNe_T (by omega)) ?_
    refine Done.mk ?_
    refine ⟨e1, ?_⟩
    refine ⟨?_, ?_⟩
    · refine int_eq ?_
      omega
    refine ⟨?_, ?_⟩
    · exact hd1 hc (by assumption)
    refine H.drop 0 ?_
    clear H
    intro H
    exact H

end
end Go.Proofs.YtndhikahjmgamaaGreatDoor.Valid
/- Package valid: Module. -/
set_option maxRecDepth 100000
set_option maxHeartbeats 4000000
set_option linter.unusedVariables false
set_option linter.unusedSimpArgs false
namespace Go.Proofs.YtndhikahjmgamaaGreatDoor.Valid
open Go Go.Proofs.YtndhikahjmgamaaGreatDoor.Eng Go.RowKit
open Ins Nest Leb Bin
section
variable {g : Glob} {w : World} {l : List As} {pc : Nat} {m : ModV} {vl vs vo : Value} {st : List Int} {op : List PartD} {b : Int}
theorem head_0 (h : headE m.d = 0) : chkM m.d = 0 ∧ HeadI m ∧ SigB m := by
  unfold headE at h
  obtain ⟨hc, h⟩ := fst_eq0.1 h
  obtain ⟨h1, h⟩ := fst_eq0.1 h
  obtain ⟨h2, _⟩ := fst_eq0.1 h
  rw [im_all] at h1
  rw [fu_all] at h2
  have P := chkM_0 hc
  exact ⟨hc, ⟨fun x hx => ⟨(indexE_0 (fst_eq0.1 (P.impsE x hx)).2).1, below_of h1 x hx⟩, fun f hf => ⟨(indexE_0 (fst_eq0.1 (P.funcsE f hf)).1).1, below_fu h2 f hf⟩, P.imps, P.funcs, P.types⟩, sigB_of P⟩
theorem bodies_map : allE (bodyE (envOf m.d)) m.d.funcs = allE (fun f : FunV => bodyE (envOf m.d) f.d) m.funcs := by
  show allE _ (m.funcs.map FunV.d) = _
  rw [allE_map]
theorem mo1 {e : Int} (h : e = headE m.d) (he : e ≠ 0) : e = modE m.d := by
  unfold modE; rw [fst_ne _ (h ▸ he)]; exact h
theorem mo2 {i : Nat} {f : FunV} {e : Int} (h0 : headE m.d = 0) (h : AI (fun f : FunV => bodyE (envOf m.d) f.d) m.funcs i) (hf : m.funcs[i]? = some f) (h1 : e = bodyE (envOf m.d) f.d) (he : e ≠ 0) : e = modE m.d := by
  unfold modE; rw [h0, fst_0, bodies_map, h.bad hf (h1 ▸ he)]; exact h1
theorem mo3 {i : Nat} (h0 : headE m.d = 0) (h : AI (fun f : FunV => bodyE (envOf m.d) f.d) m.funcs i) (hi : m.funcs.length ≤ i) : 0 = modE m.d := by
  unfold modE; rw [h0, fst_0, bodies_map, h.fin hi]
theorem module_ (H : Sat g w l) (hT : U8F g) (hm : okMd g m) : Fc Tryz.prog 11 #[.agg #[m.vt, m.vm, m.vf, .int .i64 m.table, .int .i64 m.pages, .int .i64 m.most, m.vg, m.vx, .int .i64 m.start, m.ve, m.vd]] w (fun r w' => ∃ e, r = .int .i64 e ∧ e = modE m.d ∧ Sat g w' l) := by
  have hm_funcs := hm.funcs
  have hlf := SlR.len hm_funcs
  refine Fc.of Tryz.func11 rfl (by kernel_rfl) ?_
  by_cases h0 : headE m.d = 0
  · obtain ⟨hc, hI, hS⟩ := head_0 h0
    have P := chkM_0 hc
    refine rBoxS H ?_
    clear H
    intro p1 w1 H
    refine rLdA (H.at 0 rfl) 0 rfl rfl rfl ?_
    refine CallP.mk (Fc.imp (Go.Proofs.YtndhikahjmgamaaGreatDoor.Valid.head H ?_ ?_) ?_)
    · assumption
    · assumption
    clear H
    rintro _ w2 ⟨e1, ⟨rfl, ⟨h1, H⟩⟩⟩
    refine cF (vNe_F (by omega)) ?_
    refine rFieldAt rfl ?_
    refine rLd (H.at 0 rfl) 2 rfl rfl rfl ?_
    refine rLenF hm_funcs rfl ?_
    refine LoopP.rule (α := Nat) (0) (fun x_ => [(15, .int .i64 x_)]) (fun x_ w_ => (x_ ≤ m.funcs.length) ∧ (AI (fun f : FunV => bodyE (envOf m.d) f.d) m.funcs x_) ∧ Sat g w_ ((Pt p1 [m.vt, m.vm, m.vf, .int .i64 m.table, .int .i64 m.pages, .int .i64 m.most, m.vg, m.vx, .int .i64 m.start, m.ve, m.vd] 30 :: l))) (fun x_ => m.funcs.length - x_) ?_ ?_ ?_
    · repeat first | exact mt_nil | refine mt_cons rfl ?_ | refine mt_i rfl (by first | omega | (simp only; omega) | (simp; omega) | (simp; done)) ?_
    · try simp only
      refine ⟨?_, ?_⟩
      · omega
      refine ⟨?_, ?_⟩
      · exact AI.zero
      exact H
    clear H
    rintro i f_ w_ ⟨hi, hA, H⟩
    try simp only at hi hA H ⊢
    rcases Nat.lt_or_ge i m.funcs.length with hlt | hge
    · obtain ⟨f, hf⟩ : ∃ f, m.funcs[i]? = some f := ⟨_, List.getElem?_eq_getElem hlt⟩
      have hfe := P.funcsE f (List.mem_of_getElem? hf)
      have hcb : chkB (f.body.map InsV.d) = 0 := (fst_eq0.1 (fst_eq0.1 hfe).2).2
      have hfl : f.loc.length ≤ 16 := by
        have := (eachE_0.1 (fst_eq0.1 (fst_eq0.1 hfe).2).1).1
        simp only [FunV.d] at this
        omega
      refine cT (vLt_T (by omega)) ?_
      refine bk ?_
      refine rLdA (H.at 0 rfl) 0 rfl rfl rfl ?_
      refine CallP.mk (Fc.imp (Go.Proofs.YtndhikahjmgamaaGreatDoor.Valid.check_ H ?_ ?_ ?_ (i) _ hf ?_ ?_) ?_)
      · assumption
      · assumption
      · assumption
      · assumption
      · assumption
      clear H
      rintro _ w3 ⟨i1, ⟨e2, ⟨rfl, ⟨h2, H⟩⟩⟩⟩
      refine cI (fun c1 => ?_) (fun c1 => ?_)
      · replace c1 := vNe_t (c1)
        refine Done.mk ?_
        refine ⟨e2, ?_⟩
        refine ⟨?_, ?_⟩
        · refine int_eq ?_
          omega
        refine ⟨?_, ?_⟩
        · exact mo2 h0 hA hf (by assumption) (by assumption)
        refine H.drop 0 ?_
        clear H
        intro H
        exact H
      replace c1 := vNe_f (c1)
      refine eqI64 (by omega) ?_
      refine Nxt.mk (i + 1) (mt_i rfl (by first | omega | (simp only; omega) | (simp; omega)) (mt_nil)) ?_ ?_
      · refine ⟨?_, ?_⟩
        · assumption
        refine ⟨?_, ?_⟩
        · exact hA.step hf (by omega)
        exact H
      omega
    · refine cF (vLt_F (by omega)) ?_
      refine Done.mk ?_
      refine ⟨0, ?_⟩
      refine ⟨?_, ?_⟩
      · refine int_eq ?_
        omega
      refine ⟨?_, ?_⟩
      · exact mo3 h0 hA hge
      refine H.drop 0 ?_
      clear H
      intro H
      exact H
  · refine rBoxS H ?_
    clear H
    intro p1 w1 H
    refine rLdA (H.at 0 rfl) 0 rfl rfl rfl ?_
    refine CallP.mk (Fc.imp (Go.Proofs.YtndhikahjmgamaaGreatDoor.Valid.head H ?_ ?_) ?_)
    · assumption
    · assumption
    clear H
    rintro _ w2 ⟨e1, ⟨rfl, ⟨h1, H⟩⟩⟩
    refine cT (vNe_T (by omega)) ?_
    refine Done.mk ?_
    refine ⟨e1, ?_⟩
    refine ⟨?_, ?_⟩
    · refine int_eq ?_
      omega
    refine ⟨?_, ?_⟩
    · exact mo1 (by assumption) (by omega)
    refine H.drop 0 ?_
    clear H
    intro H
    exact H

end
end Go.Proofs.YtndhikahjmgamaaGreatDoor.Valid
/- Modules in a world where more is frozen. -/
set_option maxRecDepth 100000
set_option maxHeartbeats 4000000
set_option linter.unusedVariables false
set_option linter.unusedSimpArgs false
namespace Go.Proofs.YtndhikahjmgamaaGreatDoor.Bin
open Go Go.Proofs.YtndhikahjmgamaaGreatDoor.Eng Go.RowKit
open Ins Nest Leb
section
variable {g g' : Glob}
theorem okSg.ext {x : SigV} (h : okSg g x) (E : Ext g g') : okSg g' x := ⟨h.inn.ext E, h.out.ext E⟩
theorem okFn.ext {x : FunV} (h : okFn g x) (E : Ext g g') : okFn g' x := ⟨h.ty, h.loc.ext E, FSl.extN (ok := okV) (fun _ _ _ h E => h.ext E) h.body E⟩
theorem okEl.ext {x : ElV} (h : okEl g x) (E : Ext g g') : okEl g' x := ⟨h.pl, h.fs.ext E⟩
theorem okMd.ext {m : ModV} (h : okMd g m) (E : Ext g g') : okMd g' m :=
  ⟨FSl.extN (ok := okSg) (fun _ _ _ h E => h.ext E) h.types E, h.imps.ext E, FSl.extN (ok := okFn) (fun _ _ _ h E => h.ext E) h.funcs E, h.table, h.pages, h.most, h.globals.ext E, h.exps.ext E, h.start, FSl.extN (ok := okEl) (fun _ _ _ h E => h.ext E) h.elems E, h.data.ext E⟩
theorem u8_ext (h : Leb.U8F g) (E : Ext g g') : Leb.U8F g' := fun w l H => h w l (H.forget E)
end
end Go.Proofs.YtndhikahjmgamaaGreatDoor.Bin
/- The laws' helpers: bare, refused, sound. -/
set_option maxRecDepth 100000
set_option maxHeartbeats 4000000
set_option linter.unusedVariables false
set_option linter.unusedSimpArgs false
namespace Go.Proofs.YtndhikahjmgamaaGreatDoor.Valid
open Go Go.Proofs.YtndhikahjmgamaaGreatDoor.Eng Go.RowKit
open Ins Nest Leb Bin
def bareD (l : List InsD) : ModD := ⟨[⟨[], []⟩], [], [⟨0, [], l⟩], 0, 0, 0, [], [], 0, [], []⟩
section
variable {g : Glob} {w : World} {l : List As}
theorem bare (H : Sat g w l) (v : Value) (xs : List InsV) (hx : FSl g enV (okV g) 4 v xs) : Fc Tryz.prog 7 #[v] w (fun r w' => ∃ (g' : Glob) (m : ModV), r = .agg #[m.vt, m.vm, m.vf, .int .i64 m.table, .int .i64 m.pages, .int .i64 m.most, m.vg, m.vx, .int .i64 m.start, m.ve, m.vd] ∧ Ext g g' ∧ okMd g' m ∧ m.d = bareD (xs.map InsV.d) ∧ Sat g' w' l) := by
  refine Fc.of Tryz.func7 rfl (by kernel_rfl) ?_
  refine rAllocS H rfl ?_
  clear H
  intro p1 w1 H
  refine rBuild rfl rfl rfl ?_
  refine rBuildSliceS H rfl rfl rfl rfl ?_
  clear H
  intro p2 w2 H
  clear w1
  obtain ⟨a1, c1, rfl⟩ := FSl.form hx
  refine rBuild rfl rfl rfl ?_
  refine rBuildSliceS H rfl rfl rfl rfl ?_
  clear H
  intro p3 w1 H
  clear w2
  refine rBuild rfl rfl rfl ?_
  refine rStAS H 2 rfl rfl rfl rfl ?_
  clear H
  intro w2 H
  clear w1
  refine rdAN (H.at 2 rfl) 0 rfl rfl rfl ?_
  refine H.ptSl (n := 1) (en := enFn) (s := 3) 0 rfl [⟨0, .slice none 0 0, [], .slice a1 xs.length c1, xs⟩] rfl rfl (fun _ => rfl) rfl ?_
  clear H
  intro H
  refine H.ptSl (n := 1) (en := enSg) (s := 2) 1 rfl [⟨.slice none 0 0, [], .slice none 0 0, []⟩] rfl rfl (fun _ => rfl) rfl ?_
  clear H
  intro H
  have i0 : I64 0 := by decide
  refine H.frz1 0 (okFn g) rfl (fun x h => by rw [List.mem_singleton.1 h]; exact ⟨i0, FSl.nil0 _ _ _ _, hx⟩) ?_
  intro g1 E1 h1
  clear H
  intro H
  refine H.frz1 0 (okSg g) rfl (fun x h => by rw [List.mem_singleton.1 h]; exact ⟨FSl.nil0 _ _ _ _, FSl.nil0 _ _ _ _⟩) ?_
  intro g2 E2 h2
  clear H
  intro H
  have E := E1.trans E2
  exact Done.mk ⟨g2, ⟨_, _, .slice none 0 0, [], _, _, 0, 0, 0, .slice none 0 0, [], .slice none 0 0, [], 0, .slice none 0 0, [], .slice none 0 0, []⟩, rfl, E,
    ⟨h2.okm fun _ _ h => h.ext E, FSl.nil0 _ _ _ _, (h1.ext E2).okm fun _ _ h => h.ext E, i0, i0, i0, FSl.nil0 _ _ _ _, FSl.nil0 _ _ _ _, i0, FSl.nil0 _ _ _ _, FSl.nil0 _ _ _ _⟩, rfl, H.del 0⟩
/-- What sound hands back. -/
structure SR (m : ModV) (a k x y : Int) (b : Bool) : Prop where
  yes : b = true → modE m.d = 0 ∧ 0 < m.funcs.length ∧ x = a % m.funcs.length ∧ ∃ f, m.funcs[x.toNat]? = some f ∧ y = k % f.body.length
  no : b = false → modE m.d ≠ 0 ∨ m.funcs.length = 0
theorem SR.mkN {m : ModV} {a k x y : Int} (h : modE m.d ≠ 0 ∨ m.funcs.length = 0) : SR m a k x y false := ⟨nofun, fun _ => h⟩
theorem SR.mkY {m : ModV} {a k : Int} {f : FunV} (h : modE m.d = 0) (hl : 0 < m.funcs.length) (hf : m.funcs[(a % m.funcs.length).toNat]? = some f) : SR m a k (a % m.funcs.length) (k % f.body.length) true := ⟨fun _ => ⟨h, hl, rfl, f, hf, rfl⟩, nofun⟩
theorem mod_head {m : ModV} (h : modE m.d = 0) : headE m.d = 0 ∧ ∀ f ∈ m.funcs, bodyE (envOf m.d) f.d = 0 := by
  unfold modE at h
  obtain ⟨h1, h2⟩ := fst_eq0.1 h
  rw [bodies_map] at h2
  exact ⟨h1, allE_0.1 h2⟩
theorem mod_body {m : ModV} (h : modE m.d = 0) : ∀ f ∈ m.funcs, chkB (f.body.map InsV.d) = 0 := fun f hf => by
  have P := chkM_0 (head_0 (mod_head h).1).1
  exact (fst_eq0.1 (fst_eq0.1 (P.funcsE f hf)).2).2
theorem sound (H : Sat g w l) (hT : U8F g) (m : ModV) (hm : okMd g m) (a k : Int) (ha : I64 a) (hk : I64 k) : Fc Tryz.prog 5 #[.agg #[m.vt, m.vm, m.vf, .int .i64 m.table, .int .i64 m.pages, .int .i64 m.most, m.vg, m.vx, .int .i64 m.start, m.ve, m.vd], .int .i64 a, .int .i64 k] w (fun r w' => ∃ x y b, r = .tuple #[.int .i64 x, .int .i64 y, .bool b] ∧ SR m a k x y b ∧ Sat g w' l) := by
  have hm_funcs := hm.funcs
  have hlf := SlR.len hm_funcs
  refine Fc.of Tryz.func5 rfl (by kernel_rfl) ?_
  by_cases hb : modE m.d = 0 ∧ 0 < m.funcs.length
  · obtain ⟨hb1, hb2⟩ := hb
    have hi1 := Int.emod_nonneg a (Int.ne_of_gt (by omega : (0 : Int) < m.funcs.length))
    have hi2 := Int.emod_lt_of_pos a (by omega : (0 : Int) < m.funcs.length)
    obtain ⟨f, hf⟩ : ∃ f, m.funcs[(a % m.funcs.length).toNat]? = some f := ⟨_, List.getElem?_eq_getElem (by omega)⟩
    have hfo := FSl.all hm_funcs f (List.mem_of_getElem? hf)
    have hf_body := hfo.body
    have hbl := SlR.len hf_body
    have hbp : 0 < f.body.length := by
      have := chkB_ne (mod_body hb1 f (List.mem_of_getElem? hf))
      exact List.length_pos_iff.2 (fun h => this (by rw [h]; rfl))
    refine rBoxS H ?_
    clear H
    intro p1 w1 H
    refine rLdA (H.at 0 rfl) 0 rfl rfl rfl ?_
    refine CallP.mk (Fc.imp (Go.Proofs.YtndhikahjmgamaaGreatDoor.Valid.module_ H ?_ ?_) ?_)
    · assumption
    · assumption
    clear H
    rintro _ w2 ⟨e1, ⟨rfl, ⟨h1, H⟩⟩⟩
    refine br_f (vNe_F (by omega)) ?_
    refine rFieldAt rfl ?_
    refine rLd (H.at 0 rfl) 2 rfl rfl rfl ?_
    refine rLenF hm_funcs rfl ?_
    refine cF (vEq_F (by omega)) ?_
    refine rFieldAt rfl ?_
    refine rLd (H.at 0 rfl) 2 rfl rfl rfl ?_
    refine rLenF hm_funcs rfl ?_
    refine CallP.mk (Fc.imp (Go.Proofs.YtndhikahjmgamaaGreatDoor.Ref.rest _ _ ?_ ?_ _) ?_)
    · assumption
    · omega
    rintro _ _ ⟨rfl, rfl⟩
    refine rFieldAt rfl ?_
    refine rLd (H.at 0 rfl) 2 rfl rfl rfl ?_
    obtain ⟨b1, o1, E1, F1, hok1⟩ := FSl.elt hm_funcs hf
    have hok1_ty := hok1.ty
    have hok1_loc := hok1.loc
    have hok1_body := hok1.body
    refine rIxE E1 (by omega) rfl rfl ?_
    refine rFieldAt rfl ?_
    refine rLd (H.fat F1) 2 rfl rfl rfl ?_
    refine rLenF hok1_body rfl ?_
    refine CallP.mk (Fc.imp (Go.Proofs.YtndhikahjmgamaaGreatDoor.Ref.rest _ _ ?_ ?_ _) ?_)
    · assumption
    · omega
    rintro _ _ ⟨rfl, rfl⟩
    refine Done.mk ?_
    refine ⟨a % (↑m.funcs.length : Int), k % (↑f.body.length : Int), true, ?_⟩
    refine ⟨?_, ?_⟩
    · rfl
    refine ⟨?_, ?_⟩
    · exact SR.mkY hb1 hb2 hf
    refine H.drop 0 ?_
    clear H
    intro H
    exact H
  · refine rBoxS H ?_
    clear H
    intro p1 w1 H
    refine rLdA (H.at 0 rfl) 0 rfl rfl rfl ?_
    refine CallP.mk (Fc.imp (Go.Proofs.YtndhikahjmgamaaGreatDoor.Valid.module_ H ?_ ?_) ?_)
    · assumption
    · assumption
    clear H
    rintro _ w2 ⟨e1, ⟨rfl, ⟨h1, H⟩⟩⟩
    refine br (fun c1 => ?_) (fun c1 => ?_)
    · replace c1 := vNe_t (c1)
      refine cT rfl ?_
      refine Done.mk ?_
      refine ⟨0, 0, false, ?_⟩
      refine ⟨?_, ?_⟩
      · rfl
      refine ⟨?_, ?_⟩
      · exact SR.mkN (by omega)
      refine H.drop 0 ?_
      clear H
      intro H
      exact H
    replace c1 := vNe_f (c1)
    refine rFieldAt rfl ?_
    refine rLd (H.at 0 rfl) 2 rfl rfl rfl ?_
    refine rLenF hm_funcs rfl ?_
    refine cT (vEq_T (by omega)) ?_
    refine Done.mk ?_
    refine ⟨0, 0, false, ?_⟩
    refine ⟨?_, ?_⟩
    · rfl
    refine ⟨?_, ?_⟩
    · exact SR.mkN (by omega)
    refine H.drop 0 ?_
    clear H
    intro H
    exact H
end
end Go.Proofs.YtndhikahjmgamaaGreatDoor.Valid
/- More types, globals and locals leave a sound module sound: the plain law. -/
set_option maxRecDepth 100000
set_option maxHeartbeats 4000000
set_option linter.unusedVariables false
set_option linter.unusedSimpArgs false
namespace Go.Proofs.YtndhikahjmgamaaGreatDoor.Valid
open Go Go.Proofs.YtndhikahjmgamaaGreatDoor.Eng Go.RowKit
open Ins Nest Leb Bin
structure Wid (E E' : VEnv) : Prop where
  types : ∃ ts, E'.types = E.types ++ ts
  imps : E'.imps = E.imps
  funs : E'.funs = E.funs
  globals : ∃ gs, E'.globals = E.globals ++ gs
  table : E'.table = E.table
  most : E'.most = E.most
section
variable {E E' : VEnv} {L ks : List Int} {c : Ck} {n : Int}
theorem failS_bad {e : Int} (he : e ≠ 0) : (failS c e).bad ≠ 0 := by
  unfold failS
  split
  · exact he
  · assumption
theorem Wid.typI (W : Wid E E') : typI E' n = typI E n := by
  unfold Valid.typI; rw [W.imps, W.funs]
theorem Wid.typS {d : SigD} (W : Wid E E') (h : typS E n = some d) : typS E' n = some d := by
  obtain ⟨ts, ht⟩ := W.types
  unfold Valid.typS at *
  rw [W.typI]
  cases hk : Valid.typI E n with
  | none => rw [hk] at h; cases h
  | some k =>
    rw [hk] at h
    simp only [Option.bind_some] at h ⊢
    rw [ht, List.getElem?_append_left (List.getElem?_eq_some_iff.1 h).1]; exact h
theorem getD_app {α : Type} {l r : List α} {i : Nat} {z : α} (h : i < l.length) : (l ++ r).getD i z = l.getD i z := by
  rw [List.getD_eq_getElem?_getD, List.getD_eq_getElem?_getD, List.getElem?_append_left h]
end
/-- A module with more types, globals and locals. -/
structure More (m n : ModD) : Prop where
  types : ∃ ts, n.types = m.types ++ ts
  imps : n.imps = m.imps
  tys : n.funcs.map (·.ty) = m.funcs.map (·.ty)
  funcs : ∀ f' ∈ n.funcs, ∃ f ∈ m.funcs, ∃ ks, f'.ty = f.ty ∧ f'.body = f.body ∧ f'.loc = f.loc ++ ks
  table : n.table = m.table
  most : n.most = m.most
  globals : ∃ gs, n.globals = m.globals ++ gs
  exps : n.exps = m.exps
  start : n.start = m.start
  elems : n.elems = m.elems
  data : n.data = m.data
theorem More.wid {m n : ModD} (h : More m n) : Wid (envOf m) (envOf n) :=
  ⟨h.types, by unfold envOf; simp only; rw [h.imps], h.tys, h.globals, h.table, h.most⟩
end Go.Proofs.YtndhikahjmgamaaGreatDoor.Valid
/- One body's check follows another's: the plain simulation. -/
set_option maxRecDepth 100000
set_option maxHeartbeats 4000000
set_option linter.unusedVariables false
set_option linter.unusedSimpArgs false
namespace Go.Proofs.YtndhikahjmgamaaGreatDoor.Valid
open Go Go.Proofs.YtndhikahjmgamaaGreatDoor.Eng Go.RowKit
open Ins Nest Leb Bin
/-- What is known is known or is any kind. -/
def Vr (a b : Int) : Prop := a = b ∨ (a = 0 ∧ b ≠ 64)
theorem Vr.zero {a b : Int} (h : Vr a b) (hb : b = 0) : a = 0 := by
  rcases h with h | h
  · exact h.trans hb
  · exact h.1
theorem Vr.ne {a b : Int} (h : Vr a b) (ha : a ≠ 0) : a = b := by
  rcases h with h | h
  · exact h
  · exact absurd h.1 ha
/-- A part of the stack: it ends as the other does. -/
inductive Sg : List Int → List Int → Prop
  | nil (w : List Int) : (∀ x ∈ w, x ≠ 64) → Sg [] w
  | snoc {u' u : List Int} {a b : Int} : Sg u' u → Vr a b → b ≠ 64 → Sg (u' ++ [a]) (u ++ [b])
/-- What of a block's opening matters to what is within. -/
def OpL (a b : Int) : Prop := (a = 3 ↔ b = 3) ∧ (a = 4 → b = 4)
theorem OpL.refl (a : Int) : OpL a a := ⟨Iff.rfl, id⟩
structure Pr (p' p : PartD) (b' b : Nat) (u' u : List Int) : Prop where
  op : OpL p'.op p.op
  kind : p'.kind = p.kind
  base' : p'.base = b'
  base : p.base = b
  dead : p.dead = true → p'.dead = true
  seg : Sg u' u
  len : p'.dead = false → u'.length = u.length
inductive Rel (pre : List PartD) (K : Int) : List PartD → List Int → List PartD → List Int → Prop
  | nil : Rel pre K pre [] [] []
  | snoc {o' o : List PartD} {s' s : List Int} {p' p : PartD} {u' u : List Int} : Rel pre K o' s' o s → Pr p' p s'.length s.length u' u → (o = [] → p.kind = K) → Rel pre K (o' ++ [p']) (s' ++ u') (o ++ [p]) (s ++ u)
structure Sim (pre : List PartD) (K : Int) (c' c : Ck) : Prop where
  bad' : c'.bad = 0
  bad : c.bad = 0
  rel : ∃ o' s' o s p' p u' u, Rel pre K o' s' o s ∧ Pr p' p s'.length s.length u' u ∧ (o = [] → p.kind = K) ∧ c'.opn = o' ++ [p'] ∧ c.opn = o ++ [p] ∧ c'.stack = s' ++ u' ∧ c.stack = s ++ u
structure Fin (pre : List PartD) (K : Int) (c' c : Ck) : Prop where
  bad' : c'.bad = 0
  opn' : c'.opn = pre
  opn : c.opn = []
  stack' : c'.stack = if K ≠ 64 then [K] else []
section
variable {E : VEnv} {L : List Int} {c c' : Ck} {pre : List PartD} {K : Int}
/-! ### what is wrong stays -/
theorem failS_0 {e : Int} (h : (failS c e).bad = 0) : c.bad = 0 := by
  unfold failS at h
  split at h
  · assumption
  · exact h
theorem failS_no {e : Int} (he : e ≠ 0) (h : (failS c e).bad = 0) : False := failS_bad he h
theorem pushS_bad (k : Int) : (pushS c k).bad = c.bad := by unfold pushS; split <;> rfl
theorem popS_0 {k : Int} (h : (popS c k).1.bad = 0) : c.bad = 0 := by
  unfold popS at h
  split at h
  · exact h
  · split at h
    · simp only at h
      split at h
      · exact h
      · exact failS_0 h
    · simp only at h
      split at h
      · exact h
      · split at h
        · exact failS_0 (c := { c with stack := c.stack.take (c.stack.length - 1) }) h
        · exact h
theorem takesS_0 {l : List Int} (h : (takesS c l).bad = 0) : c.bad = 0 := by
  induction l with
  | nil => exact h
  | cons k r ih => exact ih (popS_0 h)
theorem givesS_bad (l : List Int) : ∀ c : Ck, (givesS c l).bad = c.bad := by
  induction l with
  | nil => intro c; rfl
  | cons k r ih => intro c; rw [givesS, ih, pushS_bad]
theorem outS_0 {n : Int} (h : (outS c n).1.bad = 0) : c.bad = 0 ∧ n < c.opn.length ∧ outS c n = (c, c.opn.getD (c.opn.length - 1 - n.toNat) pz) := by
  unfold outS at h ⊢
  split at h
  · exact (failS_no (by decide) h).elim
  · rename_i hn
    rw [if_neg hn]
    exact ⟨h, by omega, rfl⟩
/-! ### the parts -/
theorem Sg.len {u' u : List Int} (h : Sg u' u) : u'.length ≤ u.length := by
  induction h with
  | nil w _ => simp
  | snoc _ _ _ ih => simp; exact ih
theorem Sg.ne {u' u : List Int} (h : Sg u' u) : ∀ x ∈ u, x ≠ 64 := by
  induction h with
  | nil w hw => exact hw
  | snoc _ _ hb ih =>
    intro x hx
    rcases List.mem_append.1 hx with hx | hx
    · exact ih x hx
    · rw [List.mem_singleton.1 hx]; exact hb
theorem Rel.lens {o' o : List PartD} {s' s : List Int} (h : Rel pre K o' s' o s) : o'.length = pre.length + o.length := by
  induction h with
  | nil => simp
  | snoc _ _ _ ih => simp [ih]; omega
theorem getD_right {α : Type} (l r : List α) (z : α) : (l ++ r).getD l.length z = r.getD 0 z := by
  rw [List.getD_eq_getElem?_getD, List.getD_eq_getElem?_getD, List.getElem?_append_right (Nat.le_refl _), Nat.sub_self]
theorem Rel.get {o' o : List PartD} {s' s : List Int} (h : Rel pre K o' s' o s) : ∀ i, i < o.length → OpL (o'.getD (pre.length + i) pz).op (o.getD i pz).op ∧ (o'.getD (pre.length + i) pz).kind = (o.getD i pz).kind := by
  induction h with
  | nil => intro i hi; simp at hi
  | snoc hr hp hk ih =>
    intro i hi
    have hl := hr.lens
    rename_i o' o s' s p' p u' u
    by_cases h : i < o.length
    · rw [getD_app (by omega), getD_app h]; exact ih i h
    · have hi : i = o.length := by simp at hi; omega
      subst hi
      rw [← hl, getD_right, getD_right]
      exact ⟨hp.op, hp.kind⟩
theorem Rel.bot {o' o : List PartD} {s' s : List Int} (h : Rel pre K o' s' o s) : o ≠ [] → (o.getD 0 pz).kind = K := by
  induction h with
  | nil => exact fun h => absurd rfl h
  | snoc hr hp hk ih =>
    rename_i o' o s' s p' p u' u
    intro _
    cases o with
    | nil => exact hk rfl
    | cons a r => exact ih (by simp)
theorem Rel.bot' (hK : pre = [] ∨ (pre.getD 0 pz).kind = K) {o' o : List PartD} {s' s : List Int} (h : Rel pre K o' s' o s) (ho : o ≠ []) : (o'.getD 0 pz).kind = K := by
  cases pre with
  | nil =>
    have := h.get 0 (List.length_pos_iff.2 ho)
    simp only [List.length_nil, Nat.zero_add] at this
    rw [this.2]; exact h.bot ho
  | cons a r =>
    have ha : a.kind = K := by simpa using hK
    have hp : ∀ {o' o : List PartD} {s' s : List Int}, Rel (a :: r) K o' s' o s → o'.getD 0 pz = a := by
      intro o' o s' s h
      induction h with
      | nil => rfl
      | snoc hr _ _ ih =>
        rw [getD_app (by have := hr.lens; simp at this; omega)]; exact ih
    rw [hp h]; exact ha
/-! ### the top -/
theorem topS_snoc {o : List PartD} {p : PartD} (h : c.opn = o ++ [p]) : topS c = p := by
  unfold topS; rw [h]; simp [List.getD_eq_getElem?_getD]
theorem take_snoc {α : Type} (l : List α) (x : α) : (l ++ [x]).take ((l ++ [x]).length - 1) = l := by simp
theorem getD_snoc (l : List Int) (x z : Int) : (l ++ [x]).getD ((l ++ [x]).length - 1) z = x := by simp [List.getD_eq_getElem?_getD]
theorem popS_empty {k : Int} {p : PartD} (h64 : k ≠ 64) (ht : topS c = p) (hl : c.stack.length = p.base) : popS c k = (if p.dead = true then c else failS c 10, k) := by
  unfold popS; rw [if_neg h64, ht, if_pos hl]
theorem popS_full {k x : Int} {p : PartD} {l : List Int} (h64 : k ≠ 64) (ht : topS c = p) (hs : c.stack = l ++ [x]) (hl : c.stack.length ≠ p.base) : popS c k = if x = 0 then ({ c with stack := l }, k) else if k ≠ 0 ∧ x ≠ k then (failS { c with stack := l } 10, x) else ({ c with stack := l }, x) := by
  unfold popS; rw [if_neg h64, ht, if_neg hl]
  simp only [hs, getD_snoc, take_snoc]
theorem popS_sim (S : Sim pre K c' c) {k' k : Int} (hk : Vr k' k) (hb : (popS c k).1.bad = 0) : Sim pre K (popS c' k').1 (popS c k).1 ∧ Vr (popS c' k').2 (popS c k).2 := by
  by_cases h64 : k = 64
  · have h64' : k' = 64 := by
      rcases hk with h | h
      · exact h.trans h64
      · exact absurd h64 h.2
    subst h64; subst h64'
    exact ⟨S, .inl rfl⟩
  have h64' : k' ≠ 64 := by
    rcases hk with h | h
    · rw [h]; exact h64
    · rw [h.1]; decide
  obtain ⟨b', b, o', s', o, s, p', p, u', u, R, P, hbot, e1, e2, e3, e4⟩ := S
  have t' := topS_snoc e1
  have t := topS_snoc e2
  have hg := P.seg
  cases hg with
  | nil w hw =>
    rw [List.append_nil] at e3
    by_cases hw0 : u = []
    · subst hw0
      rw [List.append_nil] at e4
      rw [popS_empty h64 t (by rw [e4, P.base])] at hb ⊢
      rw [popS_empty h64' t' (by rw [e3, P.base'])]
      have hd : p.dead = true := by
        by_cases hd : p.dead = true
        · exact hd
        · rw [if_neg hd] at hb; exact (failS_no (by decide) hb).elim
      rw [if_pos hd, if_pos (P.dead hd)]
      exact ⟨⟨b', b, o', s', o, s, p', p, [], [], R, P, hbot, e1, e2, by rw [e3, List.append_nil], by rw [e4, List.append_nil]⟩, hk⟩
    · have hd : p'.dead = true := by
        by_cases hd : p'.dead = true
        · exact hd
        · have := P.len (by simpa using hd)
          exact absurd (List.length_eq_zero_iff.1 this.symm) hw0
      obtain ⟨v, x, rfl⟩ : ∃ v x, u = v ++ [x] := ⟨_, _, (List.dropLast_concat_getLast hw0).symm⟩
      have hx : x ≠ 64 := hw x (by simp)
      have e5 : c.stack = (s ++ v) ++ [x] := by rw [e4, List.append_assoc]
      rw [popS_full h64 t e5 (by rw [e4, P.base]; simp)] at hb ⊢
      rw [popS_empty h64' t' (by rw [e3, P.base']), if_pos hd]
      have P2 : Pr p' p s'.length s.length [] v := { P with seg := .nil v fun y hy => hw y (List.mem_append_left _ hy), len := fun h => by rw [hd] at h; cases h }
      have S2 : Sim pre K c' { c with stack := s ++ v } := ⟨b', b, o', s', o, s, p', p, [], v, R, P2, hbot, e1, e2, by rw [e3, List.append_nil], rfl⟩
      by_cases hx0 : x = 0
      · rw [if_pos hx0]; exact ⟨S2, hk⟩
      · rw [if_neg hx0] at hb ⊢
        by_cases hm : k ≠ 0 ∧ x ≠ k
        · rw [if_pos hm] at hb; exact (failS_no (by decide) hb).elim
        · rw [if_neg hm]
          refine ⟨S2, ?_⟩
          show Vr k' x
          by_cases hk0 : k = 0
          · have : k' = 0 := hk.zero hk0
            exact .inr ⟨this, hx⟩
          · have : x = k := Decidable.of_not_not fun h => hm ⟨hk0, h⟩
            rw [this]; exact hk
  | snoc hg' ha hx =>
    rename_i v' v a x
    have e5 : c.stack = (s ++ v) ++ [x] := by rw [e4, List.append_assoc]
    have e6 : c'.stack = (s' ++ v') ++ [a] := by rw [e3, List.append_assoc]
    rw [popS_full h64 t e5 (by rw [e4, P.base]; simp)] at hb ⊢
    rw [popS_full h64' t' e6 (by rw [e3, P.base']; simp)]
    have P2 : Pr p' p s'.length s.length v' v := { P with seg := hg', len := fun h => by have := P.len h; simpa using this }
    have S2 : Sim pre K { c' with stack := s' ++ v' } { c with stack := s ++ v } := ⟨b', b, o', s', o, s, p', p, v', v, R, P2, hbot, e1, e2, rfl, rfl⟩
    by_cases hx0 : x = 0
    · have ha0 : a = 0 := ha.zero hx0
      rw [if_pos hx0, if_pos ha0]; exact ⟨S2, hk⟩
    · rw [if_neg hx0] at hb ⊢
      by_cases hm : k ≠ 0 ∧ x ≠ k
      · rw [if_pos hm] at hb; exact (failS_no (by decide) hb).elim
      · rw [if_neg hm]
        by_cases ha0 : a = 0
        · rw [if_pos ha0]
          refine ⟨S2, ?_⟩
          show Vr k' x
          by_cases hk0 : k = 0
          · have : k' = 0 := hk.zero hk0
            exact .inr ⟨this, hx⟩
          · have : x = k := Decidable.of_not_not fun h => hm ⟨hk0, h⟩
            rw [this]; exact hk
        · have hax : a = x := ha.ne ha0
          subst hax
          rw [if_neg ha0, if_neg (fun hm' => hm ⟨fun h => hm'.1 (hk.zero h), fun h => hm'.2 (by rw [hk.ne hm'.1, h])⟩)]
          exact ⟨S2, .inl rfl⟩
theorem pushS_sim (S : Sim pre K c' c) {k' k : Int} (hk : Vr k' k) : Sim pre K (pushS c' k') (pushS c k) := by
  by_cases h64 : k = 64
  · have h64' : k' = 64 := by
      rcases hk with h | h
      · exact h.trans h64
      · exact absurd h64 h.2
    subst h64; subst h64'
    exact S
  have h64' : k' ≠ 64 := by
    rcases hk with h | h
    · rw [h]; exact h64
    · rw [h.1]; decide
  obtain ⟨b', b, o', s', o, s, p', p, u', u, R, P, hbot, e1, e2, e3, e4⟩ := S
  unfold pushS
  rw [if_pos h64, if_pos h64']
  exact ⟨b', b, o', s', o, s, p', p, u' ++ [k'], u ++ [k], R, { P with seg := .snoc P.seg hk h64, len := fun h => by simp [P.len h] }, hbot, e1, e2, by simp [e3], by simp [e4]⟩
theorem takesS_sim (S : Sim pre K c' c) : ∀ l, (takesS c l).bad = 0 → Sim pre K (takesS c' l) (takesS c l)
  | [], _ => S
  | k :: r, h => (popS_sim (takesS_sim S r (popS_0 h)) (.inl rfl) h).1
theorem givesS_sim : ∀ (l : List Int) (c' c : Ck), Sim pre K c' c → Sim pre K (givesS c' l) (givesS c l)
  | [], _, _, S => S
  | k :: r, _, _, S => givesS_sim r _ _ (pushS_sim S (.inl rfl))
theorem Sim.nil_eq (S : Sim pre K c' c) : ∃ (o' o : List PartD) (p' p : PartD), c'.opn = o' ++ [p'] ∧ c.opn = o ++ [p] ∧ OpL p'.op p.op ∧ p'.kind = p.kind ∧ topS c' = p' ∧ topS c = p := by
  obtain ⟨b', b, o', s', o, s, p', p, u', u, R, P, hbot, e1, e2, e3, e4⟩ := S
  exact ⟨o', o, p', p, e1, e2, P.op, P.kind, topS_snoc e1, topS_snoc e2⟩
theorem take_app (s u : List Int) : (s ++ u).take s.length = s := by simp
theorem set_snoc (o : List PartD) (p q : PartD) : (o ++ [p]).set ((o ++ [p]).length - 1) q = o ++ [q] := by simp
theorem dieS_eq {o : List PartD} {p : PartD} {s u : List Int} (e1 : c.opn = o ++ [p]) (hb : p.base = s.length) (e2 : c.stack = s ++ u) : dieS c = { stack := s, opn := o ++ [{ p with dead := true }], bad := c.bad } := by
  have h1 : c.stack.take p.base = s := by rw [e2, hb, take_app]
  unfold dieS
  rw [topS_snoc e1, h1, e1, set_snoc]
theorem dieS_sim (S : Sim pre K c' c) : Sim pre K (dieS c') (dieS c) := by
  obtain ⟨b', b, o', s', o, s, p', p, u', u, R, P, hbot, e1, e2, e3, e4⟩ := S
  rw [dieS_eq e1 P.base' e3, dieS_eq e2 P.base e4]
  exact ⟨b', b, o', s', o, s, { p' with dead := true }, { p with dead := true }, [], [], R, { op := P.op, kind := P.kind, base' := P.base', base := P.base, dead := fun _ => rfl, seg := .nil [] (fun _ h => by simp at h), len := fun _ => rfl }, hbot, rfl, rfl, by simp, by simp⟩
/-- To end here instead. -/
theorem dieS_ins (S : Sim pre K c' c) : Sim pre K (dieS c') c := by
  obtain ⟨b', b, o', s', o, s, p', p, u', u, R, P, hbot, e1, e2, e3, e4⟩ := S
  rw [dieS_eq e1 P.base' e3]
  exact ⟨b', b, o', s', o, s, { p' with dead := true }, p, [], u, R, { op := P.op, kind := P.kind, base' := P.base', base := P.base, dead := fun _ => rfl, seg := .nil u P.seg.ne, len := fun h => by cases h }, hbot, rfl, e2, by simp, e4⟩
theorem outS_sim (S : Sim pre K c' c) {n : Int} (hb : (outS c n).1.bad = 0) : outS c n = (c, (outS c n).2) ∧ outS c' n = (c', (outS c' n).2) ∧ alongS (outS c' n).2 = alongS (outS c n).2 := by
  obtain ⟨h0, hn, e⟩ := outS_0 hb
  obtain ⟨b', b, o', s', o, s, p', p, u', u, R, P, hbot, e1, e2, e3, e4⟩ := S
  have R2 := Rel.snoc R P hbot
  have hl := R2.lens
  rw [← e1, ← e2] at R2 hl
  have e' : outS c' n = (c', c'.opn.getD (c'.opn.length - 1 - n.toNat) pz) := by
    unfold outS; rw [if_neg (by omega)]
  have hlt : c.opn.length - 1 - n.toNat < c.opn.length := by rw [e2]; simp; omega
  have hg := R2.get _ hlt
  rw [show pre.length + (c.opn.length - 1 - n.toNat) = c'.opn.length - 1 - n.toNat by omega] at hg
  rw [e, e']
  refine ⟨rfl, rfl, ?_⟩
  simp only [alongS]
  rw [hg.2]
  by_cases h3 : (c.opn.getD (c.opn.length - 1 - n.toNat) pz).op = 3
  · rw [if_pos h3, if_pos (hg.1.1.2 h3)]
  · rw [if_neg h3, if_neg (fun k => h3 (hg.1.1.1 k))]
theorem wayS_0 {a : Int} (h : (wayS c a).bad = 0) : (outS c a).1.bad = 0 := by
  unfold wayS at h
  split at h
  · assumption
  · exact h
theorem wayS_sim (S : Sim pre K c' c) {a : Int} (h : (wayS c a).bad = 0) : Sim pre K (wayS c' a) (wayS c a) := by
  have hb := wayS_0 h
  obtain ⟨h1, h2, h3⟩ := outS_sim S hb
  unfold wayS at *
  rw [if_pos hb] at h ⊢
  rw [h1] at h ⊢
  rw [h2, if_pos S.bad', h3]
  exact (popS_sim S (.inl rfl) h).1
theorem waysS_0 (k : Int) : ∀ (l : List Int) (s : Ck × Bool), (waysS k l s).1.bad = 0 → s.1.bad = 0
  | [], _, h => h
  | n :: r, s, h => (outS_0 (waysS_0 k r _ h)).1
theorem waysS_sim (S : Sim pre K c' c) (k : Int) : ∀ (l : List Int) (q : Bool), (waysS k l (c, q)).1.bad = 0 → ∃ t, waysS k l (c, q) = (c, t) ∧ waysS k l (c', q) = (c', t)
  | [], q, _ => ⟨q, rfl, rfl⟩
  | n :: r, q, h => by
    have hb := waysS_0 k r _ h
    obtain ⟨h1, h2, h3⟩ := outS_sim S hb
    rw [waysS] at h ⊢
    rw [waysS]
    simp only at h ⊢
    rw [h1] at h ⊢
    rw [h2, h3]
    exact waysS_sim S k r _ h
theorem tableS_sim (S : Sim pre K c' c) {a : Int} {l : List Int} (h : (tableS c a l).bad = 0) : Sim pre K (tableS c' a l) (tableS c a l) := by
  have hs : (waysS (alongS (outS c a).2) l ((outS c a).1, true)).1.bad = 0 := by
    unfold tableS at h
    simp only at h
    split at h
    · exact h
    · rename_i h0; exact Decidable.of_not_not h0
  obtain ⟨h1, h2, h3⟩ := outS_sim S (waysS_0 _ _ _ hs)
  rw [h1] at hs
  obtain ⟨t, e1, e2⟩ := waysS_sim S _ l true hs
  unfold tableS at *
  simp only at h ⊢
  rw [h1] at h ⊢
  simp only at h e1 e2 ⊢
  rw [e1] at h ⊢
  rw [h2]
  simp only
  rw [h3, e2]
  simp only at h ⊢
  rw [if_neg (show ¬ c.bad ≠ 0 by rw [S.bad]; simp)] at h ⊢
  rw [if_neg (show ¬ c'.bad ≠ 0 by rw [S.bad']; simp)]
  have ht : t = true := by
    cases t with
    | true => rfl
    | false =>
      have := popS_0 (popS_0 h)
      exact (failS_no (c := c) (e := 10) (by decide) this).elim
  subst ht
  rw [if_pos rfl] at h ⊢
  rw [if_pos rfl]
  exact (popS_sim (popS_sim S (.inl rfl) (popS_0 h)).1 (.inl rfl) h).1
theorem brifS_sim (S : Sim pre K c' c) {a : Int} (h : (brifS c a).bad = 0) : Sim pre K (brifS c' a) (brifS c a) := by
  have hb : (outS c a).1.bad = 0 := by
    unfold brifS at h
    simp only at h
    split at h
    · assumption
    · exact h
  obtain ⟨h1, h2, h3⟩ := outS_sim S hb
  unfold brifS at *
  simp only at h ⊢
  rw [if_pos hb] at h ⊢
  rw [h1] at h ⊢
  rw [h2, if_pos S.bad', h3]
  rw [pushS_bad] at h
  exact pushS_sim (popS_sim (popS_sim S (.inl rfl) (popS_0 h)).1 (.inl rfl) h).1 (.inl rfl)
theorem beginS_sim (S : Sim pre K c' c) (op k : Int) : Sim pre K (beginS c' op k) (beginS c op k) := by
  obtain ⟨b', b, o', s', o, s, p', p, u', u, R, P, hbot, e1, e2, e3, e4⟩ := S
  refine ⟨b', b, c'.opn, c'.stack, c.opn, c.stack, ⟨op, k, c'.stack.length, false, underS c'⟩, ⟨op, k, c.stack.length, false, underS c⟩, [], [], ?_, ⟨OpL.refl _, rfl, rfl, rfl, fun h => ?_, .nil [] (fun _ h => by simp at h), fun _ => rfl⟩, ?_, rfl, rfl, ?_, ?_⟩
  · rw [e1, e2, e3, e4]; exact .snoc R P hbot
  · cases h
  · intro h; rw [e2] at h; simp at h
  · show c'.stack = _; simp
  · show c.stack = _; simp
/-- Closing: nothing is left of the part. -/
theorem closeS_sim (S : Sim pre K c' c) (h : (closeS c).bad = 0) : ∃ o' s' o s p' p, Rel pre K o' s' o s ∧ Pr p' p s'.length s.length [] [] ∧ (o = [] → p.kind = K) ∧ c'.opn = o' ++ [p'] ∧ c.opn = o ++ [p] ∧ closeS c' = ⟨s', o' ++ [p'], 0⟩ ∧ closeS c = ⟨s, o ++ [p], 0⟩ := by
  have hb : (popS c (topS c).kind).1.bad = 0 := by
    unfold closeS at h
    split at h
    · exact failS_0 h
    · exact h
  obtain ⟨o'0, o0, p'0, p0, q1, q2, q3, q4, q5, q6⟩ := S.nil_eq
  have hkk : (topS c').kind = (topS c).kind := by rw [q5, q6]; exact q4
  have S2 := (popS_sim S (k' := (topS c').kind) (.inl hkk) hb).1
  have ho := popS_opn c (topS c).kind
  have ho' := popS_opn c' (topS c').kind
  have hl : (popS c (topS c).kind).1.stack.length = (topS c).base := by
    unfold closeS at h
    split at h
    · exact (failS_no (by decide) h).elim
    · rename_i h0; exact Decidable.of_not_not h0
  obtain ⟨b', b, o', s', o, s, p', p, u', u, R, P, hbot, e1, e2, e3, e4⟩ := S2
  rw [ho] at e2
  rw [ho'] at e1
  have htc : (topS c).base = s.length := by rw [topS_snoc e2, P.base]
  rw [htc, e4, List.length_append] at hl
  have hu : u = [] := List.length_eq_zero_iff.1 (by omega)
  subst hu
  have hu' : u' = [] := List.length_eq_zero_iff.1 (Nat.le_zero.1 P.seg.len)
  subst hu'
  rw [List.append_nil] at e3 e4
  refine ⟨o', s', o, s, p', p, R, P, hbot, e1, e2, ?_, ?_⟩
  · unfold closeS
    rw [if_neg (by rw [e3, topS_snoc e1, P.base']; simp)]
    cases hq : (popS c' (topS c').kind).1 with
    | mk a1 a2 a3 =>
      rw [hq] at e3 b' ho'
      simp only at e3 b' ho'
      rw [e3, b', ho', e1]
  · unfold closeS
    rw [if_neg (by rw [e4, topS_snoc e2, P.base]; simp)]
    cases hq : (popS c (topS c).kind).1 with
    | mk a1 a2 a3 =>
      rw [hq] at e4 b ho
      simp only at e4 b ho
      rw [e4, b, ho, e2]
theorem elseS_sim (S : Sim pre K c' c) (h : (elseS c).bad = 0) : Sim pre K (elseS c') (elseS c) := by
  have hb : (closeS c).bad = 0 := by
    unfold elseS at h
    simp only at h
    split at h
    · assumption
    · exact h
  obtain ⟨o', s', o, s, p', p, R, P, hbot, e1, e2, e3, e4⟩ := closeS_sim S hb
  unfold elseS
  simp only
  rw [e3, e4, topS_snoc e1, topS_snoc e2]
  simp only [if_true]
  rw [take_snoc, take_snoc]
  exact ⟨rfl, rfl, o', s', o, s, ⟨5, p'.kind, p'.base, false, p'.under⟩, ⟨5, p.kind, p.base, false, p.under⟩, [], [], R, ⟨OpL.refl _, P.kind, P.base', P.base, nofun, .nil [] (fun _ h => by simp at h), fun _ => rfl⟩, hbot, rfl, rfl, by simp, by simp⟩
theorem endS_sim (S : Sim pre K c' c) (h : (endS c).bad = 0) : Sim pre K (endS c') (endS c) ∨ Fin pre K (endS c') (endS c) := by
  have hb : (closeS c).bad = 0 := by
    unfold endS at h
    simp only at h
    by_cases hq : (topS c).op = 4 ∧ (topS c).kind ≠ 64
    · rw [if_pos hq] at h
      by_cases h2 : (failS (closeS c) 10).bad = 0
      · exact failS_0 h2
      · rw [if_neg h2] at h; exact absurd h h2
    · rw [if_neg hq] at h
      by_cases h2 : (closeS c).bad = 0
      · exact h2
      · rw [if_neg h2] at h; exact h
  obtain ⟨o', s', o, s, p', p, R, P, hbot, e1, e2, e3, e4⟩ := closeS_sim S hb
  have hop : ¬ (p.op = 4 ∧ p.kind ≠ 64) := by
    intro ho
    unfold endS at h
    simp only at h
    rw [topS_snoc e2, if_pos ho] at h
    by_cases hf : (failS (closeS c) 10).bad = 0
    · exact failS_no (by decide) hf
    · rw [if_neg hf] at h; exact hf h
  have hop' : ¬ (p'.op = 4 ∧ p'.kind ≠ 64) := by rw [P.kind]; exact fun h => hop ⟨P.op.2 h.1, h.2⟩
  have E4 : endS c = pushS ⟨s, o, 0⟩ p.kind := by
    unfold endS
    simp only
    rw [topS_snoc e2, if_neg hop, e4]
    simp only [if_true]
    rw [take_snoc]
  have E3 : endS c' = pushS ⟨s', o', 0⟩ p'.kind := by
    unfold endS
    simp only
    rw [topS_snoc e1, if_neg hop', e3]
    simp only [if_true]
    rw [take_snoc]
  rw [E3, E4, P.kind]
  cases R with
  | nil =>
    have hK := hbot rfl
    rw [hK]
    refine .inr ⟨by rw [pushS_bad], by rw [pushS_opn], by rw [pushS_opn], ?_⟩
    unfold pushS
    split <;> rfl
  | snoc R2 P2 hb2 => exact .inl (pushS_sim ⟨rfl, rfl, _, _, _, _, _, _, _, _, R2, P2, hb2, rfl, rfl, rfl, rfl⟩ (.inl rfl))
end
end Go.Proofs.YtndhikahjmgamaaGreatDoor.Valid
/- Nops, unreachable and wrapping blocks: the plain laws. -/
set_option maxRecDepth 100000
set_option maxHeartbeats 4000000
set_option linter.unusedVariables false
set_option linter.unusedSimpArgs false
namespace Go.Proofs.YtndhikahjmgamaaGreatDoor.Valid
open Go Go.Proofs.YtndhikahjmgamaaGreatDoor.Eng Go.RowKit
open Ins Nest Leb Bin
section
variable {E : VEnv} {L : List Int} {c c' : Ck} {pre : List PartD} {K : Int}
theorem Sim.kind0 (hK : pre = [] ∨ (pre.getD 0 pz).kind = K) (S : Sim pre K c' c) : (c'.opn.getD 0 pz).kind = (c.opn.getD 0 pz).kind := by
  obtain ⟨b', b, o', s', o, s, p', p, u', u, R, P, hbot, e1, e2, e3, e4⟩ := S
  have R2 := Rel.snoc R P hbot
  rw [e1, e2, R2.bot' hK (by simp), R2.bot (by simp)]
theorem Sim.opn_ne (S : Sim pre K c' c) : c.opn ≠ [] := by
  obtain ⟨b', b, o', s', o, s, p', p, u', u, R, P, hbot, e1, e2, e3, e4⟩ := S
  rw [e2]; simp
theorem chooseS_sim (S : Sim pre K c' c) (h : (chooseS c).bad = 0) : Sim pre K (chooseS c') (chooseS c) := by
  unfold chooseS at *
  simp only at h ⊢
  rw [pushS_bad] at h
  have S1 := (popS_sim S (k' := 127) (.inl rfl) (popS_0 (popS_0 h))).1
  obtain ⟨S2, v2⟩ := popS_sim S1 (k' := 0) (.inl rfl) (popS_0 h)
  obtain ⟨S3, v3⟩ := popS_sim S2 v2 h
  exact pushS_sim S3 v3
theorem controlS_sim (hK : pre = [] ∨ (pre.getD 0 pz).kind = K) (S : Sim pre K c' c) (x : InsD) (h : (controlS c x).bad = 0) : Sim pre K (controlS c' x) (controlS c x) ∨ (x.op = 11 ∧ Fin pre K (controlS c' x) (controlS c x)) := by
  unfold controlS at *
  by_cases a0 : x.op = 0
  · rw [if_pos a0, if_pos a0]; exact .inl (dieS_sim S)
  rw [if_neg a0] at h ⊢
  rw [if_neg a0]
  by_cases a2 : x.op = 2 ∨ x.op = 3
  · rw [if_pos a2, if_pos a2]; exact .inl (beginS_sim S _ _)
  rw [if_neg a2] at h ⊢
  rw [if_neg a2]
  by_cases a4 : x.op = 4
  · rw [if_pos a4] at h
    rw [if_pos a4, if_pos a4]
    exact .inl (beginS_sim (popS_sim S (.inl rfl) (show (popS c 127).1.bad = 0 from h)).1 _ _)
  rw [if_neg a4] at h ⊢
  rw [if_neg a4]
  by_cases a5 : x.op = 5
  · rw [if_pos a5] at h
    rw [if_pos a5, if_pos a5]; exact .inl (elseS_sim S h)
  rw [if_neg a5] at h ⊢
  rw [if_neg a5]
  by_cases a11 : x.op = 11
  · rw [if_pos a11] at h
    rw [if_pos a11, if_pos a11]
    rcases endS_sim S h with h1 | h1
    · exact .inl h1
    · exact .inr ⟨a11, h1⟩
  rw [if_neg a11] at h ⊢
  rw [if_neg a11]
  left
  by_cases a12 : x.op = 12
  · rw [if_pos a12] at h
    rw [if_pos a12, if_pos a12]; exact dieS_sim (wayS_sim S h)
  rw [if_neg a12] at h ⊢
  rw [if_neg a12]
  by_cases a13 : x.op = 13
  · rw [if_pos a13] at h
    rw [if_pos a13, if_pos a13]; exact brifS_sim S h
  rw [if_neg a13] at h ⊢
  rw [if_neg a13]
  by_cases a15 : x.op = 15
  · rw [if_pos a15] at h
    rw [if_pos a15, if_pos a15, S.kind0 hK]; exact dieS_sim (popS_sim S (.inl rfl) h).1
  rw [if_neg a15] at h ⊢
  rw [if_neg a15]
  by_cases a14 : x.op = 14
  · rw [if_pos a14] at h
    rw [if_pos a14, if_pos a14]; exact dieS_sim (tableS_sim S h)
  rw [if_neg a14, if_neg a14]; exact S
theorem callS_sim (S : Sim pre K c' c) (x : InsD) (h : (callS E c x).bad = 0) : Sim pre K (callS E c' x) (callS E c x) := by
  unfold callS at *
  by_cases h16 : x.op = 16
  · rw [if_pos h16] at h
    rw [if_pos h16, if_pos h16]
    cases hk : Valid.typS E x.a with
    | none => rw [hk] at h; exact (failS_no (c := c) (e := 8) (by decide) h).elim
    | some t =>
      rw [hk] at h
      simp only at h ⊢
      rw [givesS_bad] at h
      exact givesS_sim _ _ _ (takesS_sim S _ h)
  · rw [if_neg h16] at h
    rw [if_neg h16, if_neg h16]
    by_cases hc : E.table = 0 ∨ (E.types.length : Int) ≤ x.a
    · rw [if_pos hc] at h; exact (failS_no (c := c) (e := 8) (by decide) h).elim
    · rw [if_neg hc] at h
      rw [if_neg hc, if_neg hc]
      simp only at h ⊢
      rw [givesS_bad] at h
      exact givesS_sim _ _ _ (takesS_sim (popS_sim S (.inl rfl) (takesS_0 h)).1 _ h)
theorem valueS_sim (S : Sim pre K c' c) (x : InsD) (h : (valueS E L c x).bad = 0) : Sim pre K (valueS E L c' x) (valueS E L c x) := by
  unfold valueS at *
  by_cases h35 : x.op < 35
  · rw [if_pos h35] at h
    rw [if_pos h35, if_pos h35]
    by_cases hc : (L.length : Int) ≤ x.a
    · rw [if_pos hc] at h; exact (failS_no (c := c) (e := 8) (by decide) h).elim
    · rw [if_neg hc] at h
      rw [if_neg hc, if_neg hc]
      simp only at h ⊢
      by_cases h32 : x.op ≠ 32
      · rw [if_pos h32] at h
        rw [if_pos h32, if_pos h32]
        by_cases h33 : x.op ≠ 33
        · rw [if_pos h33, pushS_bad] at h
          rw [if_pos h33, if_pos h33]
          exact pushS_sim (popS_sim S (.inl rfl) h).1 (.inl rfl)
        · rw [if_neg h33] at h
          rw [if_neg h33, if_neg h33]
          exact (popS_sim S (.inl rfl) h).1
      · rw [if_neg h32, if_neg h32]
        by_cases h33 : x.op ≠ 33
        · rw [if_pos h33, if_pos h33]
          exact pushS_sim S (.inl rfl)
        · rw [if_neg h33, if_neg h33]; exact S
  · rw [if_neg h35] at h
    rw [if_neg h35, if_neg h35]
    by_cases hc : (E.globals.length : Int) ≤ x.a
    · rw [if_pos hc] at h; exact (failS_no (c := c) (e := 8) (by decide) h).elim
    · rw [if_neg hc] at h
      rw [if_neg hc, if_neg hc]
      simp only at h ⊢
      by_cases h5 : x.op = 35
      · rw [if_pos h5, if_pos h5]
        exact pushS_sim S (.inl rfl)
      · rw [if_neg h5] at h
        rw [if_neg h5, if_neg h5]
        by_cases hg : (E.globals.getD x.a.toNat (0, false, 0)).2.1 = true
        · rw [if_pos hg] at h
          rw [if_pos hg, if_pos hg]
          exact (popS_sim S (.inl rfl) h).1
        · rw [if_neg hg] at h
          exact (failS_no (c := c) (e := 10) (by decide) (popS_0 h)).elim
theorem plainS_sim (S : Sim pre K c' c) (x : InsD) (h : (plainS E c x).bad = 0) : Sim pre K (plainS E c' x) (plainS E c x) := by
  unfold plainS at *
  by_cases h1 : E.most = 0 ∧ (0 < wid x.op ∨ x.op = 63 ∨ x.op = 64)
  · rw [if_pos h1] at h; exact (failS_no (c := c) (e := 8) (by decide) h).elim
  rw [if_neg h1] at h
  rw [if_neg h1, if_neg h1]
  by_cases h2 : 0 < wid x.op ∧ (3 < x.a ∨ wid x.op < shw x.a)
  · rw [if_pos h2] at h; exact (failS_no (c := c) (e := 9) (by decide) h).elim
  rw [if_neg h2] at h
  rw [if_neg h2, if_neg h2]
  rw [givesS_bad] at h
  exact givesS_sim _ _ _ (takesS_sim S _ h)
theorem oneS_sim (hK : pre = [] ∨ (pre.getD 0 pz).kind = K) (S : Sim pre K c' c) (x : InsD) (h : (oneS E L c x).bad = 0) : Sim pre K (oneS E L c' x) (oneS E L c x) ∨ (x.op = 11 ∧ Fin pre K (oneS E L c' x) (oneS E L c x)) := by
  unfold oneS at *
  by_cases h1 : x.op = 1
  · rw [if_pos h1, if_pos h1]; exact .inl S
  rw [if_neg h1] at h ⊢
  rw [if_neg h1]
  by_cases h15 : x.op ≤ 15
  · rw [if_pos h15] at h
    rw [if_pos h15, if_pos h15]; exact controlS_sim hK S x h
  rw [if_neg h15] at h ⊢
  rw [if_neg h15]
  left
  by_cases h17 : x.op ≤ 17
  · rw [if_pos h17] at h
    rw [if_pos h17, if_pos h17]; exact callS_sim S x h
  rw [if_neg h17] at h ⊢
  rw [if_neg h17]
  by_cases h26 : x.op = 26
  · rw [if_pos h26] at h
    rw [if_pos h26, if_pos h26]; exact (popS_sim S (.inl rfl) h).1
  rw [if_neg h26] at h ⊢
  rw [if_neg h26]
  by_cases h27 : x.op = 27
  · rw [if_pos h27] at h
    rw [if_pos h27, if_pos h27]; exact chooseS_sim S h
  rw [if_neg h27] at h ⊢
  rw [if_neg h27]
  by_cases h36 : x.op ≤ 36
  · rw [if_pos h36] at h
    rw [if_pos h36, if_pos h36]; exact valueS_sim S x h
  rw [if_neg h36] at h ⊢
  rw [if_neg h36]
  exact plainS_sim S x h
/-! ### the nesting -/
theorem nextS_over {st : NS} {o k : Int} (h0 : st.over = false) (h : (nextS st o k).1.over = true) : (nextS st o k).1.op.length = 0 := by
  unfold nextS at *
  rw [if_neg (by rw [h0]; decide)] at h ⊢
  by_cases a2 : o = 2 ∨ o = 3 ∨ o = 4
  · rw [if_pos a2] at h ⊢
    by_cases hd : 12 ≤ st.op.length - 1
    · rw [if_pos hd, h0] at h; cases h
    · rw [if_neg hd] at h; simp only [h0] at h; cases h
  rw [if_neg a2] at h ⊢
  by_cases a5 : o = 5
  · rw [if_pos a5] at h ⊢
    by_cases hd : st.last.getD (st.op.length - 1) 0 ≠ 4
    · rw [if_pos hd, h0] at h; cases h
    · rw [if_neg hd] at h; simp only [h0] at h; cases h
  rw [if_neg a5] at h ⊢
  by_cases a11 : o = 11
  · rw [if_pos a11] at h ⊢
    have := of_decide_eq_true h
    simp only [List.length_take]
    omega
  · rw [if_neg a11, h0] at h; cases h
theorem goB_over {st : NS} (h0 : st.over = true) {l : List InsD} {k : Nat} (h : goB l k st = 0) : l = [] := by
  cases l with
  | nil => rfl
  | cons y r =>
    rw [goB] at h
    have : (nextS st y.op k).2.2 = 4 := by unfold nextS; rw [if_pos h0]
    by_cases hc : chk y ≠ 0
    · rw [if_pos hc] at h; exact absurd h hc
    · rw [if_neg hc, if_pos (by rw [this]; decide), this] at h; cases h
theorem goB_cons {x : InsD} {r : List InsD} {k : Nat} {st : NS} (h : goB (x :: r) k st = 0) : chk x = 0 ∧ (nextS st x.op k).2.2 = 0 ∧ goB r (k + 1) (nextS st x.op k).1 = 0 := by
  rw [goB] at h
  by_cases hc : chk x ≠ 0
  · rw [if_pos hc] at h; exact absurd h hc
  · rw [if_neg hc] at h
    by_cases hn : (nextS st x.op k).2.2 ≠ 0
    · rw [if_pos hn] at h; exact absurd h hn
    · rw [if_neg hn] at h
      exact ⟨Decidable.of_not_not hc, Decidable.of_not_not hn, h⟩
/-! ### the run -/
theorem runS_cons {x : InsD} {r : List InsD} (h : (runS E L (x :: r) c).bad = 0) : (oneS E L c x).bad = 0 ∧ runS E L (x :: r) c = runS E L r (oneS E L c x) := by
  rw [runS] at h ⊢
  by_cases hc : (oneS E L c x).bad ≠ 0
  · rw [if_pos hc] at h; exact absurd h hc
  · rw [if_neg hc]; exact ⟨Decidable.of_not_not hc, rfl⟩
theorem runS_mk {x : InsD} {r : List InsD} (h : (oneS E L c x).bad = 0) : runS E L (x :: r) c = runS E L r (oneS E L c x) := by
  rw [runS, if_neg (by rw [h]; simp)]
theorem runS_app {r : List InsD} : ∀ (l : List InsD) (c : Ck), (runS E L l c).bad = 0 → runS E L (l ++ r) c = runS E L r (runS E L l c)
  | [], _, _ => rfl
  | x :: l, c, h => by
    obtain ⟨h1, h2⟩ := runS_cons h
    rw [h2] at h ⊢
    rw [List.cons_append, runS_mk h1]
    exact runS_app l _ h
theorem step_len {st : NS} {k : Nat} {x : InsD} (ho : st.over = false) (hN : NOk st) (hl : c.opn.length = st.op.length) (hn : (nextS st x.op k).2.2 = 0) (hb : (oneS E L c x).bad = 0) : (oneS E L c x).opn.length = (nextS st x.op k).1.op.length := by
  have hp := hN.pos ho
  rw [oneS_len E L c x (by omega) hb, next_len ho _ _ hn hp, hl]
theorem run_sim (hK : pre = [] ∨ (pre.getD 0 pz).kind = K) : ∀ (l : List InsD) (k : Nat) (st : NS) (c c' : Ck), goB l k st = 0 → st.over = false → NOk st → c.opn.length = st.op.length → Sim pre K c' c → (runS E L l c).bad = 0 → Fin pre K (runS E L l c') (runS E L l c)
  | [], k, st, c, c', hg, ho, _, _, _, _ => by
    rw [goB, if_neg (by rw [ho]; decide)] at hg; cases hg
  | x :: r, k, st, c, c', hg, ho, hN, hl, S, hb => by
    obtain ⟨q1, q2, q3⟩ := goB_cons hg
    obtain ⟨h1, h2⟩ := runS_cons hb
    have hlen := step_len ho hN hl q2 h1
    have hN2 := nextS_ok hN x.op k
    rcases oneS_sim hK S x h1 with S2 | ⟨_, F⟩
    · have ho2 : (nextS st x.op k).1.over = false := by
        cases hs : (nextS st x.op k).1.over with
        | false => rfl
        | true =>
          rw [nextS_over ho hs] at hlen
          exact absurd (List.length_eq_zero_iff.1 hlen) S2.opn_ne
      rw [h2] at hb ⊢
      rw [runS_mk S2.bad']
      exact run_sim hK r (k + 1) _ _ _ q3 ho2 hN2 hlen S2 hb
    · have hr : r = [] := by
        rw [F.opn] at hlen
        cases hs : (nextS st x.op k).1.over with
        | false => have := hN2.pos hs; simp at hlen; omega
        | true => exact goB_over hs q3
      subst hr
      rw [h2, runS_mk F.bad']
      exact F
theorem start_sim {t : SigD} : Sim [] (t.out.getD 0 64) (startS t) (startS t) :=
  ⟨rfl, rfl, [], [], [], [], ⟨2, t.out.getD 0 64, 0, false, false⟩, ⟨2, t.out.getD 0 64, 0, false, false⟩, [], [], .nil, ⟨OpL.refl _, rfl, rfl, rfl, fun h => h, .nil [] (fun _ h => by simp at h), fun _ => rfl⟩, fun _ => rfl, rfl, rfl, rfl, rfl⟩
end
/-! ### modules with another body -/
section
variable {m : ModD} {fs : List FunD}
theorem sub_chk (h : chkM m = 0) (hl : fs.length = m.funcs.length) (hf : ∀ f ∈ fs, funE f = 0) : chkM { m with funcs := fs } = 0 := by
  unfold chkM at *
  obtain ⟨h1, h⟩ := fst_eq0.1 h
  obtain ⟨h2, h⟩ := fst_eq0.1 h
  obtain ⟨h3, h⟩ := fst_eq0.1 h
  exact fst_eq0.2 ⟨h1, fst_eq0.2 ⟨h2, fst_eq0.2 ⟨eachE_0.2 ⟨by rw [hl]; exact (eachE_0.1 h3).1, hf⟩, h⟩⟩⟩
theorem sub_env (hty : fs.map (·.ty) = m.funcs.map (·.ty)) : envOf { m with funcs := fs } = envOf m := by
  unfold envOf; simp only [hty]
theorem sub_sound (h0 : modE m = 0) (hty : fs.map (·.ty) = m.funcs.map (·.ty)) (hc : chkM { m with funcs := fs } = 0) (hb : ∀ f ∈ fs, bodyE (envOf m) f = 0) : modE { m with funcs := fs } = 0 := by
  have he := sub_env hty
  unfold modE at *
  obtain ⟨hh, _⟩ := fst_eq0.1 h0
  refine fst_eq0.2 ⟨?_, allE_0.2 (by rw [he]; exact hb)⟩
  unfold headE at *
  obtain ⟨_, hh⟩ := fst_eq0.1 hh
  obtain ⟨h1, hh⟩ := fst_eq0.1 hh
  obtain ⟨h2, hh⟩ := fst_eq0.1 hh
  refine fst_eq0.2 ⟨hc, fst_eq0.2 ⟨h1, fst_eq0.2 ⟨?_, ?_⟩⟩⟩
  · rw [allE_0] at h2 ⊢
    intro f hf
    have : f.ty ∈ m.funcs.map (·.ty) := by rw [← hty]; exact List.mem_map_of_mem hf
    obtain ⟨f0, hf0, e⟩ := List.mem_map.1 this
    show belowE m.types.length f.ty = 0
    rw [← e]; exact h2 f0 hf0
  · unfold partsE at *
    rw [he]; exact hh
end
theorem body_parts {m : ModD} (h0 : modE m = 0) : chkM m = 0 ∧ (∀ f ∈ m.funcs, bodyE (envOf m) f = 0) ∧ ∀ f ∈ m.funcs, funE f = 0 := by
  unfold modE at h0
  obtain ⟨h1, h2⟩ := fst_eq0.1 h0
  unfold headE at h1
  obtain ⟨hc, _⟩ := fst_eq0.1 h1
  refine ⟨hc, allE_0.1 h2, ?_⟩
  unfold chkM at hc
  exact (eachE_0.1 (fst_eq0.1 (fst_eq0.1 (fst_eq0.1 hc).2).2).1).2
theorem chkB_go {l : List InsD} (h : chkB l = 0) : l.length ≤ 200 ∧ goB l 0 ns0 = 0 := by
  unfold chkB at h
  by_cases hl : 200 < l.length
  · rw [if_pos hl] at h; cases h
  · rw [if_neg hl] at h; exact ⟨by omega, h⟩
end Go.Proofs.YtndhikahjmgamaaGreatDoor.Valid
/- What is known ahead of each instruction: the plain laws of package valid's shapes. -/
set_option maxRecDepth 100000
set_option maxHeartbeats 4000000
set_option linter.unusedVariables false
set_option linter.unusedSimpArgs false
namespace Go.Proofs.YtndhikahjmgamaaGreatDoor.Valid
open Go Go.Proofs.YtndhikahjmgamaaGreatDoor.Eng Go.RowKit
open Ins Nest Leb Bin
def Kd (k : Int) : Prop := k = 127 ∨ k = 126
theorem Kd.n0 {k : Int} (h : Kd k) : k ≠ 0 := by unfold Kd at h; omega
theorem Kd.n64 {k : Int} (h : Kd k) : k ≠ 64 := by unfold Kd at h; omega
/-- A module's kinds are kinds of values. -/
structure KOk (E : VEnv) (L : List Int) : Prop where
  inn : ∀ t ∈ E.types, ∀ k ∈ t.inn, Kd k
  out : ∀ t ∈ E.types, ∀ k ∈ t.out, Kd k
  loc : ∀ k ∈ L, Kd k
  glo : ∀ x ∈ E.globals, Kd x.1
/-- The blocks that are open around one, and the stack below it; the flag: is it within a dead part? -/
inductive Lv : List PartD → List Int → Bool → Prop
  | nil : Lv [] [] false
  | snoc {o : List PartD} {s u : List Int} {p : PartD} : Lv o s p.under → p.base = s.length → p.kind ≠ 0 → (p.dead = false → p.under = false → (0 : Int) ∉ u) → Lv (o ++ [p]) (s ++ u) (p.dead || p.under)
theorem Lv.zero {o : List PartD} {s : List Int} {b : Bool} (h : Lv o s b) : b = false → (0 : Int) ∉ s := by
  induction h with
  | nil => intro _ h; cases h
  | snoc h1 h2 h3 h4 ih =>
    intro hb hm
    rw [Bool.or_eq_false_iff] at hb
    rcases List.mem_append.1 hm with hm | hm
    · exact ih hb.2 hm
    · exact h4 hb.1 hb.2 hm
/-- A state that checks live parts. -/
structure SP (c : Ck) (o : List PartD) (p : PartD) (s u : List Int) : Prop where
  opn : c.opn = o ++ [p]
  stk : c.stack = s ++ u
  lv : Lv o s p.under
  base : p.base = s.length
  kind : p.kind ≠ 0
  z : p.dead = false → p.under = false → (0 : Int) ∉ u
def Live (p : PartD) : Prop := p.dead = false ∧ p.under = false
section
variable {c : Ck} {o : List PartD} {p : PartD} {s u : List Int} {E : VEnv} {L : List Int}
theorem SP.top (S : SP c o p s u) : topS c = p := topS_snoc S.opn
theorem SP.cg {c' : Ck} (S : SP c o p s u) (h1 : c'.opn = c.opn) {u' : List Int} (h2 : c'.stack = s ++ u') (hz : Live p → (0 : Int) ∉ u') : SP c' o p s u' :=
  ⟨h1.trans S.opn, h2, S.lv, S.base, S.kind, fun a b => hz ⟨a, b⟩⟩
theorem SP.pop (S : SP c o p s u) {k : Int} (h64 : k ≠ 64) (hb : (popS c k).1.bad = 0) : ∃ u', SP (popS c k).1 o p s u' ∧ (u = u' ∨ ∃ x, u = u' ++ [x]) ∧ (Live p → u = u' ++ [(popS c k).2] ∧ (popS c k).2 ≠ 0 ∧ (k ≠ 0 → (popS c k).2 = k)) := by
  rcases List.eq_nil_or_concat u with rfl | ⟨u', x, rfl⟩
  · have hl : c.stack.length = p.base := by rw [S.stk, S.base, List.append_nil]
    rw [popS_empty h64 S.top hl] at hb ⊢
    by_cases hd : p.dead = true
    · simp only [hd, if_true] at hb ⊢
      exact ⟨[], S, .inl rfl, fun h => by rw [h.1] at hd; cases hd⟩
    · simp only [hd, if_false] at hb
      exact (failS_no (by decide) hb).elim
  · rw [List.concat_eq_append] at *
    have hs : c.stack = (s ++ u') ++ [x] := by rw [S.stk, List.append_assoc]
    have hl : c.stack.length ≠ p.base := by rw [S.stk, S.base]; simp
    have S' : ∀ c' : Ck, c'.opn = c.opn → c'.stack = s ++ u' → SP c' o p s u' := fun c' h1 h2 => S.cg h1 h2 fun h hm => S.z h.1 h.2 (List.mem_append_left _ hm)
    have hx0 : Live p → x ≠ 0 := fun h h0 => S.z h.1 h.2 (by rw [h0]; simp)
    rw [popS_full h64 S.top hs hl] at hb ⊢
    by_cases h0 : x = 0
    · rw [if_pos h0]
      exact ⟨u', S' _ rfl rfl, .inr ⟨x, rfl⟩, fun h => absurd h0 (hx0 h)⟩
    · rw [if_neg h0] at hb ⊢
      by_cases hk : k ≠ 0 ∧ x ≠ k
      · rw [if_pos hk] at hb
        exact (failS_no (by decide) hb).elim
      · rw [if_neg hk] at hb ⊢
        exact ⟨u', S' _ rfl rfl, .inr ⟨x, rfl⟩, fun h => ⟨rfl, h0, fun hk0 => Decidable.by_contra fun hn => hk ⟨hk0, hn⟩⟩⟩
theorem popS_64 : popS c 64 = (c, 64) := if_pos rfl
/-- A value, or nothing, is taken. -/
theorem SP.popK (S : SP c o p s u) {k : Int} (hb : (popS c k).1.bad = 0) : ∃ u', SP (popS c k).1 o p s u' ∧ (Live p → u = u' ++ (if k = 64 then [] else [(popS c k).2]) ∧ (popS c k).2 ≠ 0) := by
  by_cases h64 : k = 64
  · subst h64
    rw [popS_64]
    exact ⟨u, S, fun _ => ⟨by simp, show (64 : Int) ≠ 0 by decide⟩⟩
  · obtain ⟨u', S1, _, h⟩ := S.pop h64 hb
    refine ⟨u', S1, fun hl => ?_⟩
    rw [if_neg h64]
    exact ⟨(h hl).1, (h hl).2.1⟩
theorem SP.push (S : SP c o p s u) {k : Int} (h0 : Live p → k ≠ 0) : ∃ u', SP (pushS c k) o p s u' ∧ u' = (if k = 64 then u else u ++ [k]) := by
  unfold pushS
  by_cases h : k = 64
  · rw [if_neg (by simp [h]), if_pos h]; exact ⟨u, S, rfl⟩
  · rw [if_pos h, if_neg h]
    refine ⟨u ++ [k], ⟨S.opn, by show c.stack ++ [k] = _; rw [S.stk, List.append_assoc], S.lv, S.base, S.kind, fun a b hm => ?_⟩, rfl⟩
    rcases List.mem_append.1 hm with hm | hm
    · exact S.z a b hm
    · exact h0 ⟨a, b⟩ (List.mem_singleton.1 hm).symm
theorem SP.takes (S : SP c o p s u) : ∀ l : List Int, (∀ k ∈ l, Kd k) → (takesS c l).bad = 0 → ∃ u', SP (takesS c l) o p s u' ∧ (Live p → u = u' ++ l)
  | [], _, _ => ⟨u, S, fun _ => by simp⟩
  | k :: r, hk, hb => by
    rw [takesS] at hb ⊢
    obtain ⟨u1, S1, h1⟩ := S.takes r (fun x hx => hk x (.tail _ hx)) (popS_0 hb)
    have hkk := hk k (.head _)
    obtain ⟨u2, S2, _, h2⟩ := S1.pop hkk.n64 hb
    refine ⟨u2, S2, fun hl => ?_⟩
    obtain ⟨q1, q2, q3⟩ := h2 hl
    rw [h1 hl, q1, q3 hkk.n0, List.append_assoc]; rfl
theorem SP.gives : ∀ (l : List Int) {c : Ck} {u : List Int}, SP c o p s u → (∀ k ∈ l, Kd k) → SP (givesS c l) o p s (u ++ l)
  | [], _, u, S, _ => by rw [List.append_nil]; exact S
  | k :: r, c, u, S, hk => by
    obtain ⟨u', S1, h⟩ := S.push (k := k) fun _ => (hk k (.head _)).n0
    rw [if_neg (hk k (.head _)).n64] at h
    subst h
    have := SP.gives r S1 (fun x hx => hk x (.tail _ hx))
    rw [List.append_assoc] at this
    exact this
theorem SP.die (S : SP c o p s u) : SP (dieS c) o { p with dead := true } s [] := by
  rw [dieS_eq S.opn S.base S.stk]
  exact ⟨rfl, (List.append_nil _).symm, S.lv, S.base, S.kind, nofun⟩
theorem SP.begin_ (S : SP c o p s u) (op : Int) {k : Int} (hk : k ≠ 0) : SP (beginS c op k) (o ++ [p]) ⟨op, k, c.stack.length, false, p.dead || p.under⟩ (s ++ u) [] := by
  have hu : underS c = (p.dead || p.under) := by
    unfold underS; rw [if_neg (by rw [S.opn]; simp), S.top]
  refine ⟨?_, ?_, Lv.snoc S.lv S.base S.kind S.z, by show c.stack.length = _; rw [S.stk], hk, fun _ _ => nofun⟩
  · show c.opn ++ [_] = _; rw [S.opn, hu]
  · show c.stack = _; rw [S.stk, List.append_nil]
theorem closeS_0 (h : (closeS c).bad = 0) : (popS c (topS c).kind).1.bad = 0 ∧ closeS c = (popS c (topS c).kind).1 ∧ (popS c (topS c).kind).1.stack.length = (topS c).base := by
  unfold closeS at *
  by_cases hl : (popS c (topS c).kind).1.stack.length ≠ (topS c).base
  · rw [if_pos hl] at h; exact (failS_no (by decide) h).elim
  · rw [if_neg hl] at h ⊢; exact ⟨h, rfl, Decidable.of_not_not hl⟩
theorem SP.close (S : SP c o p s u) (h : (closeS c).bad = 0) : SP (closeS c) o p s [] ∧ (Live p → u.length = if p.kind = 64 then 0 else 1) := by
  obtain ⟨h1, h2, h3⟩ := closeS_0 h
  rw [S.top] at h1 h2 h3
  obtain ⟨u', S1, hl⟩ := S.popK h1
  rw [h2]
  rw [S1.stk, S.base] at h3
  have : u' = [] := List.eq_nil_of_length_eq_zero (by simp at h3; exact List.length_eq_zero_iff.2 h3)
  subst this
  refine ⟨S1, fun hh => ?_⟩
  rw [(hl hh).1]
  split <;> rfl
theorem SP.else_ (S : SP c o p s u) (h : (elseS c).bad = 0) : SP (elseS c) o ⟨5, p.kind, p.base, false, p.under⟩ s [] ∧ (Live p → u.length = if p.kind = 64 then 0 else 1) := by
  unfold elseS at *
  simp only [S.top] at h ⊢
  have hc : (closeS c).bad = 0 := by
    split at h <;> exact h
  obtain ⟨S1, hl⟩ := S.close hc
  rw [if_pos hc]
  refine ⟨⟨?_, S1.stk, S1.lv, S1.base, S1.kind, fun _ _ => nofun⟩, hl⟩
  show (closeS c).opn.take _ ++ _ = _
  rw [S1.opn, take_snoc]
theorem SP.end_ (S : SP c o p s u) (h : (endS c).bad = 0) : (Live p → u.length = if p.kind = 64 then 0 else 1) ∧ (p.op = 4 → p.kind = 64) ∧ (endS c).opn = o ∧ ∀ o1 q, o = o1 ++ [q] → ∃ s1 u1, s = s1 ++ u1 ∧ SP (endS c) o1 q s1 (u1 ++ (if p.kind = 64 then [] else [p.kind])) := by
  unfold endS at *
  simp only [S.top] at h ⊢
  have h4 : (if p.op = 4 ∧ p.kind ≠ 64 then failS (closeS c) 10 else closeS c).bad = 0 := by
    by_cases hb2 : (if p.op = 4 ∧ p.kind ≠ 64 then failS (closeS c) 10 else closeS c).bad = 0
    · exact hb2
    · rw [if_neg hb2] at h; exact absurd h hb2
  have hn : ¬ (p.op = 4 ∧ p.kind ≠ 64) := fun hn => by
    rw [if_pos hn] at h4; exact (failS_no (by decide) h4).elim
  rw [if_neg hn] at h4 ⊢
  obtain ⟨S1, hl⟩ := S.close h4
  rw [if_pos h4, pushS_opn]
  have e1 : (closeS c).opn.take ((closeS c).opn.length - 1) = o := by rw [S1.opn, take_snoc]
  have e2 : (closeS c).stack = s := by rw [S1.stk, List.append_nil]
  refine ⟨hl, fun h5 => Decidable.by_contra fun h6 => hn ⟨h5, h6⟩, e1, fun o1 q ho => ?_⟩
  subst ho
  have hlv := S.lv
  generalize hpu : p.under = b at hlv
  generalize hoo : o1 ++ [q] = oo at hlv e1
  cases hlv with
  | nil => exact absurd hoo (by simp)
  | snoc l1 l2 l3 l4 =>
    rename_i o2 s1 u1 q'
    obtain ⟨rfl, h7⟩ := List.append_inj' hoo rfl
    rw [List.singleton_inj.1 h7] at *
    refine ⟨s1, u1, rfl, ?_⟩
    have S2 : SP { closeS c with opn := (closeS c).opn.take ((closeS c).opn.length - 1) } o1 q' s1 u1 := ⟨e1.trans (by rw [← h7]), e2, l1, l2, l3, l4⟩
    obtain ⟨u', S3, h8⟩ := S2.push (k := p.kind) fun _ => S.kind
    have : u' = u1 ++ (if p.kind = 64 then [] else [p.kind]) := by
      rw [h8]; split <;> simp
    rw [← this]; exact S3
theorem Lv.kinds {o : List PartD} {s : List Int} {b : Bool} (h : Lv o s b) : ∀ q ∈ o, q.kind ≠ 0 := by
  induction h with
  | nil => nofun
  | snoc h1 h2 h3 h4 ih =>
    intro q hq
    rcases List.mem_append.1 hq with hq | hq
    · exact ih q hq
    · rw [List.mem_singleton.1 hq]; exact h3
theorem SP.kinds (S : SP c o p s u) : ∀ q ∈ c.opn, q.kind ≠ 0 := by
  intro q hq
  rw [S.opn] at hq
  rcases List.mem_append.1 hq with hq | hq
  · exact S.lv.kinds q hq
  · rw [List.mem_singleton.1 hq]; exact S.kind
theorem SP.along (S : SP c o p s u) {n : Int} (hn : (outS c n).1.bad = 0) : alongS (outS c n).2 ≠ 0 := by
  obtain ⟨_, h2, h3⟩ := outS_0 hn
  rw [h3]
  have hne : 0 < c.opn.length := by rw [S.opn]; simp
  have hi : c.opn.length - 1 - n.toNat < c.opn.length := by omega
  have hq : c.opn.getD (c.opn.length - 1 - n.toNat) pz ∈ c.opn := by
    rw [List.getD_eq_getElem?_getD, List.getElem?_eq_getElem hi]; exact List.getElem_mem hi
  have := S.kinds _ hq
  unfold alongS
  split
  · decide
  · exact this
theorem SP.out (S : SP c o p s u) {n : Int} (hn : (outS c n).1.bad = 0) : (outS c n).1 = c := by
  obtain ⟨_, _, h3⟩ := outS_0 hn
  rw [h3]
/-- Some value is taken, whatever it may be. -/
theorem SP.ex (S : SP c o p s u) : ∃ o p s u, SP c o p s u := ⟨o, p, s, u, S⟩
def Sx (c : Ck) : Prop := ∃ o p s u, SP c o p s u
theorem Sx.of {c : Ck} {o : List PartD} {p : PartD} {s : List Int} (h : ∃ u', SP c o p s u') : Sx c := let ⟨u', h⟩ := h; ⟨o, p, s, u', h⟩
theorem SP.callS (S : SP c o p s u) (K : KOk E L) {x : InsD} (h : (callS E c x).bad = 0) (ha : 0 ≤ x.a) : ∃ u', SP (callS E c x) o p s u' := by
  have hg : ∀ (c1 : Ck) (t : SigD), t ∈ E.types → (∃ u1, SP c1 o p s u1) → (givesS (takesS c1 t.inn) t.out).bad = 0 → ∃ u', SP (givesS (takesS c1 t.inn) t.out) o p s u' := by
    intro c1 t ht ⟨u1, S1⟩ hb
    rw [givesS_bad] at hb
    obtain ⟨u2, S2, _⟩ := S1.takes t.inn (K.inn t ht) hb
    exact ⟨_, SP.gives t.out S2 (K.out t ht)⟩
  unfold Valid.callS at *
  by_cases ho : x.op = 16
  · rw [if_pos ho] at h ⊢
    cases ht : typS E x.a with
    | none => simp only [ht] at h; exact (failS_no (by decide) h).elim
    | some t =>
      simp only [ht] at h ⊢
      have htm : t ∈ E.types := by
        unfold typS at ht
        obtain ⟨k, _, hk⟩ := Option.bind_eq_some_iff.1 ht
        exact List.mem_of_getElem? hk
      exact hg c t htm ⟨u, S⟩ h
  · rw [if_neg ho] at h ⊢
    by_cases hn : E.table = 0 ∨ (E.types.length : Int) ≤ x.a
    · rw [if_pos hn] at h; exact (failS_no (by decide) h).elim
    · rw [if_neg hn] at h ⊢
      simp only at h ⊢
      by_cases ht : E.types.getD x.a.toNat ⟨[], []⟩ ∈ E.types
      · refine hg _ _ ht ?_ h
        rw [givesS_bad] at h
        obtain ⟨u1, S1, _⟩ := S.pop (by decide) (takesS_0 h)
        exact ⟨u1, S1⟩
      · have : x.a.toNat < E.types.length := by omega
        rw [List.getD_eq_getElem?_getD, List.getElem?_eq_getElem this] at ht
        exact absurd (List.getElem_mem this) ht
theorem SP.chooseS (S : SP c o p s u) (h : (chooseS c).bad = 0) : ∃ u', SP (chooseS c) o p s u' := by
  unfold Valid.chooseS at *
  simp only at h ⊢
  rw [pushS_bad] at h
  have h1 := popS_0 h
  have h2 := popS_0 h1
  obtain ⟨u1, S1, _⟩ := S.pop (by decide) h2
  obtain ⟨u2, S2, _, q2⟩ := S1.pop (by decide) h1
  obtain ⟨u3, S3, q3⟩ := S2.popK h
  obtain ⟨u4, S4, _⟩ := S3.push fun hl => (q3 hl).2
  exact ⟨_, S4⟩
theorem mem_getD {α : Type} {l : List α} {i : Nat} {z : α} (h : i < l.length) : l.getD i z ∈ l := by
  rw [List.getD_eq_getElem?_getD, List.getElem?_eq_getElem h]; exact List.getElem_mem h
theorem SP.popEx (S : SP c o p s u) {k : Int} (hb : (popS c k).1.bad = 0) : ∃ u', SP (popS c k).1 o p s u' := let ⟨u', h, _⟩ := S.popK hb; ⟨u', h⟩
theorem SP.valueS (S : SP c o p s u) (K : KOk E L) {x : InsD} (h : (valueS E L c x).bad = 0) (ha : 0 ≤ x.a) : ∃ u', SP (valueS E L c x) o p s u' := by
  unfold Valid.valueS at *
  by_cases ho : x.op < 35
  · rw [if_pos ho] at h ⊢
    by_cases hn : (L.length : Int) ≤ x.a
    · rw [if_pos hn] at h; exact (failS_no (by decide) h).elim
    · rw [if_neg hn] at h ⊢
      simp only at h ⊢
      have hk := K.loc _ (mem_getD (z := 0) (show x.a.toNat < L.length by omega))
      have hc : ∀ c1 : Ck, (∃ u1, SP c1 o p s u1) → ∃ u', SP (if x.op ≠ 33 then pushS c1 (L.getD x.a.toNat 0) else c1) o p s u' := by
        intro c1 ⟨u1, S1⟩
        split
        · obtain ⟨u2, S2, _⟩ := S1.push fun _ => hk.n0
          exact ⟨_, S2⟩
        · exact ⟨_, S1⟩
      refine hc _ ?_
      by_cases h32 : x.op ≠ 32
      · rw [if_pos h32] at h ⊢
        refine S.popEx ?_
        split at h
        · rw [pushS_bad] at h; exact h
        · exact h
      · rw [if_neg h32]; exact ⟨u, S⟩
  · rw [if_neg ho] at h ⊢
    by_cases hn : (E.globals.length : Int) ≤ x.a
    · rw [if_pos hn] at h; exact (failS_no (by decide) h).elim
    · rw [if_neg hn] at h ⊢
      simp only at h ⊢
      have hk := K.glo _ (mem_getD (z := (0, false, 0)) (show x.a.toNat < E.globals.length by omega))
      by_cases h35 : x.op = 35
      · rw [if_pos h35]
        obtain ⟨u2, S2, _⟩ := S.push fun _ => hk.n0
        exact ⟨_, S2⟩
      · rw [if_neg h35] at h ⊢
        by_cases hm : (E.globals.getD x.a.toNat (0, false, 0)).2.1 = true
        · rw [if_pos hm] at h ⊢
          obtain ⟨u1, S1⟩ := S.popEx h
          exact ⟨_, S1⟩
        · rw [if_neg hm] at h
          exact (failS_no (by decide) (popS_0 h)).elim
theorem plnS_kd (o : Int) : (∀ k ∈ (plnS o).1, Kd k) ∧ ∀ k ∈ (plnS o).2.1, Kd k := by
  have kk : ∀ a b, Kd (kd a b) := fun a b => by unfold kd Kd; split <;> omega
  have ka : ∀ a, Kd (kindAt a) := fun a => by unfold kindAt Kd; split <;> omega
  have k7 : Kd 127 := .inl rfl
  have k6 : Kd 126 := .inr rfl
  have hn : (numS o).2.2 = true → (∀ k ∈ (numS o).1, Kd k) ∧ Kd (numS o).2.1 := by
    unfold numS
    repeat' split
    all_goals simp [kk, k7, k6]
  unfold plnS
  by_cases h1 : (numS o).2.2 = true
  · rw [if_pos h1]
    exact ⟨(hn h1).1, fun k hk => by rw [List.mem_singleton.1 hk]; exact (hn h1).2⟩
  · rw [if_neg h1]
    repeat' split
    all_goals simp [ka, k7, k6]
/-- A plain instruction in a live part: what lies on the stack before and after. -/
theorem SP.plainS (S : SP c o p s u) {x : InsD} (h : (plainS E c x).bad = 0) : ∃ u', SP (plainS E c x) o p s (u' ++ (plnS x.op).2.1) ∧ (Live p → u = u' ++ (plnS x.op).1) := by
  unfold Valid.plainS at *
  by_cases h1 : E.most = 0 ∧ (0 < wid x.op ∨ x.op = 63 ∨ x.op = 64)
  · rw [if_pos h1] at h; exact (failS_no (by decide) h).elim
  · rw [if_neg h1] at h ⊢
    by_cases h2 : 0 < wid x.op ∧ (3 < x.a ∨ wid x.op < shw x.a)
    · rw [if_pos h2] at h; exact (failS_no (by decide) h).elim
    · rw [if_neg h2] at h ⊢
      rw [givesS_bad] at h
      obtain ⟨u', S1, hl⟩ := S.takes _ (plnS_kd x.op).1 h
      exact ⟨u', SP.gives _ S1 (plnS_kd x.op).2, hl⟩
theorem SP.wayS (S : SP c o p s u) {a : Int} (h : (wayS c a).bad = 0) : ∃ u', SP (wayS c a) o p s u' := by
  have h0 := wayS_0 h
  unfold Valid.wayS at *
  rw [if_pos h0] at h ⊢
  rw [S.out h0] at h ⊢
  exact S.popEx h
theorem waysS_c (k : Int) : ∀ (l : List Int) (q : Ck × Bool), (waysS k l q).1.bad = 0 → (waysS k l q).1 = q.1
  | [], _, _ => rfl
  | n :: r, q, h => by
    rw [waysS] at h ⊢
    have h1 := waysS_0 k r _ h
    rw [waysS_c k r _ h]
    show (outS q.1 n).1 = q.1
    rw [(outS_0 h1).2.2]
theorem SP.tableS (S : SP c o p s u) {a : Int} {l : List Int} (h : (tableS c a l).bad = 0) : ∃ u', SP (tableS c a l) o p s u' := by
  unfold Valid.tableS at *
  simp only at h ⊢
  by_cases h0 : (waysS (alongS (outS c a).2) l ((outS c a).1, true)).1.bad ≠ 0
  · rw [if_pos h0] at h; exact absurd h h0
  · rw [if_neg h0] at h ⊢
    have h00 := Decidable.of_not_not h0
    have e := waysS_c _ l _ h00
    simp only at e
    rw [e] at h ⊢
    rw [e] at h00
    rw [S.out h00] at h ⊢
    have h2 := popS_0 (popS_0 h)
    by_cases hs : (waysS (alongS (outS c a).2) l (c, true)).2 = true
    · rw [if_pos hs] at h h2 ⊢
      obtain ⟨u1, S1, _⟩ := S.pop (by decide) (popS_0 h)
      exact S1.popEx h
    · rw [if_neg hs] at h2
      exact (failS_no (by decide) h2).elim
theorem SP.brifS (S : SP c o p s u) {a : Int} (h : (brifS c a).bad = 0) : ∃ u', SP (brifS c a) o p s u' := by
  unfold Valid.brifS at *
  simp only at h ⊢
  by_cases h0 : (outS c a).1.bad = 0
  · rw [if_pos h0] at h ⊢
    have ha := S.along h0
    rw [S.out h0] at h ⊢
    rw [pushS_bad] at h
    obtain ⟨u1, S1, _⟩ := S.pop (by decide) (popS_0 h)
    obtain ⟨u2, S2⟩ := S1.popEx h
    obtain ⟨u3, S3, _⟩ := S2.push fun _ => ha
    exact ⟨u3, S3⟩
  · rw [if_neg h0] at h; exact absurd h h0
/-- What stays true from instruction to instruction: the blocks' kinds are kinds, and no live part has a value of a kind unknown. -/
theorem SP.one (S : SP c o p s u) (K : KOk E L) {x : InsD} (hx : chk x = 0) (h : (oneS E L c x).bad = 0) (hn : (oneS E L c x).opn ≠ []) : Sx (oneS E L c x) := by
  have hgk : goodK (bsd x.op) x.a x.b ∧ bsd x.op ≠ 0 := by
    unfold chk at hx
    repeat' split at hx
    all_goals first | cases hx | skip
    rename_i h1 _ _ h4
    exact ⟨h4.1, h1⟩
  unfold oneS at *
  by_cases h1 : x.op = 1
  · rw [if_pos h1]; exact S.ex
  · rw [if_neg h1] at h hn ⊢
    by_cases h15 : x.op ≤ 15
    · rw [if_pos h15] at h hn ⊢
      unfold controlS at *
      by_cases a0 : x.op = 0
      · rw [if_pos a0]; exact ⟨_, _, _, _, S.die⟩
      · rw [if_neg a0] at h hn ⊢
        have hk : x.op = 2 ∨ x.op = 3 ∨ x.op = 4 → x.a ≠ 0 := fun ho => by
          have hb : bsd x.op = 2 := if_pos ho
          have := hgk.1
          rw [hb] at this
          unfold goodK at this
          rw [if_neg (by decide), if_pos rfl] at this
          omega
        by_cases a2 : x.op = 2 ∨ x.op = 3
        · rw [if_pos a2]; exact ⟨_, _, _, _, S.begin_ _ (hk (by omega))⟩
        · rw [if_neg a2] at h hn ⊢
          by_cases a4 : x.op = 4
          · rw [if_pos a4] at h ⊢
            obtain ⟨u1, S1, _⟩ := S.pop (k := 127) (by decide) h
            exact ⟨_, _, _, _, S1.begin_ _ (hk (by omega))⟩
          · rw [if_neg a4] at h hn ⊢
            by_cases a5 : x.op = 5
            · rw [if_pos a5] at h ⊢; exact ⟨_, _, _, _, (S.else_ h).1⟩
            · rw [if_neg a5] at h hn ⊢
              by_cases a11 : x.op = 11
              · rw [if_pos a11] at h hn ⊢
                obtain ⟨_, _, e, h4⟩ := S.end_ h
                rcases List.eq_nil_or_concat o with rfl | ⟨o1, q, rfl⟩
                · exact absurd e hn
                · rw [List.concat_eq_append] at h4
                  obtain ⟨s1, u1, _, S1⟩ := h4 o1 q rfl
                  exact S1.ex
              · rw [if_neg a11] at h hn ⊢
                by_cases a12 : x.op = 12
                · rw [if_pos a12] at h ⊢
                  obtain ⟨u1, S1⟩ := S.wayS (a := x.a) h
                  exact ⟨_, _, _, _, S1.die⟩
                · rw [if_neg a12] at h hn ⊢
                  by_cases a13 : x.op = 13
                  · rw [if_pos a13] at h ⊢
                    obtain ⟨u1, S1⟩ := S.brifS h
                    exact S1.ex
                  · rw [if_neg a13] at h hn ⊢
                    by_cases a15 : x.op = 15
                    · rw [if_pos a15] at h ⊢
                      obtain ⟨u1, S1⟩ := S.popEx (k := (c.opn.getD 0 pz).kind) h
                      exact ⟨_, _, _, _, S1.die⟩
                    · rw [if_neg a15] at h hn ⊢
                      by_cases a14 : x.op = 14
                      · rw [if_pos a14] at h ⊢
                        obtain ⟨u1, S1⟩ := S.tableS (a := x.a) (l := x.to) h
                        exact ⟨_, _, _, _, S1.die⟩
                      · rw [if_neg a14]; exact S.ex
    · rw [if_neg h15] at h hn ⊢
      by_cases h17 : x.op ≤ 17
      · rw [if_pos h17] at h ⊢
        refine Sx.of (S.callS K h ?_)
        have hb : bsd x.op = 3 ∨ bsd x.op = 5 := by
          unfold bsd
          by_cases h16 : x.op = 16
          · left; rw [if_neg (by omega), if_pos (by omega)]
          · right; rw [if_neg (by omega), if_neg (by omega), if_neg (by omega), if_pos (by omega)]
        have hg := hgk.1
        rcases hb with hb | hb
        · rw [hb] at hg
          unfold goodK at hg
          rw [if_neg (by decide), if_neg (by decide), if_neg (by decide), if_neg (by decide), if_pos (by decide)] at hg
          exact hg.1
        · rw [hb] at hg
          unfold goodK at hg
          rw [if_neg (by decide), if_neg (by decide), if_neg (by decide), if_neg (by decide), if_pos (by decide)] at hg
          exact hg.1
      · rw [if_neg h17] at h hn ⊢
        by_cases h26 : x.op = 26
        · rw [if_pos h26] at h ⊢
          obtain ⟨u1, S1⟩ := S.popEx (k := 0) h
          exact S1.ex
        · rw [if_neg h26] at h hn ⊢
          by_cases h27 : x.op = 27
          · rw [if_pos h27] at h ⊢; exact Sx.of (S.chooseS h)
          · rw [if_neg h27] at h hn ⊢
            by_cases h36 : x.op ≤ 36
            · rw [if_pos h36] at h ⊢
              refine Sx.of (S.valueS K h ?_)
              by_cases h32 : 32 ≤ x.op
              · have hb : bsd x.op = 3 := by
                  unfold bsd
                  rw [if_neg (by omega), if_pos (by omega)]
                have := hgk.1
                rw [hb] at this
                unfold goodK at this
                rw [if_neg (by decide), if_neg (by decide), if_neg (by decide), if_neg (by decide), if_pos (by decide)] at this
                exact this.1
              · refine absurd ?_ hgk.2
                have hw : wid x.op = 0 := by
                  unfold wid
                  rw [if_neg (by omega), if_neg (by omega), if_neg (by omega), if_neg (by omega)]
                have hnm : (numS x.op).2.2 = false := by
                  unfold numS
                  rw [if_neg (by omega), if_neg (by omega), if_neg (by omega), if_neg (by omega), if_neg (by omega), if_neg (by omega), if_neg (by omega)]
                unfold bsd
                rw [hw, hnm]
                rw [if_neg (by omega), if_neg (by omega), if_neg (by omega), if_neg (by omega), if_neg (by decide), if_neg (by omega), if_neg (by omega), if_neg (by omega), if_neg (by omega), if_neg (by decide)]
            · rw [if_neg h36] at h ⊢
              obtain ⟨u1, S1, _⟩ := S.plainS h
              exact S1.ex
theorem chk_a {x : InsD} (hx : chk x = 0) (h : x.op = 16 ∨ x.op = 17 ∨ (32 ≤ x.op ∧ x.op ≤ 36)) : 0 ≤ x.a := by
  have hgk : goodK (bsd x.op) x.a x.b := by
    unfold chk at hx
    repeat' split at hx
    all_goals first | cases hx | skip
    rename_i h4
    exact h4.1
  have hb : bsd x.op = 3 ∨ bsd x.op = 5 := by
    unfold bsd
    by_cases h17 : x.op = 17
    · right; rw [if_neg (by omega), if_neg (by omega), if_neg (by omega), if_pos (by omega)]
    · left; rw [if_neg (by omega), if_pos (by omega)]
  rcases hb with hb | hb
  all_goals
    rw [hb] at hgk
    unfold goodK at hgk
    rw [if_neg (by decide), if_neg (by decide), if_neg (by decide), if_neg (by decide), if_pos (by decide)] at hgk
    exact hgk.1
/-- Nothing is opened or shut: the same part, above the same stack. -/
theorem SP.flat (S : SP c o p s u) (K : KOk E L) {x : InsD} (hx : chk x = 0) (h2 : x.op ≠ 2) (h3 : x.op ≠ 3) (h4 : x.op ≠ 4) (h5 : x.op ≠ 5) (h11 : x.op ≠ 11) (h : (oneS E L c x).bad = 0) : ∃ d u', SP (oneS E L c x) o { p with dead := d } s u' ∧ (p.dead = true → d = true) := by
  have same : ∀ c' : Ck, (∃ u', SP c' o p s u') → ∃ d u', SP c' o { p with dead := d } s u' ∧ (p.dead = true → d = true) := fun c' ⟨u', h⟩ => ⟨p.dead, u', h, id⟩
  have die : ∀ c' : Ck, (∃ u', SP c' o p s u') → ∃ d u', SP (dieS c') o { p with dead := d } s u' ∧ (p.dead = true → d = true) := fun c' ⟨u', h⟩ => ⟨true, [], h.die, fun _ => rfl⟩
  unfold oneS at *
  by_cases h1 : x.op = 1
  · rw [if_pos h1]; exact same _ ⟨u, S⟩
  · rw [if_neg h1] at h ⊢
    by_cases h15 : x.op ≤ 15
    · rw [if_pos h15] at h ⊢
      unfold controlS at *
      by_cases a0 : x.op = 0
      · rw [if_pos a0]; exact die _ ⟨u, S⟩
      · rw [if_neg a0, if_neg (by omega), if_neg h4, if_neg h5, if_neg h11] at h ⊢
        by_cases a12 : x.op = 12
        · rw [if_pos a12] at h ⊢; exact die _ (S.wayS (a := x.a) h)
        · rw [if_neg a12] at h ⊢
          by_cases a13 : x.op = 13
          · rw [if_pos a13] at h ⊢; exact same _ (S.brifS h)
          · rw [if_neg a13] at h ⊢
            by_cases a15 : x.op = 15
            · rw [if_pos a15] at h ⊢; exact die _ (S.popEx (k := (c.opn.getD 0 pz).kind) h)
            · rw [if_neg a15] at h ⊢
              by_cases a14 : x.op = 14
              · rw [if_pos a14] at h ⊢; exact die _ (S.tableS (a := x.a) (l := x.to) h)
              · rw [if_neg a14]; exact same _ ⟨u, S⟩
    · rw [if_neg h15] at h ⊢
      by_cases h17 : x.op ≤ 17
      · rw [if_pos h17] at h ⊢; exact same _ (S.callS K h (chk_a hx (by omega)))
      · rw [if_neg h17] at h ⊢
        by_cases h26 : x.op = 26
        · rw [if_pos h26] at h ⊢; exact same _ (S.popEx (k := 0) h)
        · rw [if_neg h26] at h ⊢
          by_cases h27 : x.op = 27
          · rw [if_pos h27] at h ⊢; exact same _ (S.chooseS h)
          · rw [if_neg h27] at h ⊢
            by_cases h36 : x.op ≤ 36
            · rw [if_pos h36] at h ⊢
              by_cases h32 : 32 ≤ x.op
              · exact same _ (S.valueS K h (chk_a hx (by omega)))
              · exfalso
                have hb : bsd x.op ≠ 0 := by
                  intro hb
                  unfold chk at hx
                  rw [if_pos hb] at hx; cases hx
                refine hb ?_
                have hw : wid x.op = 0 := by
                  unfold wid
                  rw [if_neg (by omega), if_neg (by omega), if_neg (by omega), if_neg (by omega)]
                have hnm : (numS x.op).2.2 = false := by
                  unfold numS
                  rw [if_neg (by omega), if_neg (by omega), if_neg (by omega), if_neg (by omega), if_neg (by omega), if_neg (by omega), if_neg (by omega)]
                unfold bsd
                rw [hw, hnm]
                rw [if_neg (by omega), if_neg (by omega), if_neg (by omega), if_neg (by omega), if_neg (by decide), if_neg (by omega), if_neg (by omega), if_neg (by omega), if_neg (by omega), if_neg (by decide)]
            · rw [if_neg h36] at h ⊢
              obtain ⟨u1, S1, _⟩ := S.plainS h
              exact same _ ⟨_, S1⟩
end
end Go.Proofs.YtndhikahjmgamaaGreatDoor.Valid
/- The shapes of a body: what is known ahead of each instruction, and what a plain one changes. -/
set_option maxRecDepth 100000
set_option maxHeartbeats 4000000
set_option linter.unusedVariables false
set_option linter.unusedSimpArgs false
namespace Go.Proofs.YtndhikahjmgamaaGreatDoor.Valid
open Go Go.Proofs.YtndhikahjmgamaaGreatDoor.Eng Go.RowKit
open Ins Nest Leb Bin
/-- What is told of a state. -/
def shp (c : Ck) : Bool × List Int := if (topS c).dead = true ∨ (topS c).under = true then (true, []) else (false, c.stack)
def stAt (E : VEnv) (L : List Int) (bd : List InsD) (c0 : Ck) (k : Nat) : Ck := runS E L (bd.take k) c0
def shapesS (E : VEnv) (L : List Int) (bd : List InsD) (c0 : Ck) (k : Nat) : List (Bool × List Int) := (List.range k).map fun i => shp (stAt E L bd c0 i)
theorem shapesS_len {E : VEnv} {L : List Int} {bd : List InsD} {c0 : Ck} {k : Nat} : (shapesS E L bd c0 k).length = k := by unfold shapesS; simp
theorem shapesS_get {E : VEnv} {L : List Int} {bd : List InsD} {c0 : Ck} {k i : Nat} (h : i < k) : (shapesS E L bd c0 k)[i]? = some (shp (stAt E L bd c0 i)) := by unfold shapesS; simp [h]
theorem shapesS_succ {E : VEnv} {L : List Int} {bd : List InsD} {c0 : Ck} {k : Nat} : shapesS E L bd c0 (k + 1) = shapesS E L bd c0 k ++ [shp (stAt E L bd c0 k)] := by
  unfold shapesS; rw [List.range_succ, List.map_append]; rfl
section
variable {E : VEnv} {L : List Int} {bd : List InsD} {c0 : Ck} {k : Nat} {x : InsD}
/-- The check is so far. -/
structure At (E : VEnv) (L : List Int) (bd : List InsD) (c0 : Ck) (k : Nat) : Prop where
  bad : (stAt E L bd c0 k).bad = 0
  len : (stAt E L bd c0 k).opn.length = (stB bd k).op.length
  run : runS E L bd c0 = runS E L (bd.drop k) (stAt E L bd c0 k)
  sx : (stAt E L bd c0 k).opn ≠ [] → Sx (stAt E L bd c0 k)
theorem stAt_succ (hx : bd[k]? = some x) (hb : (stAt E L bd c0 k).bad = 0) : stAt E L bd c0 (k + 1) = oneS E L (stAt E L bd c0 k) x := by
  unfold stAt at *
  rw [List.take_add_one, hx]
  show runS E L (bd.take k ++ [x]) c0 = _
  rw [runS_app _ _ hb, runS]
  split
  · rfl
  · rfl
theorem over_k (hc : chkB bd = 0) (hk : k < bd.length) : (stB bd k).over = false := by
  obtain ⟨_, hS, _⟩ := chkB_ok hc
  have hn := (hS k _ hk (List.getElem?_eq_getElem hk)).2
  cases h2 : (stB bd k).over with
  | false => rfl
  | true => rw [over_no h2] at hn; exact absurd hn (by decide)
theorem At.ne (A : At E L bd c0 k) (hc : chkB bd = 0) (hk : k < bd.length) : (stAt E L bd c0 k).opn ≠ [] := by
  have := (stB_ok bd k).pos (over_k hc hk)
  intro h
  have h2 := A.len
  rw [h] at h2
  simp at h2; omega
theorem At.step (A : At E L bd c0 k) (hc : chkB bd = 0) (hr : (runS E L bd c0).bad = 0) (K : KOk E L) (hx : bd[k]? = some x) : (oneS E L (stAt E L bd c0 k) x).bad = 0 ∧ stAt E L bd c0 (k + 1) = oneS E L (stAt E L bd c0 k) x ∧ At E L bd c0 (k + 1) := by
  have hh := List.getElem?_eq_some_iff.1 hx
  have e := stAt_succ hx A.bad
  have hr2 := hr
  rw [A.run, List.drop_eq_getElem_cons hh.1, hh.2] at hr2
  obtain ⟨h1, h2⟩ := runS_cons hr2
  have ho := over_k hc hh.1
  obtain ⟨_, hS, _⟩ := chkB_ok hc
  have hn := hS k x hh.1 hx
  refine ⟨h1, e, ⟨by rw [e]; exact h1, ?_, ?_, ?_⟩⟩
  · rw [e, stB_succ hx]
    exact step_len ho (stB_ok bd k) A.len hn.2 h1
  · rw [A.run, List.drop_eq_getElem_cons hh.1, hh.2, h2, e]
  · rw [e]
    intro hne
    obtain ⟨o, p, s, u, S⟩ := A.sx (A.ne hc hh.1)
    exact S.one K hn.1 h1 hne
theorem start_sx {t : SigD} (h : t.out.getD 0 64 ≠ 0) : Sx (startS t) :=
  ⟨[], ⟨2, t.out.getD 0 64, 0, false, false⟩, [], [], rfl, rfl, Lv.nil, rfl, h, fun _ _ => nofun⟩
theorem At.zero {t : SigD} (h : t.out.getD 0 64 ≠ 0) : At E L bd (startS t) 0 := ⟨rfl, rfl, rfl, fun _ => start_sx h⟩
theorem At.all {t : SigD} (hc : chkB bd = 0) (hr : (runS E L bd (startS t)).bad = 0) (K : KOk E L) (h : t.out.getD 0 64 ≠ 0) : ∀ k, k ≤ bd.length → At E L bd (startS t) k
  | 0, _ => .zero h
  | k + 1, hk => ((At.all hc hr K h k (by omega)).step hc hr K (List.getElem?_eq_getElem hk)).2.2
end
end Go.Proofs.YtndhikahjmgamaaGreatDoor.Valid
/- Blocks in a body that is checked: what a whole block comes to. -/
set_option maxRecDepth 100000
set_option maxHeartbeats 4000000
set_option linter.unusedVariables false
set_option linter.unusedSimpArgs false
namespace Go.Proofs.YtndhikahjmgamaaGreatDoor.Fold
open Go Go.RowKit Go.Proofs.YtndhikahjmgamaaGreatDoor.Eng
open Go.Proofs.YtndhikahjmgamaaGreatDoor.Leb Go.Proofs.YtndhikahjmgamaaGreatDoor.Txt Go.Proofs.YtndhikahjmgamaaGreatDoor.Ins Go.Proofs.YtndhikahjmgamaaGreatDoor.Nest Go.Proofs.YtndhikahjmgamaaGreatDoor.Valid
theorem run_chk : ∀ (A : List InsD) (s w : List Int), run A s = some w → ∀ x ∈ A, chk x = 0
  | [], _, _, _ => nofun
  | x :: A, s, w, h => by
    obtain ⟨t, h1, h2⟩ := run_cons h
    intro y hy
    rcases List.mem_cons.1 hy with rfl | hy
    · exact (stp_some h1).1
    · exact run_chk A t w h2 y hy
section
variable {E : VEnv} {L : List Int} {c d : Ck} {O : List PartD} {S : List Int} {n : Nat} {q0 : PartD}
/-- A check that is within n blocks of a part. -/
structure KP (d : Ck) (O : List PartD) (S : List Int) (n : Nat) (q0 : PartD) : Prop where
  sx : Sx d
  ex : ∃ qs t, d.opn = O ++ qs ∧ d.stack = S ++ t ∧ qs.length = n + 1 ∧ (∀ q ∈ qs, S.length ≤ q.base) ∧ ∃ q1, qs[0]? = some q1 ∧ q1.base = S.length ∧ q1.kind = q0.kind ∧ q1.op = q0.op
theorem KP.get (h : KP d O S n q0) : ∃ o p s t r t1, SP d o p s t ∧ o = O ++ r ∧ s = S ++ t1 ∧ r.length = n ∧ S.length ≤ p.base ∧ (∀ q ∈ r, S.length ≤ q.base) ∧ ∃ q1, (r ++ [p])[0]? = some q1 ∧ q1.base = S.length ∧ q1.kind = q0.kind ∧ q1.op = q0.op := by
  obtain ⟨o, p, s, t, P⟩ := h.sx
  obtain ⟨qs, t2, e1, e2, e3, e4, e5⟩ := h.ex
  rcases List.eq_nil_or_concat qs with rfl | ⟨r, p2, rfl⟩
  · simp at e3
  rw [List.concat_eq_append] at *
  rw [P.opn, ← List.append_assoc] at e1
  obtain ⟨h1, h2⟩ := List.append_inj' e1 rfl
  have h2 := List.singleton_inj.1 h2
  subst h2
  have hb : S.length ≤ p.base := e4 p (by simp)
  have hp : S <+: s := by
    refine List.prefix_of_prefix_length_le (l₃ := d.stack) ⟨t2, e2.symm⟩ ⟨t, P.stk.symm⟩ ?_
    rw [← P.base]; exact hb
  obtain ⟨t1, ht1⟩ := hp
  exact ⟨o, p, s, t, r, t1, P, h1, ht1.symm, by simpa using e3, hb, fun q hq => e4 q (List.mem_append_left _ hq), e5⟩
theorem KP.mk' {o : List PartD} {p : PartD} {s t r t1} (P : SP d o p s t) (ho : o = O ++ r) (hs : s = S ++ t1) (hr : r.length = n) (hb : S.length ≤ p.base) (hq : ∀ q ∈ r, S.length ≤ q.base) (hx : ∃ q1, (r ++ [p])[0]? = some q1 ∧ q1.base = S.length ∧ q1.kind = q0.kind ∧ q1.op = q0.op) : KP d O S n q0 :=
  ⟨P.ex, r ++ [p], t1 ++ t, by rw [P.opn, ho, List.append_assoc], by rw [P.stk, hs, List.append_assoc], by simp [hr], fun q h => by
    rcases List.mem_append.1 h with h | h
    · exact hq q h
    · rw [List.mem_singleton.1 h]; exact hb, hx⟩
theorem first_same {r : List PartD} {p p2 : PartD} (h1 : p2.base = p.base) (h2 : p2.kind = p.kind) (h3 : p2.op = p.op) (hx : ∃ q1, (r ++ [p])[0]? = some q1 ∧ q1.base = S.length ∧ q1.kind = q0.kind ∧ q1.op = q0.op) : ∃ q1, (r ++ [p2])[0]? = some q1 ∧ q1.base = S.length ∧ q1.kind = q0.kind ∧ q1.op = q0.op := by
  obtain ⟨q1, a, b, cc, dd⟩ := hx
  cases r with
  | nil =>
    obtain rfl : p = q1 := Option.some.inj a
    exact ⟨p2, rfl, by rw [h1]; exact b, by rw [h2]; exact cc, by rw [h3]; exact dd⟩
  | cons r0 r => exact ⟨q1, a, b, cc, dd⟩
theorem first_more {r m : List PartD} {p p2 : PartD} (hr : r ≠ []) (hx : ∃ q1, (r ++ [p])[0]? = some q1 ∧ q1.base = S.length ∧ q1.kind = q0.kind ∧ q1.op = q0.op) : ∃ q1, (r ++ m)[0]? = some q1 ∧ q1.base = S.length ∧ q1.kind = q0.kind ∧ q1.op = q0.op := by
  obtain ⟨q1, a, b⟩ := hx
  cases r with
  | nil => exact absurd rfl hr
  | cons r0 r => exact ⟨q1, a, b⟩
theorem begin_is {x : InsD} (ho : Opn x) : oneS E L c x = beginS (if x.op = 4 then (popS c 127).1 else c) x.op x.a := by
  unfold Opn at ho
  unfold oneS
  rw [if_neg (by omega), if_pos (by omega)]
  unfold controlS
  rw [if_neg (by omega)]
  by_cases h4 : x.op = 4
  · rw [if_neg (by omega), if_pos h4, if_pos h4]
  · rw [if_pos (by omega), if_neg h4]
theorem else_is {x : InsD} (h : x.op = 5) : oneS E L c x = elseS c := by
  unfold oneS
  rw [if_neg (by omega), if_pos (by omega)]
  unfold controlS
  rw [if_neg (by omega), if_neg (by omega), if_neg (by omega), if_pos h]
theorem end_is {x : InsD} (h : x.op = 11) : oneS E L c x = endS c := by
  unfold oneS
  rw [if_neg (by omega), if_pos (by omega)]
  unfold controlS
  rw [if_neg (by omega), if_neg (by omega), if_neg (by omega), if_neg (by omega), if_pos h]
theorem opn_a {x : InsD} (hx : chk x = 0) (ho : Opn x) : x.a ≠ 0 := by
  have := (chk_0 hx).2.2.1
  rw [show bsd x.op = 2 from if_pos ho] at this
  unfold goodK at this
  rw [if_neg (by decide), if_pos rfl] at this
  omega
theorem KP.step (h : KP d O S n q0) (K : KOk E L) {x : InsD} {u v : List Int} (hx : chk x = 0) (hl : lst x u = some v) (hn : u.length = n) (hb : (oneS E L d x).bad = 0) : KP (oneS E L d x) O S v.length q0 := by
  obtain ⟨o, p, s, t, r, t1, P, e1, e2, e3, e4, e5, e6⟩ := h.get
  unfold lst at hl
  by_cases ho : Opn x
  · rw [if_pos ho] at hl
    obtain rfl := Option.some.inj hl
    rw [begin_is ho] at hb ⊢
    have ha := opn_a hx ho
    have hP : ∃ t', SP (if x.op = 4 then (popS d 127).1 else d) o p s t' := by
      by_cases h4 : x.op = 4
      · rw [if_pos h4] at hb ⊢
        obtain ⟨t', q, _⟩ := P.pop (k := 127) (by decide) hb
        exact ⟨t', q⟩
      · rw [if_neg h4]; exact ⟨t, P⟩
    obtain ⟨t', P'⟩ := hP
    have P2 := P'.begin_ x.op ha
    refine KP.mk' (r := r ++ [p]) (t1 := t1 ++ t') P2 (by rw [e1, List.append_assoc]) (by rw [e2, List.append_assoc]) (by simp [e3, hn]) ?_ ?_ ?_
    · show S.length ≤ (if x.op = 4 then (popS d 127).1 else d).stack.length
      rw [P'.stk, e2]; simp only [List.length_append]; omega
    · intro q hq
      rcases List.mem_append.1 hq with hq | hq
      · exact e5 q hq
      · rw [List.mem_singleton.1 hq]; exact e4
    · obtain ⟨q1, a, b⟩ := e6
      refine ⟨q1, ?_, b⟩
      rw [List.getElem?_append_left (by simp)]; exact a
  · rw [if_neg ho] at hl
    by_cases h5 : x.op = 5
    · rw [if_pos h5] at hl
      cases u with
      | nil => cases hl
      | cons a u' =>
        simp only at hl
        by_cases ha : a = 4
        · rw [if_pos ha] at hl
          obtain rfl := Option.some.inj hl
          rw [else_is h5] at hb ⊢
          have P2 := (P.else_ hb).1
          have hr : r ≠ [] := by intro e; rw [e] at e3; simp at hn e3; omega
          exact KP.mk' P2 e1 e2 (by simp at hn ⊢; omega) e4 e5 (first_more (p2 := p) hr e6)
        · rw [if_neg ha] at hl; cases hl
    · rw [if_neg h5] at hl
      by_cases h11 : x.op = 11
      · rw [if_pos h11] at hl
        cases u with
        | nil => cases hl
        | cons a u' =>
          obtain rfl : u' = v := Option.some.inj hl
          rw [end_is h11] at hb ⊢
          have hr : r ≠ [] := by intro e; rw [e] at e3; simp at hn e3; omega
          rcases List.eq_nil_or_concat r with e | ⟨r2, q2, rfl⟩
          · exact absurd e hr
          rw [List.concat_eq_append] at *
          obtain ⟨_, _, _, h4⟩ := P.end_ hb
          obtain ⟨s1, u1, hs1, P2⟩ := h4 (O ++ r2) q2 (by rw [e1, List.append_assoc])
          have hb2 : S.length ≤ q2.base := e5 q2 (by simp)
          have hp : S <+: s1 := by
            refine List.prefix_of_prefix_length_le (l₃ := s) ⟨t1, e2.symm⟩ ⟨u1, hs1.symm⟩ ?_
            rw [← P2.base]; exact hb2
          obtain ⟨t3, ht3⟩ := hp
          refine KP.mk' (r := r2) (t1 := t3) P2 rfl ht3.symm (by simp at e3 hn ⊢; omega) hb2 (fun q hq => e5 q (List.mem_append_left _ hq)) ?_
          obtain ⟨q1, a1, b1⟩ := e6
          refine ⟨q1, ?_, b1⟩
          rw [List.getElem?_append_left (by simp)] at a1; exact a1
      · rw [if_neg h11] at hl
        obtain rfl := Option.some.inj hl
        obtain ⟨dd2, u', P2, _⟩ := P.flat K hx (fun e => ho (.inl e)) (fun e => ho (.inr (.inl e))) (fun e => ho (.inr (.inr e))) h5 h11 hb
        exact KP.mk' P2 e1 e2 (by omega) e4 e5 (first_same (p := p) (p2 := { p with dead := dd2 }) rfl rfl rfl e6)
theorem KP.run (K : KOk E L) : ∀ (A : List InsD) (d : Ck) (u v : List Int), KP d O S u.length q0 → (∀ x ∈ A, chk x = 0) → lrun A u = some v → (runS E L A d).bad = 0 → KP (runS E L A d) O S v.length q0
  | [], d, u, v, h, _, hl, _ => by
    obtain rfl := Option.some.inj hl; exact h
  | x :: A, d, u, v, h, hx, hl, hb => by
    obtain ⟨t, l1, l2⟩ := lrun_cons hl
    obtain ⟨h1, h2⟩ := runS_cons hb
    rw [h2] at hb ⊢
    exact KP.run K A _ t v (h.step K (hx x (.head _)) l1 rfl h1) (fun y hy => hx y (.tail _ hy)) l2 hb
theorem begin_kp {o : List PartD} {p : PartD} {s t : List Int} (P : SP c o p s t) (op : Int) {k : Int} (hk : k ≠ 0) : KP (beginS c op k) c.opn c.stack 0 ⟨op, k, c.stack.length, false, p.dead || p.under⟩ :=
  KP.mk' (r := []) (t1 := []) (P.begin_ op hk) (by rw [P.opn]; simp) (by rw [P.stk]; simp) rfl (Nat.le_refl _) nofun ⟨_, rfl, rfl, rfl, rfl⟩
/-- A block's end. -/
theorem end_kp (h : KP d O S 0 q0) (hb : (endS d).bad = 0) : endS d = pushS ⟨S, O, 0⟩ q0.kind ∧ (q0.op = 4 → q0.kind = 64) := by
  obtain ⟨o, p, s, t, r, t1, P, e1, e2, e3, e4, e5, q1, e6, e7, e8, e9⟩ := h.get
  have : r = [] := List.eq_nil_of_length_eq_zero e3
  subst this
  obtain rfl : p = q1 := Option.some.inj e6
  rw [List.append_nil] at e1
  subst e1
  have hs : s = S := by
    have := P.base
    rw [e7, e2] at this
    simp at this
    rw [e2, this, List.append_nil]
  subst hs
  obtain ⟨_, h4, _⟩ := P.end_ hb
  refine ⟨?_, fun h => by rw [← e8]; exact h4 (by rw [e9]; exact h)⟩
  unfold endS at hb ⊢
  simp only [P.top] at hb ⊢
  have hn : ¬ (p.op = 4 ∧ p.kind ≠ 64) := fun hn => hn.2 (h4 hn.1)
  rw [if_neg hn] at hb ⊢
  have hcb : (closeS d).bad = 0 := by
    by_cases hb2 : (closeS d).bad = 0
    · exact hb2
    · rw [if_neg hb2] at hb; exact hb
  rw [if_pos hcb]
  obtain ⟨S1, _⟩ := P.close hcb
  have e10 : (closeS d).opn.take ((closeS d).opn.length - 1) = o := by rw [S1.opn, take_snoc]
  rw [e10, e8, hcb, show (closeS d).stack = s from S1.stk.trans (List.append_nil _)]
/-- A block's other half begins. -/
theorem else_kp (h : KP d O S 0 q0) (hb : (elseS d).bad = 0) : (closeS d).bad = 0 ∧ ∃ un, elseS d = ⟨S, O ++ [⟨5, q0.kind, S.length, false, un⟩], 0⟩ ∧ KP (elseS d) O S 0 ⟨5, q0.kind, S.length, false, un⟩ := by
  obtain ⟨o, p, s, t, r, t1, P, e1, e2, e3, e4, e5, q1, e6, e7, e8, e9⟩ := h.get
  have : r = [] := List.eq_nil_of_length_eq_zero e3
  subst this
  obtain rfl : p = q1 := Option.some.inj e6
  rw [List.append_nil] at e1
  subst e1
  have hs : s = S := by
    have := P.base
    rw [e7, e2] at this
    simp at this
    rw [e2, this, List.append_nil]
  subst hs
  obtain ⟨P2, _⟩ := P.else_ hb
  have hcb : (closeS d).bad = 0 := by
    unfold elseS at hb
    simp only [P.top] at hb
    by_cases hb2 : (closeS d).bad = 0
    · exact hb2
    · rw [if_neg hb2] at hb; exact absurd hb hb2
  refine ⟨hcb, p.under, ?_, ?_⟩
  · unfold elseS
    simp only [P.top]
    rw [if_pos hcb]
    obtain ⟨S1, _⟩ := P.close hcb
    have e10 : (closeS d).opn.take ((closeS d).opn.length - 1) = o := by rw [S1.opn, take_snoc]
    rw [e10, e8, e7, hcb, show (closeS d).stack = s from S1.stk.trans (List.append_nil _)]
  · exact KP.mk' (r := []) (t1 := []) P2 (by simp) (by simp) rfl e4 nofun ⟨_, rfl, e7, e8, rfl⟩
/-- A block that is no if ends where its part is as asked. -/
theorem end_ok (h : KP d O S 0 q0) (h4 : q0.op ≠ 4) (hb : (closeS d).bad = 0) : (endS d).bad = 0 := by
  obtain ⟨o, p, s, t, r, t1, P, e1, e2, e3, e4, e5, q1, e6, e7, e8, e9⟩ := h.get
  have : r = [] := List.eq_nil_of_length_eq_zero e3
  subst this
  obtain rfl : p = q1 := Option.some.inj e6
  unfold endS
  simp only [P.top]
  have hn : (if p.op = 4 ∧ p.kind ≠ 64 then failS (closeS d) 10 else closeS d) = closeS d := if_neg (fun k => h4 (by rw [← e9]; exact k.1))
  rw [hn, if_pos hb, pushS_bad]
  exact hb
theorem close_of_end (hb : (endS d).bad = 0) : (closeS d).bad = 0 := by
  unfold endS at hb
  simp only at hb
  by_cases hq : (topS d).op = 4 ∧ (topS d).kind ≠ 64
  · rw [if_pos hq] at hb
    by_cases h2 : (failS (closeS d) 10).bad = 0
    · exact failS_0 h2
    · rw [if_neg h2] at hb; exact absurd hb h2
  · rw [if_neg hq] at hb
    by_cases h2 : (closeS d).bad = 0
    · exact h2
    · rw [if_neg h2] at hb; exact hb
end
end Go.Proofs.YtndhikahjmgamaaGreatDoor.Fold
/- Every turn of optimizing keeps a body sound. -/
set_option maxRecDepth 100000
set_option maxHeartbeats 4000000
set_option linter.unusedVariables false
set_option linter.unusedSimpArgs false
namespace Go.Proofs.YtndhikahjmgamaaGreatDoor.Fold
open Go Go.RowKit Go.Proofs.YtndhikahjmgamaaGreatDoor.Eng
open Go.Proofs.YtndhikahjmgamaaGreatDoor.Leb Go.Proofs.YtndhikahjmgamaaGreatDoor.Txt Go.Proofs.YtndhikahjmgamaaGreatDoor.Ins Go.Proofs.YtndhikahjmgamaaGreatDoor.Nest Go.Proofs.YtndhikahjmgamaaGreatDoor.Valid
section
variable {E : VEnv} {L : List Int} {c d c' : Ck} {O : List PartD} {S : List Int} {n : Nat} {q0 : PartD} {o : List PartD} {p : PartD} {s u : List Int} {K : Int}
theorem app_bad : ∀ (a b : List InsD) (c : Ck), (runS E L (a ++ b) c).bad = 0 → c.bad = 0 → (runS E L a c).bad = 0 ∧ runS E L (a ++ b) c = runS E L b (runS E L a c)
  | [], b, c, h, h0 => ⟨h0, rfl⟩
  | x :: a, b, c, h, h0 => by
    rw [List.cons_append] at h ⊢
    obtain ⟨h1, h2⟩ := runS_cons h
    rw [h2] at h ⊢
    obtain ⟨q1, q2⟩ := app_bad a b _ h h1
    rw [runS_mk h1]
    exact ⟨q1, q2⟩
/-- The stack's parts, once more. -/
theorem rel_of (Q : Sim [] K c c) (P : SP c o p s u) : Rel [] K o s o s ∧ (o = [] → p.kind = K) ∧ ∀ x ∈ u, x ≠ 64 := by
  obtain ⟨b', b, o1, s1, o2, s2, p1, p2, u1, u2, R, Pp, hbot, e1, e2, e3, e4⟩ := Q
  rw [P.opn] at e1 e2
  obtain ⟨rfl, h1⟩ := List.append_inj' e1 rfl
  obtain ⟨rfl, h2⟩ := List.append_inj' e2 rfl
  have h1 := List.singleton_inj.1 h1
  have h2 := List.singleton_inj.1 h2
  subst h1; subst h2
  rw [P.stk] at e3 e4
  have l1 : s1.length = s.length := by rw [← Pp.base', P.base]
  have l2 : s2.length = s.length := by rw [← Pp.base, P.base]
  obtain ⟨rfl, rfl⟩ := List.append_inj e3 l1.symm
  obtain ⟨rfl, rfl⟩ := List.append_inj e4 l2.symm
  exact ⟨R, hbot, Pp.seg.ne⟩
theorem sim_mk {p' : PartD} {u' : List Int} {c2 : Ck} {p2 : PartD} {u2 : List Int} (R : Rel [] K o s o s) (hb : o = [] → p2.kind = K) (b' : c'.bad = 0) (b : c2.bad = 0) (e1 : c'.opn = o ++ [p']) (e2 : c2.opn = o ++ [p2]) (e3 : c'.stack = s ++ u') (e4 : c2.stack = s ++ u2) (h1 : OpL p'.op p2.op) (h2 : p'.kind = p2.kind) (h3 : p'.base = s.length) (h4 : p2.base = s.length) (h5 : p2.dead = true → p'.dead = true) (h6 : Sg u' u2) (h7 : p'.dead = false → u'.length = u2.length) : Sim [] K c' c2 :=
  ⟨b', b, o, s, o, s, p', p2, u', u2, R, ⟨h1, h2, h3, h4, h5, h6, h7⟩, hb, e1, e2, e3, e4⟩
theorem Sg.refl : ∀ (n : Nat) (u : List Int), u.length = n → (∀ x ∈ u, x ≠ 64) → Sg u u
  | 0, u, hn, h => by
    obtain rfl := List.length_eq_zero_iff.1 hn
    exact .nil [] h
  | n + 1, u, hn, h => by
    rcases List.eq_nil_or_concat u with rfl | ⟨v, x, rfl⟩
    · cases hn
    · rw [List.concat_eq_append] at *
      exact .snoc (Sg.refl n v (by simpa using hn) fun y hy => h y (List.mem_append_left _ hy)) (.inl rfl) (h x (by simp))
/-- One half of a block follows the other, whatever opened it. -/
theorem seg_sim (Kk : KOk E L) : ∀ (A : List InsD) (c' c : Ck) (ul vl : List Int), Sim [] K c' c → KP c O S ul.length q0 → (∀ x ∈ A, chk x = 0) → lrun A ul = some vl → (runS E L A c).bad = 0 → Sim [] K (runS E L A c') (runS E L A c)
  | [], c', c, ul, vl, Q, _, _, _, _ => Q
  | x :: A, c', c, ul, vl, Q, h, hx, hl, hb => by
    obtain ⟨t, l1, l2⟩ := lrun_cons hl
    obtain ⟨h1, h2⟩ := runS_cons hb
    have h3 := h.step Kk (hx x (.head _)) l1 rfl h1
    rcases oneS_sim (.inl rfl) Q x h1 with Q2 | ⟨_, F⟩
    · rw [h2] at hb ⊢
      rw [runS_mk Q2.bad']
      exact seg_sim Kk A _ _ t vl Q2 h3 (fun y hy => hx y (.tail _ hy)) l2 hb
    · exfalso
      obtain ⟨o, p, s, t, P⟩ := h3.sx
      have := F.opn
      rw [P.opn] at this
      simp at this
theorem ck_eta (h : c.bad = 0) : (⟨c.stack, c.opn, 0⟩ : Ck) = c := by cases c; simp only at h; rw [h]
/-- A whole block gives its kind. -/
theorem blk_one (Kk : KOk E L) {y e : InsD} {A : List InsD} (P : SP c o p s u) (hy : Opn y) (hyc : chk y = 0) (hA : lrun A [] = some []) (hAc : ∀ x ∈ A, chk x = 0) (he : e.op = 11) (hcb : c.bad = 0) (hb : (runS E L (y :: (A ++ [e])) c).bad = 0) : runS E L (y :: (A ++ [e])) c = pushS (if y.op = 4 then (popS c 127).1 else c) y.a ∧ (y.op = 4 → y.a = 64) := by
  obtain ⟨h1, h2⟩ := runS_cons hb
  rw [h2] at hb ⊢
  rw [begin_is hy] at h1 hb ⊢
  have hP : ∃ t', SP (if y.op = 4 then (popS c 127).1 else c) o p s t' := by
    by_cases h4 : y.op = 4
    · rw [if_pos h4] at h1 ⊢
      obtain ⟨t', q, _⟩ := P.pop (k := 127) (by decide) h1
      exact ⟨t', q⟩
    · rw [if_neg h4]; exact ⟨u, P⟩
  obtain ⟨t', P'⟩ := hP
  have hc0 : (if y.op = 4 then (popS c 127).1 else c).bad = 0 := h1
  have kp := begin_kp P' y.op (opn_a hyc hy)
  obtain ⟨q1, q2⟩ := app_bad _ _ _ hb h1
  rw [q2] at hb ⊢
  have kp2 := KP.run Kk A _ [] [] kp hAc hA q1
  obtain ⟨h3, h4⟩ := runS_cons hb
  rw [end_is he] at h3
  obtain ⟨r1, r2⟩ := end_kp kp2 h3
  rw [h4, end_is he, runS, r1, ck_eta hc0]
  exact ⟨rfl, r2⟩
/-- A half of an if, as a block. -/
theorem half_run (Kk : KOk E L) {c0 c4 : Ck} {b e : InsD} {A : List InsD} {a : Int} (P0 : SP c0 o p s u) (S4 : Sim [] K (beginS c0 2 a) c4) (kp : KP c4 O S 0 q0) (hA : lrun A [] = some []) (hAc : ∀ x ∈ A, chk x = 0) (he : e.op = 11) (hbo : b.op = 2) (hba : b.a = a) (ha : a ≠ 0) (hcb0 : c0.bad = 0) (q1 : (runS E L A c4).bad = 0) (hcl : (closeS (runS E L A c4)).bad = 0) : runS E L (b :: (A ++ [e])) c0 = pushS c0 a := by
  have hob : Opn b := .inl hbo
  have SA := seg_sim Kk A _ _ [] [] S4 kp hAc hA q1
  have kpA := KP.run Kk A _ [] [] (begin_kp P0 2 ha) hAc hA SA.bad'
  have hclA : (closeS (runS E L A (beginS c0 2 a))).bad = 0 := by
    obtain ⟨o1, s1, o2, s2, p1, p2, _, _, _, _, _, r1, _⟩ := closeS_sim SA hcl
    rw [r1]
  have heA := end_ok kpA (show (2 : Int) ≠ 4 by decide) hclA
  obtain ⟨rA, _⟩ := end_kp kpA heA
  have g1 : (oneS E L c0 b).bad = 0 := by rw [begin_is hob, if_neg (by omega)]; exact hcb0
  rw [runS_mk g1, begin_is hob, if_neg (by omega), hbo, hba, runS_app _ _ SA.bad', runS_mk (by rw [end_is he]; exact heA), end_is he, runS, rA, ck_eta hcb0]
theorem begin_sim (P0 : SP c o p s u) (Q0 : Sim [] K c c) {c4 : Ck} {op a : Int} {un : Bool} (hop : op ≠ 3) (hb : c4.bad = 0) (e1 : c4.opn = c.opn ++ [⟨op, a, c.stack.length, false, un⟩]) (e2 : c4.stack = c.stack) : Sim [] K (beginS c 2 a) c4 := by
  obtain ⟨R, hbot, hne⟩ := rel_of Q0 P0
  have R2 : Rel [] K c.opn c.stack c.opn c.stack := by
    rw [P0.opn, P0.stk]
    exact .snoc R ⟨OpL.refl _, rfl, P0.base, P0.base, id, Sg.refl _ _ rfl hne, fun _ => rfl⟩ hbot
  have hon : ¬ c.opn = [] := by rw [P0.opn]; simp
  exact sim_mk (p' := ⟨2, a, c.stack.length, false, underS c⟩) (p2 := ⟨op, a, c.stack.length, false, un⟩) (u' := []) (u2 := []) R2 (fun h => absurd h hon) Q0.bad hb rfl e1 (List.append_nil _).symm (by rw [e2, List.append_nil]) ⟨⟨nofun, fun h => absurd h hop⟩, nofun⟩ rfl rfl rfl (fun h => by cases h) (.nil [] nofun) fun _ => rfl
/-- An if without another half, as a block. -/
theorem blk_half (Kk : KOk E L) {y e b : InsD} {A : List InsD} (P : SP c o p s u) (hy : y.op = 4) (hyc : chk y = 0) (hA : lrun A [] = some []) (hAc : ∀ x ∈ A, chk x = 0) (he : e.op = 11) (hcb : c.bad = 0) (hbo : b.op = 2) (hba : b.a = y.a) (c0 : Ck) (P0 : ∃ u', SP c0 o p s u') (hc0 : c0 = (popS c 127).1) (Q0 : Sim [] K c0 c0) (hb : (runS E L (y :: (A ++ [e])) c).bad = 0) : runS E L (b :: (A ++ [e])) c0 = pushS c0 y.a := by
  have hyo : Opn y := .inr (.inr hy)
  obtain ⟨u0, P0⟩ := P0
  obtain ⟨h1, h2⟩ := runS_cons hb
  rw [h2] at hb
  rw [begin_is hyo, if_pos hy, ← hc0, hy] at h1 hb
  have hcb0 : c0.bad = 0 := h1
  have ha := opn_a hyc hyo
  have kp := begin_kp P0 4 ha
  obtain ⟨q1, q2⟩ := app_bad _ _ _ hb h1
  rw [q2] at hb
  have kp2 := KP.run Kk A _ [] [] kp hAc hA q1
  obtain ⟨h3, h4⟩ := runS_cons hb
  rw [end_is he] at h3
  exact half_run Kk P0 (begin_sim (c4 := beginS c0 4 y.a) (un := underS c0) P0 Q0 (show (4 : Int) ≠ 3 by decide) hcb0 rfl rfl) kp hA hAc he hbo hba ha hcb0 q1 (close_of_end h3)
/-- An if with both halves gives its kind; and so does each half as a block. -/
theorem blk_two (Kk : KOk E L) {y x e b : InsD} {A B : List InsD} (P : SP c o p s u) (hy : y.op = 4) (hyc : chk y = 0) (hA : lrun A [] = some []) (hAc : ∀ x ∈ A, chk x = 0) (hx : x.op = 5) (hB : lrun B [] = some []) (hBc : ∀ x ∈ B, chk x = 0) (he : e.op = 11) (hcb : c.bad = 0) (hbo : b.op = 2) (hba : b.a = y.a)
    (c0 : Ck) (P0 : ∃ u', SP c0 o p s u') (hc0 : c0 = (popS c 127).1) (Q0 : Sim [] K c0 c0) (hb : (runS E L (y :: (A ++ x :: (B ++ [e]))) c).bad = 0) :
    runS E L (y :: (A ++ x :: (B ++ [e]))) c = pushS c0 y.a ∧ runS E L (b :: (A ++ [e])) c0 = pushS c0 y.a ∧ runS E L (b :: (B ++ [e])) c0 = pushS c0 y.a := by
  have hyo : Opn y := .inr (.inr hy)
  obtain ⟨u0, P0⟩ := P0
  obtain ⟨h1, h2⟩ := runS_cons hb
  rw [h2] at hb ⊢
  rw [begin_is hyo, if_pos hy, ← hc0, hy] at h1 hb ⊢
  have hcb0 : c0.bad = 0 := h1
  have ha := opn_a hyc hyo
  have kp := begin_kp P0 4 ha
  -- the first half
  obtain ⟨q1, q2⟩ := app_bad _ _ _ hb h1
  rw [q2] at hb ⊢
  have kp2 := KP.run Kk A _ [] [] kp hAc hA q1
  obtain ⟨h3, h4⟩ := runS_cons hb
  rw [h4] at hb ⊢
  rw [else_is hx] at h3 hb ⊢
  obtain ⟨hcl, un, e5, kp5⟩ := else_kp kp2 h3
  have fA := half_run Kk P0 (begin_sim (c4 := beginS c0 4 y.a) (un := underS c0) P0 Q0 (show (4 : Int) ≠ 3 by decide) hcb0 rfl rfl) kp hA hAc he hbo hba ha hcb0 q1 hcl
  -- the second half
  obtain ⟨q3, q4⟩ := app_bad _ _ _ hb h3
  rw [q4] at hb ⊢
  have kp6 := KP.run Kk B _ [] [] kp5 hBc hB q3
  obtain ⟨h5, h6⟩ := runS_cons hb
  rw [end_is he] at h5
  obtain ⟨r5, _⟩ := end_kp kp6 h5
  have fB := half_run Kk P0 (begin_sim (c4 := elseS (runS E L A (beginS c0 4 y.a))) (op := 5) (un := un) P0 Q0 (by decide) h3 (by rw [e5]) (by rw [e5])) kp5 hB hBc he hbo hba ha hcb0 q3 (close_of_end h5)
  refine ⟨?_, fA, fB⟩
  rw [h6, end_is he, runS, r5, ck_eta hcb0]
end
end Go.Proofs.YtndhikahjmgamaaGreatDoor.Fold
/- Each rule keeps what the check sees. -/
set_option maxRecDepth 100000
set_option maxHeartbeats 4000000
set_option linter.unusedVariables false
set_option linter.unusedSimpArgs false
namespace Go.Proofs.YtndhikahjmgamaaGreatDoor.Fold
open Go Go.RowKit Go.Proofs.YtndhikahjmgamaaGreatDoor.Eng
open Go.Proofs.YtndhikahjmgamaaGreatDoor.Leb Go.Proofs.YtndhikahjmgamaaGreatDoor.Txt Go.Proofs.YtndhikahjmgamaaGreatDoor.Ins Go.Proofs.YtndhikahjmgamaaGreatDoor.Nest Go.Proofs.YtndhikahjmgamaaGreatDoor.Valid Go.Proofs.YtndhikahjmgamaaGreatDoor.Bin
section
variable {E : VEnv} {L : List Int} {c d : Ck} {o : List PartD} {p : PartD} {s u : List Int} {K : Int}
theorem kOf_kd (x : InsD) : Valid.Kd (kOf x) := by unfold kOf Valid.Kd; split <;> omega
theorem pop_push (P : SP c o p s u) {i k : Int} (h0 : i ≠ 0) (h64 : i ≠ 64) (hk : k = 0 ∨ k = i) : popS (pushS c i) k = (c, i) := by
  have e : pushS c i = { c with stack := c.stack ++ [i] } := if_pos h64
  rw [e]
  have ht : topS { c with stack := c.stack ++ [i] } = p := P.top
  have hl : c.stack.length = s.length + u.length := by rw [P.stk]; simp
  rw [popS_full (l := c.stack) (x := i) (by omega) ht rfl (by rw [P.base]; simp only [List.length_append, List.length_singleton]; omega), if_neg h0, if_neg (by omega)]
theorem push_sp (P : SP c o p s u) {k : Int} (h : Valid.Kd k) : SP (pushS c k) o p s (u ++ [k]) := by
  obtain ⟨u', q, e⟩ := P.push (k := k) (fun _ => h.n0)
  rw [e, if_neg h.n64] at q
  exact q
theorem snd_k {k : Int} (hk : k ≠ 0) (hb : (popS c k).1.bad = 0) : (popS c k).2 = k := by
  unfold popS at *
  by_cases h64 : k = 64
  · rw [if_pos h64]; exact h64.symm
  · rw [if_neg h64] at hb ⊢
    by_cases hl : c.stack.length = (topS c).base
    · rw [if_pos hl]
    · rw [if_neg hl] at hb ⊢
      simp only at hb ⊢
      by_cases h0 : c.stack.getD (c.stack.length - 1) 0 = 0
      · rw [if_pos h0]
      · rw [if_neg h0] at hb ⊢
        by_cases hm : k ≠ 0 ∧ c.stack.getD (c.stack.length - 1) 0 ≠ k
        · rw [if_pos hm] at hb; exact (failS_no (by decide) hb).elim
        · rw [if_neg hm]
          exact Decidable.by_contra fun h => hm ⟨hk, h⟩
theorem snd_64 (P : SP c o p s u) (hne : ∀ x ∈ u, x ≠ 64) {k : Int} (hk : k ≠ 64) : (popS c k).2 ≠ 64 := by
  rcases List.eq_nil_or_concat u with rfl | ⟨v, x, rfl⟩
  · have hl : c.stack.length = p.base := by rw [P.stk, P.base, List.append_nil]
    rw [popS_empty hk P.top hl]; exact hk
  · rw [List.concat_eq_append] at *
    have hs : c.stack = (s ++ v) ++ [x] := by rw [P.stk, List.append_assoc]
    rw [popS_full hk P.top hs (by rw [P.stk, P.base]; simp)]
    have hx := hne x (by simp)
    repeat' split
    all_goals first | exact hk | exact hx
theorem same_sim (Q : Sim [] K c c) {c2 : Ck} (h : c2 = c) : Sim [] K c c2 := h ▸ Q
/-- What is taken is given back. -/
theorem sim_pp (P : SP c o p s u) (Q : Sim [] K c c) {k : Int} (h64 : k ≠ 64) (hb : (popS c k).1.bad = 0) : Sim [] K c (pushS (popS c k).1 (popS c k).2) := by
  obtain ⟨R, hbot, hne⟩ := rel_of Q P
  rcases List.eq_nil_or_concat u with rfl | ⟨v, x, rfl⟩
  · have hl : c.stack.length = p.base := by rw [P.stk, P.base, List.append_nil]
    rw [popS_empty h64 P.top hl] at hb ⊢
    by_cases hd : p.dead = true
    · rw [if_pos hd]
      show Sim [] K c (pushS c k)
      have e : pushS c k = { c with stack := c.stack ++ [k] } := if_pos h64
      rw [e]
      refine sim_mk (p' := p) (p2 := p) (u' := []) (u2 := [k]) R hbot Q.bad' Q.bad P.opn P.opn P.stk (by show c.stack ++ [k] = _; rw [P.stk, List.append_nil]) (.refl _) rfl P.base P.base id (.nil _ fun y hy => by rw [List.mem_singleton.1 hy]; exact h64) fun h => by rw [hd] at h; cases h
    · rw [if_neg hd] at hb; exact (failS_no (by decide) hb).elim
  · rw [List.concat_eq_append] at *
    have hs : c.stack = (s ++ v) ++ [x] := by rw [P.stk, List.append_assoc]
    have hx := hne x (by simp)
    rw [popS_full h64 P.top hs (by rw [P.stk, P.base]; simp)] at hb ⊢
    have hv : ∀ y ∈ v, y ≠ 64 := fun y hy => hne y (List.mem_append_left _ hy)
    have mk : ∀ y : Int, Vr x y → y ≠ 64 → Sim [] K c (pushS { c with stack := s ++ v } y) := fun y hy h6 => by
      have e : pushS { c with stack := s ++ v } y = { c with stack := (s ++ v) ++ [y] } := if_pos h6
      rw [e]
      exact sim_mk (p' := p) (p2 := p) (u' := v ++ [x]) (u2 := v ++ [y]) R hbot Q.bad' Q.bad P.opn P.opn P.stk (List.append_assoc ..) (.refl _) rfl P.base P.base id (.snoc (Sg.refl _ _ rfl hv) hy h6) fun _ => by simp
    by_cases hx0 : x = 0
    · rw [if_pos hx0]
      exact mk k (.inr ⟨hx0, h64⟩) h64
    · rw [if_neg hx0] at hb ⊢
      by_cases hm : k ≠ 0 ∧ x ≠ k
      · rw [if_pos hm] at hb; exact (failS_no (by decide) hb).elim
      · rw [if_neg hm]
        exact mk x (.inl rfl) hx
theorem sim_pk (P : SP c o p s u) (Q : Sim [] K c c) {k : Int} (h0 : k ≠ 0) (hb : (popS c k).1.bad = 0) : Sim [] K c (pushS (popS c k).1 k) := by
  by_cases h64 : k = 64
  · subst h64
    rw [popS_64]
    have e : pushS c 64 = c := if_neg (by decide)
    rw [e]; exact Q
  · have := sim_pp P Q h64 hb
    rw [snd_k h0 hb] at this
    exact this
/-! ### one instruction -/
theorem run_one {x : InsD} : runS E L [x] c = oneS E L c x := by
  rw [runS]
  split
  · rfl
  · rfl
theorem run_two {x y : InsD} (h : (runS E L [x, y] c).bad = 0) : (oneS E L c x).bad = 0 ∧ runS E L [x, y] c = oneS E L (oneS E L c x) y := by
  obtain ⟨h1, h2⟩ := runS_cons h
  exact ⟨h1, by rw [h2, run_one]⟩
theorem one_const {x : InsD} (hx : IsC x) : oneS E L c x = pushS c (kOf x) := by
  unfold IsC at hx
  unfold oneS
  rw [if_neg (by omega), if_neg (by omega), if_neg (by omega), if_neg (by omega), if_neg (by omega), if_neg (by omega)]
  unfold plainS kOf
  rcases hx with h | h
  · rw [h, show wid 65 = 0 by decide, if_neg (by omega), if_neg (by omega), if_pos rfl]; rfl
  · rw [h, show wid 66 = 0 by decide, if_neg (by omega), if_neg (by omega), if_neg (by omega)]; rfl
theorem one_num {y : InsD} {is : List Int} {q : Int} (h36 : 36 < y.op) (hp : plnS y.op = (is, [q], true)) (hb : (oneS E L c y).bad = 0) : oneS E L c y = pushS (takesS c is) q := by
  unfold oneS at hb ⊢
  rw [if_neg (by omega), if_neg (by omega), if_neg (by omega), if_neg (by omega), if_neg (by omega), if_neg (by omega)] at hb ⊢
  unfold plainS at hb ⊢
  split at hb
  · exact (failS_no (by decide) hb).elim
  · rename_i h1
    rw [if_neg h1]
    split at hb
    · exact (failS_no (by decide) hb).elim
    · rename_i h2
      rw [if_neg h2, hp]; rfl
theorem one_drop {y : InsD} (h : y.op = 26) : oneS E L c y = (popS c 0).1 := by
  unfold oneS
  rw [if_neg (by omega), if_neg (by omega), if_neg (by omega), if_pos h]
theorem one_val {x : InsD} (h : 32 ≤ x.op ∧ x.op ≤ 36) : oneS E L c x = valueS E L c x := by
  unfold oneS
  rw [if_neg (by omega), if_neg (by omega), if_neg (by omega), if_neg (by omega), if_neg (by omega), if_pos h.2]
theorem val_mk {x : InsD} (h : x.op < 35) (hl : ¬ (L.length : Int) ≤ x.a) : valueS E L c x = (if x.op ≠ 33 then pushS (if x.op ≠ 32 then (popS c (L.getD x.a.toNat 0)).1 else c) (L.getD x.a.toNat 0) else (if x.op ≠ 32 then (popS c (L.getD x.a.toNat 0)).1 else c)) := by
  unfold valueS
  rw [if_pos h, if_neg hl]
theorem val_loc {x : InsD} (h : 32 ≤ x.op ∧ x.op < 35) (hb : (valueS E L c x).bad = 0) (Kk : KOk E L) (ha : 0 ≤ x.a) : Valid.Kd (L.getD x.a.toNat 0) ∧ ¬ (L.length : Int) ≤ x.a := by
  unfold valueS at hb
  rw [if_pos h.2] at hb
  by_cases hl : (L.length : Int) ≤ x.a
  · rw [if_pos hl] at hb; exact (failS_no (by decide) hb).elim
  · exact ⟨Kk.loc _ (mem_getD (by omega)), hl⟩
theorem val_glo {x : InsD} (h : x.op = 35) (hb : (valueS E L c x).bad = 0) (Kk : KOk E L) (ha : 0 ≤ x.a) : ∃ k, Valid.Kd k ∧ valueS E L c x = pushS c k := by
  unfold valueS at hb ⊢
  rw [if_neg (by omega)] at hb ⊢
  by_cases hl : (E.globals.length : Int) ≤ x.a
  · rw [if_pos hl] at hb; exact (failS_no (by decide) hb).elim
  · rw [if_neg hl]
    refine ⟨_, Kk.glo _ (mem_getD (i := x.a.toNat) (z := (0, false, 0)) (by omega)), ?_⟩
    simp only
    rw [if_pos h]
theorem one_13 {y : InsD} (h : y.op = 13) : oneS E L c y = brifS c y.a := by
  unfold oneS
  rw [if_neg (by omega), if_pos (by omega)]
  unfold controlS
  rw [if_neg (by omega), if_neg (by omega), if_neg (by omega), if_neg (by omega), if_neg (by omega), if_neg (by omega), if_pos h]
theorem one_12 {y : InsD} (h : y.op = 12) : oneS E L c y = dieS (wayS c y.a) := by
  unfold oneS
  rw [if_neg (by omega), if_pos (by omega)]
  unfold controlS
  rw [if_neg (by omega), if_neg (by omega), if_neg (by omega), if_neg (by omega), if_neg (by omega), if_pos h]
theorem one_27 {y : InsD} (h : y.op = 27) : oneS E L c y = chooseS c := by
  unfold oneS
  rw [if_neg (by omega), if_neg (by omega), if_neg (by omega), if_neg (by omega), if_pos h]
/-- What ends a part. -/
theorem die_at {x : InsD} (P : SP c o p s u) (hx : x.op = 12 ∨ x.op = 14 ∨ x.op = 15 ∨ x.op = 0) (hb : (oneS E L c x).bad = 0) : SP (oneS E L c x) o { p with dead := true } s [] := by
  unfold oneS at hb ⊢
  rw [if_neg (by omega), if_pos (by omega)] at hb ⊢
  unfold controlS at hb ⊢
  by_cases a0 : x.op = 0
  · rw [if_pos a0]; exact P.die
  · rw [if_neg a0, if_neg (by omega), if_neg (by omega), if_neg (by omega), if_neg (by omega)] at hb ⊢
    by_cases a12 : x.op = 12
    · rw [if_pos a12] at hb ⊢
      obtain ⟨u', S⟩ := P.wayS (a := x.a) hb
      exact S.die
    · rw [if_neg a12, if_neg (by omega)] at hb ⊢
      by_cases a15 : x.op = 15
      · rw [if_pos a15] at hb ⊢
        obtain ⟨u', S⟩ := P.popEx (k := (c.opn.getD 0 pz).kind) hb
        exact S.die
      · rw [if_neg a15, if_pos (by omega)] at hb ⊢
        obtain ⟨u', S⟩ := P.tableS (a := x.a) (l := x.to) hb
        exact S.die
theorem dead_pop (P : SP c o { p with dead := true } s []) : (popS c 127).1 = c := by
  have hl : c.stack.length = ({ p with dead := true } : PartD).base := by rw [P.stk, P.base, List.append_nil]
  rw [popS_empty (by decide) P.top hl, if_pos rfl]
theorem dead_push (P : SP c o { p with dead := true } s []) (Q : Sim [] K c c) (k : Int) : Sim [] K c (pushS c k) := by
  by_cases h64 : k = 64
  · exact same_sim Q (if_neg fun h => h h64)
  · have hl : c.stack.length = ({ p with dead := true } : PartD).base := by rw [P.stk, P.base, List.append_nil]
    have := sim_pp P Q h64 (by rw [popS_empty h64 P.top hl, if_pos rfl]; exact Q.bad)
    rw [popS_empty h64 P.top hl, if_pos rfl] at this
    exact this
theorem flat_at {x : InsD} {l : List InsD} {t w : List Int} (h : run (x :: l) t = some w) (h2 : ¬ Opn x) (h5 : x.op ≠ 5) (h11 : x.op ≠ 11) : FlatI x := ⟨chk_at h, h2, h5, h11⟩
theorem take_half {x y e : InsD} {A R : List InsD} : (x :: y :: (A ++ e :: R)).take (2 + (A.length + 1)) = x :: y :: (A ++ [e]) := by
  rw [show 2 + (A.length + 1) = A.length + 1 + 1 + 1 by omega, List.take_succ_cons, List.take_succ_cons, List.take_append, List.take_of_length_le (by omega), show A.length + 1 - A.length = 1 by omega]; rfl
theorem take_both {x y q e : InsD} {A B R : List InsD} : (x :: y :: (A ++ q :: (B ++ e :: R))).take (2 + (A.length + 1 + B.length + 1)) = x :: y :: (A ++ q :: (B ++ [e])) := by
  rw [show 2 + (A.length + 1 + B.length + 1) = A.length + 1 + B.length + 1 + 1 + 1 by omega, List.take_succ_cons, List.take_succ_cons, List.take_append, List.take_of_length_le (by omega), show A.length + 1 + B.length + 1 - A.length = (B.length + 1) + 1 by omega, List.take_succ_cons, List.take_append, List.take_of_length_le (by omega), show B.length + 1 - B.length = 1 by omega]; rfl
theorem brif_is {a : Int} (hb : (brifS (pushS c 127) a).bad = 0) (P : SP c o p s u) : ∃ k, k ≠ 0 ∧ (popS c k).1.bad = 0 ∧ wayS c a = (popS c k).1 ∧ brifS (pushS c 127) a = pushS (popS c k).1 k := by
  have P2 : SP (pushS c 127) o p s (u ++ [127]) := push_sp P (.inl rfl)
  unfold brifS at hb ⊢
  simp only at hb ⊢
  by_cases h1 : (outS (pushS c 127) a).1.bad = 0
  · rw [if_pos h1] at hb ⊢
    have hk := P2.along h1
    obtain ⟨q1, q2, q3⟩ := outS_0 h1
    have hop : (pushS c 127).opn = c.opn := rfl
    rw [q3] at hb hk ⊢
    rw [pushS_bad] at hb
    simp only at hb hk ⊢
    rw [pop_push P (by decide) (by decide) (.inr rfl)] at hb ⊢
    simp only at hb ⊢
    have hcb : c.bad = 0 := popS_0 hb
    have e : outS c a = (c, c.opn.getD (c.opn.length - 1 - a.toNat) pz) := by
      unfold outS
      rw [hop] at q2
      rw [if_neg (by omega)]
    refine ⟨_, hk, hb, ?_, rfl⟩
    unfold wayS
    rw [e]
    simp only
    rw [if_pos hcb]; rfl
  · rw [if_neg h1] at hb; exact absurd hb h1
theorem die_same2 (P : SP c o p s u) {c2 : Ck} {u2 : List Int} (P2 : SP c2 o p s u2) (h1 : c.bad = 0) (h2 : c2.bad = 0) : dieS c = dieS c2 := by
  rw [dieS_eq P.opn P.base P.stk, dieS_eq P2.opn P2.base P2.stk, h1, h2]
theorem cOp_c {k n q : Int} (h : k = cOp q) : IsC ⟨k, n, 0, []⟩ := by
  show k = 65 ∨ k = 66
  unfold cOp at h
  split at h
  · exact .inl h
  · exact .inr h
theorem cOp_k {k n q : Int} (hq : Valid.Kd q) (h : k = cOp q) : kOf ⟨k, n, 0, []⟩ = q := by
  unfold Valid.Kd at hq
  unfold cOp at h
  show (if k = 65 then (127 : Int) else 126) = q
  split at h
  · rw [if_pos h]; omega
  · rw [if_neg (by omega)]; omega
/-- Every rule. -/
theorem Tn.seg (Kk : KOk E L) {ls new : List InsD} {gone : Nat} {z : Int} {st : List Int} (h : Tn CK ls gone new) (hr : run ls (z :: st) = some []) (P : SP c o p s u) (Q : Sim [] K c c) (hb : (runS E L (ls.take gone) c).bad = 0) : Sim [] K (runS E L new c) (runS E L (ls.take gone) c) := by
  have hcb : c.bad = 0 := Q.bad
  cases h with
  | @idle x r h1 =>
    refine same_sim Q ?_
    show runS E L [x] c = c
    rw [run_one]; unfold oneS; rw [if_pos h1]
  | @one x y r k n i q h1 h2 h3 h4 h5 h6 =>
    change (runS E L [x, y] c).bad = 0 at hb
    show Sim [] K (runS E L [⟨k, n, 0, []⟩] c) (runS E L [x, y] c)
    obtain ⟨b1, b2⟩ := run_two hb
    rw [b2] at hb ⊢
    rw [one_const h1] at hb ⊢
    rw [one_num h2 h3 hb]
    have hi := kOf_kd x
    rw [h4]
    have e : takesS (pushS c (kOf x)) [kOf x] = c := by
      show (popS (pushS c (kOf x)) (kOf x)).1 = c
      rw [pop_push P hi.n0 hi.n64 (.inr rfl)]
    have hq : Valid.Kd q := (plnS_kd y.op).2 q (by rw [h3]; exact .head _)
    rw [e, run_one, one_const (cOp_c h5), cOp_k hq h5]
    exact pushS_sim Q (.inl rfl)
  | @two x y v r k n i q h1 h2 h3 h4 h5 h6 h7 h8 =>
    change (runS E L [x, y, v] c).bad = 0 at hb
    show Sim [] K (runS E L [⟨k, n, 0, []⟩] c) (runS E L [x, y, v] c)
    obtain ⟨b1, b2⟩ := runS_cons hb
    rw [b2] at hb ⊢
    obtain ⟨b3, b4⟩ := run_two hb
    rw [b4] at hb ⊢
    have hky : kOf y = kOf x := by unfold kOf; rw [h4]
    rw [one_const h1, one_const h2, hky] at hb ⊢
    rw [one_num h3 h5 hb]
    have hi := kOf_kd x
    rw [h6]
    have e : takesS (pushS (pushS c (kOf x)) (kOf x)) [kOf x, kOf x] = c := by
      show (popS (popS (pushS (pushS c (kOf x)) (kOf x)) (kOf x)).1 (kOf x)).1 = c
      rw [pop_push (push_sp P hi) hi.n0 hi.n64 (.inr rfl), pop_push P hi.n0 hi.n64 (.inr rfl)]
    have hq : Valid.Kd q := (plnS_kd v.op).2 q (by rw [h5]; exact .head _)
    rw [e, run_one, one_const (cOp_c h7), cOp_k hq h7]
    exact pushS_sim Q (.inl rfl)
  | @unused x y r h1 h2 =>
    change (runS E L [x, y] c).bad = 0 at hb
    show Sim [] K c (runS E L [x, y] c)
    obtain ⟨b1, b2⟩ := run_two hb
    refine same_sim Q ?_
    rw [b2, one_drop h2]
    have hx := chk_at hr
    have : ∃ k, Valid.Kd k ∧ oneS E L c x = pushS c k := by
      rcases h1 with h1 | h1 | h1
      · exact ⟨_, kOf_kd x, one_const h1⟩
      · rw [one_val (by omega)] at b1 ⊢
        obtain ⟨q1, q2⟩ := val_loc (by omega) b1 Kk (chk_a hx (by omega))
        refine ⟨_, q1, ?_⟩
        rw [val_mk (by omega) q2, if_pos (by omega), if_neg (by omega)]
      · rw [one_val (by omega)] at b1 ⊢
        exact val_glo h1 b1 Kk (chk_a hx (by omega))
    obtain ⟨k, hk, e⟩ := this
    rw [e, pop_push P hk.n0 hk.n64 (.inl rfl)]
  | @sure0 x y r h1 h2 =>
    change (runS E L [x, y] c).bad = 0 at hb
    show Sim [] K c (runS E L [x, y] c)
    obtain ⟨b1, b2⟩ := run_two hb
    have hk : kOf x = 127 := if_pos h1
    rw [b2, one_const (.inl h1), hk, one_13 h2] at hb ⊢
    obtain ⟨k, k0, q1, _, q2⟩ := brif_is hb P
    rw [q2]
    exact sim_pk P Q k0 q1
  | @sure1 x y r h1 h2 =>
    change (runS E L [x, y] c).bad = 0 at hb
    show Sim [] K (runS E L [⟨12, y.a, 0, []⟩] c) (runS E L [x, y] c)
    obtain ⟨b1, b2⟩ := run_two hb
    have hk : kOf x = 127 := if_pos h1
    rw [b2, one_const (.inl h1), hk, one_13 h2] at hb ⊢
    obtain ⟨k, k0, q1, q3, q2⟩ := brif_is hb P
    rw [q2, run_one, one_12 rfl]
    show Sim [] K (dieS (wayS c y.a)) _
    rw [q3]
    obtain ⟨u', P'⟩ := P.popEx (k := k) q1
    rw [← die_same2 P P' hcb q1]
    exact dieS_ins (sim_pk P Q k0 q1)
  | @dead1 x y r h1 h2 h3 h4 =>
    change (runS E L [x, y] c).bad = 0 at hb
    show Sim [] K (runS E L [x] c) (runS E L [x, y] c)
    obtain ⟨b1, b2⟩ := run_two hb
    rw [b2] at hb ⊢
    rw [run_one]
    have P1 := die_at P h1 b1
    have Q1 : Sim [] K (oneS E L c x) (oneS E L c x) := by
      rcases oneS_sim (.inl rfl) Q x b1 with h | ⟨h, _⟩
      · exact h
      · omega
    have Q2 : Sim [] K (oneS E L (oneS E L c x) y) (oneS E L (oneS E L c x) y) := by
      rcases oneS_sim (.inl rfl) Q1 y hb with h | ⟨h, _⟩
      · exact h
      · omega
    have fx : FlatI x := flat_at hr (by unfold Opn; omega) (by omega) (by omega)
    have hy := chk_at (run_tail fx hr)
    obtain ⟨d2, u2, P2, hd⟩ := P1.flat Kk hy (fun e => h4 (.inl e)) (fun e => h4 (.inr (.inl e))) (fun e => h4 (.inr (.inr e))) h3 h2 hb
    obtain ⟨R, hbot, _⟩ := rel_of Q1 P1
    obtain ⟨_, _, hne⟩ := rel_of Q2 P2
    obtain rfl : d2 = true := hd rfl
    exact sim_mk R hbot Q1.bad Q2.bad P1.opn P2.opn P1.stk P2.stk (.refl _) rfl P1.base P2.base id (.nil _ hne) fun h => by cases h
  | @dead x y r h1 h2 =>
    have fx : FlatI x := flat_at hr (by unfold Opn; omega) (by omega) (by omega)
    have r2 := run_tail fx hr
    have hyc := chk_at r2
    show Sim [] K (runS E L [x] c) _
    rcases block_at h2 r2 with ⟨A, e, R, rfl, hA, h11, hce, hra, hR, hs, hot⟩ | ⟨A, q, B, e, R, h4, rfl, hA, h5, hB, h11, hce, hra, hrb, hR, hs, hot⟩
    · rw [hs, take_half] at hb ⊢
      obtain ⟨b1, b2⟩ := runS_cons hb
      have P1 := die_at P h1 b1
      have Q1 : Sim [] K (oneS E L c x) (oneS E L c x) := by
        rcases oneS_sim (.inl rfl) Q x b1 with h | ⟨h, _⟩
        · exact h
        · omega
      rw [b2] at hb ⊢
      rw [run_one, (blk_one Kk P1 h2 hyc hA (run_chk A _ _ hra) h11 b1 hb).1, dead_pop P1]
      rw [ite_self]
      exact dead_push P1 Q1 y.a
    · rw [hs, take_both] at hb ⊢
      obtain ⟨b1, b2⟩ := runS_cons hb
      have P1 := die_at P h1 b1
      have Q1 : Sim [] K (oneS E L c x) (oneS E L c x) := by
        rcases oneS_sim (.inl rfl) Q x b1 with h | ⟨h, _⟩
        · exact h
        · omega
      rw [b2] at hb ⊢
      rw [run_one, (blk_two Kk (b := ⟨2, y.a, 0, []⟩) P1 h4 hyc hA (run_chk A _ _ hra) h5 hB (run_chk B _ _ hrb) h11 b1 rfl rfl _ ⟨_, P1⟩ (dead_pop P1).symm Q1 hb).1]
      exact dead_push P1 Q1 y.a
  | @kept x y r h1 h2 h3 =>
    change (runS E L [x, y] c).bad = 0 at hb
    show Sim [] K (runS E L [⟨34, x.a, 0, []⟩] c) (runS E L [x, y] c)
    obtain ⟨b1, b2⟩ := run_two hb
    have ha := chk_a (chk_at hr) (by omega)
    rw [b2] at hb ⊢
    rw [one_val (x := x) (by omega)] at b1 hb ⊢
    rw [one_val (x := y) (by omega)] at hb ⊢
    obtain ⟨k1, l1⟩ := val_loc (by omega) b1 Kk ha
    have e1 : valueS E L c x = (popS c (L.getD x.a.toNat 0)).1 := by rw [val_mk (by omega) l1, if_neg (by omega), if_pos (by omega)]
    have l2 : ¬ (L.length : Int) ≤ y.a := by rw [← h3]; exact l1
    rw [e1] at b1
    rw [val_mk (x := y) (by omega) l2, if_pos (by omega), if_neg (by omega), e1, ← h3, run_one, one_val (show 32 ≤ (34 : Int) ∧ (34 : Int) ≤ 36 by decide), val_mk (x := ⟨34, x.a, 0, []⟩) (show (34 : Int) < 35 by decide) l1, if_pos (show (34 : Int) ≠ 33 by decide), if_pos (show (34 : Int) ≠ 32 by decide)]
    exact pushS_sim (popS_sim Q (.inl rfl) b1).1 (.inl rfl)
  | @choose1 x y r h1 h2 =>
    have fx : FlatI x := flat_at hr (by unfold Opn; omega) (by omega) (by omega)
    have r2 := run_tail fx hr
    have hyc := chk_at r2
    have hyo : Opn y := .inr (.inr h2)
    have hk : oneS E L c x = pushS c 127 := by rw [one_const (.inl h1), show kOf x = 127 from if_pos h1]
    have P2 : SP (pushS c 127) o p s (u ++ [127]) := push_sp P (.inl rfl)
    have hpp : (popS (pushS c 127) 127).1 = c := by rw [pop_push P (by decide) (by decide) (.inr rfl)]
    have hcp : (pushS c 127).bad = 0 := by rw [pushS_bad]; exact hcb
    rcases block_at hyo r2 with ⟨A, e, R, rfl, hA, h11, hce, hra, hR, hs, hot⟩ | ⟨A, q, B, e, R, h4, rfl, hA, h5, hB, h11, hce, hra, hrb, hR, hs, hot⟩
    · rw [hs, hot]
      have e1 : (A ++ e :: R).take A.length = A := by simp
      have e2 : (A ++ e :: R).getD (A.length + 1 - 1) nz = e := by rw [List.getD_eq_getElem?_getD]; simp
      rw [hs] at hb
      rw [e1, e2]
      rw [take_half] at hb ⊢
      obtain ⟨b1, b2⟩ := runS_cons hb
      rw [b2, hk] at hb ⊢
      have g2 := (blk_one Kk P2 hyo hyc hA (run_chk A _ _ hra) h11 hcp hb).1
      rw [if_pos h2, hpp] at g2
      rw [g2, blk_half Kk (b := ⟨2, y.a, 0, []⟩) P2 h2 hyc hA (run_chk A _ _ hra) h11 hcp rfl rfl c ⟨_, P⟩ hpp.symm Q hb]
      exact pushS_sim Q (.inl rfl)
    · rw [hs, hot]
      have e1 : (A ++ q :: (B ++ e :: R)).take A.length = A := by simp
      have e2 : (A ++ q :: (B ++ e :: R)).getD (A.length + 1 + B.length + 1 - 1) nz = e := by
        rw [List.getD_eq_getElem?_getD, List.getElem?_append_right (by omega), show A.length + 1 + B.length + 1 - 1 - A.length = B.length + 1 by omega, List.getElem?_cons_succ]; simp
      rw [hs] at hb
      rw [e1, e2]
      rw [take_both] at hb ⊢
      obtain ⟨b1, b2⟩ := runS_cons hb
      rw [b2, hk] at hb ⊢
      obtain ⟨g1, g2, _⟩ := blk_two Kk (b := ⟨2, y.a, 0, []⟩) P2 h2 hyc hA (run_chk A _ _ hra) h5 hB (run_chk B _ _ hrb) h11 hcp rfl rfl c ⟨_, P⟩ hpp.symm Q hb
      rw [g1, g2]
      exact pushS_sim Q (.inl rfl)
  | @choose2 x y r h1 h2 h3 =>
    have fx : FlatI x := flat_at hr (by unfold Opn; omega) (by omega) (by omega)
    have r2 := run_tail fx hr
    have hyc := chk_at r2
    have hyo : Opn y := .inr (.inr h2)
    have hk : oneS E L c x = pushS c 127 := by rw [one_const (.inl h1), show kOf x = 127 from if_pos h1]
    have P2 : SP (pushS c 127) o p s (u ++ [127]) := push_sp P (.inl rfl)
    have hpp : (popS (pushS c 127) 127).1 = c := by rw [pop_push P (by decide) (by decide) (.inr rfl)]
    have hcp : (pushS c 127).bad = 0 := by rw [pushS_bad]; exact hcb
    rcases block_at hyo r2 with ⟨A, e, R, rfl, hA, h11, hce, hra, hR, hs, hot⟩ | ⟨A, q, B, e, R, h4, rfl, hA, h5, hB, h11, hce, hra, hrb, hR, hs, hot⟩
    · exfalso
      rw [hot, List.getD_eq_getElem?_getD] at h3
      simp at h3
      omega
    · rw [hs, hot]
      have e1 : ((A ++ q :: (B ++ e :: R)).take (A.length + 1 + B.length + 1)).drop (A.length + 1) = B ++ [e] := by
        have : A ++ q :: (B ++ e :: R) = (A ++ q :: (B ++ [e])) ++ R := by simp
        rw [this, List.take_append_of_le_length (by simp; omega), List.take_of_length_le (by simp; omega), List.drop_append, List.drop_of_length_le (by omega), show A.length + 1 - A.length = 1 by omega]; rfl
      rw [hs] at hb
      rw [e1]
      rw [take_both] at hb ⊢
      obtain ⟨b1, b2⟩ := runS_cons hb
      rw [b2, hk] at hb ⊢
      obtain ⟨g1, _, g2⟩ := blk_two Kk (b := ⟨2, y.a, 0, []⟩) P2 h2 hyc hA (run_chk A _ _ hra) h5 hB (run_chk B _ _ hrb) h11 hcp rfl rfl c ⟨_, P⟩ hpp.symm Q hb
      rw [g1, g2]
      exact pushS_sim Q (.inl rfl)
  | @choose3 x y r h1 h2 h3 =>
    have fx : FlatI x := flat_at hr (by unfold Opn; omega) (by omega) (by omega)
    have r2 := run_tail fx hr
    have hyc := chk_at r2
    have hyo : Opn y := .inr (.inr h2)
    have hk : oneS E L c x = pushS c 127 := by rw [one_const (.inl h1), show kOf x = 127 from if_pos h1]
    have P2 : SP (pushS c 127) o p s (u ++ [127]) := push_sp P (.inl rfl)
    have hpp : (popS (pushS c 127) 127).1 = c := by rw [pop_push P (by decide) (by decide) (.inr rfl)]
    have hcp : (pushS c 127).bad = 0 := by rw [pushS_bad]; exact hcb
    rcases block_at hyo r2 with ⟨A, e, R, rfl, hA, h11, hce, hra, hR, hs, hot⟩ | ⟨A, q, B, e, R, h4, rfl, hA, h5, hB, h11, hce, hra, hrb, hR, hs, hot⟩
    · rw [hs]
      rw [hs] at hb
      rw [take_half] at hb ⊢
      obtain ⟨b1, b2⟩ := runS_cons hb
      rw [b2, hk] at hb ⊢
      obtain ⟨g1, g2⟩ := blk_one Kk P2 hyo hyc hA (run_chk A _ _ hra) h11 hcp hb
      rw [if_pos h2, hpp, g2 h2] at g1
      rw [g1]
      exact same_sim Q (if_neg (by decide))
    · exfalso
      rw [hot, List.getD_eq_getElem?_getD] at h3
      refine h3 ?_
      simp [h5]
  | @empty x y r h1 h2 h3 =>
    have ho : Opn x := by unfold Opn; omega
    change (runS E L [x, y] c).bad = 0 at hb
    show Sim [] K c (runS E L [x, y] c)
    obtain ⟨g1, _⟩ := blk_one Kk (A := []) P ho (chk_at hr) rfl nofun h3 hcb hb
    rw [if_neg (by omega), h2] at g1
    have g1 : runS E L [x, y] c = pushS c 64 := g1
    rw [g1]
    exact same_sim Q (if_neg (by decide))
  | @lost x y r h1 h2 =>
    change (runS E L [x, y] c).bad = 0 at hb
    show Sim [] K (runS E L [⟨33, x.a, 0, []⟩] c) (runS E L [x, y] c)
    obtain ⟨b1, b2⟩ := run_two hb
    have ha := chk_a (chk_at hr) (by omega)
    rw [b2] at hb ⊢
    rw [one_val (x := x) (by omega)] at b1 hb ⊢
    obtain ⟨k1, l1⟩ := val_loc (by omega) b1 Kk ha
    have e1 : valueS E L c x = pushS (popS c (L.getD x.a.toNat 0)).1 (L.getD x.a.toNat 0) := by rw [val_mk (by omega) l1, if_pos (by omega), if_pos (by omega)]
    rw [e1, pushS_bad] at b1
    obtain ⟨u1, P1, _⟩ := P.pop k1.n64 b1
    rw [e1, one_drop h2, pop_push P1 k1.n0 k1.n64 (.inl rfl), run_one, one_val (show 32 ≤ (33 : Int) ∧ (33 : Int) ≤ 36 by decide), val_mk (x := ⟨33, x.a, 0, []⟩) (show (33 : Int) < 35 by decide) l1, if_neg (show ¬ (33 : Int) ≠ 33 by decide), if_pos (show (33 : Int) ≠ 32 by decide)]
    exact (popS_sim Q (.inl rfl) b1).1
  | @chosen x y r h1 h2 =>
    change (runS E L [x, y] c).bad = 0 at hb
    show Sim [] K (runS E L [⟨26, 0, 0, []⟩] c) (runS E L [x, y] c)
    obtain ⟨b1, b2⟩ := run_two hb
    rw [b2] at hb ⊢
    rw [one_const (.inl h1), show kOf x = 127 from if_pos h1, one_27 h2] at hb ⊢
    unfold chooseS at hb ⊢
    simp only at hb ⊢
    rw [pop_push P (by decide) (by decide) (.inr rfl)] at hb ⊢
    rw [pushS_bad] at hb
    have b3 : (popS c 0).1.bad = 0 := popS_0 hb
    obtain ⟨u1, P1, _⟩ := P.pop (k := 0) (by decide) b3
    rw [run_one, one_drop rfl]
    obtain ⟨_, _, hne⟩ := rel_of Q P
    exact sim_pp P1 (popS_sim Q (.inl rfl) b3).1 (snd_64 P hne (by decide)) hb
/-! ### the whole body -/
theorem pre_walk {l2 : List InsD} (hl2 : l2 ≠ []) : ∀ (l1 : List InsD) (k : Nat) (st : NS) (c : Ck), goB (l1 ++ l2) k st = 0 → st.over = false → NOk st → c.opn.length = st.op.length → Sim [] K c c → (runS E L (l1 ++ l2) c).bad = 0 → ∃ k' st', goB l2 k' st' = 0 ∧ st'.over = false ∧ NOk st' ∧ (runS E L l1 c).opn.length = st'.op.length ∧ Sim [] K (runS E L l1 c) (runS E L l1 c) ∧ runS E L (l1 ++ l2) c = runS E L l2 (runS E L l1 c)
  | [], k, st, c, hg, ho, hN, hl, S, hb => ⟨k, st, hg, ho, hN, hl, S, rfl⟩
  | y :: r, k, st, c, hg, ho, hN, hl, S, hb => by
    rw [List.cons_append] at hg hb
    obtain ⟨q1, q2, q3⟩ := goB_cons hg
    obtain ⟨h1, h2⟩ := runS_cons hb
    have hlen := step_len ho hN hl q2 h1
    have hN2 := nextS_ok hN y.op k
    have hne : r ++ l2 ≠ [] := by simp [hl2]
    have ho2 : (nextS st y.op k).1.over = false := by
      cases hs : (nextS st y.op k).1.over with
      | false => rfl
      | true => exact absurd (goB_over hs q3) hne
    rcases oneS_sim (.inl rfl) S y h1 with S2 | ⟨_, F⟩
    · rw [h2] at hb
      obtain ⟨k', st', r1, r2, r3, r4, r5, r6⟩ := pre_walk hl2 r (k + 1) _ _ q3 ho2 hN2 hlen S2 hb
      rw [List.cons_append, runS_mk h1, runS_mk h1]
      exact ⟨k', st', r1, r2, r3, r4, r5, r6⟩
    · rw [F.opn] at hlen
      have := hN2.pos ho2
      simp at hlen; omega
theorem turn_run (Kk : KOk E L) {t : SigD} (h0 : t.out.getD 0 64 ≠ 0) {b new : List InsD} {i gone : Nat} (hc : chkB b = 0) (hb : (runS E L b (startS t)).bad = 0) (hi : i < b.length) (h : Tn CK (b.drop i) gone new) : (runS E L (b.take i ++ new ++ (b.drop i).drop gone) (startS t)).bad = 0 := by
  have hg := (chkB_go hc).2
  have e : b = b.take i ++ b.drop i := (List.take_append_drop i b).symm
  have hne : b.drop i ≠ [] := fun e => by
    have := congrArg List.length e
    simp at this; omega
  have A := At.all hc hb Kk h0 i (by omega)
  obtain ⟨o, p, s, u, P⟩ := A.sx (A.ne hc hi)
  obtain ⟨hl, hr⟩ := chk_iff.1 hc
  have hg2 := hg
  have hb2 := hb
  rw [e] at hr hg2 hb2
  obtain ⟨z, st, w1, w2⟩ := run_pre _ _ _ hr hne
  obtain ⟨k1, n1, r1, r2, r3, r4, r5, r6⟩ := pre_walk (K := t.out.getD 0 64) hne _ 0 ns0 _ hg2 rfl ns0_ok rfl start_sim hb2
  rw [r6] at hb2
  have P : SP (runS E L (b.take i) (startS t)) o p s u := P
  generalize hc1 : runS E L (b.take i) (startS t) = c1 at *
  have hc1b : c1.bad = 0 := r5.bad
  rw [List.append_assoc, runS_app _ _ (by rw [hc1]; exact hc1b), hc1]
  generalize hls : b.drop i = ls at *
  by_cases hrest : ls.drop gone = []
  · have e2 : ls.take gone = ls := by
      have := List.take_append_drop gone ls
      rw [hrest, List.append_nil] at this
      exact this
    have S := h.seg Kk w2 P r5 (by rw [e2]; exact hb2)
    rw [hrest, List.append_nil]
    exact S.bad'
  · have e2 : ls = ls.take gone ++ ls.drop gone := (List.take_append_drop gone ls).symm
    rw [e2] at hb2 r1
    obtain ⟨k2, n2, s1, s2, s3, s4, s5, s6⟩ := pre_walk hrest _ _ _ _ r1 r2 r3 r4 r5 hb2
    rw [s6] at hb2
    have S := h.seg Kk w2 P r5 s5.bad
    rw [runS_app _ _ S.bad']
    exact (run_sim (.inl rfl) _ _ _ _ _ s1 s2 s3 s4 S hb2).bad'
theorem reach_run (Kk : KOk E L) {t : SigD} (h0 : t.out.getD 0 64 ≠ 0) {a b : List InsD} (h : Reach a b) (ha : (runS E L a (startS t)).bad = 0) : (runS E L b (startS t)).bad = 0 := by
  induction h with
  | refl => exact ha
  | tail h1 h2 h3 ih =>
    obtain ⟨i, k, gone, new, q1, _, q2, rfl⟩ := h3.ex
    exact turn_run Kk h0 h2 ih q1 q2
end
/-- A module with other bodies. -/
theorem mod_turn {m : ModD} {fs : List FunD} (h0 : modE m = 0) (hl : fs.length = m.funcs.length) (hK : ∀ f ∈ m.funcs, KOk (envOf m) (((envOf m).types.getD f.ty.toNat ⟨[], []⟩).inn ++ f.loc) ∧ ((envOf m).types.getD f.ty.toNat ⟨[], []⟩).out.getD 0 64 ≠ 0) (hh : ∀ (i : Nat) (f f' : FunD), m.funcs[i]? = some f → fs[i]? = some f' → f'.ty = f.ty ∧ f'.loc = f.loc ∧ Reach f.body f'.body ∧ chkB f'.body = 0) : modE { m with funcs := fs } = 0 := by
  obtain ⟨hc, hb, hF⟩ := body_parts h0
  have hm : ∀ f' ∈ fs, ∃ f ∈ m.funcs, f'.ty = f.ty ∧ f'.loc = f.loc ∧ Reach f.body f'.body ∧ chkB f'.body = 0 := fun f' hf' => by
    obtain ⟨i, hi, rfl⟩ := List.mem_iff_getElem.1 hf'
    have hi2 : i < m.funcs.length := by omega
    exact ⟨_, List.getElem_mem hi2, hh i _ _ (List.getElem?_eq_getElem hi2) (List.getElem?_eq_getElem hi)⟩
  refine sub_sound h0 ?_ (sub_chk hc hl fun f' hf' => ?_) fun f' hf' => ?_
  · refine List.ext_getElem? fun i => ?_
    rw [List.getElem?_map, List.getElem?_map]
    rcases Nat.lt_or_ge i fs.length with hi | hi
    · have hi2 : i < m.funcs.length := by omega
      rw [List.getElem?_eq_getElem hi, List.getElem?_eq_getElem hi2]
      have := (hh i _ _ (List.getElem?_eq_getElem hi2) (List.getElem?_eq_getElem hi)).1
      simp only [Option.map_some, this]
    · rw [List.getElem?_eq_none hi, List.getElem?_eq_none (by omega)]
  · obtain ⟨f, hf, q1, q2, q3, q4⟩ := hm f' hf'
    have hfE := hF f hf
    unfold funE at hfE ⊢
    obtain ⟨f1, hfE⟩ := fst_eq0.1 hfE
    obtain ⟨f2, f3⟩ := fst_eq0.1 hfE
    rw [q1, q2]
    exact fst_eq0.2 ⟨f1, fst_eq0.2 ⟨f2, q4⟩⟩
  · obtain ⟨f, hf, q1, q2, q3, q4⟩ := hm f' hf'
    have hbf := hb f hf
    unfold bodyE at hbf ⊢
    rw [q1, q2]
    obtain ⟨Kk, h0⟩ := hK f hf
    exact reach_run Kk h0 q3 hbf
end Go.Proofs.YtndhikahjmgamaaGreatDoor.Fold
/- Package valid: check as Func calls it, Func. -/
set_option maxRecDepth 100000
set_option maxHeartbeats 4000000
set_option linter.unusedVariables false
set_option linter.unusedSimpArgs false
namespace Go.Proofs.YtndhikahjmgamaaGreatDoor.Valid
open Go Go.Proofs.YtndhikahjmgamaaGreatDoor.Eng Go.RowKit
open Ins Nest Leb Bin
section
variable {g : Glob} {w : World} {l : List As} {pc : Nat} {m : ModV} {vl vs vo : Value} {st : List Int} {op : List PartD} {b : Int}
end
end Go.Proofs.YtndhikahjmgamaaGreatDoor.Valid
/- Package valid: check as Shapes calls it. -/
set_option maxRecDepth 100000
set_option maxHeartbeats 4000000
set_option linter.unusedVariables false
set_option linter.unusedSimpArgs false
namespace Go.Proofs.YtndhikahjmgamaaGreatDoor.Valid
open Go Go.Proofs.YtndhikahjmgamaaGreatDoor.Eng Go.RowKit
open Ins Nest Leb Bin
structure ShV where
  dead : Bool
  vs : Value
  st : List Int
def ShV.d (x : ShV) : Bool × List Int := (x.dead, x.st)
def okA (_ : Int) : Prop := True
structure okSh (g : Glob) (x : ShV) : Prop where
  st : FSl g enK okA 1 x.vs x.st
  len : x.st.length ≤ 1000
section
variable {E : VEnv} {L : List Int} {bd : List InsD} {c0 : Ck} {k : Nat} {st st' : List Int} {op op' : List PartD} {b' : Int} {x : InsD} {xs : List ShV} {p : PartD} {v : Value} {g g' : Glob}
theorem okSh.ext {x : ShV} (h : okSh g x) (E : Ext g g') : okSh g' x := ⟨h.st.ext E, h.len⟩
theorem okSh.more {z : ShV} (h : ∀ x ∈ xs, okSh g x) (E : Ext g g') (hz : okSh g' z) : ∀ x ∈ xs ++ [z], okSh g' x := by
  intro y hy
  rcases List.mem_append.1 hy with hy | hy
  · exact (h y hy).ext E
  · rw [List.mem_singleton.1 hy]; exact hz
/-- So much has been told. -/
structure Told (E : VEnv) (L : List Int) (bd : List InsD) (c0 : Ck) (k : Nat) (st : List Int) (op : List PartD) (xs : List ShV) : Prop where
  ri : RI E L bd c0 k st op
  at_ : stAt E L bd c0 k = ⟨st, op, 0⟩
  xs : xs.map ShV.d = shapesS E L bd c0 k
theorem Told.len (h : Told E L bd c0 k st op xs) : xs.length = k := by
  have := congrArg List.length h.xs
  rw [shapesS_len, List.length_map] at this
  exact this
theorem Told.next (h : Told E L bd c0 k st op xs) (hc : chkB bd = 0) (hx : bd[k]? = some x) (hp : op[op.length - 1]? = some p) (hi : Is (oneS E L ⟨st, op, 0⟩ x) ⟨st', op', b'⟩) (hb : b' = 0) {z : ShV} (hz : z.d = if p.dead = true ∨ p.under = true then (true, []) else (false, st)) : Told E L bd c0 (k + 1) st' op' (xs ++ [z]) := by
  refine ⟨h.ri.step hc hx hi hb, ?_, ?_⟩
  · rw [stAt_succ hx (by rw [h.at_]), h.at_]
    unfold Is at hi
    rw [← hi, hb]
  · rw [List.map_append, h.xs, shapesS_succ, h.at_]
    show _ ++ [z.d] = _
    rw [hz]
    unfold shp
    rw [topS_of hp]
theorem Told.dead (h : Told E L bd c0 k st op xs) (hc : chkB bd = 0) (hx : bd[k]? = some x) (hp : op[op.length - 1]? = some p) (hi : Is (oneS E L ⟨st, op, 0⟩ x) ⟨st', op', b'⟩) (hb : b' = 0) (hd : p.dead = true ∨ p.under = true) : Told E L bd c0 (k + 1) st' op' (xs ++ [⟨true, v, []⟩]) := h.next hc hx hp hi hb (by rw [if_pos hd]; rfl)
theorem Told.live (h : Told E L bd c0 k st op xs) (hc : chkB bd = 0) (hx : bd[k]? = some x) (hp : op[op.length - 1]? = some p) (hi : Is (oneS E L ⟨st, op, 0⟩ x) ⟨st', op', b'⟩) (hb : b' = 0) (hd : p.dead = false) (hu : p.under = false) : Told E L bd c0 (k + 1) st' op' (xs ++ [⟨false, v, st⟩]) := h.next hc hx hp hi hb (by rw [if_neg (by rw [hd, hu]; decide)]; rfl)
theorem Told.bad (h : Told E L bd c0 k st op xs) (h0 : (runS E L bd c0).bad = 0) (hx : bd[k]? = some x) (hi : Is (oneS E L ⟨st, op, 0⟩ x) ⟨st', op', b'⟩) (hb : b' ≠ 0) : False := hb ((h.ri.bad hx hi hb).trans h0)
theorem Told.zero {t : SigD} (hi : Is (beginS ⟨[], [], 0⟩ 2 (t.out.getD 0 64)) ⟨[], op, 0⟩) : Told E L bd (startS t) 0 [] op [] := ⟨RI.zero hi, hi.symm, rfl⟩
end
section
variable {g : Glob} {w : World} {l : List As} {pc : Nat} {m : ModV} {vl vs vo : Value} {st : List Int} {op : List PartD} {b : Int}
variable {q : Nat} {vS : Value} {xs : List ShV}
end
end Go.Proofs.YtndhikahjmgamaaGreatDoor.Valid
/- The document's Copy. -/
set_option maxRecDepth 100000
set_option maxHeartbeats 4000000
set_option linter.unusedVariables false
set_option linter.unusedSimpArgs false
namespace Go.Proofs.YtndhikahjmgamaaGreatDoor.Bin
open Go Go.Proofs.YtndhikahjmgamaaGreatDoor.Eng Go.RowKit
open Ins Nest Leb
section
variable {g : Glob} {w : World} {l : List As}
end
end Go.Proofs.YtndhikahjmgamaaGreatDoor.Bin
/- Package valid: Shapes. -/
set_option maxRecDepth 100000
set_option maxHeartbeats 4000000
set_option linter.unusedVariables false
set_option linter.unusedSimpArgs false
namespace Go.Proofs.YtndhikahjmgamaaGreatDoor.Valid
open Go Go.Proofs.YtndhikahjmgamaaGreatDoor.Eng Go.RowKit
open Ins Nest Leb Bin
def sigOf (m : ModV) (f : FunV) : SigV := m.types.getD f.ty.toNat ⟨.slice none 0 0, [], .slice none 0 0, []⟩
/-- What Shapes hands back. -/
structure ShR (m : ModV) (f : FunV) (xs : List ShV) : Prop where
  eq : xs.map ShV.d = shapesS (envOf m.d) ((sigOf m f).inn ++ f.loc) (f.body.map InsV.d) (startS (sigOf m f).d) f.body.length
section
variable {g : Glob} {w : World} {l : List As} {pc : Nat} {m : ModV} {vl vs vo : Value} {st : List Int} {op : List PartD} {b : Int}
theorem ShR.len {f : FunV} {xs : List ShV} (h : ShR m f xs) : xs.length = f.body.length := by
  have := congrArg List.length h.eq
  rw [shapesS_len, List.length_map] at this
  exact this
theorem ShR.at_ {f : FunV} {xs : List ShV} (h : ShR m f xs) {i : Nat} {s : ShV} (hs : xs[i]? = some s) : (s.dead, s.st) = shp (stAt (envOf m.d) ((sigOf m f).inn ++ f.loc) (f.body.map InsV.d) (startS (sigOf m f).d) i) := by
  have hi := (List.getElem?_eq_some_iff.1 hs).1
  have h1 : (xs.map ShV.d)[i]? = some s.d := by rw [List.getElem?_map, hs]; rfl
  rw [h.eq, shapesS_get (by rw [← h.len]; exact hi)] at h1
  exact (Option.some.inj h1).symm
theorem kok (h0 : modE m.d = 0) {f : FunV} (hf : f ∈ m.funcs) : (∃ s, m.types[f.ty.toNat]? = some s ∧ sigOf m f = s) ∧ KOk (envOf m.d) ((sigOf m f).inn ++ f.loc) ∧ (∀ k ∈ (sigOf m f).d.out, Kd k) ∧ (sigOf m f).d.out.length ≤ 1 ∧ chkB (f.body.map InsV.d) = 0 ∧ (runS (envOf m.d) ((sigOf m f).inn ++ f.loc) (f.body.map InsV.d) (startS (sigOf m f).d)).bad = 0 := by
  obtain ⟨hc, hI, hS⟩ := head_0 (mod_head h0).1
  have P := chkM_0 hc
  have hty := hI.fu f hf
  obtain ⟨s, hs⟩ : ∃ s, m.types[f.ty.toNat]? = some s := ⟨_, List.getElem?_eq_getElem (by omega)⟩
  have hsg : sigOf m f = s := by unfold sigOf; rw [List.getD_eq_getElem?_getD, hs]; rfl
  have kd : ∀ k, kindE k = 0 → Kd k := fun k h => by
    unfold kindE at h
    split at h
    · assumption
    · cases h
  have hsg1 : ∀ t ∈ m.types, (∀ k ∈ t.inn, Kd k) ∧ (∀ k ∈ t.out, Kd k) ∧ t.out.length ≤ 1 := fun t ht => by
    obtain ⟨a, b⟩ := fst_eq0.1 (P.typesE t ht)
    have a := eachE_0.1 a
    have b := eachE_0.1 b
    exact ⟨fun k hk => kd k (a.2 k hk), fun k hk => kd k (b.2 k hk), by have := b.1; simp only [SigV.d] at this; omega⟩
  have hsm := hsg1 s (List.mem_of_getElem? hs)
  have hfe := P.funcsE f hf
  rw [hsg]
  refine ⟨⟨s, hs, rfl⟩, ⟨?_, ?_, ?_, ?_⟩, hsm.2.1, hsm.2.2, (fst_eq0.1 (fst_eq0.1 hfe).2).2, ?_⟩
  · intro t ht k hk
    obtain ⟨t', h1, rfl⟩ := List.mem_map.1 (show t ∈ m.types.map SigV.d from ht)
    exact (hsg1 t' h1).1 k hk
  · intro t ht k hk
    obtain ⟨t', h1, rfl⟩ := List.mem_map.1 (show t ∈ m.types.map SigV.d from ht)
    exact (hsg1 t' h1).2.1 k hk
  · intro k hk
    rcases List.mem_append.1 hk with hk | hk
    · exact hsm.1 k hk
    · exact kd k ((eachE_0.1 (fst_eq0.1 (fst_eq0.1 hfe).2).1).2 k hk)
  · intro x hx
    exact kd x.1 (fst_eq0.1 (P.globalsE x hx)).1
  · rw [← body_is hs]; exact (mod_head h0).2 f hf
end
end Go.Proofs.YtndhikahjmgamaaGreatDoor.Valid
/- Package fold: Module. -/
set_option maxRecDepth 100000
set_option maxHeartbeats 4000000
set_option linter.unusedVariables false
set_option linter.unusedSimpArgs false
namespace Go.Proofs.YtndhikahjmgamaaGreatDoor.Fold
open Go Go.Proofs.YtndhikahjmgamaaGreatDoor.Eng Go.RowKit
open Ins Nest Leb Bin Valid
/-- So many of the bodies are folded. -/
structure FI (fs0 fs : List FunV) (i : Nat) : Prop where
  len : fs.length = fs0.length
  at_ : ∀ (j : Nat) (f0 f : FunV), fs0[j]? = some f0 → fs[j]? = some f → f.ty = f0.ty ∧ f.loc = f0.loc ∧ (j < i → BI (f0.body.map InsV.d) (f.body.map InsV.d) false) ∧ (i ≤ j → f.body.map InsV.d = f0.body.map InsV.d)
theorem fun_d {f f0 : FunV} (h : f.d = f0.d) : f.ty = f0.ty ∧ f.loc = f0.loc ∧ f.body.map InsV.d = f0.body.map InsV.d := ⟨congrArg FunD.ty h, congrArg FunD.loc h, congrArg FunD.body h⟩
theorem FI.zero {fs0 fs : List FunV} (h : fs.map FunV.d = fs0.map FunV.d) : FI fs0 fs 0 := by
  have hl : fs.length = fs0.length := by have := congrArg List.length h; simpa using this
  refine ⟨hl, fun j f0 f h0 h1 => ?_⟩
  obtain ⟨x, q1, _, q2⟩ := map_at h h1
  rw [h0] at q1
  obtain rfl := Option.some.inj q1
  obtain ⟨a1, a2, a3⟩ := fun_d q2
  exact ⟨a1, a2, nofun, fun _ => a3⟩
theorem FI.step {fs0 fs : List FunV} {i : Nat} {f : FunV} {vb : Value} {ys : List InsV} (h : FI fs0 fs i) (hf : fs[i]? = some f) (hB : BI (f.body.map InsV.d) (ys.map InsV.d) false) : FI fs0 (fs.set i ⟨f.ty, f.vl, f.loc, vb, ys⟩) (i + 1) := by
  have hlt := (List.getElem?_eq_some_iff.1 hf).1
  refine ⟨by rw [List.length_set]; exact h.len, fun j f0 f1 h0 h1 => ?_⟩
  by_cases e : j = i
  · subst e
    rw [List.getElem?_set_self hlt] at h1
    obtain rfl := Option.some.inj h1
    obtain ⟨a1, a2, _, a4⟩ := h.at_ j f0 f h0 hf
    exact ⟨a1, a2, fun _ => by rw [← a4 (Nat.le_refl _)]; exact hB, fun h => by omega⟩
  · rw [List.getElem?_set_ne (by omega)] at h1
    obtain ⟨a1, a2, a3, a4⟩ := h.at_ j f0 f1 h0 h1
    exact ⟨a1, a2, fun _ => a3 (by omega), fun _ => a4 (by omega)⟩
/-- A module that is folded. -/
structure ModR (m m' : ModV) : Prop where
  types : m'.types.map SigV.d = m.types.map SigV.d
  fi : FI m.funcs m'.funcs m.funcs.length
  rest : m'.d = { m.d with funcs := m'.d.funcs }
theorem fold_sound {m m' : ModV} (h0 : modE m.d = 0) (h : ModR m m') : modE m'.d = 0 := by
  rw [h.rest]
  refine mod_turn h0 ?_ ?_ ?_
  · show (m'.funcs.map FunV.d).length = (m.funcs.map FunV.d).length
    rw [List.length_map, List.length_map]; exact h.fi.len
  · intro f hf
    obtain ⟨f1, hf1, rfl⟩ := List.mem_map.1 (show f ∈ m.funcs.map FunV.d from hf)
    obtain ⟨⟨s, hs, hsg⟩, K, hk, _⟩ := kok h0 hf1
    have e : (envOf m.d).types.getD (f1.d).ty.toNat ⟨[], []⟩ = (sigOf m f1).d := by
      show (m.types.map SigV.d).getD f1.ty.toNat ⟨[], []⟩ = _
      rw [List.getD_eq_getElem?_getD, List.getElem?_map, hs, hsg]; rfl
    rw [e]
    refine ⟨K, ?_⟩
    cases e2 : (sigOf m f1).d.out with
    | nil => decide
    | cons a r => exact (hk a (by rw [e2]; exact .head _)).n0
  · intro i f f' hf hf'
    have hf : (m.funcs.map FunV.d)[i]? = some f := hf
    have hf' : (m'.funcs.map FunV.d)[i]? = some f' := hf'
    rw [List.getElem?_map] at hf hf'
    obtain ⟨f1, h1, rfl⟩ := Option.map_eq_some_iff.1 hf
    obtain ⟨f2, h2, rfl⟩ := Option.map_eq_some_iff.1 hf'
    obtain ⟨a1, a2, a3, _⟩ := h.fi.at_ i f1 f2 h1 h2
    have hB := a3 (List.getElem?_eq_some_iff.1 h1).1
    exact ⟨a1, a2, hB.re, hB.so.chk⟩
section
variable {g : Glob} {w : World} {l : List As} {m : ModV}
theorem module_ (H : Sat g w l) (hT : U8F g) (hB : BmF g) (hm : okMd g m) : Fc Tryz.prog 9 #[.agg #[m.vt, m.vm, m.vf, .int .i64 m.table, .int .i64 m.pages, .int .i64 m.most, m.vg, m.vx, .int .i64 m.start, m.ve, m.vd]] w (fun r w' => ∃ (g' : Glob) (m' : ModV) (e : Int), r = .tuple #[.agg #[m'.vt, m'.vm, m'.vf, .int .i64 m'.table, .int .i64 m'.pages, .int .i64 m'.most, m'.vg, m'.vx, .int .i64 m'.start, m'.ve, m'.vd], .int .i64 e] ∧ e = modE m.d ∧ Ext g g' ∧ okMd g' m' ∧ (e = 0 → ModR m m') ∧ Sat g' w' l) := by
  have i0 : I64 0 := by decide
  by_cases h0 : modE m.d = 0
  · have P := chkM_0 (head_0 (mod_head h0).1).1
    have q1 := P.types
    have q2 := P.imps
    have q3 := P.funcs
    have q4 := P.globals
    have q5 := P.exps
    have q6 := P.elems
    have q7 := P.data
    have hTy : ∀ t ∈ m.types, t.d.inn.length ≤ 100 ∧ t.d.out.length ≤ 100 := fun t ht => by
      have h1 := fst_eq0.1 (P.typesE t ht)
      have h2 := (eachE_0.1 h1.1).1
      have h3 := (eachE_0.1 h1.2).1
      omega
    have hFy : ∀ f ∈ m.funcs, f.loc.length ≤ 100 := fun f hf => by
      have h1 := (eachE_0.1 (fst_eq0.1 (fst_eq0.1 (P.funcsE f hf)).2).1).1
      have h1 : (f.loc.length : Int) ≤ 16 := h1
      omega
    have hEy : ∀ x ∈ m.elems, x.d.2.length ≤ 100 := fun x hx => by
      have h1 := (eachE_0.1 (fst_eq0.1 (P.elemsE x hx)).2).1
      omega
    refine Fc.of Tryz.func9 rfl (by kernel_rfl) ?_
    refine rBoxS H ?_
    clear H
    intro p1 w1 H
    refine rAllocS H rfl ?_
    clear H
    intro p2 w2 H
    clear w1
    refine rLdA (H.at 1 rfl) 0 rfl rfl rfl ?_
    refine CallP.mk (Fc.imp (Go.Proofs.YtndhikahjmgamaaGreatDoor.Valid.module_ H ?_ ?_) ?_)
    · assumption
    · assumption
    clear H
    rintro _ w1 ⟨e1, ⟨rfl, ⟨h1, H⟩⟩⟩
    refine cF (vNe_F (by omega)) ?_
    refine rLdA (H.at 1 rfl) 0 rfl rfl rfl ?_
    refine CallP.mk (Fc.imp (Go.Proofs.YtndhikahjmgamaaGreatDoor.Fold.copied_ H ?_ ?_ ?_ ?_ ?_ ?_ ?_ ?_ ?_ ?_ ?_) ?_)
    · assumption
    · omega
    · omega
    · omega
    · omega
    · omega
    · omega
    · omega
    · assumption
    · assumption
    · assumption
    clear H
    rintro _ w3 ⟨g'1, ⟨m'1, ⟨rfl, ⟨HE, ⟨h2, H⟩⟩⟩⟩⟩
    replace hm := hm.ext HE
    replace hB := hB.ext HE
    have E := HE
    clear HE
    have CM : CopM g'1 m m'1 := by assumption
    have hone : ([m'1.vt, m'1.vm, m'1.vf, .int .i64 m'1.table, .int .i64 m'1.pages, .int .i64 m'1.most, m'1.vg, m'1.vx, .int .i64 m'1.start, m'1.ve, m'1.vd].all (·.oneCell')) = true := by
      obtain ⟨zf, cf, hzf⟩ := H.form 0 rfl
      simp only [List.all_cons, List.all_nil, FSl.one CM.types, FSl.one CM.imps, FSl.one CM.globals, FSl.one CM.exps, FSl.one CM.elems, FSl.one CM.data, hzf]; rfl
    refine rStAS H 2 rfl rfl rfl hone ?_
    clear H
    intro w8 H
    refine rFieldAt rfl ?_
    refine rLd (H.at 2 rfl) 2 rfl rfl rfl ?_
    refine rLenS H 0 rfl rfl ?_
    have hB2 : BmF g'1 := hB
    have hml : m'1.funcs.length = m.funcs.length := (FI.zero (congrArg ModD.funcs CM.d)).len
    refine LoopP.rule (α := Glob × Nat × List FunV) (g'1, 0, m'1.funcs) (fun x_ => [(18, .int .i64 x_.2.1)]) (fun x_ w_ => (Ext g'1 x_.1) ∧ (x_.2.1 ≤ m.funcs.length) ∧ (FI m.funcs x_.2.2 x_.2.1) ∧ (∀ y ∈ x_.2.2, okFn x_.1 y) ∧ Sat x_.1 w_ ((Sl 50 3 enFn m'1.vf x_.2.2 :: Pt p2 [.slice none 0 0, .slice none 0 0, .slice none 0 0, .int .i64 0, .int .i64 0, .int .i64 0, .slice none 0 0, .slice none 0 0, .int .i64 0, .slice none 0 0, .slice none 0 0] 30 :: Pt p1 [m'1.vt, m'1.vm, m'1.vf, .int .i64 m'1.table, .int .i64 m'1.pages, .int .i64 m'1.most, m'1.vg, m'1.vx, .int .i64 m'1.start, m'1.ve, m'1.vd] 30 :: l))) (fun x_ => m.funcs.length - x_.2.1) ?_ ?_ ?_
    · repeat first | exact mt_nil | refine mt_cons rfl ?_ | refine mt_i rfl (by first | omega | (simp only; omega) | (simp; omega) | (simp; done)) ?_
    · try simp only
      refine ⟨?_, ?_⟩
      · exact Ext.refl _
      refine ⟨?_, ?_⟩
      · omega
      refine ⟨?_, ?_⟩
      · exact FI.zero (congrArg ModD.funcs CM.d)
      refine ⟨?_, ?_⟩
      · exact CM.funcs
      exact H
    clear H
    rintro ⟨g2, i, fs⟩ f_ w_ ⟨E2, hi, hI, ho, H⟩
    try simp only at E2 hi hI ho H ⊢
    have hfl := hI.len
    rcases Nat.lt_or_ge i m.funcs.length with hlt | hge
    · obtain ⟨f, hf⟩ : ∃ f, fs[i]? = some f := ⟨_, List.getElem?_eq_getElem (by omega)⟩
      have hfo := ho f (List.mem_of_getElem? hf)
      have hfo_body := hfo.body
      have hfo_loc := hfo.loc
      have hB3 := hB2.ext E2
      obtain ⟨f0, hf0⟩ : ∃ f0, m.funcs[i]? = some f0 := ⟨_, List.getElem?_eq_getElem hlt⟩
      have hcb : chkB (f.body.map InsV.d) = 0 := by
        rw [(hI.at_ i f0 f hf0 hf).2.2.2 (Nat.le_refl _)]
        exact mod_body h0 f0 (List.mem_of_getElem? hf0)
      have hEE : Ext g'1 g2 ∧ True := ⟨E2, trivial⟩
      clear E2
      have E2 := Ext.refl g2
      refine cT (vLt_T (by omega)) ?_
      refine bk ?_
      obtain ⟨b1, o1, E1⟩ := H.elt 0 rfl (i) (by omega)
      refine rIxE E1 rfl rfl rfl ?_
      refine rLdA (H.el 0 rfl E1 hf) 0 rfl rfl rfl ?_
      refine rAllocS H rfl ?_
      clear H
      intro p3 w4 H
      clear w_
      refine rStAS H 0 rfl rfl rfl (by simp only [List.all_cons, List.all_nil, H.one 1 rfl, FSl.one hfo_loc, FSl.one hfo_body]; rfl) ?_
      clear H
      intro w5 H
      clear w4
      refine drawzS H [] [(0, .pure), (1, .held), (2, .pure), (3, .pure), (4, .held), (5, .forced), (6, .pure), (7, .pure), (8, .pure), (9, .pure), (10, .pure), (11, .free)] mixed (by kernel_rfl) (by kernel_rfl) ?_
      clear H
      intro w4 H
      clear w5
      refine tk (fun wx HS => rFieldAt rfl ⟨rfl, rfl⟩) ?_
      refine tk (fun wx HS => rLd (HS.at 3 rfl) 2 rfl rfl rfl ⟨rfl, rfl⟩) ?_
      refine tk (fun wx HS => rFieldAt rfl ⟨rfl, rfl⟩) ?_
      refine tk (fun wx HS => rLd (HS.at 0 rfl) 2 rfl rfl rfl ⟨rfl, rfl⟩) ?_
      refine CallP.mk (Fc.imp (Go.Proofs.YtndhikahjmgamaaGreatDoor.Fold.bodyX H ?_ _ _ hfo_body) ?_)
      · assumption
      clear H
      rintro _ w5 ⟨g'2, ⟨nv1, ⟨ys1, ⟨e2, ⟨rfl, ⟨h3, ⟨HE, ⟨h4, ⟨h5, H⟩⟩⟩⟩⟩⟩⟩⟩⟩
      replace E2 := E2.trans HE
      replace hB3 := hB3.ext HE
      replace hfo_loc := FSl.ext hfo_loc HE
      replace hfo_body := FSl.extN (ok := Go.Proofs.YtndhikahjmgamaaGreatDoor.Ins.okV) (fun _ _ _ h E => Go.Proofs.YtndhikahjmgamaaGreatDoor.Ins.okV.ext h E) hfo_body HE
      replace hfo := hfo.ext HE
      replace ho := fun y hy => (ho y hy).ext HE
      clear HE
      refine KeepP.mk (H.forget E2) ?_
      refine tk (fun wx HS => rIxE E1 rfl rfl rfl ⟨rfl, rfl⟩) ?_
      refine tk (fun wx HS => rFieldAt rfl ⟨rfl, rfl⟩) ?_
      have hnv : FSl g'2 enV (okV g'2) 4 nv1 ys1 := by assumption
      have hb9 : BodR (f.body.map InsV.d) (ys1.map InsV.d) e2 := by assumption
      refine rStE H 1 rfl E1 hf 2 (⟨f.ty, f.vl, f.loc, nv1, ys1⟩ : FunV) rfl (FSl.one hnv) rfl rfl ?_
      clear H
      intro w9 H
      have hE9 := hEE.1.trans E2
      have hI9 := hI.step (vb := nv1) hf (hb9.so (by omega))
      have ho9 := set_all (i := i) (ok := okFn g'2) ho (y2 := (⟨f.ty, f.vl, f.loc, nv1, ys1⟩ : FunV)) ⟨hfo.ty, hfo.loc, hnv⟩
      refine eqI64 (by omega) ?_
      refine Nxt.mk ((g'2, i + 1, fs.set i { ty := f.ty, vl := f.vl, loc := f.loc, vb := nv1, body := ys1 })) (mt_i rfl (by first | omega | (simp only; omega) | (simp; omega)) (mt_nil)) ?_ ?_
      · refine ⟨?_, ?_⟩
        · assumption
        refine ⟨?_, ?_⟩
        · assumption
        refine ⟨?_, ?_⟩
        · assumption
        refine ⟨?_, ?_⟩
        · assumption
        refine H.fronts [3, 3, 3] ?_
        clear H
        intro H
        refine H.drop 3 ?_
        clear H
        intro H
        exact H
      (simp only [List.length_append, List.length_set, List.length_cons, List.length_nil]; omega)
    · refine H.frz1 0 (okFn g2) rfl ho ?_
      intro g3 E3 hF2
      clear H
      intro H
      have EC := E2.trans E3
      have CM2 := CM.types
      have hM9 : okMd g3 ⟨m'1.vt, m'1.types, m'1.vm, m'1.imps, m'1.vf, fs, m'1.table, m'1.pages, m'1.most, m'1.vg, m'1.globals, m'1.vx, m'1.exps, m'1.start, m'1.ve, m'1.elems, m'1.vd, m'1.data⟩ :=
        ⟨FSl.extN (ok := okSg) (fun _ _ _ h E => okSg_ext h E) CM.types EC, CM.imps.ext EC, FSl.okm hF2 (fun y hy h => okFn_ext h E3), by rw [show (ModV.table _ = m.table) from CM.table]; exact hm.table, by rw [show (ModV.pages _ = m.pages) from CM.pages]; exact hm.pages, by rw [show (ModV.most _ = m.most) from CM.most]; exact hm.most, CM.globals.ext EC, CM.exps.ext EC, by rw [show (ModV.start _ = m.start) from CM.start]; exact hm.start, FSl.extN (ok := okEl) (fun _ _ _ h E => okEl_ext h E) CM.elems EC, CM.data.ext EC⟩
      have hR9 : ModR m ⟨m'1.vt, m'1.types, m'1.vm, m'1.imps, m'1.vf, fs, m'1.table, m'1.pages, m'1.most, m'1.vg, m'1.globals, m'1.vx, m'1.exps, m'1.start, m'1.ve, m'1.elems, m'1.vd, m'1.data⟩ := by
        obtain rfl : i = m.funcs.length := by omega
        refine ⟨congrArg ModD.types CM.d, hI, ?_⟩
        rw [← CM.d]; rfl
      have EG := E.trans EC
      refine cF (vLt_F (by omega)) ?_
      refine rLdA (H.at 1 rfl) 0 rfl rfl rfl ?_
      refine rStAS H 0 rfl rfl rfl hone ?_
      clear H
      intro w9 H
      refine rdAN (H.at 0 rfl) 0 rfl rfl rfl ?_
      refine Done.mk ?_
      exact ⟨g3, (⟨m'1.vt, m'1.types, m'1.vm, m'1.imps, m'1.vf, fs, m'1.table, m'1.pages, m'1.most, m'1.vg, m'1.globals, m'1.vx, m'1.exps, m'1.start, m'1.ve, m'1.elems, m'1.vd, m'1.data⟩ : ModV), _, rfl, h0.symm, EG, hM9, fun _ => hR9, (H.del 0).del 0⟩
  · refine Fc.of Tryz.func9 rfl (by kernel_rfl) ?_
    refine rBoxS H ?_
    clear H
    intro p1 w1 H
    refine rAllocS H rfl ?_
    clear H
    intro p2 w2 H
    clear w1
    refine rLdA (H.at 1 rfl) 0 rfl rfl rfl ?_
    refine CallP.mk (Fc.imp (Go.Proofs.YtndhikahjmgamaaGreatDoor.Valid.module_ H ?_ ?_) ?_)
    · assumption
    · assumption
    clear H
    rintro _ w1 ⟨e1, ⟨rfl, ⟨h1, H⟩⟩⟩
    refine cT (vNe_T (by omega)) ?_
    refine rBuild rfl rfl rfl ?_
    refine rStAS H 0 rfl rfl rfl rfl ?_
    clear H
    intro w3 H
    clear w1
    refine rdAN (H.at 0 rfl) 0 rfl rfl rfl ?_
    refine Done.mk ?_
    exact ⟨g, ⟨.slice none 0 0, [], .slice none 0 0, [], .slice none 0 0, [], 0, 0, 0, .slice none 0 0, [], .slice none 0 0, [], 0, .slice none 0 0, [], .slice none 0 0, []⟩, _, rfl, by assumption, Ext.refl _, ⟨FSl.nil0 _ _ _ _, FSl.nil0 _ _ _ _, FSl.nil0 _ _ _ _, i0, i0, i0, FSl.nil0 _ _ _ _, FSl.nil0 _ _ _ _, i0, FSl.nil0 _ _ _ _, FSl.nil0 _ _ _ _⟩, fun h => absurd (by omega) h0, (H.del 0).del 0⟩
end
end Go.Proofs.YtndhikahjmgamaaGreatDoor.Fold
/- The walk of FoldSound. -/
set_option maxRecDepth 100000
set_option maxHeartbeats 4000000
set_option linter.unusedVariables false
set_option linter.unusedSimpArgs false
namespace Go.Proofs.YtndhikahjmgamaaGreatDoor.Fold
open Go Go.Proofs.YtndhikahjmgamaaGreatDoor.Eng Go.RowKit
open Ins Nest Leb Bin Valid
theorem step_less {a b : List InsD} (hc : chkB a = 0) (h : Step a b) : b.length < a.length := by
  obtain ⟨i, k, gone, new, hi, _, hT, rfl⟩ := h.ex
  have hr := (chk_iff.1 hc).2
  have e : a = a.take i ++ a.drop i := (List.take_append_drop i a).symm
  have hne : a.drop i ≠ [] := fun e => by
    have := congrArg List.length e
    simp at this; omega
  rw [e] at hr
  obtain ⟨z, st, _, w2⟩ := run_pre _ _ _ hr hne
  have hB := (hT.bet w2).2.len
  rw [List.append_assoc, List.length_append, List.length_take]
  rw [List.length_drop] at hB
  omega
theorem reach_less {a b : List InsD} (hc : chkB a = 0) (h : Reach a b) : b = a ∨ b.length < a.length := by
  induction h with
  | refl => exact .inl rfl
  | tail h1 h2 h3 ih =>
    have := step_less h2 h3
    rcases ih with rfl | ih
    · exact .inr this
    · exact .inr (by omega)
def nopB : List InsD := [⟨1, 0, 0, []⟩, ⟨11, 0, 0, []⟩]
theorem nop_ok : chkB nopB = 0 := by decide +kernel
theorem nop_one {ys : List InsD} (h : BI nopB ys false) : ys.length = 1 := by
  have h1 : 0 < ys.length := List.length_pos_iff.2 (chkB_ne h.so.chk)
  rcases reach_less nop_ok h.re with e | e
  · exfalso
    exact no_nop (h.q rfl) ⟨1, 0, 0, []⟩ (by rw [e]; exact .head _) rfl
  · have : nopB.length = 2 := rfl
    omega
theorem foldSound (w : World) (m : ModV) (hm : okMd (froz w) m) (hTB : U8F (froz w) ∧ BmF (froz w)) : Fc Tryz.prog 4 #[.agg #[m.vt, m.vm, m.vf, .int .i64 m.table, .int .i64 m.pages, .int .i64 m.most, m.vg, m.vx, .int .i64 m.start, m.ve, m.vd]] w (fun v w' => v = .bool true ∧ Below w.heap.size w w') := by
  obtain ⟨hT, hB⟩ := hTB
  refine Fc.of Tryz.func4 rfl (by kernel_rfl) ?_
  have H := Sat.start w
  have E := Ext.refl (froz w)
  refine rBoxS H ?_
  clear H
  intro p1 w1 H
  refine rLdA (H.at 0 rfl) 0 rfl rfl rfl ?_
  refine CallP.mk (Fc.imp (Go.Proofs.YtndhikahjmgamaaGreatDoor.Fold.module_ H ?_ ?_ ?_) ?_)
  · assumption
  · assumption
  · assumption
  clear H
  rintro _ w2 ⟨g'1, ⟨m'1, ⟨e1, ⟨rfl, ⟨h1, ⟨HE, ⟨h2, ⟨h3, H⟩⟩⟩⟩⟩⟩⟩⟩
  replace E := E.trans HE
  replace hB := hB.ext HE
  replace hm := hm.ext HE
  clear HE
  have hMM : okMd g'1 m'1 := by assumption
  have hMR : e1 = 0 → ModR m m'1 := by assumption
  refine rAllocS H rfl ?_
  clear H
  intro p2 w3 H
  clear w2
  have hone : ([m'1.vt, m'1.vm, m'1.vf, .int .i64 m'1.table, .int .i64 m'1.pages, .int .i64 m'1.most, m'1.vg, m'1.vx, .int .i64 m'1.start, m'1.ve, m'1.vd].all (·.oneCell')) = true := by
    simp only [List.all_cons, List.all_nil, FSl.one hMM.types, FSl.one hMM.imps, FSl.one hMM.globals, FSl.one hMM.exps, FSl.one hMM.elems, FSl.one hMM.data, FSl.one hMM.funcs]; rfl
  refine rStAS H 0 rfl rfl rfl hone ?_
  clear H
  intro w8 H
  refine rBuild rfl rfl rfl ?_
  refine rBuild rfl rfl rfl ?_
  refine rBuildSliceS H rfl rfl rfl rfl ?_
  clear H
  intro p3 w2 H
  clear w8
  refine H.ptSl (n := 2) (en := enV) (s := 4) 0 rfl [⟨1, 0, 0, .slice none 0 0, []⟩, ⟨11, 0, 0, .slice none 0 0, []⟩] rfl rfl (fun _ => rfl) rfl ?_
  clear H
  intro H
  have i0 : I64 0 := by decide
  refine H.frz1 0 (okV g'1) rfl (fun x h => ?_) ?_
  · rcases List.mem_cons.1 h with rfl | h
    · exact ⟨by decide, i0, i0, FSl.nil0 _ _ _ _⟩
    · rw [List.mem_singleton.1 h]; exact ⟨by decide, i0, i0, FSl.nil0 _ _ _ _⟩
  intro gA HE hA
  clear H
  intro H
  replace hA := hA.okm (ok' := okV gA) fun _ _ h => h.ext HE
  by_cases he : e1 = 0
  · have hR := hMR he
    have h0 : modE m.d = 0 := by omega
    have hS := fold_sound h0 hR
    have hL := hR.fi.len
    have hlm := SlR.len hm.funcs
    have hm_funcs := hm.funcs
    have hMM_funcs := hMM.funcs
    replace hMM_funcs := FSl.extN (ok := Go.Proofs.YtndhikahjmgamaaGreatDoor.Bin.okFn) (fun _ _ _ h E => Go.Proofs.YtndhikahjmgamaaGreatDoor.Bin.okFn.ext h E) hMM_funcs HE
    replace hm_funcs := FSl.extN (ok := Go.Proofs.YtndhikahjmgamaaGreatDoor.Bin.okFn) (fun _ _ _ h E => Go.Proofs.YtndhikahjmgamaaGreatDoor.Bin.okFn.ext h E) hm_funcs HE
    replace hMM := hMM.ext HE
    replace hm := hm.ext HE
    replace hB := hB.ext HE
    replace E := E.trans HE
    replace h2 := h2.ext HE
    clear HE
    refine CallP.mk (Fc.imp (Go.Proofs.YtndhikahjmgamaaGreatDoor.Fold.bodyX H ?_ _ _ hA) ?_)
    · assumption
    clear H
    rintro _ w4 ⟨g'2, ⟨nv1, ⟨ys1, ⟨e2, ⟨rfl, ⟨h4, ⟨HE, ⟨h5, ⟨h6, H⟩⟩⟩⟩⟩⟩⟩⟩⟩
    replace h2 := h2.ext HE
    replace E := E.trans HE
    replace hB := hB.ext HE
    replace hm := hm.ext HE
    replace hMM := hMM.ext HE
    replace hm_funcs := FSl.extN (ok := Go.Proofs.YtndhikahjmgamaaGreatDoor.Bin.okFn) (fun _ _ _ h E => Go.Proofs.YtndhikahjmgamaaGreatDoor.Bin.okFn.ext h E) hm_funcs HE
    replace hMM_funcs := FSl.extN (ok := Go.Proofs.YtndhikahjmgamaaGreatDoor.Bin.okFn) (fun _ _ _ h E => Go.Proofs.YtndhikahjmgamaaGreatDoor.Bin.okFn.ext h E) hMM_funcs HE
    replace hA := FSl.extN (ok := Go.Proofs.YtndhikahjmgamaaGreatDoor.Ins.okV) (fun _ _ _ h E => Go.Proofs.YtndhikahjmgamaaGreatDoor.Ins.okV.ext h E) hA HE
    clear HE
    have hT2 := u8_ext hT E
    have hn2 : e2 = 0 := (by assumption : e2 = _).trans nop_ok
    have hy1 : ys1.length = 1 := by (have h9 := nop_one ((by assumption : BodR _ (ys1.map InsV.d) e2).so hn2); rw [List.length_map] at h9; exact h9)
    refine br_f (vNe_F (by assumption)) ?_
    refine rLenF h5 rfl ?_
    refine cF (vNe_F (by omega)) ?_
    refine cF (vNe_F (by assumption)) ?_
    refine rLdA (H.at 0 rfl) 0 rfl rfl rfl ?_
    refine CallP.mk (Fc.imp (Go.Proofs.YtndhikahjmgamaaGreatDoor.Valid.module_ H ?_ ?_) ?_)
    · assumption
    · assumption
    clear H
    rintro _ w5 ⟨e3, ⟨rfl, ⟨h7, H⟩⟩⟩
    refine br_t (vEq_T (by omega)) ?_
    refine rFieldAt rfl ?_
    refine rLd (H.at 0 rfl) 2 rfl rfl rfl ?_
    refine rLenF hMM_funcs rfl ?_
    refine rFieldAt rfl ?_
    refine rLd (H.at 1 rfl) 2 rfl rfl rfl ?_
    refine rLenF hm_funcs rfl ?_
    refine Done.mk ?_
    refine ⟨?_, ?_⟩
    · exact congrArg Value.bool (vEq_T (by omega))
    exact E.fin H
  · replace hMM := hMM.ext HE
    replace hm := hm.ext HE
    replace hB := hB.ext HE
    replace E := E.trans HE
    replace h2 := h2.ext HE
    clear HE
    refine CallP.mk (Fc.imp (Go.Proofs.YtndhikahjmgamaaGreatDoor.Fold.bodyX H ?_ _ _ hA) ?_)
    · assumption
    clear H
    rintro _ w4 ⟨g'2, ⟨nv1, ⟨ys1, ⟨e2, ⟨rfl, ⟨h4, ⟨HE, ⟨h5, ⟨h6, H⟩⟩⟩⟩⟩⟩⟩⟩⟩
    replace h2 := h2.ext HE
    replace E := E.trans HE
    replace hB := hB.ext HE
    replace hm := hm.ext HE
    replace hMM := hMM.ext HE
    replace hA := FSl.extN (ok := Go.Proofs.YtndhikahjmgamaaGreatDoor.Ins.okV) (fun _ _ _ h E => Go.Proofs.YtndhikahjmgamaaGreatDoor.Ins.okV.ext h E) hA HE
    clear HE
    have hT2 := u8_ext hT E
    have hn2 : e2 = 0 := (by assumption : e2 = _).trans nop_ok
    have hy1 : ys1.length = 1 := by (have h9 := nop_one ((by assumption : BodR _ (ys1.map InsV.d) e2).so hn2); rw [List.length_map] at h9; exact h9)
    refine br_f (vNe_F (by assumption)) ?_
    refine rLenF h5 rfl ?_
    refine cF (vNe_F (by omega)) ?_
    refine cT (vNe_T (by assumption)) ?_
    refine rLdA (H.at 1 rfl) 0 rfl rfl rfl ?_
    refine CallP.mk (Fc.imp (Go.Proofs.YtndhikahjmgamaaGreatDoor.Valid.module_ H ?_ ?_) ?_)
    · assumption
    · assumption
    clear H
    rintro _ w5 ⟨e3, ⟨rfl, ⟨h7, H⟩⟩⟩
    refine Done.mk ?_
    refine ⟨?_, ?_⟩
    · exact congrArg Value.bool (vEq_T (by omega))
    exact E.fin H
end Go.Proofs.YtndhikahjmgamaaGreatDoor.Fold
/- Modules as arguments. -/
set_option maxRecDepth 100000
set_option linter.unusedVariables false
set_option linter.unusedSimpArgs false
namespace Go.Proofs.YtndhikahjmgamaaGreatDoor.Bin
open Go Go.RowKit Go.Proofs.YtndhikahjmgamaaGreatDoor.Eng Go.Proofs.YtndhikahjmgamaaGreatDoor.Ins
def okHsg (H : Hv) (x : SigV) : Prop := SlR (RE enK U8) 1 H x.vi x.inn ∧ SlR (RE enK U8) 1 H x.vo x.out
def okHfn (H : Hv) (x : FunV) : Prop := I64 x.ty ∧ SlR (RE enK U8) 1 H x.vl x.loc ∧ SlR (fun H cs x => cs = enV x ∧ okH H x) 4 H x.vb x.body
def okHel (H : Hv) (x : ElV) : Prop := I64 x.pl ∧ SlR (RE enI okI) 1 H x.vf x.fs
structure okHmd (H : Hv) (m : ModV) : Prop where
  types : SlR (fun H cs x => cs = enSg x ∧ okHsg H x) 2 H m.vt m.types
  imps : SlR (RE enIm okIm) 2 H m.vm m.imps
  funcs : SlR (fun H cs x => cs = enFn x ∧ okHfn H x) 3 H m.vf m.funcs
  table : I64 m.table
  pages : I64 m.pages
  most : I64 m.most
  globals : SlR (RE enGl okGl) 3 H m.vg m.globals
  exps : SlR (RE enIm okIm) 2 H m.vx m.exps
  start : I64 m.start
  elems : SlR (fun H cs x => cs = enEl x ∧ okHel H x) 2 H m.ve m.elems
  data : SlR (RE enDt okDt) 2 H m.vd m.data
theorem okSg.of {g : Glob} {H : Hv} {x : SigV} (h : okHsg H x) (hh : Hle H (Gh g)) : okSg g x := ⟨h.1.mono (RE.mono' enK U8) hh, h.2.mono (RE.mono' enK U8) hh⟩
theorem okFn.of {g : Glob} {H : Hv} {x : FunV} (h : okHfn H x) (hh : Hle H (Gh g)) : okFn g x := ⟨h.1, h.2.1.mono (RE.mono' enK U8) hh, h.2.2.conv hh fun _ _ h => ⟨h.1, okV.of h.2 hh⟩⟩
theorem okEl.of {g : Glob} {H : Hv} {x : ElV} (h : okHel H x) (hh : Hle H (Gh g)) : okEl g x := ⟨h.1, h.2.mono (RE.mono' enI okI) hh⟩
theorem okMd.of {g : Glob} {H : Hv} {m : ModV} (h : okHmd H m) (hh : Hle H (Gh g)) : okMd g m :=
  ⟨h.types.conv hh fun _ _ h => ⟨h.1, okSg.of h.2 hh⟩, h.imps.mono (RE.mono' enIm okIm) hh, h.funcs.conv hh fun _ _ h => ⟨h.1, okFn.of h.2 hh⟩, h.table, h.pages, h.most, h.globals.mono (RE.mono' enGl okGl) hh, h.exps.mono (RE.mono' enIm okIm) hh, h.start, h.elems.conv hh fun _ _ h => ⟨h.1, okEl.of h.2 hh⟩, h.data.mono (RE.mono' enDt okDt) hh⟩
theorem fitsIm (cs : List Value) (h : fitsL [.str, .int .i64] cs) : ∃ x, cs = enIm x ∧ okIm x := by
  obtain ⟨_, _, rfl, ⟨a, rfl, ha⟩, _, _, rfl, ⟨b, rfl, hb⟩, rfl⟩ := h
  exact ⟨(a, b), rfl, ha, hb⟩
theorem fitsGl (cs : List Value) (h : fitsL [.int .u8, .bool, .int .i64] cs) : ∃ x, cs = enGl x ∧ okGl x := by
  obtain ⟨_, _, rfl, ⟨a, rfl, ha⟩, _, _, rfl, ⟨b, rfl⟩, _, _, rfl, ⟨c, rfl, hc⟩, rfl⟩ := h
  exact ⟨(a, b, c), rfl, ha, hc⟩
theorem fitsDt (cs : List Value) (h : fitsL [.int .i64, .str] cs) : ∃ x, cs = enDt x ∧ okDt x := by
  obtain ⟨_, _, rfl, ⟨a, rfl, ha⟩, _, _, rfl, ⟨b, rfl, hb⟩, rfl⟩ := h
  exact ⟨(a, b), rfl, ha, hb⟩
section
variable {H : Type} {enc : TypeId × Value → H} {w : World} {sp : Nat → Bool} {held : Bool}
theorem open_kinds : OpT enc Tryz.prog w sp held 47 (fun H cs xs => ∃ v, cs = [v] ∧ SlR (RE enK U8) 1 H v xs) (fun xs => (xs.map (fun x => cellsSz (enK x) + 1)).sum + 1 + 0 * xs.length) :=
  opSl 1 rfl (by decide) Tryz.underlying47 (opFlat 6 rfl fitsB1)
theorem open_ints : OpT enc Tryz.prog w sp held 44 (fun H cs xs => ∃ v, cs = [v] ∧ SlR (RE enI okI) 1 H v xs) (fun xs => (xs.map (fun x => cellsSz (enI x) + 1)).sum + 1 + 0 * xs.length) :=
  opSl 1 rfl (by decide) Tryz.underlying44 (opFlat 6 rfl fitsI1)
theorem open_sig : OpT enc Tryz.prog w sp held 68 (fun H cs x => cs = enSg x ∧ okHsg H x) (fun _ => 0) := by
  refine (open_structN 2 Tryz.underlying68 rfl (openFs_cons rfl open_kinds (openFs_cons rfl open_kinds openFs_nil))).map ?_
  rintro H cs ⟨a, b, _⟩ ⟨hl, ⟨v, h1, h1'⟩, ⟨u, h2, h2'⟩, _⟩
  refine ⟨⟨v, a, u, b⟩, ⟨?_, h1', h2'⟩, Nat.zero_le _⟩
  match cs, hl with
  | [c0, c1], _ =>
    have e1 : [c0] = [v] := h1
    have e2 : [c1] = [u] := h2
    simp only [List.cons.injEq, and_true] at e1 e2
    show _ = [_, _]
    rw [e1, e2]
theorem open_body : OpT enc Tryz.prog w sp held 48 (fun H cs xs => ∃ v, cs = [v] ∧ SlR (fun H cs x => cs = enV x ∧ okH H x) 4 H v xs) (fun xs => (xs.map (fun x => x.to.length)).sum + 1 + 0 * xs.length) :=
  opSl 4 rfl (by decide) Tryz.underlying48 open_ins
theorem open_fun : OpT enc Tryz.prog w sp held 50 (fun H cs x => cs = enFn x ∧ okHfn H x) (fun _ => 0) := by
  refine (open_structN 3 Tryz.underlying50 rfl (openFs_cons rfl (opFlat (en := enI) (ok := okI) 6 rfl fitsI1) (openFs_cons rfl open_kinds (openFs_cons rfl open_body openFs_nil)))).map ?_
  rintro H cs ⟨t, a, b, _⟩ ⟨hl, ⟨h0, h0'⟩, ⟨v, h1, h1'⟩, ⟨u, h2, h2'⟩, _⟩
  refine ⟨⟨t, v, a, u, b⟩, ⟨?_, h0', h1', h2'⟩, Nat.zero_le _⟩
  match cs, hl with
  | [c0, c1, c2], _ =>
    have e0 : [c0] = enI t := h0
    have e1 : [c1] = [v] := h1
    have e2 : [c2] = [u] := h2
    simp only [enI, List.cons.injEq, and_true] at e0 e1 e2
    show _ = [_, _, _]
    rw [e0, e1, e2]
theorem open_elem : OpT enc Tryz.prog w sp held 110 (fun H cs x => cs = enEl x ∧ okHel H x) (fun _ => 0) := by
  refine (open_structN 2 Tryz.underlying110 rfl (openFs_cons rfl (opFlat (en := enI) (ok := okI) 6 rfl fitsI1) (openFs_cons rfl open_ints openFs_nil))).map ?_
  rintro H cs ⟨t, a, _⟩ ⟨hl, ⟨h0, h0'⟩, ⟨v, h1, h1'⟩, _⟩
  refine ⟨⟨t, v, a⟩, ⟨?_, h0', h1'⟩, Nat.zero_le _⟩
  match cs, hl with
  | [c0, c1], _ =>
    have e0 : [c0] = enI t := h0
    have e1 : [c1] = [v] := h1
    simp only [enI, List.cons.injEq, and_true] at e0 e1
    show _ = [_, _]
    rw [e0, e1]
theorem open_mod : OpT enc Tryz.prog w sp held 30 (fun H cs m => cs = enMd m ∧ okHmd H m) (fun _ => 0) := by
  refine (open_structN 11 Tryz.underlying30 rfl (openFs_cons rfl (opSl 2 rfl (by decide) Tryz.underlying22 open_sig) (openFs_cons rfl (opSl 2 rfl (by decide) Tryz.underlying23 (opFlat (en := enIm) (ok := okIm) 6 rfl fitsIm)) (openFs_cons rfl (opSl 3 rfl (by decide) Tryz.underlying24 open_fun)
    (openFs_cons rfl (opFlat (en := enI) (ok := okI) 6 rfl fitsI1) (openFs_cons rfl (opFlat (en := enI) (ok := okI) 6 rfl fitsI1) (openFs_cons rfl (opFlat (en := enI) (ok := okI) 6 rfl fitsI1)
    (openFs_cons rfl (opSl 3 rfl (by decide) Tryz.underlying25 (opFlat (en := enGl) (ok := okGl) 6 rfl fitsGl)) (openFs_cons rfl (opSl 2 rfl (by decide) Tryz.underlying26 (opFlat (en := enIm) (ok := okIm) 6 rfl fitsIm)) (openFs_cons rfl (opFlat (en := enI) (ok := okI) 6 rfl fitsI1)
    (openFs_cons rfl (opSl 2 rfl (by decide) Tryz.underlying27 open_elem) (openFs_cons rfl (opSl 2 rfl (by decide) Tryz.underlying28 (opFlat (en := enDt) (ok := okDt) 6 rfl fitsDt)) openFs_nil)))))))))))).map ?_
  rintro H cs ⟨a0, a1, a2, a3, a4, a5, a6, a7, a8, a9, a10, _⟩ ⟨hl, ⟨v0, h0, k0⟩, ⟨v1, h1, k1⟩, ⟨v2, h2, k2⟩, ⟨h3, k3⟩, ⟨h4, k4⟩, ⟨h5, k5⟩, ⟨v6, h6, k6⟩, ⟨v7, h7, k7⟩, ⟨h8, k8⟩, ⟨v9, h9, k9⟩, ⟨v10, h10, k10⟩, _⟩
  refine ⟨⟨v0, a0, v1, a1, v2, a2, a3, a4, a5, v6, a6, v7, a7, a8, v9, a9, v10, a10⟩, ⟨?_, k0, k1, k2, k3, k4, k5, k6, k7, k8, k9, k10⟩, Nat.zero_le _⟩
  match cs, hl with
  | [c0, c1, c2, c3, c4, c5, c6, c7, c8, c9, c10], _ =>
    have e0 : [c0] = [v0] := h0
    have e1 : [c1] = [v1] := h1
    have e2 : [c2] = [v2] := h2
    have e3 : [c3] = enI a3 := h3
    have e4 : [c4] = enI a4 := h4
    have e5 : [c5] = enI a5 := h5
    have e6 : [c6] = [v6] := h6
    have e7 : [c7] = [v7] := h7
    have e8 : [c8] = enI a8 := h8
    have e9 : [c9] = [v9] := h9
    have e10 : [c10] = [v10] := h10
    simp only [enI, List.cons.injEq, and_true] at e0 e1 e2 e3 e4 e5 e6 e7 e8 e9 e10
    show _ = [_, _, _, _, _, _, _, _, _, _, _]
    rw [e0, e1, e2, e3, e4, e5, e6, e7, e8, e9, e10]
end
end Go.Proofs.YtndhikahjmgamaaGreatDoor.Bin
/- What the rows of a door seat share where the tables of math/bits and of unicode/utf8 are listed: what they give a walk, a start that meets them, and the form that asks for a bulk beside them. -/
set_option maxRecDepth 100000
namespace Go.Proofs.YtndhikahjmgamaaGreatDoor.Door
open Go Go.RowKit Go.Proofs.YtndhikahjmgamaaGreatDoor.Eng
noncomputable abbrev laid : List (String × DataW Unit) := [("math/bits.deBruijn32tab", Rows.laid_math_bits_deBruijn32tab), ("math/bits.deBruijn64tab", Rows.laid_math_bits_deBruijn64tab), ("unicode/utf8.acceptRanges", Rows.laid_unicode_utf8_acceptRanges), ("unicode/utf8.first", Rows.laid_unicode_utf8_first)]
theorem extra : U8Extra Tryz.prog Tryz.lays196_ren := ⟨by kernel_rfl, by kernel_rfl, by kernel_rfl, by kernel_rfl, by kernel_rfl, by kernel_rfl, by kernel_rfl⟩
theorem first_is : Rows.laid_unicode_utf8_first = Lib.firstData := by kernel_rfl
theorem accept_is : (Rows.laid_unicode_utf8_acceptRanges : DataW Unit) = Lib.acceptData := by kernel_rfl
theorem tabsAt {W : World} (h : laidMetH Tryz.prog laid W) : Lib.Utf8Tabs (Tryz.lays196_ren.g 3) (Tryz.lays196_ren.g 4) W := by
  rw [MakeChecks.laidMetH_plain _ _ _ (by kernel_rfl)] at h
  refine utf8Tabs_of_readsT (.of196 Tryz.lays196) extra (Lib.laidMet.reads h (.tail _ (.tail _ (.tail _ (.head _)))) |> fun x => ?_) (Lib.laidMet.reads h (.tail _ (.tail _ (.head _))) |> fun x => ?_)
  · rw [first_is] at x; exact x
  · rw [accept_is] at x; exact x
theorem cell_lt {w : World} {a : Addr} {v : Value} (h : w.cell? a = some v) : a.block < w.heap.size := by
  unfold World.cell? at h
  split at h
  · rename_i hh; exact (Array.getElem?_eq_some_iff.1 hh).1
  · cases h
theorem tabsU {W : World} (h : laidMetH Tryz.prog laid W) : Leb.U8F (froz W) := by
  intro w l H
  have b := H.finish
  obtain ⟨t3, t4⟩ := tabsAt h
  refine ⟨fun c hc => ?_, fun i hi => ⟨?_, ?_⟩⟩
  · rw [b.cell (cell_lt (t3 c hc))]; exact t3 c hc
  · rw [b.cell (cell_lt (t4 i hi).1)]; exact (t4 i hi).1
  · rw [b.cell (cell_lt (t4 i hi).2)]; exact (t4 i hi).2
theorem at_of_tab {P : Program} {W : World} {name : String} {zs : List Int} {g : Nat} (h : Lib.TabIs P W name .u8 zs) (hg : P.globalNamed name = some g) : At W g 0 (zs.map fun z => Value.int .u8 z) := by
  unfold Lib.TabIs World.var? at h
  rw [hg, Option.bind_some] at h
  split at h
  · rename_i cs e fz hh
    obtain rfl := Option.some.inj h
    exact ⟨_, e, fz, hh, fun i v hi => by simpa using hi⟩
  · cases h
theorem fat_of {W : World} {b : Nat} {vs : List Value} (h : At W b 0 vs) : FAt (froz W) b 0 vs := by
  obtain ⟨cs, e, fz, h1, h2⟩ := h
  exact ⟨cs, e, fz, h1, h2⟩
theorem tabsB {W : World} (h : laidMetH Tryz.prog laid W) : Fold.BmF (froz W) := by
  rw [MakeChecks.laidMetH_plain _ _ _ (by kernel_rfl)] at h
  have h32 : Lib.TabIs Tryz.prog W "math/bits.deBruijn32tab" .u8 (Bm.tab32.map fun (n : Nat) => (n : Int)) := Lib.tabIs_of_head (g := 0) (t := 212) (e := 5) (n := 32) (by kernel_rfl) (by kernel_rfl) rfl rfl (by kernel_rfl) (by kernel_rfl) h
  have h64 : Lib.TabIs Tryz.prog W "math/bits.deBruijn64tab" .u8 (Bm.tab64.map fun (n : Nat) => (n : Int)) := Lib.tabIs_of_head (g := 1) (t := 214) (e := 5) (n := 64) (by kernel_rfl) (by kernel_rfl) rfl rfl (by kernel_rfl) (by kernel_rfl) h.tail
  exact ⟨fat_of (at_of_tab h32 (by kernel_rfl)), fat_of (at_of_tab h64 (by kernel_rfl))⟩
theorem tabs {W : World} (h : laidMetH Tryz.prog laid W) : Leb.U8F (froz W) ∧ Fold.BmF (froz W) := ⟨tabsU h, tabsB h⟩
theorem met (os : Os) (args : Array Value) : laidMetH Tryz.prog laid ((World.laidAll Tryz.prog os laid).forCall (fun _ _ => 0) ⟨#[], args, []⟩).memory := by
  rw [MakeChecks.laidMetH_plain _ _ _ (by kernel_rfl)]; exact laidMet_laidAll _ (by kernel_rfl) (by kernel_rfl)
section
variable {H : Type} {enc : TypeId × Value → H}
theorem ret_change_and {a : Assume} {C : Checked} {os : Os} {f : FuncId} {fn : Func} {s : ChangeSpec} {conds : List PathCond} {apart fresh handsOn again : Bool} {X : World → Array Value → Prop}
    (hX : ∀ (w w' : World) (args : Array Value), w.heap = w'.heap → X w args → X w' args)
    (own : ownKnob C.prog.godebug = none) (started : os.Started) (noInit : C.prog.inits.idxOf? f = none) (hfn : C.prog.funcs[f]? = some fn)
    (witness : ∃ (w : World) (tape : Tape) (i : Input), w.os = os ∧ (w.forCall tape i).Shaped C.prog ∧ i.vars = [] ∧ Input.okWide C.prog (w.forCall tape i) .any w.heap.size f i ∧
      ((s.pre enc C.prog fn conds apart (w.forCall tape i).memory i.args ∧ X (w.forCall tape i).memory i.args) ∧ sizedMet enc C.prog fn (OpenSpec.ofChange s) apart (w.forCall tape i).memory i.args) ∧ a.holds C.prog (lone (Frame.enter C.prog f i.args .normal) [] (w.forCall tape i)))
    (contract : ∀ (W : World) (base : Nat) (args : Array Value) (ds gs : List (DataW H)) (before : List MemPlace),
      (∀ (j : Nat) t v, fn.params[j]? = some t → args[j]? = some v → Value.okWide C.prog W .any base t v) →
      DataW.Whole enc C.prog fn.params.toList s.vars apart W args.toList ds gs before →
      conds.all (PathCond.test C.prog ⟨fn.params.toList, ds, s.plain.varTypes C.prog, gs⟩) = true →
      (DataW.weightsEach C.prog (fn.params.toList ++ s.plain.varTypes C.prog) (ds ++ gs)).all (· ≤ reachBytes) = true → X W args → W.ShapedOpen C.prog →
      a.holds C.prog (lone (Frame.enter C.prog f args .normal) [] W) →
      Calls C.prog f args W fun e W' => ∃ v, e = .returned v ∧ s.post enc C.prog fn apart fresh handsOn again W args v W') :
    ReturnsInHanded a C os f .any (fun w args => (s.pre enc C.prog fn conds apart w args ∧ X w args) ∧ sizedMet enc C.prog fn (OpenSpec.ofChange s) apart w args) (s.post enc C.prog fn apart fresh handsOn again) := by
  refine returnsInHanded_of_calls own started noInit witness ?_
  intro w tape i _ hsh _ hok hpre hholds
  obtain ⟨_, _, _, fn', hfn', _, _, _, _, hval⟩ := hok
  have e : fn' = fn := Option.some.inj (hfn'.symm.trans hfn)
  subst e
  obtain ⟨⟨⟨ds, gs, before, hw, hc⟩, hx⟩, hz⟩ := hpre
  have hw' := DataW.Whole.of_heap (w' := w.forCall tape i) (by rfl) hw
  refine (contract (w.forCall tape i) w.heap.size i.args ds gs before hval hw' hc (hz.weights hw) (hX _ _ _ (by rfl) hx) hsh hholds).mono fun e W' ⟨v, he, hp⟩ => ?_
  subst he
  exact ChangeSpec.post_blind hp
end
end Go.Proofs.YtndhikahjmgamaaGreatDoor.Door
