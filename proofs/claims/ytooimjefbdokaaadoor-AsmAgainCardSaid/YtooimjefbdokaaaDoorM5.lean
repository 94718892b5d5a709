/- Texts of this claim, one behind the other. -/
import Derived.Test.YtooimjefbdokaaaDoorM4
import Derived.Lib.LaidTab
import Derived.Test.YtooimjefbdokaaaDoorM3
import Derived.Test.YtooimjefbdokaaaDoorTie
import Derived.SevenTiedAt
import Derived.LaidMore
import Derived.Lay
import Derived.JoinedCond
import Derived.Stop.LaidErr
/- The law AsmAgain. -/
set_option maxRecDepth 100000
set_option maxHeartbeats 4000000
set_option linter.unusedVariables false
set_option linter.unusedSimpArgs false
namespace Go.Proofs.YtooimjefbdokaaaDoor.Asm
open Go Go.Proofs.YtooimjefbdokaaaDoor.Eng Go.RowKit
open Ins Nest
theorem err_eq {s : Bs} {ds : List InsD} {k e : Int} (hR : ReadR s ds k e) (c : e ≠ 0) : (vLt 0 k == vEq e 11) = true := by
  rcases (read_err hR c).2 with ⟨h1, h2⟩ | ⟨h1, h2⟩
  · rw [vLt_T h1, vEq_T h2]; rfl
  · rw [vLt_F (by omega), vEq_F h2]; rfl
theorem err_len {s : Bs} {xs : List InsV} {k e : Int} (hR : ReadR s (xs.map InsV.d) k e) (c : e ≠ 0) : (xs.length : Int) = 0 := by
  have := congrArg List.length (read_err hR c).1
  rw [List.length_map] at this
  rw [this]; rfl
theorem two_same {s : Bs} {zs ds : List InsD} {k e : Int} (hR : ReadR (remarkA ++ s ++ remarkB) ds k e) (hl : s.length < 5000) (hg : ∀ z ∈ zs, Good z) (hw : zs.map wordsI = allW s) (hc : chkB zs = 0) : e = 0 ∧ k = 0 ∧ ds = zs :=
  read_same hR (by have h1 : remarkA.length = 14 := rfl; have h2 : remarkB.length = 8 := rfl; simp only [List.length_append, h1, h2]; omega) hg (hw.trans (allW_two s).symm) hc
theorem wr_two {ds : List InsD} {t : Bs} {e : Int} (h : WrR ds t e) (hc : chkB ds = 0) (c : e ≠ 0) : e = 2 := by
  rcases wr_cases h with ⟨_, _, h⟩ | ⟨h, _⟩
  · exact h hc
  · exact absurd h c
theorem asmAgain (w : World) (s : Bs) (hs : s.length ≤ 9223372036854775807) (m : Int) (hM : FAt (froz w) 0 0 [.int .i64 m]) (hN : NumF (froz w)) : Fc Tryd.prog 4 #[.string (bs s)] w (fun r w' => r = .bool true ∧ Below w.heap.size w w') := by
  refine Fc.of Tryd.func4 rfl (by kernel_rfl) ?_
  have H := Sat.start w
  refine CallP.mk (Fc.imp (Go.Proofs.YtooimjefbdokaaaDoor.Asm.read _ _ H hM ?_ ?_) ?_)
  · assumption
  · (simp only [List.length_append, List.length_set, List.length_cons, List.length_nil]; omega)
  clear H
  rintro _ w1 ⟨g'1, ⟨v1, ⟨xs1, ⟨k1, ⟨e1, ⟨rfl, ⟨h1, ⟨HE, ⟨h2, H⟩⟩⟩⟩⟩⟩⟩⟩⟩
  replace hN := hN.ext HE
  replace hM := FAt.ext hM HE
  have E := HE
  clear HE
  obtain ⟨hk0, hk1⟩ := read_no h1
  refine br_f (vNe_F (by assumption)) ?_
  refine cF (vNe_F (by assumption)) ?_
  refine CallP.mk (Fc.imp (Go.Proofs.YtooimjefbdokaaaDoor.Asm.read _ _ H hM ?_ ?_) ?_)
  · assumption
  · assumption
  clear H
  rintro _ w2 ⟨g'2, ⟨v2, ⟨xs2, ⟨k2, ⟨e2, ⟨rfl, ⟨h3, ⟨HE, ⟨h4, H⟩⟩⟩⟩⟩⟩⟩⟩⟩
  replace E := E.trans HE
  replace hM := FAt.ext hM HE
  replace hN := hN.ext HE
  replace h2 := FSl.extN (ok := Go.Proofs.YtooimjefbdokaaaDoor.Ins.okV) (fun _ _ _ h E => Go.Proofs.YtooimjefbdokaaaDoor.Ins.okV.ext h E) h2 HE
  clear HE
  refine cI (fun c1 => ?_) (fun c1 => ?_)
  · replace c1 := vNe_t (c1)
    refine rLenF h4 rfl ?_
    refine br (fun c2 => ?_) (fun c2 => ?_)
    · replace c2 := vEq_t (c2)
      refine rBoolEq rfl ?_
      refine Done.mk ?_
      refine ⟨?_, ?_⟩
      · exact congrArg Value.bool (err_eq h3 c1)
      exact E.fin H
    replace c2 := vEq_f (c2)
    refine Done.mk ?_
    exact absurd (err_len h3 c1) c2
  replace c1 := vNe_f (c1)
  refine rLenStr rfl ?_
  refine cI (fun c2 => ?_) (fun c2 => ?_)
  focus
    replace c2 := vLt_t (c2)
    refine rCat (by (simp only [List.length_append, List.length_set, List.length_cons, List.length_nil]; omega)) ?_
    refine rCat (by (simp only [List.length_append, List.length_set, List.length_cons, List.length_nil]; omega)) ?_
  rotate_left 1
  focus
    replace c2 := vLt_f (c2)
  rotate_left 1
  · obtain ⟨hq1, hq2, hq3, hq4, hq5⟩ := read_ok0 h3 c1
    refine CallP.mk (Fc.imp (Go.Proofs.YtooimjefbdokaaaDoor.Asm.read _ _ H hM ?_ ?_) ?_)
    · assumption
    · (simp only [List.length_append, List.length_set, List.length_cons, List.length_nil]; omega)
    clear H
    rintro _ w3 ⟨g'3, ⟨v3, ⟨xs3, ⟨k3, ⟨e3, ⟨rfl, ⟨h5, ⟨HE, ⟨h6, H⟩⟩⟩⟩⟩⟩⟩⟩⟩
    replace h2 := FSl.extN (ok := Go.Proofs.YtooimjefbdokaaaDoor.Ins.okV) (fun _ _ _ h E => Go.Proofs.YtooimjefbdokaaaDoor.Ins.okV.ext h E) h2 HE
    replace hN := hN.ext HE
    replace hM := FAt.ext hM HE
    replace E := E.trans HE
    replace h4 := FSl.extN (ok := Go.Proofs.YtooimjefbdokaaaDoor.Ins.okV) (fun _ _ _ h E => Go.Proofs.YtooimjefbdokaaaDoor.Ins.okV.ext h E) h4 HE
    clear HE
    obtain ⟨hk3, hk4, hk5⟩ := two_same h5 (by omega) hq3 hq4 hq5
    refine br_f (vNe_F (by assumption)) ?_
    refine CallP.mk (Fc.imp (Go.Proofs.YtooimjefbdokaaaDoor.Asm.sameBody _ _ _ _ H h4 h6) ?_)
    clear H
    rintro _ w4 ⟨⟨b1, ⟨rfl, h7⟩⟩, H⟩
    refine cI (fun c3 => ?_) (fun c3 => ?_)
    · replace c3 := iff_f h7 (not_t (c3))
      refine Done.mk ?_
      exact absurd hk5.symm c3
    replace c3 := h7.1 (not_f (c3))
    refine CallP.mk (Fc.imp (Go.Proofs.YtooimjefbdokaaaDoor.Asm.write H _ _ _ hM ?_ h4) ?_)
    · assumption
    clear H
    rintro _ w5 ⟨t1, ⟨e4, ⟨rfl, ⟨h8, ⟨h9, H⟩⟩⟩⟩⟩
    refine cI (fun c4 => ?_) (fun c4 => ?_)
    · replace c4 := vNe_t (c4)
      refine br (fun c5 => ?_) (fun c5 => ?_)
      · replace c5 := vEq_t (c5)
        refine rStrEq ?_
        refine Done.mk ?_
        refine ⟨?_, ?_⟩
        · exact congrArg Value.bool (wr_emp h8 c4)
        exact E.fin H
      replace c5 := vEq_f (c5)
      refine Done.mk ?_
      exact absurd (wr_two h8 hq5 c4) c5
    replace c4 := vNe_f (c4)
    obtain ⟨hc, ht, hl⟩ := wr_ok h8 c4
    refine CallP.mk (Fc.imp (Go.Proofs.YtooimjefbdokaaaDoor.Asm.read _ _ H hM ?_ ?_) ?_)
    · assumption
    · omega
    clear H
    rintro _ w6 ⟨g'4, ⟨v4, ⟨xs4, ⟨k4, ⟨e5, ⟨rfl, ⟨h10, ⟨HE, ⟨h11, H⟩⟩⟩⟩⟩⟩⟩⟩⟩
    replace h4 := FSl.extN (ok := Go.Proofs.YtooimjefbdokaaaDoor.Ins.okV) (fun _ _ _ h E => Go.Proofs.YtooimjefbdokaaaDoor.Ins.okV.ext h E) h4 HE
    replace E := E.trans HE
    replace hM := FAt.ext hM HE
    replace hN := hN.ext HE
    replace h2 := FSl.extN (ok := Go.Proofs.YtooimjefbdokaaaDoor.Ins.okV) (fun _ _ _ h E => Go.Proofs.YtooimjefbdokaaaDoor.Ins.okV.ext h E) h2 HE
    replace h6 := FSl.extN (ok := Go.Proofs.YtooimjefbdokaaaDoor.Ins.okV) (fun _ _ _ h E => Go.Proofs.YtooimjefbdokaaaDoor.Ins.okV.ext h E) h6 HE
    clear HE
    rw [ht] at h10
    obtain ⟨hk6, hk7, hk8⟩ := read_text hq3 hc hl h10
    refine br_t (vEq_T (by assumption)) ?_
    refine CallP.mk (Fc.imp (Go.Proofs.YtooimjefbdokaaaDoor.Asm.sameBody _ _ _ _ H h4 h11) ?_)
    clear H
    rintro _ w7 ⟨⟨b2, ⟨rfl, h12⟩⟩, H⟩
    refine Done.mk ?_
    refine ⟨?_, ?_⟩
    · exact congrArg Value.bool (h12.2 hk8.symm)
    exact E.fin H
  · obtain ⟨hq1, hq2, hq3, hq4, hq5⟩ := read_ok0 h3 c1
    refine CallP.mk (Fc.imp (Go.Proofs.YtooimjefbdokaaaDoor.Asm.write H _ _ _ hM ?_ h4) ?_)
    · assumption
    clear H
    rintro _ w3 ⟨t1, ⟨e3, ⟨rfl, ⟨h5, ⟨h6, H⟩⟩⟩⟩⟩
    refine cI (fun c3 => ?_) (fun c3 => ?_)
    · replace c3 := vNe_t (c3)
      refine br (fun c4 => ?_) (fun c4 => ?_)
      · replace c4 := vEq_t (c4)
        refine rStrEq ?_
        refine Done.mk ?_
        refine ⟨?_, ?_⟩
        · exact congrArg Value.bool (wr_emp h5 c3)
        exact E.fin H
      replace c4 := vEq_f (c4)
      refine Done.mk ?_
      exact absurd (wr_two h5 hq5 c3) c4
    replace c3 := vNe_f (c3)
    obtain ⟨hc, ht, hl⟩ := wr_ok h5 c3
    refine CallP.mk (Fc.imp (Go.Proofs.YtooimjefbdokaaaDoor.Asm.read _ _ H hM ?_ ?_) ?_)
    · assumption
    · omega
    clear H
    rintro _ w4 ⟨g'3, ⟨v3, ⟨xs3, ⟨k3, ⟨e4, ⟨rfl, ⟨h7, ⟨HE, ⟨h8, H⟩⟩⟩⟩⟩⟩⟩⟩⟩
    replace h2 := FSl.extN (ok := Go.Proofs.YtooimjefbdokaaaDoor.Ins.okV) (fun _ _ _ h E => Go.Proofs.YtooimjefbdokaaaDoor.Ins.okV.ext h E) h2 HE
    replace hN := hN.ext HE
    replace hM := FAt.ext hM HE
    replace E := E.trans HE
    replace h4 := FSl.extN (ok := Go.Proofs.YtooimjefbdokaaaDoor.Ins.okV) (fun _ _ _ h E => Go.Proofs.YtooimjefbdokaaaDoor.Ins.okV.ext h E) h4 HE
    clear HE
    rw [ht] at h7
    obtain ⟨hk6, hk7, hk8⟩ := read_text hq3 hc hl h7
    refine br_t (vEq_T (by assumption)) ?_
    refine CallP.mk (Fc.imp (Go.Proofs.YtooimjefbdokaaaDoor.Asm.sameBody _ _ _ _ H h4 h8) ?_)
    clear H
    rintro _ w5 ⟨⟨b1, ⟨rfl, h9⟩⟩, H⟩
    refine Done.mk ?_
    refine ⟨?_, ?_⟩
    · exact congrArg Value.bool (h9.2 hk8.symm)
    exact E.fin H
end Go.Proofs.YtooimjefbdokaaaDoor.Asm
/- What the rows of a door seat share where strconv's table and errors are listed beside others: what they give a walk, a start that meets them, and the form that asks for a bulk beside them. -/
set_option maxRecDepth 100000
namespace Go.Proofs.YtooimjefbdokaaaDoor.Door
open Go Go.RowKit Go.Proofs.YtooimjefbdokaaaDoor.Eng
noncomputable abbrev laid : List (String × DataW Unit) := [("math/bits.deBruijn32tab", Rows.laid_math_bits_deBruijn32tab), ("math/bits.deBruijn64tab", Rows.laid_math_bits_deBruijn64tab), ("internal/strconv.uint64pow10", Rows.laid_internal_strconv_uint64pow10), ("unicode/utf8.acceptRanges", Rows.laid_unicode_utf8_acceptRanges), ("strconv.ErrRange", Rows.laid_strconv_ErrRange), ("strconv.ErrSyntax", Rows.laid_strconv_ErrSyntax), ("unicode/utf8.first", Rows.laid_unicode_utf8_first)]
theorem ptrName (u : TypeId) (h : Tryd.prog.typeName? 3 u = some "*errors.errorString") : u = 138 := by
  have hs : ("*errors.errorString" : String) = "*" ++ "errors.errorString" := by decide +kernel
  exact typeName_ptr_named (nm := "errors.errorString") (by rw [← hs]; kernel_rfl) (by kernel_rfl) (by decide) u (by rw [← hs]; exact h)
theorem fat_var {W : World} {name : String} {g : Nat} {v : Value} (h : W.var? Tryd.prog name = some #[v]) (hg : Tryd.prog.globalNamed name = some g) : FAt (froz W) g 0 [v] := by
  have := World.var?_cell hg h 0
  exact fat_cell (by simpa using this)
theorem tabs {W : World} (h : laidMetH Tryd.prog laid W) : Asm.NumF (froz W) := by
  rw [MakeChecks.laidMetH_plain _ _ _ (by kernel_rfl)] at h
  have hp : Lib.TabIs Tryd.prog W "internal/strconv.uint64pow10" .u64 Lib.pow10Tab := Lib.tabIs_of_head (g := 1) (t := 113) (e := 99) (n := 20) (by kernel_rfl) (by kernel_rfl) rfl rfl (by kernel_rfl) (by kernel_rfl) h.tail.tail
  obtain ⟨a0, s0, hr, _, _, _⟩ := laid_sentinel (g := 5) (ti := 40) (tp := 138) (te := 140) (ts := 9) h.tail.tail.tail.tail (by kernel_rfl) (by kernel_rfl) rfl ptrName rfl rfl rfl rfl rfl (by kernel_rfl) (by kernel_rfl)
  obtain ⟨a1, s1, hs, _, _, _⟩ := laid_sentinel (g := 4) (ti := 40) (tp := 138) (te := 140) (ts := 9) h.tail.tail.tail.tail.tail (by kernel_rfl) (by kernel_rfl) rfl ptrName rfl rfl rfl rfl rfl (by kernel_rfl) (by kernel_rfl)
  refine ⟨fun w l H => ?_, ⟨_, fat_var hs (by kernel_rfl), .inr ⟨_, _, rfl⟩⟩, ⟨_, fat_var hr (by kernel_rfl), .inr ⟨_, _, rfl⟩⟩⟩
  have b := H.finish
  unfold Lib.TabIs World.var? at hp ⊢
  rw [show Tryd.prog.globalNamed "internal/strconv.uint64pow10" = some 1 by kernel_rfl, Option.bind_some] at hp ⊢
  split at hp
  · rename_i cs e fz hh
    rw [b.block _ (Array.getElem?_eq_some_iff.1 hh).1, hh]
    exact hp
  · cases hp
theorem met (os : Os) (args : Array Value) : laidMetH Tryd.prog laid ((World.laidAll Tryd.prog os laid).forCall (fun _ _ => 0) ⟨#[], args, []⟩).memory := by
  rw [MakeChecks.laidMetH_plain _ _ _ (by kernel_rfl)]; exact laidMet_laidAll _ (by kernel_rfl) (by kernel_rfl)
section
variable {H : Type} {enc : TypeId × Value → H}
theorem ret_cond_and {a : Assume} {C : Checked} {os : Os} {f : FuncId} {fn : Func} {s : OpenSpec} {k : (H : Type) → List (DataW H) → Bool} (hk : s.cond = some k) {F : Stop.Interp} {conds : List PathCond} {apart fresh handsOn again : Bool} {X : World → Array Value → Prop}
    (hX : ∀ (w w' : World) (args : Array Value), w.heap = w'.heap → X w args → X w' args)
    (own : ownKnob C.prog.godebug = none) (started : os.Started) (noInit : C.prog.inits.idxOf? f = none) (hfn : C.prog.funcs[f]? = some fn)
    (witness : ∃ (w : World) (tape : Tape) (i : Input), w.os = os ∧ (w.forCall tape i).Shaped C.prog ∧ i.vars = [] ∧ Input.okWide C.prog (w.forCall tape i) .any w.heap.size f i ∧
      ((s.pre enc C.prog fn conds apart (w.forCall tape i).memory i.args ∧ X (w.forCall tape i).memory i.args) ∧ sizedMet enc C.prog fn s apart (w.forCall tape i).memory i.args) ∧ a.holds C.prog (lone (Frame.enter C.prog f i.args .normal) [] (w.forCall tape i)))
    (contract : ∀ (W : World) (base : Nat) (args : Array Value) (ds gs : List (DataW H)) (before : List MemPlace),
      (∀ (j : Nat) t v, fn.params[j]? = some t → args[j]? = some v → Value.okWide C.prog W .any base t v) →
      DataW.Whole enc C.prog fn.params.toList s.vars apart W args.toList ds gs before →
      conds.all (PathCond.test C.prog ⟨fn.params.toList, ds, s.bare.plain.varTypes C.prog, gs⟩) = true → k H (ds ++ gs) = true → X W args → W.ShapedOpen C.prog →
      (DataW.weightsEach C.prog (fn.params.toList ++ s.bare.plain.varTypes C.prog) (ds ++ gs)).all (· ≤ reachBytes) = true →
      a.holds C.prog (lone (Frame.enter C.prog f args .normal) [] W) →
      Calls C.prog f args W fun e W' => ∃ v, e = .returned v ∧ (s.at F).post enc C.prog fn apart fresh handsOn again W args v W') :
    ReturnsInHanded a C os f .any (fun w args => (s.pre enc C.prog fn conds apart w args ∧ X w args) ∧ sizedMet enc C.prog fn s apart w args) ((s.at F).post enc C.prog fn apart fresh handsOn again) := by
  refine returnsInHanded_of_calls own started noInit witness ?_
  intro w tape i _ hsh _ hok hpre hholds
  obtain ⟨_, _, _, fn', hfn', _, _, _, _, hval⟩ := hok
  have e : fn' = fn := Option.some.inj (hfn'.symm.trans hfn)
  subst e
  obtain ⟨ds, gs, before, hw, hc, hkk⟩ := (OpenSpec.pre_some hk conds apart _ _).1 hpre.1.1
  have hw' := DataW.Whole.of_heap (w' := w.forCall tape i) (by rfl) hw
  refine (contract (w.forCall tape i) w.heap.size i.args ds gs before hval hw' hc hkk (hX _ _ _ (by rfl) hpre.1.2) hsh (hpre.2.weights hw) hholds).mono fun e W' ⟨v, he, hp⟩ => ?_
  subst he
  exact ChangeSpec.post_blind hp
theorem witness_cond {C : Checked} {os : Os} {f : FuncId} {fn : Func} {s : OpenSpec} {k : (H : Type) → List (DataW H) → Bool} (hk : s.cond = some k) {conds : List PathCond} {apart : Bool} {X : World → Array Value → Prop} (modest : Bool) (w0 : World) (args : Array Value) (fuel : Nat) (hos : w0.os = os)
    (hsh : (w0.forCall (fun _ _ => 0) ⟨#[], args, []⟩).Shaped C.prog)
    (hok : Input.okWideB C.prog (w0.forCall (fun _ _ => 0) ⟨#[], args, []⟩) f ⟨#[], args, []⟩ = true)
    {x : List (DataW H) × List (DataW H) × List MemPlace} (hx : DataW.whole enc C.prog (w0.forCall (fun _ _ => 0) ⟨#[], args, []⟩).memory fn.params.toList s.vars apart args.toList fuel = some x)
    (hconds : conds.all (PathCond.test C.prog ⟨fn.params.toList, x.1, s.bare.plain.varTypes C.prog, x.2.1⟩) = true) (hkk : k H (x.1 ++ x.2.1) = true)
    (hsz : s.bare.sizedB enc C.prog fn apart (w0.forCall (fun _ _ => 0) ⟨#[], args, []⟩).memory args fuel = true)
    (hX : X (w0.forCall (fun _ _ => 0) ⟨#[], args, []⟩).memory args) :
    ∃ (w : World) (tape : Tape) (i : Input), w.os = os ∧ (w.forCall tape i).Shaped C.prog ∧ i.vars = [] ∧ Input.okWide C.prog (w.forCall tape i) .any w.heap.size f i ∧
      ((s.pre enc C.prog fn conds apart (w.forCall tape i).memory i.args ∧ X (w.forCall tape i).memory i.args) ∧ sizedMet enc C.prog fn s apart (w.forCall tape i).memory i.args) ∧ ({ modest := modest } : Assume).holds C.prog (lone (Frame.enter C.prog f i.args .normal) [] (w.forCall tape i)) :=
  ⟨w0, fun _ _ => 0, ⟨#[], args, []⟩, hos, hsh, (Input.okWide_of_okWideB (base := 0) hok).1, (Input.okWide_of_okWideB hok).2,
    ⟨⟨(OpenSpec.pre_some hk conds apart _ _).2 ⟨x.1, x.2.1, x.2.2, DataW.Whole_of_whole hx, hconds, hkk⟩, hX⟩, sizedMet_of_sizedB hsz⟩, by
    simp only [Assume.holds]
    exact ⟨by simp, by simp, fun _ => Modest.zero, by simp, by simp⟩⟩
theorem ret_change_and {a : Assume} {C : Checked} {os : Os} {f : FuncId} {fn : Func} {s : ChangeSpec} {conds : List PathCond} {apart fresh handsOn again : Bool} {X : World → Array Value → Prop}
    (hX : ∀ (w w' : World) (args : Array Value), w.heap = w'.heap → X w args → X w' args)
    (own : ownKnob C.prog.godebug = none) (started : os.Started) (noInit : C.prog.inits.idxOf? f = none) (hfn : C.prog.funcs[f]? = some fn)
    (witness : ∃ (w : World) (tape : Tape) (i : Input), w.os = os ∧ (w.forCall tape i).Shaped C.prog ∧ i.vars = [] ∧ Input.okWide C.prog (w.forCall tape i) .any w.heap.size f i ∧
      ((s.pre enc C.prog fn conds apart (w.forCall tape i).memory i.args ∧ X (w.forCall tape i).memory i.args) ∧ sizedMet enc C.prog fn (OpenSpec.ofChange s) apart (w.forCall tape i).memory i.args) ∧ a.holds C.prog (lone (Frame.enter C.prog f i.args .normal) [] (w.forCall tape i)))
    (contract : ∀ (W : World) (base : Nat) (args : Array Value) (ds gs : List (DataW H)) (before : List MemPlace),
      (∀ (j : Nat) t v, fn.params[j]? = some t → args[j]? = some v → Value.okWide C.prog W .any base t v) →
      DataW.Whole enc C.prog fn.params.toList s.vars apart W args.toList ds gs before →
      conds.all (PathCond.test C.prog ⟨fn.params.toList, ds, s.plain.varTypes C.prog, gs⟩) = true →
      (DataW.weightsEach C.prog (fn.params.toList ++ s.plain.varTypes C.prog) (ds ++ gs)).all (· ≤ reachBytes) = true → X W args → W.ShapedOpen C.prog →
      a.holds C.prog (lone (Frame.enter C.prog f args .normal) [] W) →
      Calls C.prog f args W fun e W' => ∃ v, e = .returned v ∧ s.post enc C.prog fn apart fresh handsOn again W args v W') :
    ReturnsInHanded a C os f .any (fun w args => (s.pre enc C.prog fn conds apart w args ∧ X w args) ∧ sizedMet enc C.prog fn (OpenSpec.ofChange s) apart w args) (s.post enc C.prog fn apart fresh handsOn again) := by
  refine returnsInHanded_of_calls own started noInit witness ?_
  intro w tape i _ hsh _ hok hpre hholds
  obtain ⟨_, _, _, fn', hfn', _, _, _, _, hval⟩ := hok
  have e : fn' = fn := Option.some.inj (hfn'.symm.trans hfn)
  subst e
  obtain ⟨⟨⟨ds, gs, before, hw, hc⟩, hx⟩, hz⟩ := hpre
  have hw' := DataW.Whole.of_heap (w' := w.forCall tape i) (by rfl) hw
  refine (contract (w.forCall tape i) w.heap.size i.args ds gs before hval hw' hc (hz.weights hw) (hX _ _ _ (by rfl) hx) hsh hholds).mono fun e W' ⟨v, he, hp⟩ => ?_
  subst he
  exact ChangeSpec.post_blind hp
end
end Go.Proofs.YtooimjefbdokaaaDoor.Door
