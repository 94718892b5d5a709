/-
  The law LebNamed returns true for every input of bulk at most 1048576, and leaves all that was there as it was.
-/
import Derived.Test.YtfhchhkddblmkaaDoorLebNamedW
import Derived.Test.YtfhchhkddblmkaaDoorRow
import Derived.Test.YtfhchhkddblmkaaDoorDoorU
import Derived.Test.YtfhchhkddblmkaaDoorCards

namespace Go.Proofs.YtfhchhkddblmkaaDoor.lebNamed
open Go Go.ChangeShapes Go.WideShapes Go.ChangeAt Go.RowKit Go.Proofs.YtfhchhkddblmkaaDoor.Eng
open Go.ChangeMaps (open_string shut_string)
set_option linter.unusedVariables false
set_option linter.unusedSimpArgs false

set_option maxRecDepth 100000 in
theorem lifted (os : Os) (started : os.Started) (H : Type) (enc : TypeId × Value → H) (F0 : Stop.Interp) :
    ReturnsInHanded {} Tryd.checked os 3 .any (fun w args => ((Rows.OpenSpec.upto Rows.lebNamedSpec).pre enc Tryd.prog Tryd.f3 [] false w args ∧ laidMetH Tryd.prog Door.laid w) ∧ sizedMet enc Tryd.prog Tryd.f3 (Rows.OpenSpec.upto Rows.lebNamedSpec) false w args) (((Rows.OpenSpec.upto Rows.lebNamedSpec).at F0).post enc Tryd.prog Tryd.f3 false true false false) := by
  refine Door.ret_cond_and (C := Tryd.checked) (s := (Rows.OpenSpec.upto Rows.lebNamedSpec)) (k := Rows.uptoSmall) (X := (fun w _ => laidMetH Tryd.prog Door.laid w)) rfl (fun _ _ _ hh h => h.of_heap hh) Row.own started (by kernel_rfl) Tryd.func3
    (Door.witness_cond (enc := enc) (C := Tryd.checked) (os := os) (s := (Rows.OpenSpec.upto Rows.lebNamedSpec)) (k := Rows.uptoSmall) (X := (fun w _ => laidMetH Tryd.prog Door.laid w)) rfl false (World.laidAll Tryd.prog os Door.laid) #[.string ByteArray.empty, .string ByteArray.empty] 8 (World.laidAll_os _ _ _) (World.shaped_of_ZipB (by kernel_rfl) (by kernel_rfl)) (by kernel_rfl) (x := ([.lit (.string []), .lit (.string [])], [], [])) (by kernel_rfl) (by kernel_rfl) (by kernel_rfl) (by kernel_rfl) (Door.met os _)) ?_
  intro W base args ds gs before hval0 hW hcnd hk hL hsh _ _
  have hval : ∀ (j : Nat) t v, Tryd.f3.params[j]? = some t → args[j]? = some v → Value.okWide Tryd.prog W .any base t v := hval0
  have hW' := hW
  obtain ⟨p, q, hA0, hV, rfl, hfz, hnd⟩ := hW
  have hA : DataW.TrodAll enc Tryd.prog W 0 (fun _ => true) true Tryd.f3.params.toList args.toList ds p := hA0
  rw [Tryd.params3] at hA hval
  obtain ⟨v0, vs0, d0, ds0, p0, q0, hargs, rfl, rfl, h0, r0⟩ := trodAll_cons hA
  obtain ⟨v1, vs1, d1, ds1, p1, q1, rfl, rfl, rfl, h1, r1⟩ := trodAll_cons r0
  obtain ⟨rfl, rfl, rfl⟩ := trodAll_nil r1
  obtain rfl : args = #[v0, v1] := by cases args; simp_all
  obtain ⟨rfl, rfl⟩ := trodVars_none hV
  have k0 := h0
  have lt0 : ∀ x ∈ p0, x.block < W.heap.size := by obtain ⟨m, hm⟩ := k0; exact DataW.trod_lt m _ _ _ hm
  have k1 := h1
  have lt1 : ∀ x ∈ p1, x.block < W.heap.size := by obtain ⟨m, hm⟩ := k1; exact DataW.trod_lt m _ _ _ hm
  obtain ⟨s0, rfl, rfl, rfl, hs0⟩ := open_string Tryd.underlying9 (hval 0 9 v0 rfl rfl) h0
  obtain ⟨a0, rfl, w0, z0⟩ := open_bs hs0
  obtain ⟨s1, rfl, rfl, rfl, hs1⟩ := open_string Tryd.underlying9 (hval 1 9 v1 rfl rfl) h1
  obtain ⟨a1, rfl, w1, z1⟩ := open_bs hs1
  clear hA0 hval0
  have hk := of_decide_eq_true hk
  simp only [List.append_nil, Rows.uptoBulkAll, Rows.uptoBulk, ← z0, ← z1] at hk
  have w0 : a0.length ≤ 1048576 := by omega
  have w1 : a1.length ≤ 1048576 := by omega
  refine (Leb.lebNamed W a0 a1 w0 w1 (Door.tabs hL)).calls.mono fun e W' ⟨v, he, hv, bel⟩ => ?_
  subst hv
  subst he
  exact ⟨_, rfl, _, _, _, [], _, [], hW', trodAll_mk1 (shut_bool Tryd.underlying4 _), (trodAll_cons_mk (Below.trod Row.laidOut (by kernel_rfl) (of_decide_eq_true (by kernel_rfl)) k0 bel lt0) (trodAll_cons_mk (Below.trod Row.laidOut (by kernel_rfl) (of_decide_eq_true (by kernel_rfl)) k1 bel lt1) trodAll_mk0)), rfl, bel.frame _, fun h => by cases h⟩

theorem over : Rows.lebNamedUptoRow.holds Tryd.pinned (Rows.OpenSpec.upto Rows.lebNamedSpec) :=
  OpenClaim.holds_of_cond 3 Tryd.f3 rfl rfl rfl rfl rfl rfl rfl ⟨rfl, rfl, rfl, rfl, rfl⟩ rfl rfl rfl rfl rfl (by kernel_rfl) Tryd.func3 (by kernel_rfl)
    (of_decide_eq_true (by kernel_rfl)) (by unfold Func.isWrapper; first | (rw [if_pos (by decide +kernel)]; kernel_rfl) | (rw [if_neg (by decide +kernel)]; exact ⟨rfl, rfl⟩))
    (fun os started H enc _ F0 => lifted os started H enc F0)

/-- The tied card. -/
theorem proved : Rows.LebNamedUptoCardSaid :=
  Claim7.holds_tied_plain_at .later [] [.data, .pinned] true Rows.lebNamedUptoCard.stood.harness false over (fun _ h => by cases h) (by kernel_rfl) (fun _ h => by cases h) lebNamedUpto_row_tie rfl ⟨rfl, rfl⟩ (by kernel_rfl) rfl
    (fun f fn hf hfn => by
      obtain rfl : f = 3 := Option.some.inj ((show Tryd.prog.funcNamed "troupe/troupekeep.LebNamed" = some 3 by kernel_rfl).symm.trans hf) |>.symm
      obtain rfl : fn = Tryd.f3 := (Option.some.inj (Tryd.func3.symm.trans hfn)).symm
      exact ⟨by kernel_rfl, fun j t ht => by
        rw [Tryd.params3] at ht
        have hm : t ∈ [9, 9] := by simpa using Array.mem_of_getElem? ht
        have hall : ([9, 9].all fun u => !Tryd.prog.wantsStandIn u) = true := by kernel_rfl
        exact (show Tryd.prog.wantsStandIn t = false by simpa using List.all_eq_true.1 hall t hm)⟩)
    (by kernel_rfl)
#print axioms proved
end Go.Proofs.YtfhchhkddblmkaaDoor.lebNamed
