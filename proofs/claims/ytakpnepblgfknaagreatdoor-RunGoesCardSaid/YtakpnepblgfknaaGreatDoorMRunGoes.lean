/-
  The law RunGoes returns true for every input, and leaves all that was there as it was.
-/
import Derived.Test.YtakpnepblgfknaaGreatDoorM12
import Derived.Test.YtakpnepblgfknaaGreatDoorM5
import Derived.Test.YtakpnepblgfknaaGreatDoorM2
import Derived.Test.YtakpnepblgfknaaGreatDoorCards
set_option linter.unusedVariables false
set_option linter.unusedSimpArgs false
set_option linter.defProp false
namespace Go.Proofs.YtakpnepblgfknaaGreatDoor
namespace runGoes
open Go Go.ChangeShapes Go.WideShapes Go.ChangeAt Go.RowKit YZ
open Go.ChangeMaps (open_string shut_string)
set_option maxRecDepth 100000 in
theorem lifted (os:Os) (started:os.Started) (H:Type) (enc:TypeId × Value→H) :
  ReturnsInHanded {} Tryz.checked os 6 .any (fun w args=>(Rows.runGoesSpec.pre enc Tryz.prog Tryz.f6 [] false w args∧laidMetH Tryz.prog Ky.laid w)∧sizedMet enc Tryz.prog Tryz.f6 (OpenSpec.ofChange Rows.runGoesSpec) false w args) (Rows.runGoesSpec.post enc Tryz.prog Tryz.f6 false true false false):=by
 refine Ky.aav (C:=Tryz.checked) (X:=(fun w _=>laidMetH Tryz.prog Ky.laid w)) (fun _ _ _ hh h=>h.of_heap hh) Row.own started k_i Tryz.func6
  (ChangeSpec.witness_shaped (enc:=enc) (C:=Tryz.checked) (os:=os) (X:=(fun w _=>laidMetH Tryz.prog Ky.laid w)) false (World.laidAll Tryz.prog os Ky.laid) #[.agg #[.slice none 0 0,.slice none 0 0,.slice none 0 0,.int .i64 0,.int .i64 0,.int .i64 0,.slice none 0 0,.slice none 0 0,.int .i64 0,.slice none 0 0,.slice none 0 0],.int .i64 0,.slice none 0 0,.int .i64 0] 8 (World.laidAll_os _ _ _) (World.shaped_of_ZipB k_i k_i) k_i k_i k_i (Ky.met os _)) ?_
 intro W base args ds gs before ahO hW an9 _ hL hsh _
 have hval:∀(j:Nat) t v,Tryz.f6.params[j]?=some t→args[j]?=some v→Value.okWide Tryz.prog W .any base t v:=ahO
 have hW':=hW
 obtain ⟨p,q,EP,hV,rfl,hfz,hnd⟩:=hW
 have hA:DataW.TrodAll enc Tryz.prog W 0 (fun _=>true) true Tryz.f6.params.toList args.toList ds p:=EP
 rw [Tryz.params6] at hA hval
 obtain ⟨v0,vs0,d0,ds0,p0,q0,hargs,rfl,rfl,h0,r0⟩:=trodAll_cons hA
 obtain ⟨v1,Gd,d1,ds1,p1,q1,rfl,rfl,rfl,h1,r1⟩:=trodAll_cons r0
 obtain ⟨v2,vs2,d2,ds2,p2,q2,rfl,rfl,rfl,h2,r2⟩:=trodAll_cons r1
 obtain ⟨v3,vs3,d3,ds3,p3,q3,rfl,rfl,rfl,h3,r3⟩:=trodAll_cons r2
 obtain ⟨rfl,rfl,rfl⟩:=trodAll_nil r3
 obtain rfl:args=#[v0,v1,v2,v3]:=by cases args;simp_all
 obtain ⟨rfl,rfl⟩:=trodVars_none hV
 have k0:=h0
 have lt0:∀x∈p0,x.block<W.heap.size:=by obtain ⟨m,hm⟩:=k0;exact DataW.trod_lt m _ _ _ hm
 have k1:=h1
 have lt1:∀x∈p1,x.block<W.heap.size:=by obtain ⟨m,hm⟩:=k1;exact DataW.trod_lt m _ _ _ hm
 have k2:=h2
 have lt2:∀x∈p2,x.block<W.heap.size:=by obtain ⟨m,hm⟩:=k2;exact DataW.trod_lt m _ _ _ hm
 have k3:=h3
 have lt3:∀x∈p3,x.block<W.heap.size:=by obtain ⟨m,hm⟩:=k3;exact DataW.trod_lt m _ _ _ hm
 obtain ⟨cs0,a0,rfl,⟨rfl,w0⟩,z0⟩:=ah4 Tryz.underlying30 YQ.afz (hval 0 30 v0 rfl rfl) h0
 obtain ⟨a1,rfl,rfl,rfl,w1⟩:=open_int Tryz.underlying3 (hval 1 3 v1 rfl rfl) h1
 obtain ⟨a2,s2,b2,l2,y2⟩:=ah3 1 rfl (by decide) Tryz.underlying31 (aaC 6 rfl YS.Uk) (hval 2 31 v2 rfl rfl) h2
 obtain ⟨a3,rfl,rfl,rfl,w3⟩:=open_int Tryz.underlying3 (hval 3 3 v3 rfl rfl) h3
 clear EP ahO
 refine (Rn.runGoes W a0 a1 v2 a2 a3 (YQ.XF.of w0 (af0 W)) (ad8 w1) s2 (ad8 w3) (Ky.anC hL)).calls.mono fun e W' ⟨v,he,hv,FX⟩=>?_
 subst hv
 subst he
 exact ⟨_,rfl,_,_,_,[],_,[],hW',trodAll_mk1 (shut_bool Tryz.underlying4 _),(trodAll_cons_mk (Below.trod Row.laidOut k_i (of_decide_eq_true k_i) k0 FX lt0) (trodAll_cons_mk (Below.trod Row.laidOut k_i (of_decide_eq_true k_i) k1 FX lt1) (trodAll_cons_mk (Below.trod Row.laidOut k_i (of_decide_eq_true k_i) k2 FX lt2) (trodAll_cons_mk (Below.trod Row.laidOut k_i (of_decide_eq_true k_i) k3 FX lt3) trodAll_mk0)))),rfl,FX.frame _,fun h=>by cases h⟩
theorem over:Rows.runGoesRow.holds Tryz.pinned (OpenSpec.ofChange Rows.runGoesSpec) :=
 OpenClaim.holds_of_wide 6 Tryz.f6 rfl rfl rfl rfl rfl rfl rfl ⟨rfl,rfl,rfl,rfl,rfl⟩ rfl rfl rfl rfl rfl k_i Tryz.func6 closed
  (of_decide_eq_true k_i) (by unfold Func.isWrapper;first|(rw [if_pos (by decide +kernel)];kernel_rfl)|(rw [if_neg (by decide +kernel)];exact ⟨rfl,rfl⟩))
  (fun os started H enc _=>lifted os started H enc)
theorem proved:Rows.RunGoesCardSaid :=
 Claim7.holds_tied_plain_at .later [] [.data,.data,.data,.pinned] true Rows.runGoesCard.stood.harness false over (fun _ h=>by cases h) k_i (fun _ h=>by cases h) runGoes_row_tie rfl ⟨rfl,rfl⟩ k_i rfl
  (fun f fn hf hfn=>by
   obtain rfl:f=6:=Option.some.inj ((show Tryz.prog.funcNamed "troupe/troupekeep.RunGoes" = some 6 by kernel_rfl).symm.trans hf) |>.symm
   obtain rfl:fn=Tryz.f6:=(Option.some.inj (Tryz.func6.symm.trans hfn)).symm
   exact ⟨by kernel_rfl,fun j t ht=>by
    rw [Tryz.params6] at ht
    have hm:t∈[30,3,31,3]:=by simpa using Array.mem_of_getElem? ht
    have hall:([30,3,31,3].all fun u=>!Tryz.prog.wantsStandIn u)=true:=by kernel_rfl
    exact (show Tryz.prog.wantsStandIn t=false by simpa using lkb.1 hall t hm)⟩)
  k_i
#print axioms proved
end runGoes
end Go.Proofs.YtakpnepblgfknaaGreatDoor
