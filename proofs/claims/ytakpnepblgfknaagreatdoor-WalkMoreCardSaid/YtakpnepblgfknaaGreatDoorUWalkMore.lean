/-
  The law WalkMore returns true for every input, and leaves all that was there as it was.
-/
import Derived.Test.YtakpnepblgfknaaGreatDoorU12
import Derived.Test.YtakpnepblgfknaaGreatDoorU5
import Derived.Test.YtakpnepblgfknaaGreatDoorU2
import Derived.Test.YtakpnepblgfknaaGreatDoorCards
set_option linter.unusedVariables false
set_option linter.unusedSimpArgs false
set_option linter.defProp false
namespace Go.Proofs.YtakpnepblgfknaaGreatDoor
namespace walkMore
open Go Go.ChangeShapes Go.WideShapes Go.ChangeAt Go.RowKit Y4
open Go.ChangeMaps (open_string shut_string)
set_option maxRecDepth 100000 in
theorem lifted (os:Os) (started:os.Started) (H:Type) (enc:TypeId × Value->H) :
  ReturnsInHanded {} Tryz.checked os 3 .any (fun w args=>(Rows.walkMoreSpec.pre enc Tryz.prog Tryz.f3 [] false w args/\laidMetH Tryz.prog JM.laid w)/\sizedMet enc Tryz.prog Tryz.f3 (OpenSpec.ofChange Rows.walkMoreSpec) false w args) (Rows.walkMoreSpec.post enc Tryz.prog Tryz.f3 false true false false):=by
 refine JM.aax (C:=Tryz.checked) (X:=(fun w _=>laidMetH Tryz.prog JM.laid w)) (fun _ _ _ hh h=>h.of_heap hh) Row.own started k_d Tryz.func3
  (ChangeSpec.witness_shaped (enc:=enc) (C:=Tryz.checked) (os:=os) (X:=(fun w _=>laidMetH Tryz.prog JM.laid w)) false (World.laidAll Tryz.prog os JM.laid) #[.agg #[.slice none 0 0,.slice none 0 0,.slice none 0 0,.int .i64 0,.int .i64 0,.int .i64 0,.slice none 0 0,.slice none 0 0,.int .i64 0,.slice none 0 0,.slice none 0 0],.int .i64 0,.slice none 0 0,.slice none 0 0,.int .i64 0,.int .i64 0] 8 (World.laidAll_os _ _ _) (World.shaped_of_ZipB k_d k_d) k_d k_d k_d (JM.met os _)) ?_
 intro W base args ds gs before ahR hW apb _ hL hsh _
 have hval:∀(j:Nat) t v,Tryz.f3.params[j]?=some t->args[j]?=some v->Value.okWide Tryz.prog W .any base t v:=ahR
 have hW':=hW
 obtain ⟨p,q,C1,hV,rfl,hfz,hnd⟩:=hW
 have hA:DataW.TrodAll enc Tryz.prog W 0 (fun _=>true) true Tryz.f3.params.toList args.toList ds p:=C1
 rw [Tryz.params3] at hA hval
 obtain ⟨v0,vs0,d0,ds0,p0,q0,hargs,rfl,rfl,h0,r0⟩:=trodAll_cons hA
 obtain ⟨v1,vs1,d1,ds1,p1,q1,rfl,rfl,rfl,h1,r1⟩:=trodAll_cons r0
 obtain ⟨v2,Dv,d2,ds2,p2,q2,rfl,rfl,rfl,h2,r2⟩:=trodAll_cons r1
 obtain ⟨v3,EA,d3,ds3,p3,q3,rfl,rfl,rfl,h3,r3⟩:=trodAll_cons r2
 obtain ⟨v4,vs4,d4,ds4,p4,q4,rfl,rfl,rfl,h4,r4⟩:=trodAll_cons r3
 obtain ⟨v5,vs5,d5,ds5,p5,q5,rfl,rfl,rfl,h5,r5⟩:=trodAll_cons r4
 obtain ⟨rfl,rfl,rfl⟩:=trodAll_nil r5
 obtain rfl:args=#[v0,v1,v2,v3,v4,v5]:=by cases args;simp_all
 obtain ⟨rfl,rfl⟩:=trodVars_none hV
 have k0:=h0
 have lt0:∀x∈p0,x.block<W.heap.size:=by obtain ⟨m,hm⟩:=k0;exact DataW.trod_lt m _ _ _ hm
 have k1:=h1
 have lt1:∀x∈p1,x.block<W.heap.size:=by obtain ⟨m,hm⟩:=k1;exact DataW.trod_lt m _ _ _ hm
 have k2:=h2
 have lt2:∀x∈p2,x.block<W.heap.size:=by obtain ⟨m,hm⟩:=k2;exact DataW.trod_lt m _ _ _ hm
 have k3:=h3
 have lt3:∀x∈p3,x.block<W.heap.size:=by obtain ⟨m,hm⟩:=k3;exact DataW.trod_lt m _ _ _ hm
 have k4:=h4
 have lt4:∀x∈p4,x.block<W.heap.size:=by obtain ⟨m,hm⟩:=k4;exact DataW.trod_lt m _ _ _ hm
 have k5:=h5
 have lt5:∀x∈p5,x.block<W.heap.size:=by obtain ⟨m,hm⟩:=k5;exact DataW.trod_lt m _ _ _ hm
 obtain ⟨cs0,a0,rfl,⟨rfl,w0⟩,z0⟩:=ah6 Tryz.underlying30 YS.afH (hval 0 30 v0 rfl rfl) h0
 obtain ⟨a1,rfl,rfl,rfl,w1⟩:=open_int Tryz.underlying3 (hval 1 3 v1 rfl rfl) h1
 obtain ⟨a2,s2,b2,l2,y2⟩:=aeo 1 rfl (by decide) Tryz.underlying31 (OW 6 rfl YZ.Uq) (hval 2 31 v2 rfl rfl) h2
 obtain ⟨a3,s3,b3,l3,y3⟩:=aeo 1 rfl (by decide) Tryz.underlying31 (OW 6 rfl YZ.Uq) (hval 3 31 v3 rfl rfl) h3
 obtain ⟨a4,rfl,rfl,rfl,w4⟩:=open_int Tryz.underlying3 (hval 4 3 v4 rfl rfl) h4
 obtain ⟨a5,rfl,rfl,rfl,w5⟩:=open_int Tryz.underlying3 (hval 5 3 v5 rfl rfl) h5
 clear C1 ahR
 refine (Wk.walkMore W a0 a1 v2 a2 v3 a3 a4 a5 (YS.Xu.of w0 (af5 W)) (Jr w1) s2 s3 (Jr w4) (Jr w5) (JM.aoC hL)).calls.mono fun e W' ⟨v,he,hv,FX⟩=>?_
 subst hv
 subst he
 exact ⟨_,rfl,_,_,_,[],_,[],hW',trodAll_mk1 (shut_bool Tryz.underlying4 _),(trodAll_cons_mk (Below.trod Row.laidOut k_d (of_decide_eq_true k_d) k0 FX lt0) (trodAll_cons_mk (Below.trod Row.laidOut k_d (of_decide_eq_true k_d) k1 FX lt1) (trodAll_cons_mk (Below.trod Row.laidOut k_d (of_decide_eq_true k_d) k2 FX lt2) (trodAll_cons_mk (Below.trod Row.laidOut k_d (of_decide_eq_true k_d) k3 FX lt3) (trodAll_cons_mk (Below.trod Row.laidOut k_d (of_decide_eq_true k_d) k4 FX lt4) (trodAll_cons_mk (Below.trod Row.laidOut k_d (of_decide_eq_true k_d) k5 FX lt5) trodAll_mk0)))))),rfl,FX.frame _,fun h=>by cases h⟩
theorem over:Rows.walkMoreRow.holds Tryz.pinned (OpenSpec.ofChange Rows.walkMoreSpec) :=
 OpenClaim.holds_of_wide 3 Tryz.f3 rfl rfl rfl rfl rfl rfl rfl ⟨rfl,rfl,rfl,rfl,rfl⟩ rfl rfl rfl rfl rfl k_d Tryz.func3 closed
  (of_decide_eq_true k_d) (by unfold Func.isWrapper;first|(rw [if_pos (by decide +kernel)];kernel_rfl)|(rw [if_neg (by decide +kernel)];exact ⟨rfl,rfl⟩))
  (fun os started H enc _=>lifted os started H enc)
theorem proved:Rows.WalkMoreCardSaid :=
 Claim7.holds_tied_plain_at .later [] [.data,.data,.data,.pinned] true Rows.walkMoreCard.stood.harness false over (fun _ h=>by cases h) k_d (fun _ h=>by cases h) walkMore_row_tie rfl ⟨rfl,rfl⟩ k_d rfl
  (fun f fn hf hfn=>by
   obtain rfl:f=3:=Option.some.inj ((show Tryz.prog.funcNamed "troupe/troupekeep.WalkMore" = some 3 by kernel_rfl).symm.trans hf) |>.symm
   obtain rfl:fn=Tryz.f3:=(Option.some.inj (Tryz.func3.symm.trans hfn)).symm
   exact ⟨by kernel_rfl,fun j t ht=>by
    rw [Tryz.params3] at ht
    have hm:t∈[30,3,31,31,3,3]:=by simpa using Array.mem_of_getElem? ht
    have hall:([30,3,31,31,3,3].all fun u=>!Tryz.prog.wantsStandIn u)=true:=by kernel_rfl
    exact (show Tryz.prog.wantsStandIn t=false by simpa using ltb.1 hall t hm)⟩)
  k_d
#print axioms proved
end walkMore
end Go.Proofs.YtakpnepblgfknaaGreatDoor
