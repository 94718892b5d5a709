/-
  The law OwnCalls returns true for every input, and leaves all that was there as it was.
-/
import Derived.Test.YtakpnepblgfknaaGreatDoorJ12
import Derived.SizedLaws
import Derived.Test.YtakpnepblgfknaaGreatDoorCards
import Derived.Test.YtakpnepblgfknaaGreatDoorJ5
set_option linter.unusedVariables false
set_option linter.unusedSimpArgs false
set_option linter.defProp false
namespace Go.Proofs.YtakpnepblgfknaaGreatDoor
namespace ownCalls
open Go Go.ChangeShapes Go.WideShapes Go.ChangeAt Go.RowKit YY
open Go.ChangeMaps (open_string shut_string)
set_option maxRecDepth 100000 in
theorem lifted (os:Os) (started:os.Started) (H:Type) (enc:TypeId × Value->H) :
  ReturnsInHanded {} Tryz.checked os 5 .any (fun w args=>(Rows.ownCallsSpec.pre enc Tryz.prog Tryz.f5 [] false w args/\laidMetH Tryz.prog Jg.laid w)/\sizedMet enc Tryz.prog Tryz.f5 (OpenSpec.ofChange Rows.ownCallsSpec) false w args) (Rows.ownCallsSpec.post enc Tryz.prog Tryz.f5 false true false false):=by
 refine Jg.aax (C:=Tryz.checked) (X:=(fun w _=>laidMetH Tryz.prog Jg.laid w)) (fun _ _ _ hh h=>h.of_heap hh) Row.own started k_d Tryz.func5
  (ChangeSpec.witness_shaped (enc:=enc) (C:=Tryz.checked) (os:=os) (X:=(fun w _=>laidMetH Tryz.prog Jg.laid w)) false (World.laidAll Tryz.prog os Jg.laid) #[.agg #[.slice none 0 0,.slice none 0 0,.slice none 0 0,.int .i64 0,.int .i64 0,.int .i64 0,.slice none 0 0,.slice none 0 0,.int .i64 0,.slice none 0 0,.slice none 0 0],.int .i64 0,.slice none 0 0,.slice none 0 0,.int .i64 0] 8 (World.laidAll_os _ _ _) (World.shaped_of_ZipB k_d k_d) k_d k_d k_d (Jg.met os _)) ?_
 intro W base args ds gs before aic hW ap4 Ad hL hsh _
 have hval:∀(j:Nat) t v,Tryz.f5.params[j]?=some t->args[j]?=some v->Value.okWide Tryz.prog W .any base t v:=aic
 have hW':=hW
 obtain ⟨p,q,Cf,hV,rfl,hfz,hnd⟩:=hW
 have hA:DataW.TrodAll enc Tryz.prog W 0 (fun _=>true) true Tryz.f5.params.toList args.toList ds p:=Cf
 rw [Tryz.params5] at hA hval Ad
 obtain ⟨v0,vs0,d0,ds0,p0,q0,hargs,rfl,rfl,h0,r0⟩:=trodAll_cons hA
 obtain ⟨v1,vs1,d1,ds1,p1,q1,rfl,rfl,rfl,h1,r1⟩:=trodAll_cons r0
 obtain ⟨v2,CF,d2,ds2,p2,q2,rfl,rfl,rfl,h2,r2⟩:=trodAll_cons r1
 obtain ⟨v3,DO,d3,ds3,p3,q3,rfl,rfl,rfl,h3,r3⟩:=trodAll_cons r2
 obtain ⟨v4,vs4,d4,ds4,p4,q4,rfl,rfl,rfl,h4,r4⟩:=trodAll_cons r3
 obtain ⟨rfl,rfl,rfl⟩:=trodAll_nil r4
 obtain rfl:args=#[v0,v1,v2,v3,v4]:=by cases args;simp_all
 obtain ⟨rfl,rfl⟩:=trodVars_none hV
 have k0:=h0
 have lt0:∀x∈p0,x.block<W.heap.size:=by obtain ⟨m,hm⟩:=k0;exact DataW.trod_lt m _ _ _ hm
 have k1:=h1
 have lt1:∀x∈p1,x.block<W.heap.size:=by obtain ⟨m,hm⟩:=k1;exact DataW.trod_lt m _ _ _ hm
 have k2:=h2
 have lt2:∀x∈p2,x.block<W.heap.size:=by obtain ⟨m,hm⟩:=k2;exact DataW.trod_lt m _ _ _ hm
 have k3:=h3
 have lt3:∀x∈p3,x.block<W.heap.size:=by obtain ⟨m,hm⟩:=k3;exact DataW.trod_lt m _ _ _ hm
 have k4:=h4
 have lt4:∀x∈p4,x.block<W.heap.size:=by obtain ⟨m,hm⟩:=k4;exact DataW.trod_lt m _ _ _ hm
 obtain ⟨cs0,a0,rfl,⟨rfl,w0⟩,z0⟩:=ait Tryz.underlying30 Y3.afQ (hval 0 30 v0 rfl rfl) h0
 obtain ⟨a1,rfl,rfl,rfl,w1⟩:=open_int Tryz.underlying3 (hval 1 3 v1 rfl rfl) h1
 obtain ⟨a2,s2,b2,l2,y2⟩:=aer 1 rfl (by decide) Tryz.underlying31 (Oq 6 rfl YV.Ub) (hval 2 31 v2 rfl rfl) h2
 obtain ⟨a3,s3,b3,l3,y3⟩:=aer 1 rfl (by decide) Tryz.underlying31 (Oq 6 rfl YV.Ub) (hval 3 31 v3 rfl rfl) h3
 obtain ⟨a4,rfl,rfl,rfl,w4⟩:=open_int Tryz.underlying3 (hval 4 3 v4 rfl rfl) h4
 clear Cf aic
 simp only [List.append_nil,List.cons_append,List.nil_append,DataW.weightsEach,List.all_append,List.all_nil,Bool.and_eq_true,Bool.and_true] at Ad
 have y2:a2.length * 8<=140737488351232:=y2 _ Ad.2.2.1
 have y3:a3.length * 8<=140737488351232:=y3 _ Ad.2.2.2.1
 refine (Wk.ownCalls W a0 a1 v2 a2 v3 a3 a4 (Y3.XL.of w0 (agf W)) (aeo w1) s2 y2 s3 y3 (aeo w4) (Jg.apv hL)).calls.mono fun e W' ⟨v,he,hv,D2⟩=>?_
 subst hv
 subst he
 exact ⟨_,rfl,_,_,_,[],_,[],hW',trodAll_mk1 (shut_bool Tryz.underlying4 _),(trodAll_cons_mk (Below.trod Row.laidOut k_d (of_decide_eq_true k_d) k0 D2 lt0) (trodAll_cons_mk (Below.trod Row.laidOut k_d (of_decide_eq_true k_d) k1 D2 lt1) (trodAll_cons_mk (Below.trod Row.laidOut k_d (of_decide_eq_true k_d) k2 D2 lt2) (trodAll_cons_mk (Below.trod Row.laidOut k_d (of_decide_eq_true k_d) k3 D2 lt3) (trodAll_cons_mk (Below.trod Row.laidOut k_d (of_decide_eq_true k_d) k4 D2 lt4) trodAll_mk0))))),rfl,D2.frame _,fun h=>by cases h⟩
theorem over:Rows.ownCallsRow.holds Tryz.pinned (OpenSpec.ofChange Rows.ownCallsSpec) :=
 OpenClaim.holds_of_wide 5 Tryz.f5 rfl rfl rfl rfl rfl rfl rfl ⟨rfl,rfl,rfl,rfl,rfl⟩ rfl rfl rfl rfl rfl k_d Tryz.func5 closed
  (of_decide_eq_true k_d) (by unfold Func.isWrapper;first|(rw [if_pos (by decide +kernel)];kernel_rfl)|(rw [if_neg (by decide +kernel)];exact ⟨rfl,rfl⟩))
  (fun os started H enc _=>lifted os started H enc)
theorem proved:Rows.OwnCallsCardSaid :=
 Claim7.holds_tied_plain_at .later [] [.data,.data,.data,.pinned] true Rows.ownCallsCard.stood.harness false over (fun _ h=>by cases h) k_d (fun _ h=>by cases h) ownCalls_row_tie rfl ⟨rfl,rfl⟩ k_d rfl
  (fun f fn hf hfn=>by
   obtain rfl:f=5:=Option.some.inj ((show Tryz.prog.funcNamed "troupe/troupekeep.OwnCalls" = some 5 by kernel_rfl).symm.trans hf) |>.symm
   obtain rfl:fn=Tryz.f5:=(Option.some.inj (Tryz.func5.symm.trans hfn)).symm
   exact ⟨by kernel_rfl,fun j t ht=>by
    rw [Tryz.params5] at ht
    have hm:t∈[30,3,31,31,3]:=by simpa using Array.mem_of_getElem? ht
    have hall:([30,3,31,31,3].all fun u=>!Tryz.prog.wantsStandIn u)=true:=by kernel_rfl
    exact (show Tryz.prog.wantsStandIn t=false by simpa using lqb.1 hall t hm)⟩)
  k_d
#print axioms proved
end ownCalls
end Go.Proofs.YtakpnepblgfknaaGreatDoor
