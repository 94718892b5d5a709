/-
  The law ShotGoes returns true for every input, and leaves all that was there as it was.
-/
import Derived.Test.YtakpnepblgfknaaGreatDoorC12
import Derived.Test.YtakpnepblgfknaaGreatDoorC5
set_option linter.unusedVariables false
set_option linter.unusedSimpArgs false
set_option linter.defProp false
namespace Go.Proofs.YtakpnepblgfknaaGreatDoor
namespace shotGoes
open Go Go.ChangeShapes Go.WideShapes Go.ChangeAt Go.RowKit YX
open Go.ChangeMaps (open_string shut_string)
set_option maxRecDepth 100000 in
theorem lifted (os:Os) (started:os.Started) (H:Type) (enc:TypeId × Value->H) :
  ReturnsInHanded {} Tryz.checked os 13 .any (fun w args=>(Rows.shotGoesSpec.pre enc Tryz.prog Tryz.f13 [] false w args/\laidMetH Tryz.prog I8.laid w)/\sizedMet enc Tryz.prog Tryz.f13 (OpenSpec.ofChange Rows.shotGoesSpec) false w args) (Rows.shotGoesSpec.post enc Tryz.prog Tryz.f13 false true false false):=by
 refine I8.aaw (C:=Tryz.checked) (X:=(fun w _=>laidMetH Tryz.prog I8.laid w)) (fun _ _ _ hh h=>h.of_heap hh) Row.own started k_d Tryz.func13
  (ChangeSpec.witness_shaped (enc:=enc) (C:=Tryz.checked) (os:=os) (X:=(fun w _=>laidMetH Tryz.prog I8.laid w)) false (World.laidAll Tryz.prog os I8.laid) #[.agg #[.slice none 0 0,.slice none 0 0,.slice none 0 0,.int .i64 0,.int .i64 0,.int .i64 0,.slice none 0 0,.slice none 0 0,.int .i64 0,.slice none 0 0,.slice none 0 0],.int .i64 0,.slice none 0 0,.slice none 0 0,.int .i64 0,.int .i64 0] 8 (World.laidAll_os _ _ _) (World.shaped_of_ZipB k_d k_d) k_d k_d k_d (I8.met os _)) ?_
 intro W base args ds gs before ai2 hW apS _ hL hsh _
 have hval:∀(j:Nat) t v,Tryz.f13.params[j]?=some t->args[j]?=some v->Value.okWide Tryz.prog W .any base t v:=ai2
 have hW':=hW
 obtain ⟨p,q,Ch,hV,rfl,hfz,hnd⟩:=hW
 have hA:DataW.TrodAll enc Tryz.prog W 0 (fun _=>true) true Tryz.f13.params.toList args.toList ds p:=Ch
 rw [Tryz.params13] at hA hval
 obtain ⟨v0,vs0,d0,ds0,p0,q0,hargs,rfl,rfl,h0,r0⟩:=trodAll_cons hA
 obtain ⟨v1,DP,d1,ds1,p1,q1,rfl,rfl,rfl,h1,r1⟩:=trodAll_cons r0
 obtain ⟨v2,vs2,d2,ds2,p2,q2,rfl,rfl,rfl,h2,r2⟩:=trodAll_cons r1
 obtain ⟨v3,vs3,d3,ds3,p3,q3,rfl,rfl,rfl,h3,r3⟩:=trodAll_cons r2
 obtain ⟨v4,vs4,d4,ds4,p4,q4,rfl,rfl,rfl,h4,r4⟩:=trodAll_cons r3
 obtain ⟨v5,vs5,d5,ds5,p5,q5,rfl,rfl,rfl,h5,r5⟩:=trodAll_cons r4
 obtain ⟨rfl,rfl,rfl⟩:=trodAll_nil r5
 obtain rfl:args=#[v0,v1,v2,v3,v4,v5]:=by cases args;simp_all
 obtain ⟨rfl,rfl⟩:=trodVars_none hV
 have k0:=h0
 have lt0:∀x∈p0,x.block<W.heap.size:=by obtain ⟨m,hm⟩:=k0;exact DataW.trod_lt m _ _ _ hm
 have k1:=h1
 have lt1:∀x∈p1,x.block<W.heap.size:=by obtain ⟨m,hm⟩:=k1;exact DataW.trod_lt m _ _ _ hm
 have k2:=h2
 have lt2:∀x∈p2,x.block<W.heap.size:=by obtain ⟨m,hm⟩:=k2;exact DataW.trod_lt m _ _ _ hm
 have k3:=h3
 have lt3:∀x∈p3,x.block<W.heap.size:=by obtain ⟨m,hm⟩:=k3;exact DataW.trod_lt m _ _ _ hm
 have k4:=h4
 have lt4:∀x∈p4,x.block<W.heap.size:=by obtain ⟨m,hm⟩:=k4;exact DataW.trod_lt m _ _ _ hm
 have k5:=h5
 have lt5:∀x∈p5,x.block<W.heap.size:=by obtain ⟨m,hm⟩:=k5;exact DataW.trod_lt m _ _ _ hm
 obtain ⟨cs0,a0,rfl,⟨rfl,w0⟩,z0⟩:=ajg Tryz.underlying30 YO.agv (hval 0 30 v0 rfl rfl) h0
 obtain ⟨a1,rfl,rfl,rfl,w1⟩:=open_int Tryz.underlying3 (hval 1 3 v1 rfl rfl) h1
 obtain ⟨a2,s2,b2,l2,y2⟩:=aeR 1 rfl (by decide) Tryz.underlying31 (On 6 rfl YQ.Uf) (hval 2 31 v2 rfl rfl) h2
 obtain ⟨a3,s3,b3,l3,y3⟩:=aeR 1 rfl (by decide) Tryz.underlying31 (On 6 rfl YQ.Uf) (hval 3 31 v3 rfl rfl) h3
 obtain ⟨a4,rfl,rfl,rfl,w4⟩:=open_int Tryz.underlying3 (hval 4 3 v4 rfl rfl) h4
 obtain ⟨a5,rfl,rfl,rfl,w5⟩:=open_int Tryz.underlying3 (hval 5 3 v5 rfl rfl) h5
 clear Ch ai2
 refine (Rn.shotGoes W a0 a1 v2 a2 v3 a3 a4 a5 (YO.XH.of w0 (agV W)) (IK w1) s2 s3 (IK w4) (IK w5) (I8.apd hL)).calls.mono fun e W' ⟨v,he,hv,ET⟩=>?_
 subst hv
 subst he
 exact ⟨_,rfl,_,_,_,[],_,[],hW',trodAll_mk1 (shut_bool Tryz.underlying4 _),(trodAll_cons_mk (Below.trod Row.laidOut k_d (of_decide_eq_true k_d) k0 ET lt0) (trodAll_cons_mk (Below.trod Row.laidOut k_d (of_decide_eq_true k_d) k1 ET lt1) (trodAll_cons_mk (Below.trod Row.laidOut k_d (of_decide_eq_true k_d) k2 ET lt2) (trodAll_cons_mk (Below.trod Row.laidOut k_d (of_decide_eq_true k_d) k3 ET lt3) (trodAll_cons_mk (Below.trod Row.laidOut k_d (of_decide_eq_true k_d) k4 ET lt4) (trodAll_cons_mk (Below.trod Row.laidOut k_d (of_decide_eq_true k_d) k5 ET lt5) trodAll_mk0)))))),rfl,ET.frame _,fun h=>by cases h⟩
theorem over:Rows.shotGoesRow.holds Tryz.pinned (OpenSpec.ofChange Rows.shotGoesSpec) :=
 OpenClaim.holds_of_wide 13 Tryz.f13 rfl rfl rfl rfl rfl rfl rfl ⟨rfl,rfl,rfl,rfl,rfl⟩ rfl rfl rfl rfl rfl k_d Tryz.func13 closed
  (of_decide_eq_true k_d) (by unfold Func.isWrapper;first|(rw [if_pos (by decide +kernel)];kernel_rfl)|(rw [if_neg (by decide +kernel)];exact ⟨rfl,rfl⟩))
  (fun os started H enc _=>lifted os started H enc)
theorem proved:Rows.ShotGoesCardSaid :=
 Claim7.holds_tied_plain_at .later [] [.data,.data,.data,.pinned] true Rows.shotGoesCard.stood.harness false over (fun _ h=>by cases h) k_d (fun _ h=>by cases h) shotGoes_row_tie rfl ⟨rfl,rfl⟩ k_d rfl
  (fun f fn hf hfn=>by
   obtain rfl:f=13:=Option.some.inj ((show Tryz.prog.funcNamed "troupe/troupekeep.ShotGoes" = some 13 by kernel_rfl).symm.trans hf) |>.symm
   obtain rfl:fn=Tryz.f13:=(Option.some.inj (Tryz.func13.symm.trans hfn)).symm
   exact ⟨by kernel_rfl,fun j t ht=>by
    rw [Tryz.params13] at ht
    have hm:t∈[30,3,31,31,3,3]:=by simpa using Array.mem_of_getElem? ht
    have hall:([30,3,31,31,3,3].all fun u=>!Tryz.prog.wantsStandIn u)=true:=by kernel_rfl
    exact (show Tryz.prog.wantsStandIn t=false by simpa using lDb.1 hall t hm)⟩)
  k_d
#print axioms proved
end shotGoes
end Go.Proofs.YtakpnepblgfknaaGreatDoor
