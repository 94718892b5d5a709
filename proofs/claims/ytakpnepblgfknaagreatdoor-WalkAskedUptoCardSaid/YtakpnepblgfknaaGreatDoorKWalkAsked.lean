/-
  The law WalkAsked returns true for every input of bulk at most 1048576, and leaves all that was there as it was.
-/
import Derived.Test.YtakpnepblgfknaaGreatDoorK12
import Derived.Test.YtakpnepblgfknaaGreatDoorCards
import Derived.Test.YtakpnepblgfknaaGreatDoorK5
set_option linter.unusedVariables false
set_option linter.unusedSimpArgs false
set_option linter.defProp false
namespace Go.Proofs.YtakpnepblgfknaaGreatDoor
namespace walkAsked
open Go Go.ChangeShapes Go.WideShapes Go.ChangeAt Go.RowKit Y2
open Go.ChangeMaps (open_string shut_string)
set_option maxRecDepth 100000 in
theorem lifted (os:Os) (started:os.Started) (H:Type) (enc:TypeId × Value->H) (F0:Stop.Interp) :
  ReturnsInHanded {} Tryz.checked os 4 .any (fun w args=>((Rows.OpenSpec.upto Rows.walkAskedSpec).pre enc Tryz.prog Tryz.f4 [] false w args/\laidMetH Tryz.prog Kp.laid w)/\sizedMet enc Tryz.prog Tryz.f4 (Rows.OpenSpec.upto Rows.walkAskedSpec) false w args) (((Rows.OpenSpec.upto Rows.walkAskedSpec).at F0).post enc Tryz.prog Tryz.f4 false true false false):=by
 refine Kp.aaZ (C:=Tryz.checked) (s:=(Rows.OpenSpec.upto Rows.walkAskedSpec)) (k:=Rows.uptoSmall) (X:=(fun w _=>laidMetH Tryz.prog Kp.laid w)) rfl (fun _ _ _ hh h=>h.of_heap hh) Row.own started k_e Tryz.func4
  (Kp.aa0 (enc:=enc) (C:=Tryz.checked) (os:=os) (s:=(Rows.OpenSpec.upto Rows.walkAskedSpec)) (k:=Rows.uptoSmall) (X:=(fun w _=>laidMetH Tryz.prog Kp.laid w)) rfl false (World.laidAll Tryz.prog os Kp.laid) #[.agg #[.slice none 0 0,.slice none 0 0,.slice none 0 0,.int .i64 0,.int .i64 0,.int .i64 0,.slice none 0 0,.slice none 0 0,.int .i64 0,.slice none 0 0,.slice none 0 0],.int .i64 0,.slice none 0 0,.slice none 0 0,.slice none 0 0,.int .i64 0] 8 (World.laidAll_os _ _ _) (World.shaped_of_ZipB k_e k_e) k_e (x:=([.agg [.nil,.nil,.nil,.lit (.int .i64 0),.lit (.int .i64 0),.lit (.int .i64 0),.nil,.nil,.lit (.int .i64 0),.nil,.nil],.lit (.int .i64 0),.nil,.nil,.nil,.lit (.int .i64 0)],[],[])) k_e k_e k_e k_e (Kp.met os _)) ?_
 intro W base args ds gs before ahT hW aph hk hL hsh _ _
 have hval:∀(j:Nat) t v,Tryz.f4.params[j]?=some t->args[j]?=some v->Value.okWide Tryz.prog W .any base t v:=ahT
 have hW':=hW
 obtain ⟨p,q,CL,hV,rfl,hfz,hnd⟩:=hW
 have hA:DataW.TrodAll enc Tryz.prog W 0 (fun _=>true) true Tryz.f4.params.toList args.toList ds p:=CL
 rw [Tryz.params4] at hA hval
 obtain ⟨v0,vs0,d0,ds0,p0,q0,hargs,rfl,rfl,h0,r0⟩:=trodAll_cons hA
 obtain ⟨v1,vs1,d1,ds1,p1,q1,rfl,rfl,rfl,h1,r1⟩:=trodAll_cons r0
 obtain ⟨v2,Db,d2,ds2,p2,q2,rfl,rfl,rfl,h2,r2⟩:=trodAll_cons r1
 obtain ⟨v3,D9,d3,ds3,p3,q3,rfl,rfl,rfl,h3,r3⟩:=trodAll_cons r2
 obtain ⟨v4,vs4,d4,ds4,p4,q4,rfl,rfl,rfl,h4,r4⟩:=trodAll_cons r3
 obtain ⟨v5,vs5,d5,ds5,p5,q5,rfl,rfl,rfl,h5,r5⟩:=trodAll_cons r4
 obtain ⟨rfl,rfl,rfl⟩:=trodAll_nil r5
 obtain rfl:args=#[v0,v1,v2,v3,v4,v5]:=by cases args;simp_all
 obtain ⟨rfl,rfl⟩:=trodVars_none hV
 have k0:=h0
 have lt0:∀x∈p0,x.block<W.heap.size:=by obtain ⟨m,hm⟩:=k0;exact DataW.trod_lt m _ _ _ hm
 have k1:=h1
 have lt1:∀x∈p1,x.block<W.heap.size:=by obtain ⟨m,hm⟩:=k1;exact DataW.trod_lt m _ _ _ hm
 have k2:=h2
 have lt2:∀x∈p2,x.block<W.heap.size:=by obtain ⟨m,hm⟩:=k2;exact DataW.trod_lt m _ _ _ hm
 have k3:=h3
 have lt3:∀x∈p3,x.block<W.heap.size:=by obtain ⟨m,hm⟩:=k3;exact DataW.trod_lt m _ _ _ hm
 have k4:=h4
 have lt4:∀x∈p4,x.block<W.heap.size:=by obtain ⟨m,hm⟩:=k4;exact DataW.trod_lt m _ _ _ hm
 have k5:=h5
 have lt5:∀x∈p5,x.block<W.heap.size:=by obtain ⟨m,hm⟩:=k5;exact DataW.trod_lt m _ _ _ hm
 obtain ⟨cs0,a0,rfl,⟨rfl,w0⟩,z0⟩:=ah8 Tryz.underlying30 YS.afI (hval 0 30 v0 rfl rfl) h0
 obtain ⟨a1,rfl,rfl,rfl,w1⟩:=open_int Tryz.underlying3 (hval 1 3 v1 rfl rfl) h1
 obtain ⟨a2,s2,b2,l2,y2⟩:=Jd 1 rfl (by decide) Tryz.underlying31 (Q3 6 rfl YZ.UC) (hval 2 31 v2 rfl rfl) h2
 obtain ⟨a3,s3,b3,l3,y3⟩:=Jd 1 rfl (by decide) Tryz.underlying31 (Q3 6 rfl YZ.UC) (hval 3 31 v3 rfl rfl) h3
 obtain ⟨a4,s4,b4,l4,y4⟩:=Jd 1 rfl (by decide) Tryz.underlying31 (Q3 6 rfl YZ.UC) (hval 4 31 v4 rfl rfl) h4
 obtain ⟨a5,rfl,rfl,rfl,w5⟩:=open_int Tryz.underlying3 (hval 5 3 v5 rfl rfl) h5
 clear CL ahT
 have hk:=of_decide_eq_true hk
 simp only [List.append_nil,Rows.uptoBulkAll,Rows.uptoBulk] at hk
 refine (Wk.walkAsked W a0 a1 v2 a2 v3 a3 v4 a4 a5 (YS.Xu.of w0 (af6 W)) (aem w1) s2 (by omega:a2.length<=1048576) s3 (by omega:a3.length<=1048576) s4 (by omega:a4.length<=1048576) (aem w5) (Kp.aoI hL)).calls.mono fun e W' ⟨v,he,hv,FG⟩=>?_
 subst hv
 subst he
 exact ⟨_,rfl,_,_,_,[],_,[],hW',trodAll_mk1 (shut_bool Tryz.underlying4 _),(trodAll_cons_mk (Below.trod Row.laidOut k_e (of_decide_eq_true k_e) k0 FG lt0) (trodAll_cons_mk (Below.trod Row.laidOut k_e (of_decide_eq_true k_e) k1 FG lt1) (trodAll_cons_mk (Below.trod Row.laidOut k_e (of_decide_eq_true k_e) k2 FG lt2) (trodAll_cons_mk (Below.trod Row.laidOut k_e (of_decide_eq_true k_e) k3 FG lt3) (trodAll_cons_mk (Below.trod Row.laidOut k_e (of_decide_eq_true k_e) k4 FG lt4) (trodAll_cons_mk (Below.trod Row.laidOut k_e (of_decide_eq_true k_e) k5 FG lt5) trodAll_mk0)))))),rfl,FG.frame _,fun h=>by cases h⟩
theorem over:Rows.walkAskedUptoRow.holds Tryz.pinned (Rows.OpenSpec.upto Rows.walkAskedSpec) :=
 OpenClaim.holds_of_cond 4 Tryz.f4 rfl rfl rfl rfl rfl rfl rfl ⟨rfl,rfl,rfl,rfl,rfl⟩ rfl rfl rfl rfl rfl k_e Tryz.func4 closed
  (of_decide_eq_true k_e) (by unfold Func.isWrapper;first|(rw [if_pos (by decide +kernel)];kernel_rfl)|(rw [if_neg (by decide +kernel)];exact ⟨rfl,rfl⟩))
  (fun os started H enc _ F0=>lifted os started H enc F0)
theorem proved:Rows.WalkAskedUptoCardSaid :=
 Claim7.holds_tied_plain_at .later [] [.data,.data,.data,.pinned] true Rows.walkAskedUptoCard.stood.harness false over (fun _ h=>by cases h) k_e (fun _ h=>by cases h) walkAskedUpto_row_tie rfl ⟨rfl,rfl⟩ k_e rfl
  (fun f fn hf hfn=>by
   obtain rfl:f=4:=Option.some.inj ((show Tryz.prog.funcNamed "troupe/troupekeep.WalkAsked" = some 4 by kernel_rfl).symm.trans hf) |>.symm
   obtain rfl:fn=Tryz.f4:=(Option.some.inj (Tryz.func4.symm.trans hfn)).symm
   exact ⟨by kernel_rfl,fun j t ht=>by
    rw [Tryz.params4] at ht
    have hm:t∈[30,3,31,31,31,3]:=by simpa using Array.mem_of_getElem? ht
    have hall:([30,3,31,31,31,3].all fun u=>!Tryz.prog.wantsStandIn u)=true:=by kernel_rfl
    exact (show Tryz.prog.wantsStandIn t=false by simpa using ltb.1 hall t hm)⟩)
  k_e
#print axioms proved
end walkAsked
end Go.Proofs.YtakpnepblgfknaaGreatDoor
