import Derived.Test.YtakpnepblgfknaaGreatDoorJ1
import Derived.Lib.AppendStr
import Derived.Laws.IdiomStrings
import Derived.Lib.ConvBytes
import Derived.Lib.AtoiErrMem
import Derived.Test.YtakpnepblgfknaaGreatDoorRows
import Derived.Lib.ValidLaws
import Derived.WalkKit
import Derived.ProofKit
import Derived.JoinedCond
import Derived.OpenShut
import Derived.ShutString
import Derived.ChangeOld
import Derived.ChangeArms
set_option linter.unusedVariables false
set_option linter.unusedSimpArgs false
set_option maxRecDepth 100000
set_option maxHeartbeats 4000000
set_option linter.defProp false
namespace Go.Proofs.YtakpnepblgfknaaGreatDoor
namespace YY
open Go Go.RowKit
abbrev yq:=Go.Proofs.YtakpnepblgfknaaGreatDoor.YY.Fc Go.Proofs.Tryz.prog
section
variable {P:Program} {ops:Array Oper} {Q:Exit->Act->World->Prop} {md:Region.Mode} {S:World->Prop} {Z:Nat->Bool}
def RA (P:Program) (md:Region.Mode) (ops:Array Oper) (Q:Exit->Act->World->Prop) (S:World->Prop) (Z:Nat->Bool):Nat->Array Bool->Act->World->Prop
 | 0,listed,a,w=>Region.ready md ops listed=[]/\Q .normal a w
 | fuel+1,listed,a,w=>(Region.ready md ops listed=[]->Q .normal a w) /\
   ∀i∈Region.ready md ops listed,wpOp P ops Q i (fun a' w'=>(Z i=true\/(S w->S w'))/\RA P md ops Q S Z fuel (listed.setIfInBounds i true) a' w') a w
theorem abf:∀(fuel:Nat) (listed:Array Bool) (a:Act) (w:World),RA P md ops Q S Z fuel listed a w->wpAny P md ops Q fuel listed a w:=by
 intro fuel
 induction fuel with
 | zero=>exact fun _ _ _ h=>h
 | succ f ih=>exact fun _ _ _ h=>⟨h.1,fun i hi=>wpOp_mono (fun a' w' k=>ih _ a' w' k.2) (h.2 i hi)⟩
def Cl (md:Region.Mode) (ops:Array Oper) (listed:Array Bool):Prop:=∀(k:Nat) (ok:Oper),ops[k]?=some ok->listed.getD k false=true->∀e∈ok.after,Region.binds md e=true->listed.getD e.on false=true
inductive Pre (md:Region.Mode) (ops:Array Oper):Nat->Nat->Prop
 | one {j i:Nat} {oj:Oper} (hj:ops[j]?=some oj) {e:Edge} (he:e∈oj.after) (hb:Region.binds md e=true) (hi:e.on=i):Pre md ops j i
 | more {j i:Nat} {oj:Oper} (hj:ops[j]?=some oj) {e:Edge} (he:e∈oj.after) (hb:Region.binds md e=true) (hi:Pre md ops e.on i):Pre md ops j i
theorem Pre.trans {a b c:Nat} (h:Pre md ops a b) (k:Pre md ops b c):Pre md ops a c:=by
 induction h with
 | one hj he hb hi=>subst hi;exact .more hj he hb k
 | more hj he hb _ ih=>exact .more hj he hb (ih k)
theorem Cl.pre {listed:Array Bool} (hc:Cl md ops listed) {j i:Nat} (h:Pre md ops j i) (hl:listed.getD j false=true):listed.getD i false=true:=by
 induction h with
 | one hj he hb hi=>subst hi;exact hc _ _ hj hl _ he hb
 | more hj he hb _ ih=>exact ih (hc _ _ hj hl _ he hb)
theorem Cl.ready {listed:Array Bool} (hc:Cl md ops listed) {j i:Nat} (h:Pre md ops j i) (hr:j∈Region.ready md ops listed):listed.getD i false=true:=by
 obtain ⟨_,oj,Mm,hall⟩:=mem_ready.1 hr
 cases h with
 | one hj he hb hi=>subst hi;rw [hj] at Mm;obtain rfl:=yq6 Mm;exact hall _ he hb
 | more hj he hb hp=>rw [hj] at Mm;obtain rfl:=yq6 Mm;exact hc.pre hp (hall _ he hb)
theorem Cl.step {listed:Array Bool} (hc:Cl md ops listed) {j:Nat} (hr:j∈Region.ready md ops listed):Cl md ops (listed.setIfInBounds j true):=by
 obtain ⟨_,oj,Mm,hall⟩:=mem_ready.1 hr
 have up:∀k,listed.getD k false=true->(listed.setIfInBounds j true).getD k false=true:=fun k hk=>by
  simp only [Array.getD_eq_getD_getElem?] at hk ⊢
  rw [Array.getElem?_setIfInBounds]
  split
  .grind
  .omega
 intro k ok hk hl e he hb
 by_cases h:j=k
 .grind
 .refine up _ (hc k ok hk ?_ e he hb)
  simp only [Array.getD_eq_getD_getElem?] at hl ⊢
  rw [Array.getElem?_setIfInBounds,if_neg h] at hl;exact hl
theorem Cl.start (n:Nat):Cl md ops (Array.replicate n false):=fun k ok _ hl=>by
 simp only [Array.getD_eq_getD_getElem?,Array.getElem?_replicate] at hl
 split at hl <;> cases hl
theorem aaq {i:Nat} {oi:Oper} {v:Value} (hi:ops[i]?=some oi) (hsel:∀(j:Nat) (o:Oper) cs b,ops[j]?=some o->o.op≠.select cs b)
  (hQ:∀c a w,Q (.panic c) (a.put oi.dst v) w->Q (.panic c) a w) (hz:∀j oj,ops[j]?=some oj->Z j=true->Pre md ops j i) :
  ∀(fuel:Nat) (listed:Array Bool) (a:Act) (w:World),Cl md ops listed ->
   (∀j oj,ops[j]?=some oj->j≠i->listed.getD j true=false->(∀e∈oj.after,Region.binds md e=true->e.on≠i)->oi.apart ops oj=true) ->
   i∈Region.ready md ops listed->YieldsIf P ops S oi v a->S w ->
   RA P md ops Q S Z fuel (listed.setIfInBounds i true) (a.put oi.dst v) w->RA P md ops Q S Z (fuel+1) listed a w:=by
 intro fuel
 induction fuel with
 | zero =>
  intro listed a w _ _ hr hy hS H
  refine ⟨fun h=>absurd (h ▸ hr) (lSb),fun j hj=>?_⟩
  rcases Nat.decEq j i with hji|hji
  .exact absurd (H.1 ▸ ready_mono hj hji) (lSb)
  .subst hji;exact hy.wpOp hi hS ⟨.inr id,H⟩
 | succ fuel ih =>
  intro listed a w SA hfree hr hy hS H
  refine ⟨fun h=>absurd (h ▸ hr) (lSb),fun j hj=>?_⟩
  rcases Nat.decEq j i with hji|hji
  .have h1:=H.2 j (ready_mono hj hji)
   obtain ⟨Dz,oj,Mm,hall⟩:=mem_ready.1 hj
   have HC:=(mem_ready.1 hr).1
   have hnot:∀e∈oj.after,Region.binds md e=true->e.on≠i:=fun e he hb heq=>by grind
   have hZ:Z j≠true:=fun hzj=>by
    have h2:=SA.ready (hz j oj Mm hzj) hj
    simp only [Array.getD_eq_getD_getElem?] at h2 HC
    cases hx:listed[i]? with
    | none=>rw [hx] at h2;simp at h2
    | some b=>rw [hx] at h2 HC;simp at h2 HC;rw [h2] at HC;cases HC
   have h2:=wpOp_putIf Mm (hfree j oj Mm hji Dz hnot) (fun cs b=>hsel i oi cs b hi) (fun cs b=>hsel j oj cs b Mm) hQ hy h1
   refine wpOp_mono (fun a' w' h3=>?_) h2
   have hSw:S w':=h3.2.1.resolve_left hZ hS
   refine ⟨.inr fun _=>hSw,ih (listed.setIfInBounds j true) a' w' (SA.step hj) (fun k ok hk hki hun hno=>hfree k ok hk hki ?_ hno) (ready_mono hr (Ne.symm hji)) h3.1 hSw ?_⟩
   .rcases Nat.decEq j k with h|h
    .rw [getD_set_ne true h] at hun;exact hun
    .grind
   .rw [Array.setIfInBounds_comm _ _ hji];exact h3.2.2
  .subst hji;exact hy.wpOp hi hS ⟨.inr id,H⟩
theorem aaC {i:Nat} {oi:Oper} {v:Value} (hi:ops[i]?=some oi) (hsel:∀(j:Nat) (o:Oper) cs b,ops[j]?=some o->o.op≠.select cs b)
  (hQ:∀c a w,Q (.panic c) (a.put oi.dst v) w->Q (.panic c) a w) :
  ∀(fuel:Nat) (listed:Array Bool) (a:Act) (w:World),
   (∀j oj,ops[j]?=some oj->j≠i->listed.getD j true=false->(∀e∈oj.after,Region.binds md e=true->e.on≠i)->oi.apart ops oj=true) ->
   i∈Region.ready md ops listed->YieldsIf P ops (fun _=>True) oi v a ->
   RA P md ops Q S Z fuel (listed.setIfInBounds i true) (a.put oi.dst v) w->RA P md ops Q S Z (fuel+1) listed a w:=by
 intro fuel
 induction fuel with
 | zero =>
  intro listed a w _ hr hy H
  refine ⟨fun h=>absurd (h ▸ hr) (lSb),fun j hj=>?_⟩
  rcases Nat.decEq j i with hji|hji
  .exact absurd (H.1 ▸ ready_mono hj hji) (lSb)
  .subst hji;exact hy.wpOp hi trivial ⟨.inr id,H⟩
 | succ fuel ih =>
  intro listed a w hfree hr hy H
  refine ⟨fun h=>absurd (h ▸ hr) (lSb),fun j hj=>?_⟩
  rcases Nat.decEq j i with hji|hji
  .have h1:=H.2 j (ready_mono hj hji)
   obtain ⟨Dz,oj,Mm,hall⟩:=mem_ready.1 hj
   have HC:=(mem_ready.1 hr).1
   have hnot:∀e∈oj.after,Region.binds md e=true->e.on≠i:=fun e he hb heq=>by grind
   have h2:=wpOp_putIf Mm (hfree j oj Mm hji Dz hnot) (fun cs b=>hsel i oi cs b hi) (fun cs b=>hsel j oj cs b Mm) hQ hy h1
   refine wpOp_mono (fun a' w' h3=>?_) h2
   refine ⟨h3.2.1,ih (listed.setIfInBounds j true) a' w' (fun k ok hk hki hun hno=>hfree k ok hk hki ?_ hno) (ready_mono hr (Ne.symm hji)) h3.1 ?_⟩
   .rcases Nat.decEq j k with h|h
    .rw [getD_set_ne true h] at hun;exact hun
    .grind
   .rw [Array.setIfInBounds_comm _ _ hji];exact h3.2.2
  .subst hji;exact hy.wpOp hi trivial ⟨.inr id,H⟩
end
inductive Kd where
 | pure
 | held
 | forced
 | free
abbrev yJh0:Nat×Kd:=(0,.held)
abbrev yJp0:Nat×Kd:=(0,.pure)
abbrev yJf1:Nat×Kd:=(1,.forced)
abbrev yJh1:Nat×Kd:=(1,.held)
abbrev yJp1:Nat×Kd:=(1,.pure)
abbrev yJf2:Nat×Kd:=(2,.forced)
abbrev yJh2:Nat×Kd:=(2,.held)
abbrev yJp2:Nat×Kd:=(2,.pure)
abbrev yJf3:Nat×Kd:=(3,.forced)
abbrev yJh3:Nat×Kd:=(3,.held)
abbrev yJp3:Nat×Kd:=(3,.pure)
abbrev yJf4:Nat×Kd:=(4,.forced)
abbrev yJh4:Nat×Kd:=(4,.held)
abbrev yJp4:Nat×Kd:=(4,.pure)
abbrev yJf5:Nat×Kd:=(5,.forced)
abbrev yJfr5:Nat×Kd:=(5,.free)
abbrev yJh5:Nat×Kd:=(5,.held)
abbrev yJp5:Nat×Kd:=(5,.pure)
abbrev yJf6:Nat×Kd:=(6,.forced)
abbrev yJfr6:Nat×Kd:=(6,.free)
abbrev yJh6:Nat×Kd:=(6,.held)
abbrev yJp6:Nat×Kd:=(6,.pure)
abbrev yJf7:Nat×Kd:=(7,.forced)
abbrev yJfr7:Nat×Kd:=(7,.free)
abbrev yJh7:Nat×Kd:=(7,.held)
abbrev yJp7:Nat×Kd:=(7,.pure)
abbrev yJf8:Nat×Kd:=(8,.forced)
abbrev yJfr8:Nat×Kd:=(8,.free)
abbrev yJh8:Nat×Kd:=(8,.held)
abbrev yJp8:Nat×Kd:=(8,.pure)
abbrev yJf9:Nat×Kd:=(9,.forced)
abbrev yJfr9:Nat×Kd:=(9,.free)
abbrev yJh9:Nat×Kd:=(9,.held)
abbrev yJp9:Nat×Kd:=(9,.pure)
abbrev yJf10:Nat×Kd:=(10,.forced)
abbrev yJfr10:Nat×Kd:=(10,.free)
abbrev yJh10:Nat×Kd:=(10,.held)
abbrev yJp10:Nat×Kd:=(10,.pure)
abbrev yJf11:Nat×Kd:=(11,.forced)
abbrev yJfr11:Nat×Kd:=(11,.free)
abbrev yJh11:Nat×Kd:=(11,.held)
abbrev yJp11:Nat×Kd:=(11,.pure)
abbrev yJfr12:Nat×Kd:=(12,.free)
abbrev yJh12:Nat×Kd:=(12,.held)
abbrev yJp12:Nat×Kd:=(12,.pure)
abbrev yJfr13:Nat×Kd:=(13,.free)
abbrev yJh13:Nat×Kd:=(13,.held)
abbrev yJp13:Nat×Kd:=(13,.pure)
abbrev yJf14:Nat×Kd:=(14,.forced)
abbrev yJfr14:Nat×Kd:=(14,.free)
abbrev yJp14:Nat×Kd:=(14,.pure)
abbrev yJf15:Nat×Kd:=(15,.forced)
abbrev yJfr15:Nat×Kd:=(15,.free)
abbrev yJh15:Nat×Kd:=(15,.held)
abbrev yJp15:Nat×Kd:=(15,.pure)
abbrev yJfr16:Nat×Kd:=(16,.free)
abbrev yJh16:Nat×Kd:=(16,.held)
abbrev yJp16:Nat×Kd:=(16,.pure)
abbrev yJf17:Nat×Kd:=(17,.forced)
abbrev yJfr17:Nat×Kd:=(17,.free)
abbrev yJp17:Nat×Kd:=(17,.pure)
abbrev yJfr18:Nat×Kd:=(18,.free)
abbrev yJh18:Nat×Kd:=(18,.held)
abbrev yJp18:Nat×Kd:=(18,.pure)
abbrev yJfr19:Nat×Kd:=(19,.free)
abbrev yJp19:Nat×Kd:=(19,.pure)
abbrev yJh20:Nat×Kd:=(20,.held)
abbrev yJp20:Nat×Kd:=(20,.pure)
abbrev yJf21:Nat×Kd:=(21,.forced)
abbrev yJfr21:Nat×Kd:=(21,.free)
abbrev yJp21:Nat×Kd:=(21,.pure)
abbrev yJfr22:Nat×Kd:=(22,.free)
abbrev yJh22:Nat×Kd:=(22,.held)
abbrev yJfr23:Nat×Kd:=(23,.free)
abbrev yJp23:Nat×Kd:=(23,.pure)
abbrev yJp24:Nat×Kd:=(24,.pure)
abbrev yJfr25:Nat×Kd:=(25,.free)
def Uo (P:Program) (ops:List Oper) (S:World->Prop) (K:ym->World->Prop) (plan:List (Nat × Kd)):Bool->ym->World->Prop :=
 List.rec (motive:=fun _=>Bool->ym->World->Prop) (fun _=>K) (fun i _ ih live ρ w=>match ops[i.1]? with
  | none=>False
  | some o=>match i.2 with
   | .pure=>XY ops o.guard ρ fun b ρ=>match b with
    | true=>Hf P (fun _=>True) o ρ fun v=>Xt ρ o.dst v fun ρ=>ih live ρ w
    | false=>Xt ρ o.dst undef fun ρ=>ih live ρ w
   | .held=>match live with
    | true=>XY ops o.guard ρ fun b ρ=>match b with
     | true=>Hf P S o ρ fun v=>Xt ρ o.dst v fun ρ=>ih true ρ w
     | false=>Xt ρ o.dst undef fun ρ=>ih true ρ w
    | false=>False
   | .forced=>match live with
    | true=>XY ops o.guard ρ fun b ρ=>match b with
     | true=>Ll P o ρ w fun v w'=>Ze (S w') (Xt ρ o.dst v fun ρ=>ih true ρ w')
     | false=>Xt ρ o.dst undef fun ρ=>ih true ρ w
    | false=>False
   | .free=>XY ops o.guard ρ fun b ρ=>match b with
    | true=>Ll P o ρ w fun v w'=>Xt ρ o.dst v fun ρ=>ih false ρ w'
    | false=>Xt ρ o.dst undef fun ρ=>ih false ρ w) plan
theorem aci (P:Program) (ops:List Oper) (S:World->Prop) (K:ym->World->Prop) (i:Nat × Kd) (r:List (Nat × Kd)) (live:Bool) (ρ:ym) (w:World) :
  Uo P ops S K (i::r) live ρ w=match ops[i.1]? with
  | none=>False
  | some o=>match i.2 with
   | .pure=>XY ops o.guard ρ fun b ρ=>match b with
    | true=>Hf P (fun _=>True) o ρ fun v=>Xt ρ o.dst v fun ρ=>Uo P ops S K r live ρ w
    | false=>Xt ρ o.dst undef fun ρ=>Uo P ops S K r live ρ w
   | .held=>match live with
    | true=>XY ops o.guard ρ fun b ρ=>match b with
     | true=>Hf P S o ρ fun v=>Xt ρ o.dst v fun ρ=>Uo P ops S K r true ρ w
     | false=>Xt ρ o.dst undef fun ρ=>Uo P ops S K r true ρ w
    | false=>False
   | .forced=>match live with
    | true=>XY ops o.guard ρ fun b ρ=>match b with
     | true=>Ll P o ρ w fun v w'=>Ze (S w') (Xt ρ o.dst v fun ρ=>Uo P ops S K r true ρ w')
     | false=>Xt ρ o.dst undef fun ρ=>Uo P ops S K r true ρ w
    | false=>False
   | .free=>XY ops o.guard ρ fun b ρ=>match b with
    | true=>Ll P o ρ w fun v w'=>Xt ρ o.dst v fun ρ=>Uo P ops S K r false ρ w'
    | false=>Xt ρ o.dst undef fun ρ=>Uo P ops S K r false ρ w:=rfl
def Fe:Kd->Bool
 | .pure=>true
 | .held=>true
 | .forced=>false
 | .free=>false
def D3 (plan:List (Nat × Kd)):List (Nat × Bool):=plan.map fun p=>(p.1,Fe p.2)
def IZ (plan:List (Nat × Kd)):List Nat:=plan.filterMap fun p=>match p.2 with
 | .held=>some p.1
 | _=>none
def Lc (plan:List (Nat × Kd)):List Nat:=plan.filterMap fun p=>match p.2 with
 | .free=>some p.1
 | _=>none
def reach (ops:List (Oper × Nat)) (m:Nat):Nat:=ops.foldl (fun m p=>match I0 m p.2 with
 | true=>Nat.lor m (T3 p.1)
 | false=>m) m
theorem acj {ops:Array Oper} {z:Nat}:∀(l:List (Oper × Nat)) (m:Nat),(∀p∈l,ops[p.2]?=some p.1)->(∀i,m.testBit i=true->Pre .any ops z i)->∀i,(reach l m).testBit i=true->Pre .any ops z i:=by
 intro l
 induction l with
 | nil=>exact fun m _ h=>h
 | cons p l ih =>
  intro m hl h
  refine ih _ (fun q hq=>hl q (lkb _ hq)) fun i hi=>?_
  dsimp only at hi
  cases hb:I0 m p.2 with
  | false=>rw [hb] at hi;exact h i hi
  | true =>
   rw [hb] at hi
   have hi:(m ||| T3 p.1).testBit i=true:=hi
   rw [lAb,Bool.or_eq_true] at hi
   rcases hi with hi|hi
   .grind
   .obtain ⟨e,he,Qj,BM⟩:=(Vc p.1 i).1 hi
    exact (h p.2 (by grind [TH])).trans (.one (hl p (lmb ..)) he Qj BM)
def BL (ops:Array Oper) (V7 zs:List Nat):Bool:=zs.all fun z=>match ops[z]? with
 | none=>false
 | some o=>Nat.beq (Nat.land (VP V7) (T3 o)) (VP V7) || Nat.beq (Nat.land (VP V7) (reach ops.toList.zipIdx.reverse (T3 o))) (VP V7)
theorem Nd {ops:Array Oper} {V7 zs:List Nat} (h:BL ops V7 zs=true) {i:Nat} (hi:i∈V7):∀j oj,ops[j]?=some oj->zs.contains j=true->Pre .any ops j i:=by
 intro j oj hj hz
 have h1:=lqb.1 h j (by grind)
 rw [hj] at h1
 rw [Bool.or_eq_true] at h1
 have d:∀k,(T3 oj).testBit k=true->Pre .any ops j k:=fun k hk=>by
  obtain ⟨e,he,hb,BM⟩:=(Vc oj k).1 hk
  exact .one hj he hb BM
 rcases h1 with h1|h1
 .exact d i (PD h1 i ((Uz V7 i).2 hi))
 .refine acj ops.toList.zipIdx.reverse (T3 oj) (fun p hp=>?_) d i (PD h1 i ((Uz V7 i).2 hi))
  have hp2:=List.mem_reverse.1 hp
  have:=List.mem_zipIdx' hp2
  rw [<-lTa]
  rw [lba]
  exact ⟨this.1,this.2.symm⟩
section
variable {P:Program} {ops:Array Oper} {S:World->Prop} {K:ym->World->Prop} {ρ0:ym} {Z:Nat->Bool} {ds:List Deferred}
theorem abg (hs:Region.noSelect ops=true) (plan:List (Nat × Kd)):∀(fuel:Nat) (listed:Array Bool) (live:Bool) (ρ:ym) (w:World),plan.length<=fuel ->
  (∀i,(i,Kd.held)∈plan->∀j oj,ops[j]?=some oj->Z j=true->Pre .any ops j i) ->
  (∀i,(i,Kd.free)∈plan->Z i=true) ->
  OB ops (D3 plan) listed=true->(live=true->S w)->agree (Yt ops.toList) ρ0 ρ ->
  Cl .any ops listed->Uo P ops.toList S K plan live ρ w->RA P .any ops (fun e a w'=>e=.normal/\a.defers=ds/\agree (Yt ops.toList) ρ0 a.tmps.toList/\K a.tmps.toList w') S Z fuel listed ⟨ρ.toArray,ds⟩ w:=by
 induction plan with
 | nil =>
  intro fuel listed live ρ w _ _ _ hok _ hag _ h
  have hr:=List.isEmpty_iff.1 hok
  cases fuel with
  | zero=>exact ⟨hr,rfl,rfl,hag,h⟩
  | succ f=>exact ⟨fun _=>⟨rfl,rfl,hag,h⟩,by rw [hr];simp⟩
 | cons ib r ih =>
  obtain ⟨i,kd⟩:=ib
  intro fuel listed live ρ w hfl I1 FD hok hS hag SA h
  obtain ⟨f,rfl⟩:∃f,fuel=f+1:=⟨fuel-1,by simp at hfl;omega⟩
  have GP:r.length<=f:=by grind
  have Dy:∀i,(i,Kd.held)∈r->∀j oj,ops[j]?=some oj->Z j=true->Pre .any ops j i:=fun k hk=>I1 k (by simp [hk])
  have Dx:∀i,(i,Kd.free)∈r->Z i=true:=fun k hk=>FD k (by simp [hk])
  unfold D3 at hok
  rw [lfb,Rr] at hok
  rw [aci] at h
  simp only [Array.getElem?_toList] at h
  cases ho:ops[i]? with
  | none=>rw [ho] at hok;cases hok
  | some o =>
   rw [ho] at hok h
   simp only [yq4] at hok h
   have hmem:∀n,o.dst=some n->n∈Yt ops.toList:=fun n hn=>by grind [Yt]
   have HJ:=fun live ρ w=>ih f (listed.setIfInBounds i true) live ρ w GP Dy Dx
   cases kd with
   | pure =>
    simp only [Fe,yq4] at hok
    obtain ⟨⟨hfree,Wa⟩,Vq⟩:=hok
    obtain ⟨b,hb,h⟩:=XT h
    have key:∀v,YieldsIf P ops (fun _=>True) o v ⟨ρ.toArray,ds⟩->Uo P ops.toList S K r live (put ρ o.dst v) w->RA P .any ops (fun e a w'=>e=.normal/\a.defers=ds/\agree (Yt ops.toList) ρ0 a.tmps.toList/\K a.tmps.toList w') S Z (f+1) listed ⟨ρ.toArray,ds⟩ w:=fun v hy hk =>
     aaC ho (Region.noSelect_spec hs) (fun c a w hq=>by cases hq.1) f listed _ _ (Region.free_spec ho hfree) (by grind) hy (by
      rw [put_eq]
      exact HJ live _ w Vq hS (XB hag hmem v) (SA.step (by grind)) hk)
    cases b
    .simp only [X3] at h
     exact key undef (.inr ⟨hb,rfl⟩) h
    .obtain ⟨v,hv,hk⟩:=SC h
     rw [X3] at hk
     exact key v (.inl ⟨hb,fun w hS=>by rw [Yj];exact hv w hS⟩) hk
   | held =>
    simp only [Fe,yq4] at hok
    obtain ⟨⟨hfree,Wa⟩,Vq⟩:=hok
    cases live with
    | false=>exact h.elim
    | true =>
     obtain ⟨b,hb,h⟩:=XT h
     have key:∀v,YieldsIf P ops S o v ⟨ρ.toArray,ds⟩->Uo P ops.toList S K r true (put ρ o.dst v) w->RA P .any ops (fun e a w'=>e=.normal/\a.defers=ds/\agree (Yt ops.toList) ρ0 a.tmps.toList/\K a.tmps.toList w') S Z (f+1) listed ⟨ρ.toArray,ds⟩ w:=fun v hy hk =>
      aaq ho (Region.noSelect_spec hs) (fun c a w hq=>by cases hq.1) (I1 i yO) f listed _ _ SA (Region.free_spec ho hfree) (by grind) hy (hS rfl) (by
       rw [put_eq]
       exact HJ true _ w Vq hS (XB hag hmem v) (SA.step (by grind)) hk)
     cases b
     .simp only [X3] at h
      exact key undef (.inr ⟨hb,rfl⟩) h
     .obtain ⟨v,hv,hk⟩:=SC h
      rw [X3] at hk
      exact key v (.inl ⟨hb,fun w hS=>by rw [Yj];exact hv w hS⟩) hk
   | forced =>
    simp only [Fe,beq_iff_eq] at hok
    obtain ⟨Wa,Vq⟩:=hok
    cases live with
    | false=>exact h.elim
    | true =>
     obtain ⟨b,hb,h⟩:=XT h
     refine ⟨fun h0=>by rw [Wa] at h0;simp at h0,fun j hj=>?_⟩
     obtain rfl:j=i:=by grind
     unfold wpOp
     rw [ho]
     simp only [hb]
     cases b
     .simp only [Bool.false_eq_true,if_false,X3] at h ⊢
      rw [put_eq]
      exact ⟨.inr id,HJ true _ w Vq hS (XB hag hmem _) (SA.step hj) h⟩
     .simp only [if_true] at h ⊢
      refine .inl (UD h fun v w' ⟨D6,hk⟩=>?_)
      rw [X3] at hk
      rw [put_eq]
      exact ⟨.inr fun _=>D6,HJ true _ w' Vq (fun _=>D6) (XB hag hmem v) (SA.step hj) hk⟩
   | free =>
    simp only [Fe,beq_iff_eq] at hok
    obtain ⟨Wa,Vq⟩:=hok
    have hz:Z i=true:=FD i yO
    obtain ⟨b,hb,h⟩:=XT h
    refine ⟨fun h0=>by rw [Wa] at h0;simp at h0,fun j hj=>?_⟩
    obtain rfl:j=i:=by grind
    unfold wpOp
    rw [ho]
    simp only [hb]
    cases b
    .simp only [Bool.false_eq_true,if_false,X3] at h ⊢
     rw [put_eq]
     exact ⟨.inl hz,HJ false _ w Vq nofun (XB hag hmem _) (SA.step hj) h⟩
    .simp only [if_true] at h ⊢
     refine .inl (UD h fun v w' hk=>?_)
     rw [X3] at hk
     rw [put_eq]
     exact ⟨.inl hz,HJ false _ w' Vq nofun (XB hag hmem v) (SA.step hj) hk⟩
theorem akx {id:Nat} {w:World} (S:World->Prop) (plan:List (Nat × Kd)) (hm:P.follows .mixedOrders=true) (hc:Nf ops (D3 plan)=true) (hz:BL ops (IZ plan) (Lc plan)=true)
  (h:∀w1,w1=w.drew->S w1/\Uo P ops.toList S K plan true ρ0 w1):Qy P id ops K ρ0 w:=by
 have Cv:=aac hc
 simp only [Rq,yq4,beq_iff_eq] at Cv
 obtain ⟨⟨h1,h2⟩,h3⟩:=Cv
 obtain ⟨hS,hk⟩:=h _ rfl
 have hl:plan.length<=ops.size:=by grind [D3]
 refine ⟨fun ds=>wp_region_any hm (abf (S:=S) (Z:=fun i=>(Lc plan).contains i) _ _ _ _ (abg h1 plan _ _ true _ _ hl (fun i hi=>Nd hz ?_) (fun i hi=>?_) h3 (fun _=>hS) (Qk _ _) (Cl.start _) hk))⟩
 .grind [IZ]
 .grind [Lc]
end
end YY
namespace YY
open Go Go.RowKit
abbrev Hp:=Nat->Option Obj
abbrev As:=Hp->Prop
def Jc (h a b:Hp):Prop:=∀k,(a k=h k/\b k=none)\/(a k=none/\b k=h k)
def Oy:List As->As
 | [],_=>True
 | A::l,h=>∃a b,Jc h a b/\A a/\Oy l b
structure ZE where
 os:Os
 tape:Nat->Question->Nat
 output:Array (Nat × ByteArray)
 fr:Hp
def Fz (f:Hp):As:=fun h=>h=f
def Sub (h:Hp) (w:World):Prop:=∀k o,h k=some o->w.heap[k]?=some o
structure Sat (g:ZE) (w:World) (l:List As):Prop where
 os:w.os=g.os
 tape:w.tape=g.tape
 output:w.output=g.output
 ex:∃h,Sub h w/\Oy (Fz g.fr::l) h
theorem Jc.comm {h a b:Hp} (x:Jc h a b):Jc h b a:=fun k=>by
 rcases x k with h|h
 .grind
 .grind
theorem Jc.swap {h a b c d:Hp} (x:Jc h b c) (y:Jc c a d):∃e,Jc h a e/\Jc e b d:=by
 refine ⟨fun k=>match b k with
  | some o=>some o
  | none=>d k,fun k=>?_,fun k=>?_⟩
 .rcases x k with ⟨h1,h2⟩|⟨h1,h2⟩ <;> rcases y k with ⟨h3,h4⟩|⟨h3,h4⟩
  .grind
  .grind
  .grind
  .grind
 .rcases x k with ⟨h1,h2⟩|⟨h1,h2⟩ <;> rcases y k with ⟨h3,h4⟩|⟨h3,h4⟩
  .grind
  .grind
  .grind
  .grind
theorem R6:∀{l:List As} {j:Nat} {A:As} {h:Hp},l[j]?=some A->(Oy l h↔∃a b,Jc h a b/\A a/\Oy (l.eraseIdx j) b):=by
 intro l
 induction l with
 | nil=>intro j A h hj;simp at hj
 | cons B r ih =>
  intro j A h hj
  cases j with
  | zero=>obtain rfl:=yq6 hj;exact Iff.rfl
  | succ j =>
   have hj:r[j]?=some A:=by grind
   simp only [List.eraseIdx_cons_succ,Oy]
   constructor
   .rintro ⟨b,c,h1,h2,h3⟩
    obtain ⟨a,d,h4,h5,h6⟩:=(ih hj).1 h3
    obtain ⟨e,h7,h8⟩:=h1.swap h4
    exact ⟨a,e,h7,h5,b,d,h8,h2,h6⟩
   .rintro ⟨a,e,h7,h5,b,d,h8,h2,h6⟩
    obtain ⟨c,h9,h10⟩:=h7.swap h8
    exact ⟨b,c,h9,h2,(ih hj).2 ⟨a,d,h10,h5,h6⟩⟩
theorem Jc.sub {h a b:Hp} {w:World} (x:Jc h a b) (s:Sub h w):Sub a w/\Sub b w:=by
 refine ⟨fun k o ho=>?_,fun k o ho=>?_⟩
 .rcases x k with ⟨h1,_⟩|⟨h1,_⟩
  .exact s k o (h1 ▸ ho)
  .grind
 .rcases x k with ⟨_,h1⟩|⟨_,h1⟩
  .grind
  .exact s k o (h1 ▸ ho)
section
variable {P:Program} {g:ZE} {w w':World} {l:List As} {A A':As} {j:Nat}
theorem Sat.part (H:Sat g w l) (hj:l[j]?=some A):∃a,A a/\Sub a w:=by
 obtain ⟨h,hs,hx⟩:=H.ex
 have hj':(Fz g.fr::l)[j+1]?=some A:=by grind
 obtain ⟨a,b,h1,h2,_⟩:=(R6 hj').1 hx
 exact ⟨a,h2,(h1.sub hs).1⟩
theorem Sat.zZ (H:Sat g w l):Sub g.fr w:=by
 obtain ⟨h,hs,a,b,h1,h2,_⟩:=H.ex
 have:=(h1.sub hs).1
 rw [show a=g.fr from h2] at this;exact this
theorem Sat.step (H:Sat g w l) (hj:l[j]?=some A) (hos:w'.os=w.os) (ht:w'.tape=w.tape) (ho:w'.output=w.output)
  (st:∀a,A a->Sub a w->∃a',A' a'/\Sub a' w'/\∀k,k<w.heap.size->a k=none->a' k=none/\w'.heap[k]?=w.heap[k]?):Sat g w' (l.set j A'):=by
 obtain ⟨h,hs,hx⟩:=H.ex
 have hj':(Fz g.fr::l)[j+1]?=some A:=by grind
 obtain ⟨a,b,h1,h2,h3⟩:=(R6 hj').1 hx
 obtain ⟨sa,sb⟩:=h1.sub hs
 obtain ⟨a',k1,k2,k3⟩:=st a h2 sa
 have hlt:∀k o,b k=some o->k<w.heap.size/\a k=none:=fun k o hb=>by
  refine ⟨(lxa.1 (sb k o hb)).1,?_⟩
  rcases h1 k with ⟨_,h⟩|⟨h,_⟩
  .grind
  .exact h
 have hjl:j<l.length:=(lba.1 hj).1
 refine ⟨hos.trans H.os,ht.trans H.tape,ho.trans H.output,fun k=>match b k with
  | some o=>some o
  | none=>a' k,fun k o hk=>?_,?_⟩
 .cases hb:b k with
  | none=>simp only [hb] at hk;exact k2 k o hk
  | some o' =>
   simp only [hb] at hk
   obtain rfl:=yq6 hk
   obtain ⟨hl,hn⟩:=hlt k _ hb
   rw [(k3 k hl hn).2];exact sb k _ hb
 .have hj2:(Fz g.fr::l.set j A')[j+1]?=some A':=by grind
  refine (R6 hj2).2 ⟨a',b,fun k=>?_,k1,?_⟩
  .grind
  .have:(Fz g.fr::l.set j A').eraseIdx (j+1)=(Fz g.fr::l).eraseIdx (j+1):=by grind
   rw [this];exact h3
theorem Sat.emp (H:Sat g w l):Sat g w ((fun h=>∀k,h k=none)::l):=by
 obtain ⟨h,hs,a,b,h1,h2,h3⟩:=H.ex
 exact ⟨H.os,H.tape,H.output,h,hs,a,b,h1,h2,fun _=>none,b,fun k=>.inr ⟨rfl,rfl⟩,fun _=>rfl,h3⟩
theorem Sat.below (H:Sat g w l) (b:Below w.heap.size w w'):Sat g w' l:=by
 obtain ⟨h,hs,hx⟩:=H.ex
 exact ⟨b.os.trans H.os,b.tape.trans H.tape,b.output.trans H.output,h,fun k o hk=>by
  have:=hs k o hk
  rw [b.block k (lxa.1 this).1];exact this,hx⟩
theorem Sat.still (H:Sat g w l) (s:Still w w'):Sat g w' l:=H.below (s.below _)
theorem Sat.more (H:Sat g w l) (b:Below w.heap.size w w') {a:Hp} (ha:A a) (hs:Sub a w') (hn:∀k,k<w.heap.size->a k=none):Sat g w' (A::l) :=
 H.emp.step (j:=0) (A':=A) rfl b.os b.tape b.output fun _ _ _=>⟨a,ha,hs,fun k hk _=>⟨hn k hk,b.block k hk⟩⟩
def Dw (l:List As):Nat->(As->Prop)->Prop :=
 List.rec (motive:=fun _=>Nat->(As->Prop)->Prop) (fun _ _=>False) (fun v _ ih n k=>Nat.rec (motive:=fun _=>Prop) (k v) (fun m _=>ih m k) n) l
def QB (l:List As):Nat->As->(List As->Prop)->Prop :=
 List.rec (motive:=fun _=>Nat->As->(List As->Prop)->Prop) (fun _ _ k=>k []) (fun x r ih n v k=>Nat.rec (motive:=fun _=>Prop) (k (v::r)) (fun m _=>ih m v (fun r'=>k (x::r'))) n) l
def JU (l:List As):Nat->(List As->Prop)->Prop :=
 List.rec (motive:=fun _=>Nat->(List As->Prop)->Prop) (fun _ k=>k []) (fun x r ih n k=>Nat.rec (motive:=fun _=>Prop) (k r) (fun m _=>ih m (fun r'=>k (x::r'))) n) l
def aky (l:List As):List As->(List As->Prop)->Prop :=
 List.rec (motive:=fun _=>List As->(List As->Prop)->Prop) (fun ys k=>k ys) (fun x _ ih ys k=>ih ys fun zs=>k (x::zs)) l
theorem af6 {l:List As} {n:Nat} {k:As->Prop} (h:Dw l n k):∃v,l[n]?=some v/\k v:=by
 induction l generalizing n with
 | nil=>exact h.elim
 | cons x r ih=>cases n with
  | zero=>exact ⟨x,rfl,h⟩
  | succ n=>simpa using ih (n:=n) h
theorem V6 (l:List As) (n:Nat) (v:As) (k:List As->Prop):QB l n v k=k (l.set n v):=by
 induction l generalizing n k with
 | nil=>cases n <;> rfl
 | cons x r ih=>cases n with
  | zero=>rfl
  | succ n=>exact ih n _
theorem QS (l:List As) (n:Nat) (k:List As->Prop):JU l n k=k (l.eraseIdx n):=by
 induction l generalizing n k with
 | nil=>cases n <;> rfl
 | cons x r ih=>cases n with
  | zero=>rfl
  | succ n=>exact ih n _
theorem af7 (xs ys:List As) (k:List As->Prop):aky xs ys k=k (xs++ys):=by
 induction xs generalizing k with
 | nil=>rfl
 | cons x xs ih=>exact ih _
theorem Sat.front (H:Sat g w l) (hj:l[j]?=some A):Sat g w (A::l.eraseIdx j):=by
 obtain ⟨h,hs,hx⟩:=H.ex
 refine ⟨H.os,H.tape,H.output,h,hs,?_⟩
 have hj':(Fz g.fr::l)[j+1]?=some A:=by grind
 obtain ⟨a,b,h1,h2,h3⟩:=(R6 hj').1 hx
 exact (R6 (l:=Fz g.fr::A::l.eraseIdx j) (j:=1) rfl).2 ⟨a,b,h1,h2,h3⟩
theorem Sat.del (H:Sat g w l) (j:Nat):Sat g w (l.eraseIdx j):=by
 cases hj:l[j]? with
 | none=>rw [List.eraseIdx_of_length_le (by grind)];exact H
 | some A =>
  obtain ⟨h,hs,hx⟩:=H.ex
  have hj':(Fz g.fr::l)[j+1]?=some A:=by grind
  obtain ⟨a,b,h1,h2,h3⟩:=(R6 hj').1 hx
  exact ⟨H.os,H.tape,H.output,b,(h1.sub hs).2,h3⟩
def af8 (is:List Nat):List As->(List As->Prop)->Prop :=
 List.rec (motive:=fun _=>List As->(List As->Prop)->Prop) (fun l k=>k l) (fun i _ ih l k=>Dw l i fun A=>JU l i fun r=>ih (A::r) k) is
def LS (is:List Nat):List As->(List As->Prop)->Prop :=
 List.rec (motive:=fun _=>List As->(List As->Prop)->Prop) (fun l k=>k l) (fun i _ ih l k=>JU l i fun r=>ih r k) is
theorem Sat.Z7 {G:Prop} (H:Sat g w l) (is:List Nat) (k:af8 is l fun l'=>Sat g w l'->G):G:=by
 induction is generalizing l with
 | nil=>exact k H
 | cons i is ih =>
  obtain ⟨A,hA,k⟩:=af6 (show Dw l i _ from k)
  rw [QS] at k
  exact ih (H.front hA) k
theorem Sat.drop {G:Prop} (H:Sat g w l) (j:Nat) (k:JU l j fun l'=>Sat g w l'->G):G:=by
 rw [QS] at k;exact k (H.del j)
theorem yz {g:ZE} {w:Go.World} {l:List As} {G:Prop} (H:Sat g w l) (js:List Nat) (k:LS js l fun l'=>Sat g w l'->G):G:=by
 induction js generalizing l with
 |nil=>exact k H
 |cons i r ih=>
  have k:JU l i (fun z=>LS r z fun l'=>Sat g w l'->G):=k
  rw [QS] at k
  exact ih (H.del i) k
def WO (w:World):ZE:=⟨w.os,w.tape,w.output,fun k=>w.heap[k]?⟩
theorem Sat.start (w:World):Sat (WO w) w [] :=
 ⟨rfl,rfl,rfl,fun k=>w.heap[k]?,fun _ _ h=>h,fun k=>w.heap[k]?,fun _=>none,fun k=>.inl ⟨rfl,rfl⟩,rfl,trivial⟩
theorem Sat.finish {w0:World} (H:Sat (WO w0) w l):Below w0.heap.size w0 w:=by
 have hf:=H.zZ
 have hb:∀k,k<w0.heap.size->w.heap[k]?=w0.heap[k]?:=fun k hk=>by
  have e:w0.heap[k]?=some w0.heap[k]:=lhb hk
  rw [e];exact hf k _ e
 refine ⟨H.os,H.tape,H.output,?_,hb⟩
 rcases lLb w0.heap.size with h|h
 .omega
 .grind
theorem Lb:∀{l1 l2:List As} {h a b:Hp},Jc h a b->Oy l1 a->Oy l2 b->Oy (l1++l2) h:=by
 intro l1
 induction l1 with
 | nil =>
  intro l2 h a b hs _ h2
  have key:∀{l:List As} {h b:Hp},(∀k o,b k=some o->h k=some o)->Oy l b->(∃c,Oy l c):=fun _ h=>⟨_,h⟩
  clear key
  revert h2
  cases l2 with
  | nil=>exact fun _=>trivial
  | cons B r =>
   rintro ⟨c,d,h3,h4,h5⟩
   obtain ⟨e,h6,h7⟩:=hs.swap h3
   refine ⟨c,e,h6,h4,?_⟩
   have:∀{l:List As} {x y z:Hp},Jc x y z->Oy l z->Oy l x:=by
    intro l
    induction l with
    | nil=>exact fun _ _=>trivial
    | cons C l ih =>
     rintro x y z k1 ⟨u,v,k2,k3,k4⟩
     obtain ⟨t,k5,k6⟩:=k1.swap k2
     exact ⟨u,t,k5,k3,ih k6 k4⟩
   exact this h7 h5
 | cons A l1 ih =>
  rintro l2 h a b hs ⟨c,d,h3,h4,h5⟩ h2
  obtain ⟨e,h6,h7⟩:=hs.comm.swap h3
  exact ⟨c,e,h6,h4,ih h7.comm h5 h2⟩
theorem Sat.merge {l':List As} (H:Sat g w l) (H':Sat (WO w) w' l'):Sat g w' (l'++l):=by
 obtain ⟨h,hs,hx⟩:=H.ex
 obtain ⟨h',hs',a,b,h1,h2,h3⟩:=H'.ex
 obtain rfl:a=fun k=>w.heap[k]?:=h2
 have hd:∀k o,b k=some o->w.heap[k]?=none:=fun k o hb=>by
  rcases h1 k with ⟨_,h⟩|⟨h,_⟩
  .grind
  .exact h
 obtain ⟨_,sb⟩:=h1.sub hs'
 have D2:=H'.finish
 refine ⟨H'.os.trans H.os,H'.tape.trans H.tape,H'.output.trans H.output,fun k=>match b k with
  | some o=>some o
  | none=>h k,fun k o hk=>?_,?_⟩
 .cases hb:b k with
  | some o'=>simp only [hb] at hk;obtain rfl:=yq6 hk;exact sb k _ hb
  | none =>
   simp only [hb] at hk
   have:=hs k o hk
   rw [D2.block k (lxa.1 this).1];exact this
 .have hsp:Jc (fun k=>match b k with
   | some o=>some o
   | none=>h k) b h:=fun k=>by
   cases hb:b k with
   | none=>exact .inr ⟨rfl,by simp only [hb]⟩
   | some o =>
    refine .inl ⟨by simp only [hb],?_⟩
    cases hh:h k with
    | none=>rfl
    | some o'=>have:=hs k o' hh;rw [hd k o hb] at this;cases this
  obtain ⟨a2,b2,k1,k2,k3⟩:=hx
  obtain ⟨e,k4,k5⟩:=hsp.swap k1
  exact ⟨a2,e,k4,k2,Lb k5 h3 k3⟩
theorem Sat.XX {G:Prop} {l':List As} (H:Sat g w l) (H':Sat (WO w) w' l') (k:aky l' l fun l''=>Sat g w' l''->G):G:=by
 rw [af7] at k;exact k (H.merge H')
end
def Gh (g:ZE):Hv:=fun b o=>g.fr b=some o
abbrev Un (g:ZE) (b o:Nat) (vs:ym):Prop:=D7 (Gh g) b o vs
abbrev Z0 {α:Type} (g:ZE) (en:α->ym) (ok:α->Prop) (s:Nat) (v:Value) (xs:List α):Prop:=Wu (RE en ok) s (Gh g) v xs
section
variable {P:Program} {g:ZE} {w w':World} {l:List As} {K:Value->World->Prop} {α:Type} {en:α->ym} {ok:α->Prop} {s:Nat} {v:Value} {xs:List α} {b o j:Nat} {e:TypeId}
theorem Sat.hle (H:Sat g w l):JX (Gh g) (Rg w 0 w.heap.size):=fun b o h=>⟨lHa _,(lxa.1 (H.zZ b o h)).1,H.zZ b o h⟩
theorem Sat.rd (H:Sat g w l) (h:Z0 g en ok s v xs):Rd en ok s w v xs:=h.mono (RE.mono' en ok) H.hle
theorem Sat.Yq {vs:ym} (H:Sat g w l) (h:Un g b o vs):At w b o vs:=(h.mono H.hle).at
theorem Rd.fz {w:World} (h:Rd en ok s w v xs):Z0 (WO w) en ok s v xs:=h.mono (RE.mono' en ok) fun b o ⟨_,_,h⟩=>h
theorem Z0.len (h:Z0 g en ok s v xs):xs.length<=9223372036854775807:=Wu.len h
end
def Pt (p:Nat) (cs:ym) (e:TypeId):As:=fun h=>h p=some (.cells cs.toArray e (0,0))
section
variable {P:Program} {g:ZE} {w w':World} {l:List As} {K:Value->World->Prop} {p j o:Nat} {cs:ym} {e t:TypeId} {v:Value}
theorem Sat.pt (H:Sat g w l) (hj:l[j]?=some (Pt p cs e)):RB w p cs e:=by
 obtain ⟨a,h1,h2⟩:=H.part hj;exact h2 p _ h1
theorem Sat.at (H:Sat g w l) (j:Nat) (hj:l[j]?=some (Pt p cs e)):At w p 0 cs:=(H.pt hj).at
theorem Sat.new (H:Sat g w l) (n:HD w w' cs e):Sat g w' (Pt w.heap.size cs e::l) :=
 H.more n.below (a:=fun k=>if k=w.heap.size then some (.cells cs.toArray e (0,0)) else none) (by simp [Pt]) (fun k o hk=>by
  dsimp only at hk
  split at hk
  .rename_i h;subst h;obtain rfl:=yq6 hk;exact n.Vs
  .cases hk) fun k hk=>by rw [if_neg yQ]
theorem Sat.FF {cs':ym} (H:Sat g w l) (hj:l[j]?=some (Pt p cs e)) (u:Ka w w' p) (hb:RB w' p cs' e):Sat g w' (l.set j (Pt p cs' e)) :=
 H.step hj u.os u.tape u.output fun a ha _=>⟨fun k=>if k=p then some (.cells cs'.toArray e (0,0)) else none,by simp [Pt],(fun k o hk=>by
  dsimp only at hk
  split at hk
  .rename_i h;subst h;obtain rfl:=yq6 hk;exact hb
  .cases hk),fun k _ hn=>by
  have hne:k≠p:=fun e=>by subst e;rw [show a k=_ from ha] at hn;cases hn
  exact ⟨if_neg hne,u.block k hne⟩⟩
theorem ZN (H:Sat g w l) (k:SW v fun cs=>∀p w',Sat g w' (Pt p cs t::l)->K (.pointer (some ⟨p,0,none⟩)) w'):Zb P (Instr.box t v) w K :=
 anA (by rw [Wd] at k ⊢;exact fun w' n=>k _ w' (H.new n))
theorem ZU {z:Value} (H:Sat g w l) (hz:(P.info? t).bind (fun i=>i.zero)=some z) (k:SW z fun cs=>∀p w',Sat g w' (Pt p cs t::l)->K (.pointer (some ⟨p,0,none⟩)) w'):Zb P (Instr.alloc t true (.tuple #[])) w K :=
 aif hz (by rw [Wd] at k ⊢;exact fun w' n=>k _ w' (H.new n))
theorem ZZ {n sz:Nat} {z:Value} {ps:Array (Nat × Value)} (H:Sat g w l) (hu:P.underlying t=some (.slice e)) (hz:(P.info? e).map (fun i=>(i.size,i.zero))=some (sz,some z))
  (hsz:z.cells.size=sz) (hn:Nat.ble (n * sz) 16777216=true)
  (h:OC n z.cells.toList fun zs=>PN (fun i=>some (i * sz,sz)) ps.toList zs fun cs=>∀p w',Sat g w' (Pt p cs e::l)->K (.slice (some ⟨p,0,none⟩) n n) w') :
  Zb P (Instr.buildSlice t n ps) w K :=
 aaj hu hz hsz (lcb hn) (by rw [QV] at h ⊢;exact aaz _ h fun cs h w' n=>h _ w' (H.new n))
theorem Yo {K:World->Prop} (H:Sat g w l) (j:Nat) (hj:l[j]?=some (Pt p cs e)) (ho:Nat.ble (o+1) cs.length=true) (hs:(P.info? t).map (·.size)=some 1) (hv:v.oneCell'=true)
  (k:Ib cs o v fun cs'=>QB l j (Pt p cs' e) fun l'=>∀w',Sat g w' l'->K w'):Ia P (Instr.storeAt t (.pointer (some ⟨p,o,none⟩)) v) w K:=by
 rw [S6,V6] at k
 exact acB (H.pt hj) (lcb ho) hs hv fun w' u hb=>k w' (H.FF hj u hb)
theorem ZC {K:World->Prop} {vs:ym} (H:Sat g w l) (j:Nat) (hj:l[j]?=some (Pt p cs e)) (hs:(P.info? t).map (·.size)=some vs.length) (ho:Nat.ble (o+vs.length) cs.length=true) (hv:vs.all (·.oneCell')=true)
  (k:Nk cs o vs fun cs'=>QB l j (Pt p cs' e) fun l'=>∀w',Sat g w' l'->K w'):Ia P (Instr.storeAt t (.pointer (some ⟨p,o,none⟩)) (.agg vs.toArray)) w K:=by
 rw [SD,V6] at k
 exact abd (H.pt hj) hs (lcb ho) hv fun w' u hb=>k w' (H.FF hj u hb)
theorem ZL {id:Nat} {ops:Array Oper} {K:ym->World->Prop} {ρ:ym} (H:Sat g w l) (ds:List Nat) (plan:List (Nat × Kd)) (hm:P.follows .mixedOrders=true) (hc:Nf ops (D3 plan)=true) (hz:BL ops (IZ plan) (Lc plan)=true)
  (h:LS ds l fun l'=>∀w1,Sat g w1 l->Uo P ops.toList (fun wx=>Sat g wx l') K plan true ρ w1):Qy P id ops K ρ w:=by
 have key:∃l',(∀wx,Sat g wx l->Sat g wx l')/\∀w1,Sat g w1 l->Uo P ops.toList (fun wx=>Sat g wx l') K plan true ρ w1:=by
  have:∀(ds:List Nat) (l0:List As),(∀wx,Sat g wx l->Sat g wx l0)->(LS ds l0 fun l'=>∀w1,Sat g w1 l->Uo P ops.toList (fun wx=>Sat g wx l') K plan true ρ w1) ->
    ∃l',(∀wx,Sat g wx l->Sat g wx l')/\∀w1,Sat g w1 l->Uo P ops.toList (fun wx=>Sat g wx l') K plan true ρ w1:=by
   intro ds
   induction ds with
   | nil=>exact fun l0 h0 h=>⟨l0,h0,h⟩
   | cons i ds ih =>
    intro l0 h0 h
    have h:JU l0 i fun r=>LS ds r _:=h
    rw [QS] at h
    exact ih _ (fun wx hx=>(h0 wx hx).del i) h
  exact this ds l (fun _ h=>h) h
 obtain ⟨l',h1,h2⟩:=key
 refine akx (fun wx=>Sat g wx l') plan hm hc hz fun w1 e=>?_
 have H1:Sat g w1 l:=H.still (by rw [e];exact Still.drew _)
 exact ⟨h1 _ H1,h2 _ H1⟩
end
end YY
namespace YY
open Go Go.RowKit
section
variable {P:Program} {g:ZE} {w w':World} {l:List As} {K:Value->World->Prop} {α:Type} {en:α->ym} {ok:α->Prop} {s:Nat} {v v':Value} {xs xs' ys:List α} {b o j i:Nat} {e t ty:TypeId} {x:α}
def Sl (e:TypeId) (s:Nat) (en:α->ym) (v:Value) (xs:List α):As:=fun h =>
 ((v=.slice none 0 0/\xs=[])\/∃g o cap cur,v=.slice (some ⟨g,o,none⟩) xs.length cap/\h g=some (.cells (List.toArray cur) e (0,0))/\o+cap * s<=cur.length/\xs.length<=cap/\cap<=9223372036854775807/\(cur.drop o).take (xs.length * s)=xs.flatMap en)/\∀x,(en x).length=s
theorem Sl.off {a:Hp} (h:Sl e s en v xs a) (hs:Sub a w):RM 0 w e s en v xs:=by
 refine ⟨?_,h.2⟩
 rcases h.1 with h|⟨g,o,cap,cur,h1,h2,r⟩
 .grind
 .exact .inr ⟨g,o,cap,cur,h1,lHa _,hs g _ h2,r⟩
theorem Sl.dom {a:Hp} (h:Sl e s en v xs a) {k:Nat} (hk:v.ownBlock=some k):a k≠none:=by
 rcases h.1 with ⟨rfl,_⟩|⟨g,o,cap,cur,rfl,h2,r⟩
 .cases hk
 .obtain rfl:=yq6 hk;rw [h2];nofun
theorem RM.sl {lo:Nat} (h:RM lo w e s en v xs):Sl e s en v xs (fun k=>if v.ownBlock=some k then w.heap[k]? else none):=by
 refine ⟨?_,h.2⟩
 rcases h.1 with h|⟨g,o,cap,cur,rfl,_,h2,r⟩
 .grind
 .exact .inr ⟨g,o,cap,cur,rfl,(if_pos rfl).trans h2,r⟩
theorem Sat.off (H:Sat g w l) (j:Nat) (hj:l[j]?=some (Sl e s en v xs)):RM 0 w e s en v xs:=by
 obtain ⟨a,h1,h2⟩:=H.part hj;exact h1.off h2
theorem Sat.N2 {lo:Nat} (H:Sat g w l) (hj:l[j]?=some (Sl e s en v xs)) (hO:RM lo w' e s en v' xs') (G:Gr w w' v v'):Sat g w' (l.set j (Sl e s en v' xs')) :=
 H.step hj G.g.os G.g.tape G.g.output fun a ha _=>⟨_,hO.sl,(fun k o hk=>by
  dsimp only at hk
  split at hk
  .exact hk
  .cases hk),fun k hk hn=>by
  have hne:v.ownBlock≠some k:=fun h=>ha.dom h hn
  refine ⟨if_neg fun h=>?_,G.g.block k hk fun h=>hne h.symm⟩
  rcases G.at_ with h'|h'|⟨i,h',hi⟩
  .grind
  .grind
  .rw [h'] at h;obtain rfl:=yq6 h;omega⟩
theorem Gr.same (w:World) {v v':Value} (h:v'.ownBlock=v.ownBlock\/v'.ownBlock=none):Gr w w v v':=⟨⟨rfl,rfl,rfl,loa _,fun _ _ _=>rfl⟩,h.elim .inl fun h=>.inr (.inl h)⟩
theorem Sat.VS (H:Sat g w l) (e:TypeId) (hs:∀x,(en x).length=s):Sat g w (Sl e s en (.slice none 0 0) []::l) :=
 H.more (Below.refl _ _) (a:=fun _=>none) ⟨.inl ⟨rfl,rfl⟩,hs⟩ (fun _ _ h=>by cases h) fun _ _=>rfl
theorem Sat.one (H:Sat g w l) (j:Nat) (hj:l[j]?=some (Sl e s en v xs)):v.oneCell'=true:=(H.off j hj).one
theorem Sat.form (H:Sat g w l) (j:Nat) (hj:l[j]?=some (Sl e s en v xs)):∃a c,v=.slice a xs.length c:=(H.off j hj).form
theorem RM.rd {lo:Nat} (h:RM lo w e s en v xs) (hok:∀x∈xs,ok x):Rd en ok s w v xs:=by
 rcases h.1 with ⟨rfl,rfl⟩|⟨g,o,cap,cur,rfl,hlo,hb,hfit,hnc,Qx,ht⟩
 .exact Wu.nil _ _ _
 .refine ⟨_,cap,rfl,⟨hnc,by omega⟩,nofun,fun _=>⟨g,o,xs.flatMap en,rfl,⟨cur.toArray,e,(0,0),⟨lHa _,hb.lt,hb⟩,fun i x hx=>?_⟩,Yp h.2 xs,fun i x hx=>⟨SB h.2 xs i x hx,hok x (lda hx)⟩⟩⟩
  rw [<-ht,lJa] at hx
  split at hx
  .grind
  .grind
theorem Sat.Cu (H:Sat g w l) (j:Nat) (hj:l[j]?=some (Sl e s en v xs)) (hok:∀x∈xs,ok x):Rd en ok s w v xs:=(H.off j hj).rd hok
theorem YA (H:Sat g w l) (j:Nat) (hj:l[j]?=some (Sl e s en v xs)) (ht:P.underlying t=some (.slice e)) (k:K (.int .i64 xs.length) w):Zb P (Builtin.len_ #[t] ty #[v]) w K:=by
 obtain ⟨a,c,rfl⟩:=H.form j hj
 exact Vj ht k
theorem ZK (h:Z0 g en ok s v xs) (ht:P.underlying t=some (.slice e)) (k:K (.int .i64 xs.length) w):Zb P (Builtin.len_ #[t] ty #[v]) w K:=akn h ht k
def El (v:Value) (s i b o:Nat):Prop:=∃b0 n c,v=.slice (some ⟨b,b0,none⟩) n c/\i<n/\o=b0+i * s
theorem Sat.Y1 (H:Sat g w l) (j:Nat) (hj:l[j]?=some (Sl e s en v xs)) (i:Nat) (hi:i<xs.length):∃b o,El v s i b o:=by
 rcases (H.off j hj).1 with ⟨rfl,rfl⟩|⟨g,o,cap,cur,rfl,r⟩
 .grind
 .exact ⟨_,_,_,_,_,rfl,hi,rfl⟩
theorem ZG {ki:IntKind} {n:Int} (E:El v s i b o) (hn:n=i) (ht:P.underlying t=some (.slice e)) (hs:(P.info? e).map (fun i=>i.size)=some s) (k:K (.pointer (some ⟨b,o,none⟩)) w):Zb P (Instr.indexAt t v (.int ki n)) w K:=by
 obtain ⟨b0,m,c,rfl,hl,rfl⟩:=E
 exact anB s i _ hn hl rfl ht hs k
theorem Sat.el (H:Sat g w l) (j:Nat) (hj:l[j]?=some (Sl e s en v xs)) (E:El v s i b o) (hx:xs[i]?=some x):At w b o (en x):=by
 obtain ⟨b0,m,c,rfl,hl,rfl⟩:=E
 have ho:=H.off j hj
 rcases ho.1 with ⟨h,_⟩|⟨g',o',cap,cur,he,hlo,hb,hfit,hnc,Qx,ht⟩
 .cases h
 .injection he with h1 h2 h3
  injection h1 with h1
  injection h1 with h1 h4
  subst h1;subst h4;subst h3
  have hp:=SB ho.2 xs i x hx
  rw [<-ht] at hp
  have:=hb.at.sub (b0+i * s) s
  rw [lKb] at this
  have hil:=(lba.1 hx).1
  have hle:i * s+s<=xs.length * s:=by rw [<-lib];exact lBa _ hil
  rw [lNb,lZa,lUb,lnb yQ] at hp
  rw [hp] at this;exact this
theorem Sat.GN (H:Sat g w l) (hj:l[j]?=some (Sl e s en v xs)) (E:El v s i b o) (hx:xs[i]?=some x):∃cur,RB w b cur e/\o+s<=cur.length/\(cur.drop o).take s=en x /\
  ∀(w':World) (x':α) (off:Nat) (vs:ym),off+vs.length<=s->VR (en x) off vs=en x'->Ka w w' b->RB w' b (VR cur (o+off) vs) e->Sat g w' (l.set j (Sl e s en v (xs.set i x'))):=by
 obtain ⟨b0,m,c,rfl,hl,rfl⟩:=E
 have ho:=H.off j hj
 rcases ho.1 with ⟨h,_⟩|⟨g',o',cap,cur,he,hlo,hb,hfit,hnc,Qx,ht⟩
 .cases h
 .injection he with h1 h2 h3
  injection h1 with h1
  injection h1 with h1 h4
  subst h1;subst h4;subst h3;subst h2
  have hp:=SB ho.2 xs i x hx
  rw [<-ht] at hp
  have hil:=(lba.1 hx).1
  have hle:i * s+s<=xs.length * s:=by rw [<-lib];exact lBa _ hil
  have hcs:xs.length * s<=c * s:=lBa _ hnc
  rw [lNb,lZa,lUb,lnb yQ] at hp
  refine ⟨cur,hb,by omega,hp,fun w' x' off vs hoff VU u hb'=>?_⟩
  refine H.N2 (lo:=0) hj ⟨.inr ⟨b,b0,c,_,by rw [lna],lHa _,hb',by rw [VG];exact hfit,by rw [lna];exact hnc,Qx,?_⟩,ho.2⟩ ⟨⟨u.os,u.tape,u.output,by rw [u.size];exact loa _,fun k _ hk=>u.block k fun e=>hk (by rw [e];rfl)⟩,.inl rfl⟩
  rw [lna]
  have PB:(xs.set i x').flatMap en=(xs.take i).flatMap en++en x'++(xs.drop (i+1)).flatMap en:=by
   rw [List.set_eq_take_append_cons_drop,if_pos hil,lQa,lOa,lja]
  rw [PB,<-TO ho.2 xs i (lab0 hil),<-Sy ho.2 xs (i+1) hil,<-ht,<-VU,<-hp]
  apply lFa
  intro q
  have hel:((cur.drop (b0+i * s)).take s).length=s:=by grind
  rw [lJa,lUa,OA _ _ _ _ yQ,lja]
  simp only [List.getElem?_append,List.length_take,List.length_drop,List.getElem?_take,List.getElem?_drop,VG,hel,Nat.succ_mul]
  rw [show min (i * s) (min (xs.length * s) (cur.length-b0))=i * s by omega]
  by_cases q1:q<xs.length * s
  .rw [if_pos q1]
   by_cases q2:q<i * s
   .grind
   .rw [if_neg q2]
    by_cases q3:q-i * s<s
    .rw [if_pos q3,OA _ _ _ _ yQ]
     by_cases q4:off<=q-i * s/\q-i * s<off+vs.length
     .grind
     .grind
    .grind
  .grind
theorem Yg {K:World->Prop} {u:Value} (H:Sat g w l) (j:Nat) (hj:l[j]?=some (Sl e s en v xs)) (E:El v s i b o) (hx:xs[i]?=some x) (off:Nat) (x':α) (hs:(P.info? t).map (·.size)=some 1) (hu:u.oneCell'=true) (hoff:Nat.ble (off+1) s=true) (VU:VR (en x) off [u]=en x')
  (k:QB l j (Sl e s en v (xs.set i x')) fun l'=>∀w',Sat g w' l'->K w'):Ia P (Instr.storeAt t (.pointer (some ⟨b,o+off,none⟩)) u) w K:=by
 obtain ⟨cur,hb,hle,_,hk⟩:=H.GN hj E hx
 have Dv:=lcb hoff
 rw [V6] at k
 exact acB hb yQ hs hu fun w' up hb'=>k w' (hk w' x' off [u] Dv VU up hb')
theorem GM {K:World->Prop} {vs:ym} (H:Sat g w l) (j:Nat) (hj:l[j]?=some (Sl e s en v xs)) (E:El v s i b o) (hx:xs[i]?=some x) (off:Nat) (x':α) (hs:(P.info? t).map (·.size)=some vs.length) (hu:vs.all (·.oneCell')=true) (hoff:Nat.ble (off+vs.length) s=true) (VU:VR (en x) off vs=en x')
  (k:QB l j (Sl e s en v (xs.set i x')) fun l'=>∀w',Sat g w' l'->K w'):Ia P (Instr.storeAt t (.pointer (some ⟨b,o+off,none⟩)) (.agg vs.toArray)) w K:=by
 obtain ⟨cur,hb,hle,_,hk⟩:=H.GN hj E hx
 have Dv:=lcb hoff
 rw [V6] at k
 exact abd hb hs yQ hu fun w' up hb'=>k w' (hk w' x' off vs Dv VU up hb')
theorem zsz {n s PF:Nat} (hz:(P.info? e).map (fun i=>(i.zero.map (fun z=>z.cells.size),i.size,i.bytes))=some (some n,s,PF)):∃z,(P.info? e).map (fun i=>(i.zero,i.size,i.bytes))=some (some z,s,PF)/\z.cells.size=n:=by
 cases hi:P.info? e with
 | none=>simp [hi] at hz
 | some i =>
  simp only [hi,Option.map_some,Option.some.injEq,Prod.mk.injEq] at hz ⊢
  obtain ⟨h1,h2,h3⟩:=hz
  cases I1:i.zero with
  | none=>simp [I1] at h1
  | some z=>simp only [I1,Option.map_some,Option.some.injEq] at h1;exact ⟨z,⟨rfl,h2,h3⟩,h1⟩
theorem W3 {m c:Nat} (PF:Nat) (H:Sat g w l) (j:Nat) (hj:l[j]?=some (Sl e s en v xs)) (TK:At w b o (ys.flatMap en)) (hm:ys.length=m)
  (h1:∀y∈ys,((en y).all (·.oneCell'))=true) (hu:P.underlying t=some (.slice e)) (hz:(P.info? e).map (fun i=>(i.zero.map (fun z=>z.cells.size),i.size,i.bytes))=some (some s,s,PF)) (hsz:Nat.ble 1 s=true)
  (hb:(xs.length+m) * PF<=140737488355328) (hml:xs.length+m<=140737488355328)
  (k:∀v',QB l j (Sl e s en v' (xs++ys)) fun l'=>∀w',Sat g w' l'->K v' w'):Zb P (Builtin.append_ #[t,t] ty #[v,.slice (some ⟨b,o,none⟩) m c]) w K :=
 by
 obtain ⟨z,hz,hzs⟩:=zsz hz
 exact aku (lo:=0) z PF (H.off j hj) TK hm h1 hu hz hzs (lcb hsz) hb hml (lHa _) fun v' w' hO G=>by
  have k:=k v'
  rw [V6] at k
  exact k w' (H.N2 hj hO G)
theorem aiq {v:Value} (H:Sat g w l) (j:Nat) (hj:l[j]?=some (Sl e s en v xs)) (hu:P.underlying t=some (.slice e)) (hi:(P.info? e).map (fun i=>i.size)=some s) (k:K v w):Zb P (Builtin.append_ #[t,t] ty #[v,.slice none 0 0]) w K:=by
 cases hi':P.info? e with
 | none=>simp [hi'] at hi
 | some i =>
  rcases (H.off j hj).1 with ⟨rfl,rfl⟩|⟨g,o,cap,cur,rfl,hlo,hb,hfit,hnc,Qx,ht⟩
  .refine ⟨_,_,?_,k⟩
   simp [Builtin.append_,run_underlying hu,sizeOf,typeInfo,hi',Builtin.lenOf,Builtin.firstCells,loadCells,loadCellsFrom,storeCells]
  .refine ⟨_,_,?_,k⟩
   simp [Builtin.append_,run_underlying hu,sizeOf,typeInfo,hi',Builtin.lenOf,Builtin.firstCells,loadCells,loadCellsFrom,storeCells,hnc]
theorem VO {u:Value} (PF:Nat) (H:Sat g w l) (j:Nat) (hj:l[j]?=some (Sl e s en v xs)) (hr:Rd en ok s w u ys)
  (h1:∀y∈ys,((en y).all (·.oneCell'))=true) (hu:P.underlying t=some (.slice e)) (hz:(P.info? e).map (fun i=>(i.zero.map (fun z=>z.cells.size),i.size,i.bytes))=some (some s,s,PF)) (hsz:Nat.ble 1 s=true)
  (hb:(xs.length+ys.length) * PF<=140737488355328) (hml:xs.length+ys.length<=140737488355328)
  (k:∀v',QB l j (Sl e s en v' (xs++ys)) fun l'=>∀w',Sat g w' l'->K v' w'):Zb P (Builtin.append_ #[t,t] ty #[v,u]) w K:=by
 obtain ⟨a,cap,rfl,h2,h3,h4⟩:=hr
 cases a with
 | none =>
  obtain ⟨rfl,rfl⟩:=h3 rfl
  have k:=k v
  rw [V6,lta] at k
  have hs':l.set j (Sl e s en v xs)=l:=by
   apply lFa
   intro i
   rw [lNa]
   split
   .grind
   .rfl
  rw [hs'] at k
  exact aiq H j hj hu (by cases hi:P.info? e with
   | none=>simp [hi] at hz
   | some i=>simp [hi] at hz ⊢;exact hz.2.1) (k w H)
 | some a =>
  by_cases hy:ys=[]
  .subst hy
   obtain ⟨ab,ao,sp⟩:=a
   have kk:=k v
   rw [V6,lta] at kk
   have hs':l.set j (Sl e s en v xs)=l:=by
    apply lFa
    intro i
    rw [lNa]
    split
    .grind
    .rfl
   rw [hs'] at kk
   cases hi':P.info? e with
   | none=>simp [hi'] at hz
   | some i =>
    rcases (H.off j hj).1 with ⟨rfl,rfl⟩|⟨g,o,cap',cur,rfl,hlo,hb,hfit,hnc,Qx,ht⟩
    .refine ⟨_,_,?_,kk w H⟩
     simp [Builtin.append_,run_underlying hu,sizeOf,typeInfo,hi',Builtin.lenOf,Builtin.firstCells,loadCells,loadCellsFrom,storeCells]
    .refine ⟨_,_,?_,kk w H⟩
     simp [Builtin.append_,run_underlying hu,sizeOf,typeInfo,hi',Builtin.lenOf,Builtin.firstCells,loadCells,loadCellsFrom,storeCells,hnc]
  .obtain ⟨b,o,news,he,k1,k2⟩:=h4 hy
   obtain rfl:=yq6 he
   have TK:At w b o (ys.flatMap en):=by
    have h5:=k1.at
    have:news=ys.flatMap en:=by
     have hlen:∀x,(en x).length=s:=(H.off j hj).2
     have key:∀(ys:List α) (news:ym),news.length=ys.length * s->(∀i x,ys[i]?=some x->(news.drop (i * s)).take s=en x)->news=ys.flatMap en:=by
      intro ys
      induction ys with
      | nil=>intro news hn _;exact lma (by grind)
      | cons y ys ih =>
       intro news hn hp
       have h0:=hp 0 y rfl
       rw [Nat.zero_mul,lYa] at h0
       rw [lOa,<-h0]
       rw [lia0,lib] at hn
       have:=ih (news.drop s) (by grind) (fun i x hx=>by
        have:=hp (i+1) x (by grind)
        rw [lib,Nat.add_comm,<-lZa] at this;exact this)
       rw [<-this,leb]
     exact key ys news k2.1 fun i x hx=>(k2.2 i x hx).1
    rw [this] at h5;exact h5
   exact W3 PF H j hj TK rfl h1 hu hz hsz hb hml k
theorem RM.cut {lo:Nat} {a:Option Addr} {n cap l h:Nat} (ho:RM lo w e s en (.slice a n cap) xs) (hl:l<=h) (hh:h<=xs.length) :
  RM lo w e s en (.slice (if cap=l then a else a.map (·.add (l * s))) (h-l) (cap-l)) ((xs.take h).drop l):=by
 have hlen:((xs.take h).drop l).length=h-l:=by grind
 rcases ho.1 with ⟨he,rfl⟩|⟨g,o,cap',cur,he,hlo,hb,hfit,hnc,Qx,ht⟩
 .grind
 .injection he with h1 h2 h3
  subst h1;subst h2;subst h3
  refine ⟨.inr ⟨g,if cap=l then o else o+l * s,cap-l,cur,?_,hlo,hb,?_,?_,by omega,?_⟩,ho.2⟩
  .grind [Addr.add_lit]
  .split
   .grind
   .have:(cap-l) * s+l * s=cap * s:=by rw [<-lDb];congr 1;omega
    omega
  .omega
  .rw [hlen]
   split
   .have:h-l=0:=by omega
    rw [this,Nat.zero_mul,List.take_zero]
    have:(xs.take h).drop l=[]:=lma yQ
    rw [this];rfl
   .rw [<-Sy ho.2 (xs.take h) l (by grind),<-TO ho.2 xs h hh,<-ht,lUb,lNb,lZa]
    have h6:h * s<=xs.length * s:=lBa _ hh
    rw [lnb h6,Nat.sub_mul]
theorem NT {lo hi:Option Value} (H:Sat g w l) (j:Nat) (hj:l[j]?=some (Sl e s en v xs)) (a h:Nat) (ht:P.underlying t=some (.slice e)) (hsz:(P.info? e).map (fun i=>i.size)=some s) (ha:a<=h) (hh:h<=xs.length)
  (hlo:lo=none/\a=0\/∃k,lo=some (.int k a)) (hhi:hi=none/\h=xs.length\/∃k,hi=some (.int k h)) (k:∀v',QB l j (Sl e s en v' ((xs.take h).drop a)) fun l'=>Sat g w l'->K v' w):Zb P (Instr.sliceAt t v lo hi none) w K:=by
 obtain ⟨ad,cap,rfl⟩:=H.form j hj
 have ho:=H.off j hj
 have hnc:xs.length<=cap:=by
  rcases ho.1 with ⟨he,rfl⟩|⟨g,o,cap',cur,he,hlo,hb,hfit,hnc,_⟩
  .simp
  .grind
 have hb:(Instr.sliceBounds true xs.length cap lo hi none).run P w=.ok (a,h,cap) w:=by
  unfold Instr.sliceBounds
  rcases hlo with ⟨rfl,rfl⟩|⟨kl,rfl⟩ <;> rcases hhi with ⟨rfl,rfl⟩|⟨kh,rfl⟩
  .simp
  .exact k_x
  .simp [run_sliceBound (P:=P) w kl (a:Int) xs.length _ yQ yQ]
  .exact k_u
 refine Ff ht hsz hb ?_
 have k:=k (.slice (if cap=a then ad else ad.map (·.add (a * s))) (h-a) (cap-a))
 rw [V6] at k
 refine k (H.N2 hj (ho.cut ha hh) (Gr.same _ ?_))
 left
 cases ad with
 | none=>split <;> rfl
 | some q =>
  split
  .rfl
  .grind [Value.ownBlock,Addr.add]
theorem Z0.Y1 (h:Z0 g en ok s v xs) (hx:xs[i]?=some x):∃b o,El v s i b o/\Un g b o (en x)/\ok x:=by
 obtain ⟨a,cap,rfl,h2,h3,h4⟩:=h
 have hl:=(lba.1 hx).1
 obtain ⟨b,o,news,rfl,k1,k2⟩:=h4 (by grind)
 obtain ⟨hr,hok⟩:=k2.2 i x hx
 refine ⟨b,o+i * s,⟨o,_,cap,rfl,hl,rfl⟩,?_,hok⟩
 rw [<-hr]
 obtain ⟨cs,e',fz,h5,h6⟩:=k1
 refine ⟨cs,e',fz,h5,fun i v hv=>?_⟩
 rw [lJa] at hv
 split at hv
 .grind
 .grind
theorem Sat.RK (H:Sat g w l) (j:Nat) (hj:l[j]?=some (Sl e s en v xs)):(v=.slice none 0 0/\xs=[])\/∃b o c,v=.slice (some ⟨b,o,none⟩) xs.length c:=by
 rcases (H.off j hj).1 with ⟨h1,h2⟩|⟨g,o,cap,cur,h,_⟩
 .grind
 .grind
theorem Z0.RK (h:Z0 g en ok s v xs):(v=.slice none 0 0/\xs=[])\/∃a c,v=.slice (some a) xs.length c:=by
 obtain ⟨a,cap,rfl,h2,h3,h4⟩:=h
 cases a with
 | none=>obtain ⟨rfl,rfl⟩:=h3 rfl;exact .inl ⟨rfl,rfl⟩
 | some a=>exact .inr ⟨_,_,rfl⟩
theorem Sat.Wt {G:Prop} {p n:Nat} {cells:ym} (H:Sat g w l) (j:Nat) (hj:l[j]?=some (Pt p cells e)) (xs:List α) (hc:cells=xs.flatMap en) (hn:n=xs.length) (hs:∀x,(en x).length=s) (hb:Nat.ble xs.length 9223372036854775807=true)
  (k:QB l j (Sl e s en (.slice (some ⟨p,0,none⟩) n n) xs) fun l'=>Sat g w l'->G):G:=by
 rw [V6] at k
 subst hn
 refine k (H.step hj rfl rfl rfl fun a ha hsub=>⟨a,⟨.inr ⟨p,0,xs.length,cells,rfl,ha,?_,loa _,lcb hb,?_⟩,hs⟩,hsub,fun k hk hn=>⟨hn,rfl⟩⟩)
 .grind [Yp]
 .grind [List.take_of_length_le,Yp]
theorem HB {lo hi:Option Value} (hs:Z0 g en ok s v xs) (a h:Nat) (ht:P.underlying t=some (.slice e)) (hsz:(P.info? e).map (fun i=>i.size)=some s) (ha:a<=h) (hh:h<=xs.length)
  (hlo:lo=none/\a=0\/∃k,lo=some (.int k a)) (hhi:hi=none/\h=xs.length\/∃k,hi=some (.int k h)) (k:∀v',Z0 g en ok s v' ((xs.take h).drop a)->K v' w):Zb P (Instr.sliceAt t v lo hi none) w K:=rSl a h hs ht hsz ha hh hlo hhi k
theorem WZ {a:Option Addr} {n c:Nat} (hv:v=.slice a n c) (ht:P.underlying t=some (.slice e)) (k:K (.int .i64 n) w):Zb P (Builtin.len_ #[t] ty #[v]) w K:=by
 subst hv;exact Vj ht k
theorem La {b o n:Nat} {ki:IntKind} {i:Int} (sz j:Nat) (hj:i=j) (hl:j<n) (ht:P.underlying t=some (.array n e)) (hs:(P.info? e).map (fun i=>i.size)=some sz)
  (k:K (.pointer (some ⟨b,o+j * sz,none⟩)) w):Zb P (Instr.indexAt t (.pointer (some ⟨b,o,none⟩)) (.int ki i)) w K:=ad9 sz j _ hj hl rfl ht hs k
theorem Z4 {d:TypeDesc} {b o0 o:Nat} {vs:ym} (h:At w b o0 vs) (i:Nat) (hi:o=o0+i) (hu:P.underlying t=some d) (hd:Nj d=false) (k:JZ vs i fun v=>K v w):Zb P (Instr.loadAt t (.pointer (some ⟨b,o,none⟩))) w K:=by
 subst hi;exact akm h i hu hd k
theorem yB {P:Go.Program} {w:Go.World} {K:Go.Value->Go.World->Prop} {t:Go.TypeId} {d:Go.TypeDesc} {b o0 o:Nat} {vs:List Go.Value} (h:At w b o0 vs) (i:Nat) (q:o=o0+i/\P.underlying t=some d/\Nj d=false) (k:JZ vs i fun v=>K v w):Zb P (Go.Instr.loadAt t (.pointer (some ⟨b,o,none⟩))) w K:=Z4 h i q.1 q.2.1 q.2.2 k
theorem yI {P:Go.Program} {g:ZE} {l:List As} {t t0:Go.TypeId} {d:Go.TypeDesc} {p o:Nat} {vs:List Go.Value} {w:Go.World} {K:Go.Value->Go.World->Prop} (H:Sat g w l) (j i:Nat) (h:l[j]?=some (Pt p vs t0)/\o=0+i/\P.underlying t=some d/\Nj d=false) (k:JZ vs i fun v=>K v w):Zb P (Go.Instr.loadAt t (.pointer (some ⟨p,o,none⟩))) w K:=Z4 (H.at j h.1) i h.2.1 h.2.2.1 h.2.2.2 k
theorem yH {P:Go.Program} {g:ZE} {l:List As} {t t0:Go.TypeId} {d:Go.TypeDesc} {p o:Nat} {vs:List Go.Value} {K:Go.Value->Prop} {v:Go.Value} (j i:Nat) (h:l[j]?=some (Pt p vs t0)/\o=0+i/\P.underlying t=some d/\Nj d=false) (hv:JZ vs i fun u=>v=u) (k:K v):NU P (fun w=>Sat g w l) (Go.Instr.loadAt t (.pointer (some ⟨p,o,none⟩))) K:=tk (fun _ H=>yI H j i h (adS hv fun _ q=>⟨q,rfl⟩)) k
theorem yD {l:List Go.Field} {i:Nat} {k k':Go.TypeId->Nat->Prop} (h:DF l i k) (q:∀t o,k t o->k' t o):DF l i k':=by
 induction l generalizing i with
 |nil=>exact h.elim
 |cons f r ih=>cases i with
  |zero=>exact q _ _ h
  |succ i=>exact ih h
theorem yC {b:Bool} {k k':Prop} (h:JY b k) (q:k->k'):JY b k':=by cases b;exact h;exact q h
theorem yG {P:Go.Program} {S:Go.World->Prop} {K:Go.Value->Prop} {v:Go.Value} {s:Go.TypeId} {fs:Array Go.Field} {i b o:Nat} (hu:P.underlying s=some (.struct fs)) (h:DF fs.toList i fun ty off=>JY (Nat.ble 1 (P.cellsOf ty)) (v=.pointer (some ⟨b,o+off,none⟩))) (k:K v):NU P S (Go.Instr.fieldAt s (.pointer (some ⟨b,o,none⟩)) i) K:=tk (fun _ _=>Z9 hu (yD h fun _ _ h=>yC h fun e=>⟨e,rfl⟩)) k
theorem ZF {d:TypeDesc} {b o0 o:Nat} {vs:ym} (h:At w b o0 vs) (i:Nat) (hi:o=o0+i) (hu:P.underlying t=some d) (hd:Nj d=true) (k:Ni vs i fun r=>LU r (P.cellsOf t) fun us=>K (.agg us.toArray) w):Zb P (Instr.loadAt t (.pointer (some ⟨b,o,none⟩))) w K:=by
 subst hi;exact aii h i hu hd k
theorem Xr {d:TypeDesc} {b o0 o:Nat} {vs:ym} {K:Value->Prop} (h:At w b o0 vs) (i:Nat) (hi:o=o0+i) (hu:P.underlying t=some d) (hd:Nj d=true) (k:Ni vs i fun r=>LU r (P.cellsOf t) fun us=>K (.agg us.toArray)):H7 P (loadVar t ⟨b,o,none⟩) w K:=by
 subst hi
 rw [Ru] at k
 obtain ⟨h1,h2⟩:=PM k
 refine rdA (h.sub i (P.cellsOf t)) hu hd ?_ h2
 cases hi:P.info? t with
 | none=>simp [Program.underlying,hi] at hu
 | some j=>simp [Program.cellsOf,hi] at h1 ⊢;omega
theorem ZW {n:Int} {K:Int->Prop} (h:-9223372036854775808<=n/\n<=9223372036854775807) (k:K n):WQ (ZM .i64 n) K:=⟨n,Sa h,k⟩
theorem LR {n:Int} {K:Int->Prop} (h:0<=n/\n<=18446744073709551615) (k:K n):WQ (ZM .u64 n) K:=⟨n,DG h,k⟩
theorem JT {n:Int} {K:Int->Prop} (h:0<=n/\n<=255) (k:K n):WQ (ZM .u8 n) K:=⟨n,wu8 h,k⟩
theorem Qw {a b:Int} {K:Int->Prop} (ha:0<=a) (k:K (a % b)):WQ (Si a b) K:=⟨a % b,by unfold Si;exact Int.tmod_eq_emod_of_nonneg ha,k⟩
theorem Rp {a b:Int} {K:Int->Prop} (ha:0<=a/\a<=9223372036854775807) (hb:0<b) (k:K (a / b)):WQ (SY .i64 a b) K:=by
 refine ⟨a / b,?_,k⟩
 have e:SY .i64 a b=ZM .i64 (a.tdiv b):=by grind [SY,ZM]
 rw [e,Int.tdiv_eq_ediv_of_nonneg ha.1]
 have h1:0<=a / b:=Int.ediv_nonneg ha.1 yQ
 have h2:a / b<=a:=Int.ediv_le_self b ha.1
 exact Sa yQ
theorem Xj {s d:TypeId} {k0:IntKind} {n:Int} (h:-9223372036854775808<=n/\n<=9223372036854775807) (hs:(P.underlying s).isSome=true) (hd:P.underlying d=some (.int .i64)) (k:K (.int .i64 n) w):Zb P (convert s d (.int k0 n)) w K:=UB n (Sa h) hs hd k
theorem PA {s d:TypeId} {k0:IntKind} {n:Int} (h:0<=n/\n<=18446744073709551615) (hs:(P.underlying s).isSome=true) (hd:P.underlying d=some (.int .u64)) (k:K (.int .u64 n) w):Zb P (convert s d (.int k0 n)) w K:=UB n (DG h) hs hd k
theorem abh {s d:TypeId} {k0:IntKind} {n:Int} (h:0<=n/\n<=4294967295) (hs:(P.underlying s).isSome=true) (hd:P.underlying d=some (.int .u32)) (k:K (.int .u32 n) w):Zb P (convert s d (.int k0 n)) w K:=UB n (anw h) hs hd k
theorem TV {s d:TypeId} {k0:IntKind} {n:Int} (h:0<=n/\n<=255) (hs:(P.underlying s).isSome=true) (hd:P.underlying d=some (.int .u8)) (k:K (.int .u8 n) w):Zb P (convert s d (.int k0 n)) w K:=UB n (wu8 h) hs hd k
theorem Zd {a b:Int} (h:a<b):FG a b=true:=by grind [XP]
theorem Zk {a b:Int} (h:b<=a):FG a b=false:=by grind [XP]
theorem Ya {a b:Int} (h:a<=b):Jf a b=true:=by grind [YF]
theorem Yv {a b:Int} (h:b<a):Jf a b=false:=by grind [YF]
theorem ZI {a b:Int} (h:a=b):Nq a b=true:=by grind [Y2]
theorem Z5 {a b:Int} (h:a≠b):Nq a b=false:=by grind [Y2]
theorem Vy {a b:Int} (h:a≠b):Fm a b=true:=by grind [XH]
theorem WY {a b:Int} (h:a=b):Fm a b=false:=by grind [XH]
theorem GL {b:Bool} (h:b=false):(!b)=true:=by grind
theorem HY {b:Bool} (h:b=true):(!b)=false:=by grind
theorem Vb {b:Bool} (h:(!b)=true):b=false:=by grind
theorem Va {b:Bool} (h:(!b)=false):b=true:=by grind
theorem akz {p:Prop} [Decidable p] (h:decide p=true):p:=of_decide_eq_true h
theorem VN {b:Bool} {p:Prop} (h:b=true↔p) (c:b=false):¬p:=fun x=>by rw [h.2 x] at c;cases c
theorem akA {b:Bool} {p:Prop} (h:b=true↔p) (c:¬p):b=false:=by grind
theorem akB {p:Prop} [Decidable p] (h:decide p=false):¬p:=of_decide_eq_false h
end
end YY
namespace YY
open Go Go.RowKit Go.Lib
def SK (c:UInt8):ym:=[.int .u8 (c.toNat:Int)]
section
variable {P:Program} {g:ZE} {w w':World} {l:List As} {K:Value->World->Prop} {v v':Value} {xs ys:yo} {j:Nat} {e t u ty:TypeId}
theorem aal (ys:yo):strCells (bs ys)=ys.flatMap SK:=by
 unfold strCells bs
 show ys.toArray.toList.map _=_
 rw [List.toList_toArray]
 induction ys with
 | nil=>rfl
 | cons y ys ih=>rw [lfb,lOa,ih];rfl
theorem ahy (ys:yo):ys.flatMap SK=(ys.map fun c=>(c.toNat:Int)).map (Value.int .u8):=by
 induction ys with
 | nil=>rfl
 | cons y ys ih=>rw [lOa,lfb,lfb,ih];rfl
theorem JS (c:UInt8):(SK c).length=1:=rfl
theorem R5 {s d:TypeId} (H:Sat g w l) (j:Nat) (hj:l[j]?=some (Sl e 1 SK v xs)) (hs:P.underlying s=some (.slice e)) (he:P.underlying e=some (.int .u8)) (hd:P.underlying d=some .string)
  (k:K (.string (bs xs)) w):Zb P (convert s d v) w K:=by
 refine ⟨_,w,?_,k⟩
 rcases (H.off j hj).1 with ⟨rfl,rfl⟩|⟨gb,of,cap,cur,rfl,BN,JV,hfit,hnc,Qx,ht⟩
 .rw [run_convert_bytes_string (P:=P) w s d e none 0 0 hs he hd]
  rfl
 .rw [run_convert_bytes_string (P:=P) w s d e _ _ _ hs he hd]
  have hl:(loadCells ⟨gb,of,none⟩ xs.length).run P w=.ok ((xs.map fun c=>(c.toNat:Int)).map (Value.int .u8)).toArray w:=by
   have:=run_loadCells_list (P:=P) w ⟨gb,of,none⟩ (xs.flatMap SK) (fun i u hi=>by
    rw [Addr.add_lit]
    have TK:At w gb of (xs.flatMap SK):=by
     have:=JV.at.sub of (xs.length * 1);rw [ht,lKb] at this;exact this
    exact TK.cell hi)
   rw [Yp JS,Nat.mul_one] at this
   rw [this,ahy]
  rw [run_bytesToString (P:=P) w _ xs.length cap _ hl,foldl_push_bytes]
  simp only [List.map_map]
  congr 2
  apply ByteArray.ext
  simp [bs,Function.comp_def]
end
section
variable {P:Program} {g:ZE} {w w':World} {l:List As} {K:Value->World->Prop} {α:Type} {en:α->ym} {e t:TypeId} {s:Nat}
theorem Ud {z:Value} {kl kc:IntKind} {ln cp:Int} (H:Sat g w l) (x:α) (n c PF:Nat) (ht:P.underlying t=some (.slice e)) (hz:(P.info? e).map (fun i=>(i.zero,i.size,i.bytes))=some (some z,s,PF))
  (hx:z.cells.toList=en x) (hs:∀x,(en x).length=s) (zY:ln=n) (hcp:cp=c) (hnc:n<=c) (hb:PF * c<=281474976710656) (hc:c<=9223372036854775807)
  (k:∀v w',Sat g w' (Sl e s en v (List.replicate n x)::l)->K v w'):Zb P (Instr.makeSlice t (.int kl ln) (.int kc cp)) w K:=by
 subst zY;subst hcp
 cases hi:P.info? e with
 | none=>simp [hi] at hz
 | some i =>
  simp only [hi,Option.map_some,Option.some.injEq,Prod.mk.injEq] at hz
  obtain ⟨h2,h3,h4⟩:=hz
  have hr:=run_make (P:=P) w t e i z ht hi h2 kl kc n c yQ yQ (by grind) yQ
  rw [lga,lga] at hr
  refine ⟨_,_,hr,?_⟩
  have hzs:z.cells.size=s:=by grind
  have hm:madeCells z.cells (c * i.size)=(List.replicate c z.cells.toList).flatten.toArray:=by
   have:=aa7 c z.cells
   rw [hzs] at this
   rw [h3];unfold madeCells;rw [hzs];exact this
  rw [hm]
  have nw:=HD.mk' w (List.replicate c z.cells.toList).flatten e
  have hfl:∀k,(List.replicate k z.cells.toList).flatten=(List.replicate k x).flatMap en:=fun k=>by
   rw [hx];induction k with
   | zero=>rfl
   | succ k ih=>rw [lEb,lEb,List.flatten_cons,lOa,ih]
  refine k _ _ (H.more nw.below (a:=fun k=>if k=w.heap.size then some (.cells (List.replicate c z.cells.toList).flatten.toArray e (0,0)) else none) ⟨.inr ⟨w.heap.size,0,c,_,by rw [lfa],if_pos rfl,?_,by rw [lfa];exact hnc,hc,?_⟩,hs⟩ (fun k o hk=>?_) fun k hk=>if_neg yQ)
  .grind [Yp,List.length_replicate]
  .rw [lYa,lfa,hfl]
   rw [show List.replicate c x=List.replicate n x++List.replicate (c-n) x by rw [List.replicate_append_replicate];congr 1;omega,lQa,lAa (by grind [Yp,List.length_replicate]),lua (by grind [Yp,List.length_replicate])]
  .dsimp only at hk
   split at hk
   .rename_i h;subst h;obtain rfl:=yq6 hk;exact nw.Vs
   .grind
end
end YY
namespace YY
open Go Go.RowKit
section
variable {P:Program} {w:World} {K:Int->Prop} {KV:Value->World->Prop}
theorem U9 (k:IntKind) {a:Nat} (h:(a:Int)<=k.max):(BitVec.ofInt k.bits (a:Int)).toNat=a:=by
 have anC:k.max<2 ^ k.bits:=by cases k <;> decide
 have:=Rt k.bits a
 rw [Int.emod_eq_of_lt yQ yQ] at this
 omega
theorem wrap_small (k:IntKind) {a:Nat} (h:(a:Int)<=k.max):k.wrap (a:Int)=a:=by
 have:=Uq (k:=k) (n:=(a:Int)) (by
  have:k.min<=0:=by cases k <;> decide
  omega) h
 unfold ZM at this
 exact this
theorem akC (k:IntKind) (m:Nat) (hm:k.max=2 ^ m-1) {a b:Nat} (ha:(a:Int)<=k.max) (hb:(b:Int)<=k.max):Qp k a b=((a ^^^ b:Nat):Int)/\((a ^^^ b:Nat):Int)<=k.max:=by
 have p:((2 ^ m:Nat):Int)=2 ^ m:=by simp
 have h1:a<2 ^ m:=by omega
 have h2:b<2 ^ m:=by omega
 have h3:=Nat.xor_lt_two_pow h1 h2
 have h4:((a ^^^ b:Nat):Int)<=k.max:=by omega
 refine ⟨?_,h4⟩
 unfold Qp
 rw [BitVec.toNat_xor,U9 k ha,U9 k hb,wrap_small k h4]
theorem orN (k:IntKind) (m:Nat) (hm:k.max=2 ^ m-1) {a b:Nat} (ha:(a:Int)<=k.max) (hb:(b:Int)<=k.max):Rx k a b=((a ||| b:Nat):Int)/\((a ||| b:Nat):Int)<=k.max:=by
 have p:((2 ^ m:Nat):Int)=2 ^ m:=by simp
 have h1:a<2 ^ m:=by omega
 have h2:b<2 ^ m:=by omega
 have h3:=Nat.or_lt_two_pow h1 h2
 have h4:((a ||| b:Nat):Int)<=k.max:=by omega
 refine ⟨?_,h4⟩
 unfold Rx
 rw [BitVec.toNat_or,U9 k ha,U9 k hb,wrap_small k h4]
theorem akD (k:IntKind) {a b:Nat} (ha:(a:Int)<=k.max) (hb:(b:Int)<=k.max):Tl k a b=((a &&& b:Nat):Int):=by
 have h3:a &&& b<=a:=Nat.and_le_left
 have h4:((a &&& b:Nat):Int)<=k.max:=by omega
 unfold Tl
 rw [BitVec.toNat_and,U9 k ha,U9 k hb,wrap_small k h4]
theorem abi (n:Nat) {a:Nat} (h:a<2 ^ n):(2 ^ n-1) ^^^ a=2 ^ n-1-a:=by
 apply Nat.eq_of_testBit_eq
 intro i
 rw [Nat.testBit_xor,lCb,show 2 ^ n-1-a=2 ^ n-(a+1) by omega,Nat.testBit_two_pow_sub_succ h]
 by_cases hi:i<n
 .grind
 .have:a.testBit i=false:=Nat.testBit_lt_two_pow (Nat.lt_of_lt_of_le h (lRa (by decide) yQ))
  simp [hi,this]
theorem IY {x:Int} {n:Nat} (h:x=(n:Int) % 256):x=((UInt8.ofNat n).toNat:Int):=by grind [UInt8.toNat_ofNat']
theorem QO {k:IntKind} {x y:Int} (n:Nat) (M:Int) (hM:M=2 ^ n) (hy:y=M-1) (hn:n<k.bits) (h:K (x % M)):WQ (Tl k x y) K:=⟨_,by rw [hy,hM];exact aaA k x n hn,hM ▸ h⟩
theorem UX {k:IntKind} {x y:Int} (n:Nat) (M:Int) (hM:M=2 ^ n) (hy:y=n) (hn:n<=k.bits) (h:K (x / M)):WQ (W0 k x y) K:=⟨_,by rw [hy];exact afZ k x n hn,hM ▸ h⟩
theorem aeb {x y:Int} (a b:Nat) (hx:x=a) (hy:y=b) (ha:a<=255) (hb:b<=255) (h:a ||| b<=255->K ((a ||| b:Nat):Int)):WQ (Rx .u8 x y) K:=by
 obtain ⟨e,hl⟩:=orN .u8 8 rfl (a:=a) (b:=b) (by show (a:Int)<=255;omega) (by show (b:Int)<=255;omega)
 have hl:((a ||| b:Nat):Int)<=255:=hl
 exact ⟨_,by rw [hx,hy,e],h yQ⟩
theorem abj {x y:Int} (a b:Nat) (hx:x=a) (hy:y=b) (ha:a<=4294967295) (hb:b<=4294967295) (h:a &&& b<=a->a &&& b<=b->K ((a &&& b:Nat):Int)):WQ (Tl .u32 x y) K :=
 ⟨_,by rw [hx,hy,akD .u32 (by show (a:Int)<=4294967295;omega) (by show (b:Int)<=4294967295;omega)],h Nat.and_le_left Nat.and_le_right⟩
theorem TG {x y:Int} (a b:Nat) (hx:x=a) (hy:y=b) (ha:a<=18446744073709551615) (hb:b<=18446744073709551615) (h:a &&& b<=a->a &&& b<=b->K ((a &&& b:Nat):Int)):WQ (Tl .u64 x y) K :=
 ⟨_,by rw [hx,hy,akD .u64 (by show (a:Int)<=18446744073709551615;omega) (by show (b:Int)<=18446744073709551615;omega)],h Nat.and_le_left Nat.and_le_right⟩
theorem acF (x:Int):ZM .u8 x=x % 256:=by grind [ZM,IntKind.wrap,IntKind.bits,IntKind.signed]
theorem Ox {x:Int} (h:K (x % 256)):WQ (ZM .u8 x) K:=⟨_,acF x,h⟩
theorem aec {s d:TypeId} {k0:IntKind} {n:Int} (hs:(P.underlying s).isSome=true) (hd:P.underlying d=some (.int .u8)) (k:KV (.int .u8 (n % 256)) w):Zb P (convert s d (.int k0 n)) w KV:=UB (n % 256) (acF n) hs hd k
theorem Nc (x:Int):ZM .u32 x=x % 4294967296:=by grind [ZM,IntKind.wrap,IntKind.bits,IntKind.signed]
theorem R4 {x:Int} (h:K (x % 4294967296)):WQ (ZM .u32 x) K:=⟨_,Nc x,h⟩
theorem Yl {s d:TypeId} {k0:IntKind} {n:Int} (hs:(P.underlying s).isSome=true) (hd:P.underlying d=some (.int .u32)) (k:KV (.int .u32 (n % 4294967296)) w):Zb P (convert s d (.int k0 n)) w KV:=UB (n % 4294967296) (Nc n) hs hd k
theorem af9 {x:Int} (h0:0<=x) (h1:x<=4294967295) (k:KV (.int .u32 (4294967295-x)) w):Zb P (Op.unary .xor (.int .u32 x)) w KV:=by
 refine ⟨_,w,?_,k⟩
 obtain ⟨a,rfl⟩:∃a:Nat,x=a:=⟨x.toNat,by omega⟩
 have h2:=(akC .u32 32 rfl (a:=2 ^ 32-1) (b:=a) (by decide) (show (a:Int)<=4294967295 from h1)).1
 rw [abi 32 yQ] at h2
 have h3:(4294967295-(a:Int))=((2 ^ 32-1-a:Nat):Int):=by omega
 rw [h3,<-h2]
 unfold Qp
 rfl
theorem Nb (x:Int):ZM .u64 x=x % 18446744073709551616:=by grind [ZM,IntKind.wrap,IntKind.bits,IntKind.signed]
theorem R1 {x:Int} (h:K (x % 18446744073709551616)):WQ (ZM .u64 x) K:=⟨_,Nb x,h⟩
theorem Wy {s d:TypeId} {k0:IntKind} {n:Int} (hs:(P.underlying s).isSome=true) (hd:P.underlying d=some (.int .u64)) (k:KV (.int .u64 (n % 18446744073709551616)) w):Zb P (convert s d (.int k0 n)) w KV:=UB (n % 18446744073709551616) (Nb n) hs hd k
theorem aga {x:Int} (h0:0<=x) (h1:x<=18446744073709551615) (k:KV (.int .u64 (18446744073709551615-x)) w):Zb P (Op.unary .xor (.int .u64 x)) w KV:=by
 refine ⟨_,w,?_,k⟩
 obtain ⟨a,rfl⟩:∃a:Nat,x=a:=⟨x.toNat,by omega⟩
 have h2:=(akC .u64 64 rfl (a:=2 ^ 64-1) (b:=a) (by decide) (show (a:Int)<=18446744073709551615 from h1)).1
 rw [abi 64 yQ] at h2
 have h3:(18446744073709551615-(a:Int))=((2 ^ 64-1-a:Nat):Int):=by omega
 rw [h3,<-h2]
 unfold Qp
 rfl
theorem ack {x y:Int} (n:Nat) (M:Int) (hM:M=2 ^ n) (hx:x % M=0) (hx0:0<=x) (hy:0<=y/\y<M) (hs:x+y<=18446744073709551615) (h:K (x+y)):WQ (Rx .u64 x y) K:=by
 obtain ⟨a,rfl⟩:∃a:Nat,x=a:=⟨x.toNat,by omega⟩
 obtain ⟨b,rfl⟩:∃b:Nat,y=b:=⟨y.toNat,by omega⟩
 refine ⟨_,?_,h⟩
 have hp:((2 ^ n:Nat):Int)=2 ^ n:=by simp
 have hd:(2 ^ n:Nat) ∣ a:=by
  rw [hM,<-hp] at hx
  exact Int.natCast_dvd_natCast.1 (Int.dvd_of_emod_eq_zero hx)
 have hb:b<2 ^ n:=by omega
 have:=af0 .u64 b a n hb hd (show (b:Int)+a<=18446744073709551615 by omega)
 rw [show Rx .u64 (a:Int) (b:Int)=Rx .u64 b a by unfold Rx;rw [BitVec.or_comm],this]
 omega
theorem aed {x:Int} (h0:0<=x) (h:K ((4294967296-x) % 4294967296)):WQ (ZM .u32 (0-x)) K:=⟨_,by rw [Nc];omega,h⟩
theorem aee {x:Int} (h0:0<=x) (h:K ((18446744073709551616-x) % 18446744073709551616)):WQ (ZM .u64 (0-x)) K:=⟨_,by rw [Nb];omega,h⟩
end
end YY
namespace YY
open Go Go.RowKit
def Sb (e:TypeId) (v:Value) (xs:yo):As:=fun h =>
 ∃g cap cs fz,v=.slice (some ⟨g,0,none⟩) xs.length cap/\h g=some (.cells (List.toArray cs) e fz)/\cs.length<=fz.1/\cs.take xs.length=xs.flatMap SK/\xs.length<=cs.length
section
variable {P:Program} {g:ZE} {w w':World} {l:List As} {K:Value->World->Prop} {v v':Value} {xs ys:yo} {i j b o:Nat} {e t u ty:TypeId} {x:UInt8}
theorem Sat.sb (H:Sat g w l) (j:Nat) (hj:l[j]?=some (Sb e v xs)):∃g cap cs fz,v=.slice (some ⟨g,0,none⟩) xs.length cap/\w.heap[g]?=some (.cells (List.toArray cs) e fz)/\cs.length<=fz.1/\cs.take xs.length=xs.flatMap SK/\xs.length<=cs.length:=by
 obtain ⟨a,⟨g,cap,cs,fz,h1,h2,h3⟩,hs⟩:=H.part hj
 exact ⟨g,cap,cs,fz,h1,hs g _ h2,h3⟩
theorem Na (xs:yo) (i:Nat) (c:UInt8):(xs.set i c).flatMap SK=(xs.flatMap SK).set i (.int .u8 (c.toNat:Int)):=by
 induction xs generalizing i with
 | nil=>rfl
 | cons a xs ih =>
  cases i with
  | zero=>rfl
  | succ i=>rw [ljb,lOa,lOa,ih];rfl
end
end YY
namespace YY
open Go Go.RowKit
inductive Tr where
 | nil
 | op (i:Nat) (k:Kd) (r:Tr)
 | fork (a b:Tr)
 | hold (r:Tr)
def N1:Tr->List Nat
 | .nil=>[]
 | .op i _ _=>[i]
 | .fork a b=>N1 a++N1 b
 | .hold _=>[]
def dep:Tr->Nat
 | .nil=>0
 | .op _ _ r=>dep r+1
 | .fork a b=>max (dep a) (dep b)
 | .hold r=>dep r
def Qv:Tr->List Nat
 | .nil=>[]
 | .op i k r=>match k with
  | .held=>i::Qv r
  | _=>Qv r
 | .fork a b=>Qv a++Qv b
 | .hold _=>[]
def K9:Tr->List Nat
 | .nil=>[]
 | .op i _ r=>i::K9 r
 | .fork a b=>K9 a++K9 b
 | .hold r=>K9 r
def Ro:Tr->List Nat
 | .nil=>[]
 | .op i k r=>match k with
  | .free=>i::Ro r
  | _=>Ro r
 | .fork a b=>Ro a++Ro b
 | .hold r=>K9 r
def JR (ops:Array Oper):Tr->Bool
 | .nil=>true
 | .op _ _ r=>JR ops r
 | .fork a b=>JR ops a && JR ops b
 | .hold r=>BL ops (Qv r) (Ro r) && JR ops r
def N0 (ops:Array Oper) (x:Oper × Nat):Rec:=⟨x.2,true,T3 x.1,VP (x.1.looksAt ops),VP x.1.dst.toList⟩
def SV (ops:Array Oper):List Rec:=ops.toList.zipIdx.map (N0 ops)
def IX (a m:Nat):Bool:=Nat.beq (Nat.land a m) a
def Xm (all:Nat) (Ow:List Rec):Tr->Nat->Bool->Bool
 | .nil,m,f=>!f && Nat.beq m all
 | .op i k r,m,f=>match Ow[i]? with
  | none=>false
  | some x=>IX x.af m && !I0 m i && (match Fe k with
   | true=>!f && Ow.all fun q=>I0 m q.i || Nat.beq q.i i || I0 q.af i || PE x q
   | false=>f || Ow.all fun q=>I0 m q.i || Nat.beq q.i i || !IX q.af m) && Xm all Ow r (Nat.lor m (Nat.shiftLeft 1 i)) false
 | .fork a b,m,f=>(f || Ow.all fun q=>I0 m q.i || !IX q.af m || (N1 a++N1 b).contains q.i) && Xm all Ow a m true && Xm all Ow b m true
 | .hold r,m,f=>!f && Xm all Ow r m false
theorem acm {ops:Array Oper} {j:Nat} {o:Oper} (h:ops[j]?=some o):(SV ops)[j]?=some (N0 ops (o,j)):=by
 unfold SV
 rw [lwa,List.getElem?_zipIdx,lTa,h]
 simp
theorem Ov {ops:Array Oper} {j:Nat} {x:Rec} (h:(SV ops)[j]?=some x):∃o,ops[j]?=some o/\x=N0 ops (o,j):=by grind [SV]
theorem Qi {ops:Array Oper} {j:Nat} {o:Oper} (h:ops[j]?=some o):N0 ops (o,j)∈SV ops:=lda (acm h)
theorem air {a b:Nat} (h:∀j,a.testBit j=true->b.testBit j=true):IX a b=true:=by
 unfold IX
 rw [show Nat.land a b=a &&& b from rfl]
 have:a &&& b=a:=by
  apply Nat.eq_of_testBit_eq
  intro j
  rw [Nat.testBit_and]
  cases ha:a.testBit j
  .rfl
  .grind
 rw [this];exact Nat.beq_refl a
structure Ou (ops:Array Oper) (listed:Array Bool) (m:Nat):Prop where
 sz:listed.size=ops.size
 bit:∀j,j<ops.size->listed.getD j true=m.testBit j
 lt:∀j,m.testBit j=true->j<ops.size
 cl:Cl .any ops listed
section
variable {ops:Array Oper} {listed:Array Bool} {m:Nat}
theorem Ou.akE (I:Ou ops listed m) {j:Nat}:listed.getD j false=true↔m.testBit j=true:=by
 constructor
 .intro h
  have hj:j<listed.size:=by grind
  have h2:=I.bit j (I.sz ▸ hj)
  simp only [Array.getD_eq_getD_getElem?] at h h2
  rw [lhb hj] at h h2
  simp at h h2
  rw [<-h2,h]
 .intro h
  have hj:=I.lt j h
  have h2:=I.bit j hj
  rw [h] at h2
  simp only [Array.getD_eq_getD_getElem?] at h2 ⊢
  rw [lhb (by rw [I.sz];exact hj)] at h2 ⊢
  simpa using h2
theorem Ou.Ct (I:Ou ops listed m) {j:Nat} {o:Oper} (ho:ops[j]?=some o):j∈Region.ready .any ops listed↔m.testBit j=false/\IX (T3 o) m=true:=by
 have hj:j<ops.size:=(lxa.1 ho).1
 rw [mem_ready,I.bit j hj]
 constructor
 .rintro ⟨h1,o',ho',h2⟩
  obtain rfl:o=o':=by grind
  refine ⟨h1,air fun k hk=>?_⟩
  obtain ⟨e,he,hb,rfl⟩:=(Vc o k).1 hk
  exact I.akE.1 (h2 e he hb)
 .rintro ⟨h1,h2⟩
  exact ⟨h1,o,ho,fun e he hb=>I.akE.2 (PD h2 e.on ((Vc o e.on).2 ⟨e,he,hb,rfl⟩))⟩
theorem Ou.step (I:Ou ops listed m) {i:Nat} (hi:i<ops.size) (hr:i∈Region.ready .any ops listed):Ou ops (listed.setIfInBounds i true) (Nat.lor m (Nat.shiftLeft 1 i)):=by
 refine ⟨by simpa using I.sz,fun j hj=>?_,fun j h=>?_,I.cl.step hr⟩
 .rw [show Nat.lor m (Nat.shiftLeft 1 i)=m ||| (1 <<< i) from rfl,lAb,Nat.one_shiftLeft,lQb,<-I.bit j hj]
  by_cases h:i=j
  .subst h;simp [I.sz,hj]
  .simp [Array.getElem?_setIfInBounds_ne h,h]
 .rw [show Nat.lor m (Nat.shiftLeft 1 i)=m ||| (1 <<< i) from rfl,lAb,Nat.one_shiftLeft,lQb,Bool.or_eq_true] at h
  rcases h with h|h
  .exact I.lt j h
  .grind
theorem Ou.I0 (I:Ou ops listed m) {j:Nat}:YY.I0 m j=m.testBit j:=TH m j
end
inductive akF (k:(World->Prop)->Prop) (w:World):Prop
 | mk (S:World->Prop) (hS:S w) (h:k S)
def Vp (P:Program) (ops:List Oper) (S:World->Prop) (K:ym->World->Prop) (t:Tr):Bool->ym->World->Prop :=
 Tr.rec (motive:=fun _=>(World->Prop)->Bool->ym->World->Prop) (fun _ _=>K) (fun i k _ ih S live ρ w=>match ops[i]? with
  | none=>False
  | some o=>match k with
   | .pure=>XY ops o.guard ρ fun b ρ=>match b with
    | true=>Hf P (fun _=>True) o ρ fun v=>Xt ρ o.dst v fun ρ=>ih S live ρ w
    | false=>Xt ρ o.dst undef fun ρ=>ih S live ρ w
   | .held=>match live with
    | true=>XY ops o.guard ρ fun b ρ=>match b with
     | true=>Hf P S o ρ fun v=>Xt ρ o.dst v fun ρ=>ih S true ρ w
     | false=>Xt ρ o.dst undef fun ρ=>ih S true ρ w
    | false=>False
   | .forced=>match live with
    | true=>XY ops o.guard ρ fun b ρ=>match b with
     | true=>Ll P o ρ w fun v w'=>Ze (S w') (Xt ρ o.dst v fun ρ=>ih S true ρ w')
     | false=>Xt ρ o.dst undef fun ρ=>ih S true ρ w
    | false=>False
   | .free=>XY ops o.guard ρ fun b ρ=>match b with
    | true=>Ll P o ρ w fun v w'=>Xt ρ o.dst v fun ρ=>ih S false ρ w'
    | false=>Xt ρ o.dst undef fun ρ=>ih S false ρ w) (fun _ _ Du zX S live ρ w=>Du S live ρ w/\zX S live ρ w) (fun _ ih S live ρ w=>akF (fun S2=>ih S2 true ρ w) w) t S
theorem abk (P:Program) (ops:List Oper) (S:World->Prop) (K:ym->World->Prop) (i:Nat) (k:Kd) (r:Tr) (live:Bool) (ρ:ym) (w:World) :
  Vp P ops S K (.op i k r) live ρ w=match ops[i]? with
  | none=>False
  | some o=>match k with
   | .pure=>XY ops o.guard ρ fun b ρ=>match b with
    | true=>Hf P (fun _=>True) o ρ fun v=>Xt ρ o.dst v fun ρ=>Vp P ops S K r live ρ w
    | false=>Xt ρ o.dst undef fun ρ=>Vp P ops S K r live ρ w
   | .held=>match live with
    | true=>XY ops o.guard ρ fun b ρ=>match b with
     | true=>Hf P S o ρ fun v=>Xt ρ o.dst v fun ρ=>Vp P ops S K r true ρ w
     | false=>Xt ρ o.dst undef fun ρ=>Vp P ops S K r true ρ w
    | false=>False
   | .forced=>match live with
    | true=>XY ops o.guard ρ fun b ρ=>match b with
     | true=>Ll P o ρ w fun v w'=>Ze (S w') (Xt ρ o.dst v fun ρ=>Vp P ops S K r true ρ w')
     | false=>Xt ρ o.dst undef fun ρ=>Vp P ops S K r true ρ w
    | false=>False
   | .free=>XY ops o.guard ρ fun b ρ=>match b with
    | true=>Ll P o ρ w fun v w'=>Xt ρ o.dst v fun ρ=>Vp P ops S K r false ρ w'
    | false=>Xt ρ o.dst undef fun ρ=>Vp P ops S K r false ρ w:=rfl
section
variable {P:Program} {ops:Array Oper} {S:World->Prop} {K:ym->World->Prop} {ρ0:ym} {Z:Nat->Bool} {ds:List Deferred}
abbrev QT (ds:List Deferred) (ops:Array Oper) (K:ym->World->Prop) (ρ0:ym):Exit->Act->World->Prop:=fun e a w'=>e=.normal/\a.defers=ds/\agree (Yt ops.toList) ρ0 a.tmps.toList/\K a.tmps.toList w'
theorem agb {all:Nat} {Ow:List Rec}:∀{t:Tr} {m:Nat},Xm all Ow t m true=true->1<=dep t/\∃i∈N1 t,∃x,Ow[i]?=some x/\IX x.af m=true/\I0 m i=false:=by
 intro t
 induction t with
 | nil=>intro m h;cases h
 | op i k r _ =>
  intro m h
  unfold Xm at h
  split at h
  .cases h
  .rename_i x hx
   simp only [yq4] at h
   exact ⟨Nat.le_add_left _ _,i,lqa.2 rfl,x,hx,h.1.1.1,by simpa using h.1.1.2⟩
 | fork a b Du _ =>
  intro m h
  unfold Xm at h
  simp only [yq4] at h
  obtain ⟨h1,i,hi,r⟩:=Du h.1.2
  exact ⟨lEa h1 (Nat.le_max_left _ _),i,lbb _ hi,r⟩
 | hold r _=>intro m h;simp [Xm] at h
theorem aar {i:Nat} {k:Kd} {r:Tr} {o:Oper} (ho:ops[i]?=some o) (hk:Fe k=false) {fuel:Nat} {listed:Array Bool} {live:Bool} {ρ:ym} {w:World}
  (hz:k=.free->Z i=true) (hS:live=true->S w) (hag:agree (Yt ops.toList) ρ0 ρ) (h:Vp P ops.toList S K (.op i k r) live ρ w)
  (ih:∀live ρ w,(live=true->S w)->agree (Yt ops.toList) ρ0 ρ->Vp P ops.toList S K r live ρ w->RA P .any ops (QT ds ops K ρ0) S Z fuel (listed.setIfInBounds i true) ⟨ρ.toArray,ds⟩ w) :
  wpOp P ops (QT ds ops K ρ0) i (fun a' w'=>(Z i=true\/(S w->S w'))/\RA P .any ops (QT ds ops K ρ0) S Z fuel (listed.setIfInBounds i true) a' w') ⟨ρ.toArray,ds⟩ w:=by
 have hmem:∀n,o.dst=some n->n∈Yt ops.toList:=fun n hn=>by grind [Yt]
 rw [abk] at h
 simp only [Array.getElem?_toList,ho] at h
 cases k with
 | pure=>cases hk
 | held=>cases hk
 | forced =>
  cases live with
  | false=>exact h.elim
  | true =>
   obtain ⟨b,hb,h⟩:=XT h
   unfold wpOp
   rw [ho]
   simp only [hb]
   cases b
   .simp only [Bool.false_eq_true,if_false,X3] at h ⊢
    rw [put_eq]
    exact ⟨.inr id,ih true _ w hS (XB hag hmem _) h⟩
   .simp only [if_true] at h ⊢
    refine .inl (UD h fun v w' ⟨D6,hk⟩=>?_)
    rw [X3] at hk
    rw [put_eq]
    exact ⟨.inr fun _=>D6,ih true _ w' (fun _=>D6) (XB hag hmem v) hk⟩
 | free =>
  have hz:=hz rfl
  obtain ⟨b,hb,h⟩:=XT h
  unfold wpOp
  rw [ho]
  simp only [hb]
  cases b
  .simp only [Bool.false_eq_true,if_false,X3] at h ⊢
   rw [put_eq]
   exact ⟨.inl hz,ih false _ w nofun (XB hag hmem _) h⟩
  .simp only [if_true] at h ⊢
   refine .inl (UD h fun v w' hk=>?_)
   rw [X3] at hk
   rw [put_eq]
   exact ⟨.inl hz,ih false _ w' nofun (XB hag hmem v) hk⟩
theorem adq {S1 S2:World->Prop} {Z1 Z2:Nat->Bool} {Q:Exit->Act->World->Prop}:∀(fuel:Nat) (listed:Array Bool) (a:Act) (w:World),(∀i,i<ops.size->listed.getD i true=false->Z1 i=true)->RA P .any ops Q S2 Z2 fuel listed a w->RA P .any ops Q S1 Z1 fuel listed a w:=by
 intro fuel
 induction fuel with
 | zero=>exact fun _ _ _ _ h=>h
 | succ f ih =>
  intro listed a w hz h
  refine ⟨h.1,fun i hi=>wpOp_mono (fun a' w' k=>⟨.inl ?_,ih _ a' w' (fun j hl hj=>hz j hl ?_) k.2⟩) (h.2 i hi)⟩
  .obtain ⟨h1,o,ho,_⟩:=mem_ready.1 hi
   exact hz i (lxa.1 ho).1 h1
  .rcases Nat.decEq i j with h|h
   .rw [getD_set_ne true h] at hj;exact hj
   .subst h
    simp only [Array.getD_eq_getD_getElem?,Array.getElem?_setIfInBounds] at hj ⊢
    split at hj
    .grind
    .omega
theorem cover {n:Nat} {Ow:List Rec}:∀{t:Tr} {m:Nat} {f:Bool},Xm (2 ^ n-1) Ow t m f=true->∀j,j<n->m.testBit j=false->j∈K9 t:=by
 intro t
 induction t with
 | nil =>
  intro m f h j hj hm
  unfold Xm at h
  rw [yq4] at h
  rw [ldb h.2,lCb] at hm
  simp [hj] at hm
 | op i k r ih =>
  intro m f h j hj hm
  unfold Xm at h
  split at h
  .cases h
  .rw [yq4] at h
   by_cases e:j=i
   .subst e;exact lmb ..
   .refine lkb _ (ih h.2 j hj ?_)
    rw [show Nat.lor m (Nat.shiftLeft 1 i)=m ||| (1 <<< i) from rfl,lAb,hm,Nat.one_shiftLeft,lQb]
    simp;omega
 | fork a b Du _ =>
  intro m f h j hj hm
  unfold Xm at h
  simp only [yq4] at h
  exact lbb _ (Du h.1.2 j hj hm)
 | hold r ih =>
  intro m f h j hj hm
  unfold Xm at h
  rw [yq4] at h
  exact ih h.2 j hj hm
theorem abl (hs:Region.noSelect ops=true) (t:Tr):(∀i∈Qv t,∀j oj,ops[j]?=some oj->Z j=true->Pre .any ops j i)->(∀i∈Ro t,Z i=true)->JR ops t=true ->
  (∀(fuel:Nat) (listed:Array Bool) (m:Nat) (live:Bool) (ρ:ym) (w:World),dep t<=fuel->Ou ops listed m->Xm (2 ^ ops.size-1) (SV ops) t m false=true->(live=true->S w)->agree (Yt ops.toList) ρ0 ρ ->
   Vp P ops.toList S K t live ρ w->RA P .any ops (QT ds ops K ρ0) S Z fuel listed ⟨ρ.toArray,ds⟩ w) /\
  (∀(fuel:Nat) (listed:Array Bool) (m:Nat) (live:Bool) (ρ:ym) (w:World),dep t<=fuel+1->Ou ops listed m->Xm (2 ^ ops.size-1) (SV ops) t m true=true->(live=true->S w)->agree (Yt ops.toList) ρ0 ρ ->
   Vp P ops.toList S K t live ρ w->∀i∈N1 t,wpOp P ops (QT ds ops K ρ0) i (fun a' w'=>(Z i=true\/(S w->S w'))/\RA P .any ops (QT ds ops K ρ0) S Z fuel (listed.setIfInBounds i true) a' w') ⟨ρ.toArray,ds⟩ w):=by
 induction t generalizing S Z with
 | nil =>
  intro _ _ _
  refine ⟨fun fuel listed m live ρ w _ I hok _ hag h=>?_,fun fuel listed m live ρ w _ _ hok=>by cases hok⟩
  unfold Xm at hok
  simp only [Bool.not_false,Bool.true_and] at hok
  have hok:=ldb hok
  have hr:Region.ready .any ops listed=[]:=by
   rw [List.eq_nil_iff_forall_not_mem]
   intro j hj
   obtain ⟨_,o,ho,_⟩:=mem_ready.1 hj
   have hlt:j<ops.size:=(lxa.1 ho).1
   have:=((I.Ct ho).1 hj).1
   rw [hok,lCb] at this
   simp [hlt] at this
  cases fuel with
  | zero=>exact ⟨hr,rfl,rfl,hag,h⟩
  | succ f=>exact ⟨fun _=>⟨rfl,rfl,hag,h⟩,by rw [hr];simp⟩
 | fork a b Du zX =>
  intro I1 FD HA
  unfold JR at HA
  rw [yq4] at HA
  obtain ⟨_,ia⟩:=Du (fun i hi=>I1 i (lbb _ hi)) (fun i hi=>FD i (lbb _ hi)) HA.1
  obtain ⟨_,ib⟩:=zX (fun i hi=>I1 i (lsb0 _ hi)) (fun i hi=>FD i (lsb0 _ hi)) HA.2
  have two:∀(fuel:Nat) (listed:Array Bool) (m:Nat) (live:Bool) (ρ:ym) (w:World),dep (.fork a b)<=fuel+1->Ou ops listed m->Xm (2 ^ ops.size-1) (SV ops) a m true=true->Xm (2 ^ ops.size-1) (SV ops) b m true=true->(live=true->S w)->agree (Yt ops.toList) ρ0 ρ ->
   Vp P ops.toList S K (.fork a b) live ρ w->∀i∈N1 (.fork a b),wpOp P ops (QT ds ops K ρ0) i (fun a' w'=>(Z i=true\/(S w->S w'))/\RA P .any ops (QT ds ops K ρ0) S Z fuel (listed.setIfInBounds i true) a' w') ⟨ρ.toArray,ds⟩ w:=by
   intro fuel listed m live ρ w hf I h1 h2 hS hag h i hi
   have hf:max (dep a) (dep b)<=fuel+1:=hf
   rcases lMa.1 hi with hi|hi
   .exact ia fuel listed m live ρ w yQ I h1 hS hag h.1 i hi
   .exact ib fuel listed m live ρ w yQ I h2 hS hag h.2 i hi
  refine ⟨fun fuel listed m live ρ w hf I hok hS hag h=>?_,fun fuel listed m live ρ w hf I hok hS hag h=>?_⟩
  .unfold Xm at hok
   simp only [yq4,Bool.false_or] at hok
   obtain ⟨⟨hall,h1⟩,h2⟩:=hok
   obtain ⟨hd,i0,hi0,x,hx,hsub,hin⟩:=agb h1
   obtain ⟨f,rfl⟩:∃f,fuel=f+1:=⟨fuel-1,by have:max (dep a) (dep b)<=fuel:=hf;omega⟩
   refine ⟨fun h0=>?_,fun j hj=>?_⟩
   .obtain ⟨o,ho,rfl⟩:=Ov hx
    have:i0∈Region.ready .any ops listed:=(I.Ct ho).2 ⟨by rw [<-TH];exact hin,hsub⟩
    rw [h0] at this;cases this
   .refine two f listed m live ρ w (lEa hf (loa _)) I h1 h2 hS hag h j ?_
    obtain ⟨_,o,ho,_⟩:=mem_ready.1 hj
    obtain ⟨hb,zW⟩:=(I.Ct ho).1 hj
    have:=lqb.1 hall _ (Qi ho)
    simp only [N0,TH,hb,zW,Bool.not_true,Bool.or_false,Bool.false_or] at this
    exact List.contains_iff_mem.1 this
  .unfold Xm at hok
   simp only [yq4] at hok
   exact two fuel listed m live ρ w hf I hok.1.2 hok.2 hS hag h
 | op i k r ih =>
  intro I1 FD HA
  have Dy:∀i∈Qv r,∀j oj,ops[j]?=some oj->Z j=true->Pre .any ops j i:=fun j hj=>I1 j (by unfold Qv;cases k <;> first|exact hj|exact lkb _ hj)
  have Dx:∀i∈Ro r,Z i=true:=fun j hj=>FD j (by unfold Ro;cases k <;> first|exact hj|exact lkb _ hj)
  have hzi:k=.free->Z i=true:=fun e=>FD i (by subst e;exact lmb ..)
  obtain ⟨ih1,_⟩:=ih Dy Dx HA
  refine ⟨fun fuel listed m live ρ w hf I hok hS hag h=>?_,fun fuel listed m live ρ w hf I hok hS hag h j hj=>?_⟩
  .obtain ⟨f,rfl⟩:∃f,fuel=f+1:=⟨fuel-1,by have:dep r+1<=fuel:=hf;omega⟩
   have Hz:dep r<=f:=Nat.le_of_succ_le_succ hf
   unfold Xm at hok
   split at hok
   .grind
   .rename_i x hx
    obtain ⟨o,ho,rfl⟩:=Ov hx
    have hlt:i<ops.size:=(lxa.1 ho).1
    rw [yq4,yq4,yq4] at hok
    obtain ⟨⟨⟨hsub,hin⟩,hk⟩,Vq⟩:=hok
    have Wa:i∈Region.ready .any ops listed:=(I.Ct ho).2 ⟨by rw [<-TH];simpa using hin,hsub⟩
    have hmem:∀n,o.dst=some n->n∈Yt ops.toList:=fun n hn=>by grind [Yt]
    have HJ:=fun live ρ w hS hag h=>ih1 f (listed.setIfInBounds i true) _ live ρ w Hz (I.step hlt Wa) Vq hS hag h
    cases RJ:Fe k with
    | false =>
     rw [RJ] at hk
     simp only [Bool.false_or] at hk
     refine ⟨fun h0=>(by rw [h0] at Wa;cases Wa),fun j hj=>?_⟩
     have:j=i:=by
      obtain ⟨_,oj,Mm,_⟩:=mem_ready.1 hj
      obtain ⟨hb,zW⟩:=(I.Ct Mm).1 hj
      have:=lqb.1 hk _ (Qi Mm)
      simp only [N0,TH,hb,zW,Bool.not_true,Bool.or_false,Bool.false_or] at this
      exact ldb this
     subst this
     exact aar ho RJ hzi hS hag h HJ
    | true =>
     rw [RJ] at hk
     simp only [Bool.not_false,Bool.true_and] at hk
     have hfree:∀j oj,ops[j]?=some oj->j≠i->listed.getD j true=false->(∀e∈oj.after,Region.binds .any e=true->e.on≠i)->o.apart ops oj=true:=fun j oj Mm hne hun hno=>by
      have hjl:j<ops.size:=(lxa.1 Mm).1
      have h4:=lqb.1 hk _ (Qi Mm)
      rw [I.bit j hjl] at hun
      have anH:Nat.beq j i=false:=by
       cases hb:Nat.beq j i
       .rfl
       .exact absurd (ldb hb) hne
      have haf:I0 (T3 oj) i=false:=by grind [TH,Vc]
      have anI:(N0 ops (oj,j)).af=T3 oj:=rfl
      have hi2:(N0 ops (oj,j)).i=j:=rfl
      rw [hi2,anI,TH,hun,anH,haf] at h4
      exact aaa rfl rfl rfl rfl (by simpa using h4)
     rw [abk] at h
     simp only [Array.getElem?_toList,ho] at h
     cases k with
     | forced=>cases RJ
     | free=>cases RJ
     | pure =>
      obtain ⟨b,hb,h⟩:=XT h
      have key:∀v,YieldsIf P ops (fun _=>True) o v ⟨ρ.toArray,ds⟩->Vp P ops.toList S K r live (put ρ o.dst v) w->RA P .any ops (QT ds ops K ρ0) S Z (f+1) listed ⟨ρ.toArray,ds⟩ w:=fun v hy hk =>
       aaC ho (Region.noSelect_spec hs) (fun c a w hq=>by cases hq.1) f listed _ _ hfree Wa hy (by
        rw [put_eq]
        exact HJ live _ w hS (XB hag hmem v) hk)
      cases b
      .simp only [X3] at h
       exact key undef (.inr ⟨hb,rfl⟩) h
      .obtain ⟨v,hv,hk⟩:=SC h
       rw [X3] at hk
       exact key v (.inl ⟨hb,fun w hS=>by rw [Yj];exact hv w hS⟩) hk
     | held =>
      cases live with
      | false=>exact h.elim
      | true =>
       obtain ⟨b,hb,h⟩:=XT h
       have key:∀v,YieldsIf P ops S o v ⟨ρ.toArray,ds⟩->Vp P ops.toList S K r true (put ρ o.dst v) w->RA P .any ops (QT ds ops K ρ0) S Z (f+1) listed ⟨ρ.toArray,ds⟩ w:=fun v hy hk =>
        aaq ho (Region.noSelect_spec hs) (fun c a w hq=>by cases hq.1) (I1 i (by grind [Qv])) f listed _ _ I.cl hfree Wa hy (hS rfl) (by
         rw [put_eq]
         exact HJ true _ w hS (XB hag hmem v) hk)
       cases b
       .simp only [X3] at h
        exact key undef (.inr ⟨hb,rfl⟩) h
       .obtain ⟨v,hv,hk⟩:=SC h
        rw [X3] at hk
        exact key v (.inl ⟨hb,fun w hS=>by rw [Yj];exact hv w hS⟩) hk
  .obtain rfl:j=i:=by grind [N1]
   have Hz:dep r<=fuel:=Nat.le_of_succ_le_succ hf
   unfold Xm at hok
   split at hok
   .grind
   .rename_i x hx
    obtain ⟨o,ho,rfl⟩:=Ov hx
    have hlt:j<ops.size:=(lxa.1 ho).1
    rw [yq4,yq4,yq4] at hok
    obtain ⟨⟨⟨hsub,hin⟩,hk⟩,Vq⟩:=hok
    have RJ:Fe k=false:=by grind
    exact aar ho RJ hzi hS hag h fun live ρ w hS hag h=>ih1 fuel (listed.setIfInBounds j true) _ live ρ w Hz (I.step hlt ((I.Ct ho).2 ⟨by rw [<-TH];simpa using hin,hsub⟩)) Vq hS hag h
 | hold r ih =>
  intro I1 FD HA
  unfold JR at HA
  rw [yq4] at HA
  refine ⟨fun fuel listed m live ρ w hf I hok hS hag h=>?_,fun fuel listed m live ρ w _ _ hok=>by simp [Xm] at hok⟩
  obtain ⟨S2,hS2,h2⟩:=h
  unfold Xm at hok
  rw [yq4] at hok
  have k:=(ih (S:=S2) (Z:=fun i=>(Ro r).contains i) (fun i hi=>Nd HA.1 hi) (fun i hi=>by simpa using hi) HA.2).1 fuel listed m true ρ w hf I hok.2 (fun _=>hS2) hag h2
  exact adq fuel listed _ w (fun i hl hi=>FD i (cover hok.2 i hl (by rw [<-I.bit i hl];exact hi))) k
def K8 (ops:Array Oper) (t:Tr):Bool:=Region.noSelect ops && Nat.ble (dep t) ops.size && Xm (2 ^ ops.size-1) (SV ops) t 0 false && (BL ops (Qv t) (Ro t) && JR ops t)
theorem akG {id:Nat} {w:World} (S:World->Prop) (t:Tr) (hm:P.follows .mixedOrders=true) (hc:K8 ops t=true)
  (h:∀w1,w1=w.drew->S w1/\Vp P ops.toList S K t true ρ0 w1):Qy P id ops K ρ0 w:=by
 simp only [K8,yq4] at hc
 obtain ⟨⟨⟨h1,h2⟩,h3⟩,hz,HA⟩:=hc
 obtain ⟨hS,hk⟩:=h _ rfl
 have I:Ou ops (Array.replicate ops.size false) 0:=⟨by simp,fun j hj=>by simp [hj],fun j hj=>by simp at hj,Cl.start _⟩
 refine ⟨fun ds=>wp_region_any hm (abf (S:=S) (Z:=fun i=>(Ro t).contains i) _ _ _ _ (((abl h1 t (fun i hi=>Nd hz hi) (fun i hi=>by simpa using hi) HA).1) _ _ _ true _ _ (lcb h2) I h3 (fun _=>hS) (Qk _ _) hk))⟩
end
section
variable {P:Program} {g:ZE} {w w':World} {l:List As}
theorem M9 {id:Nat} {ops:Array Oper} {K:ym->World->Prop} {ρ:ym} (H:Sat g w l) (ds:List Nat) (t:Tr) (hm:P.follows .mixedOrders=true) (hc:K8 ops t=true)
  (h:LS ds l fun l'=>∀w1,Sat g w1 l->Vp P ops.toList (fun wx=>Sat g wx l') K t true ρ w1):Qy P id ops K ρ w:=by
 have key:∃l',(∀wx,Sat g wx l->Sat g wx l')/\∀w1,Sat g w1 l->Vp P ops.toList (fun wx=>Sat g wx l') K t true ρ w1:=by
  have:∀(ds:List Nat) (l0:List As),(∀wx,Sat g wx l->Sat g wx l0)->(LS ds l0 fun l'=>∀w1,Sat g w1 l->Vp P ops.toList (fun wx=>Sat g wx l') K t true ρ w1) ->
    ∃l',(∀wx,Sat g wx l->Sat g wx l')/\∀w1,Sat g w1 l->Vp P ops.toList (fun wx=>Sat g wx l') K t true ρ w1:=by
   intro ds
   induction ds with
   | nil=>exact fun l0 h0 h=>⟨l0,h0,h⟩
   | cons i ds ih =>
    intro l0 h0 h
    have h:JU l0 i fun r=>LS ds r _:=h
    rw [QS] at h
    exact ih _ (fun wx hx=>(h0 wx hx).del i) h
  exact this ds l (fun _ h=>h) h
 obtain ⟨l',h1,h2⟩:=key
 refine akG (fun wx=>Sat g wx l') t hm hc fun w1 e=>?_
 have H1:Sat g w1 l:=H.still (by rw [e];exact Still.drew _)
 exact ⟨h1 _ H1,h2 _ H1⟩
end
end YY
namespace YY
open Go YY Go.RowKit
theorem mixed:(Tryz.prog).follows .mixedOrders=true:=by kernel_rfl
abbrev XC (x:Int):Prop:=-9223372036854775808<=x/\x<=9223372036854775807
abbrev U8 (x:Int):Prop:=0<=x/\x<=255
section
variable {g:ZE} {w:World} {l l':List As} {A B:As} {α:Type} {en:α->ym} {s p:Nat} {v:Value} {xs ys:List α} {e:TypeId} {cs cs':ym}
def akH (l:List As):Nat->(List As->Prop)->Prop :=
 List.rec (motive:=fun _=>Nat->(List As->Prop)->Prop) (fun _ k=>k []) (fun x _ ih n k=>Nat.rec (motive:=fun _=>Prop) (k []) (fun m _=>ih m (fun r=>k (x::r))) n) l
theorem agc (l:List As) (n:Nat) (k:List As->Prop):akH l n k=k (l.take n):=by
 induction l generalizing n k with
 | nil=>cases n <;> rfl
 | cons x r ih=>cases n with
  | zero=>rfl
  | succ n=>exact ih n _
theorem abm:∀{l:List As} {n:Nat} {h:Hp},Oy l h->Oy (l.take n) h:=by
 intro l
 induction l with
 | nil=>intro n h _;rw [List.take_nil];trivial
 | cons A r ih =>
  intro n h hs
  cases n with
  | zero=>trivial
  | succ n =>
   obtain ⟨a,b,h1,h2,h3⟩:=hs
   exact ⟨a,b,h1,h2,ih h3⟩
theorem Sat.firsts {G:Prop} (H:Sat g w l) (n:Nat) (k:akH l n fun l'=>Sat g w l'->G):G:=by
 rw [agc] at k
 obtain ⟨h,hs,hx⟩:=H.ex
 exact k ⟨H.os,H.tape,H.output,h,hs,abm (n:=n+1) hx⟩
theorem Sat.cg (H:Sat g w l) (h:l=l'):Sat g w l':=h ▸ H
theorem Yu (h:A=B) (t:l=l'):A::l=B::l':=by grind
theorem Ot (h:xs=ys):Sl e s en v xs=Sl e s en v ys:=by rw [h]
theorem K7 (h:cs=cs'):Pt p cs e=Pt p cs' e:=by rw [h]
theorem VF {i:Nat} {x y:α} (h:xs[i]?=some x):(xs.set i y)[i]?=some y:=by grind
end
end YY
namespace X7
open Go YY Go.RowKit
end X7
namespace YY
open Go Go.RowKit
def Vw (v:Value) (s n a h:Nat) (v':Value):Prop:=∃ad cap,v=.slice ad n cap/\h<=n/\n<=cap/\cap<=9223372036854775807/\a<=h/\v'=.slice (if cap=a then ad else ad.map (·.add (a * s))) (h-a) (cap-a)
section
variable {P:Program} {g:ZE} {w:World} {l:List As} {K:Value->World->Prop} {α:Type} {en:α->ym} {ok:α->Prop} {s j n a h i b o:Nat} {v v':Value} {xs:List α} {e t ty:TypeId}
theorem Sat.vw (H:Sat g w l) (j:Nat) (hj:l[j]?=some (Sl e s en v xs)) (a h:Nat) (ha:a<=h) (hh:h<=xs.length):∃v',Vw v s xs.length a h v':=by
 rcases (H.off j hj).1 with ⟨rfl,rfl⟩|⟨g,o,cap,cur,rfl,_,_,_,hnc,Qx,_⟩
 .exact ⟨_,none,0,rfl,hh,lHa _,by omega,ha,rfl⟩
 .exact ⟨_,_,cap,rfl,hh,hnc,Qx,ha,rfl⟩
theorem Wr {lo hi:Option Value} (V:Vw v s n a h v') (ht:P.underlying t=some (.slice e)) (hsz:(P.info? e).map (fun i=>i.size)=some s)
  (hlo:lo=none/\a=0\/∃k,lo=some (.int k a)) (hhi:hi=none/\h=n\/∃k,hi=some (.int k h)) (k:K v' w):Zb P (Instr.sliceAt t v lo hi none) w K:=by
 obtain ⟨ad,cap,rfl,hh,hnc,_,ha,rfl⟩:=V
 have hb:(Instr.sliceBounds true n cap lo hi none).run P w=.ok (a,h,cap) w:=by
  unfold Instr.sliceBounds
  rcases hlo with ⟨rfl,rfl⟩|⟨kl,rfl⟩ <;> rcases hhi with ⟨rfl,rfl⟩|⟨kh,rfl⟩
  .simp
  .exact k_x
  .simp [run_sliceBound (P:=P) w kl (a:Int) h _ yQ yQ]
  .exact k_u
 exact Ff ht hsz hb k
theorem Sat.rdv (H:Sat g w l) (j:Nat) (hj:l[j]?=some (Sl e s en v xs)) (V:Vw v s n a h v') (hok:∀x∈(xs.take h).drop a,ok x):Rd en ok s w v' ((xs.take h).drop a):=by
 have ho:=H.off j hj
 obtain ⟨ad,cap,rfl,hh,hnc,_,ha,rfl⟩:=V
 obtain ⟨a',c',hf⟩:=H.form j hj
 injection hf with _ h2 _
 exact (ho.cut ha yQ).rd hok
theorem Vw.le (V:Vw v s n a h v'):h<=n/\a<=h:=by
 obtain ⟨ad,cap,rfl,hh,hnc,_,ha,rfl⟩:=V;exact ⟨hh,ha⟩
theorem Vw.one (V:Vw v s n a h v'):v'.oneCell'=true:=by obtain ⟨ad,cap,rfl,hh,hnc,_,ha,rfl⟩:=V;rfl
theorem Vw.el (V:Vw v s n a h v') (E:El v s (a+i) b o) (hi:i<h-a):El v' s i b o:=by
 obtain ⟨ad,cap,rfl,hh,hnc,_,ha,rfl⟩:=V
 obtain ⟨b0,n',c,hv,h1,rfl⟩:=E
 injection hv with e1 e2 e3
 subst e1
 refine ⟨b0+a * s,h-a,cap-a,?_,hi,by rw [lDb];omega⟩
 rw [if_neg yQ]
 simp [Addr.add_lit]
end
end YY
namespace YY
open Go Go.RowKit
end YY
namespace X7
open Go YY Go.RowKit
theorem ahz {x:Nat} (h:x<128):x ||| 128=x+128:=by
 have:=Nat.two_pow_add_eq_or_of_lt (i:=7) h 1
 rw [Nat.mul_one] at this
 rw [Nat.or_comm]
 show 2 ^ 7 ||| x=x+128
 rw [<-this];omega
theorem U1 (n:Int) (w:World):yq 168 #[.int .u64 n] w (fun v w'=>v=.bool (FG n 128)/\w=w'):=by
 refine Fc.of Tryz.func168 rfl k_d ?_
 have H:=Sat.start w
 exact Z6.mk<|⟨rfl,rfl⟩
theorem agd (n:Int) (m0:Nat) (hm0:n=(m0:Int)) (hn:m0<2 ^ 64) (w:World):yq 167 #[.int .u64 n,.func (.func 168) #[] #[]] w
  (fun v w'=>∃l,v=.string (bs l)/\l=W4 m0/\Sat (WO w) w' []):=by
 subst hm0
 have hlen:(W4 m0).length<=10:=Nh 9 m0 yQ
 refine Fc.of Tryz.func167 rfl k_d ?_
 have H:=Sat.start w
 refine Y6.rule (α:=Nat × Value × yo) (m0,.slice none 0 0,[]) (fun x_=>[(0,.int .u64 x_.1),(5,x_.2.1)]) (fun x_ w_=>(x_.2.2++W4 x_.1=W4 m0)/\(x_.1<2 ^ 64)/\Sat (WO w) w_ ((Sl 5 1 SK x_.2.1 x_.2.2::[]))) (fun x_=>x_.1) ?_ ?_ ?_
 .exact k_a
 .try simp only
  refine ⟨rfl,?_⟩
  refine ⟨yQ,?_⟩
  replace H:=H.VS (en:=SK) (s:=1) (5) (fun _=>rfl)
  exact H
 rintro ⟨m,vo,l⟩ f_ w_ ⟨hl,hm,H⟩
 try simp only at hl hm H ⊢
 have Cs:l.length+(W4 m).length<=10:=by grind
 have hpos:=ad5 m
 have e0:Tl .u64 (m:Int) 127=((m % 128:Nat):Int):=by grind [Le]
 by_cases h:m<128
 .have hu:=PJ h
  rw [hu] at hl
  refine Z8.mk (Fc.imp (X7.U1 _ _) ?_)
  rintro _ _ ⟨rfl,rfl⟩
  refine cF (HY (Zd yQ))<|WQ.mk _ e0<|TV yQ rfl rfl<|ZZ H rfl rfl rfl rfl<|fun p1 w1 H=>?_
  have JQ:=IY (x:=(↑(m % 128):Int)) (n:=(m % 128)) yQ
  rw [JQ] at H
  clear JQ
  refine W3 (ys:=[_]) 1 H 1 rfl (H.at 0 rfl) rfl (fun y _=>rfl) rfl rfl rfl yQ yQ<|fun v1 w2 H=>R5 H 1 rfl rfl rfl rfl<|Z6.mk ?_
  refine ⟨l++[UInt8.ofNat (m % 128)],?_⟩
  refine ⟨rfl,?_⟩
  constructor
  .grind
  exact H.firsts 0<|fun H=>H
 .have hu:=PI (n:=m) yQ
  rw [hu] at hl
  have ho:m % 128 ||| 128=m % 128+128:=by
   exact ahz yQ
  refine Z8.mk (Fc.imp (X7.U1 _ _) ?_)
  rintro _ _ ⟨rfl,rfl⟩
  refine cT (GL (Zk yQ))<|bk<|WQ.mk _ e0<|TV yQ rfl rfl ?_
  (refine aeb ((m % 128)) (128) yQ yQ yQ yQ ?_;intro hB)
  refine ZZ H rfl rfl rfl rfl<|fun p1 w1 H=>?_
  have JQ:=IY (x:=(↑(m % 128 ||| 128):Int)) (n:=(m % 128 ||| 128)) yQ
  rw [JQ] at H
  clear JQ
  refine W3 (ys:=[_]) 1 H 1 rfl (H.at 0 rfl) rfl (fun y _=>rfl) rfl rfl rfl yQ yQ<|fun v1 w2 H=>Yy.mk (by decide)<|UX 7 128 rfl rfl (by decide) ?_
  refine Xs.mk ((m / 128,v1,l++[UInt8.ofNat (m % 128 ||| 128)])) (Zw rfl yQ (ZQ rfl (ZY))) ?_ ?_
  .constructor
   .grind
   refine ⟨yQ,?_⟩
   exact H.Z7 [1]<|fun H=>H.firsts 1<|fun H=>H
  omega
theorem U (n:Int) (m0:Nat) (hm0:n=(m0:Int)) (hn:m0<2 ^ 64) (w:World):yq 122 #[.int .u64 n] w (fun v w'=>∃l,v=.string (bs l)/\l=W4 m0/\l.length<=10/\Sat (WO w) w' []):=by
 subst hm0
 have hlen:(W4 m0).length<=10:=Nh 9 m0 yQ
 refine Fc.of Tryz.func122 rfl k_d ?_
 have H:=Sat.start w
 refine Z8.mk (Fc.imp (X7.agd _ (m0) yQ yQ _) ?_)
 rintro _ w1 ⟨l1,⟨rfl,⟨h1,H'⟩⟩⟩
 refine H.XX H' ?_
 clear H H'
 intro H
 refine Z6.mk ?_
 refine ⟨l1,?_⟩
 refine ⟨rfl,?_⟩
 refine ⟨yQ,?_⟩
 constructor
 .grind
 exact H
end X7
namespace YY
open Go Go.RowKit
structure Ext (g g':ZE):Prop where
 os:g'.os=g.os
 tape:g'.tape=g.tape
 output:g'.output=g.output
 fr:∀k o,g.fr k=some o->g'.fr k=some o
theorem Ext.refl (g:ZE):Ext g g:=⟨rfl,rfl,rfl,fun _ _ h=>h⟩
theorem Ext.trans {a b c:ZE} (h:Ext a b) (k:Ext b c):Ext a c:=⟨k.os.trans h.os,k.tape.trans h.tape,k.output.trans h.output,fun _ _ x=>k.fr _ _ (h.fr _ _ x)⟩
theorem Ext.hle {g g':ZE} (E:Ext g g'):JX (Gh g) (Gh g'):=fun b o h=>E.fr b o h
section
variable {P:Program} {g g':ZE} {w w':World} {l:List As} {A:As} {α:Type} {en:α->ym} {ok ok':α->Prop} {s j b o:Nat} {v:Value} {xs:List α} {vs:ym} {e:TypeId}
theorem Z0.ext (h:Z0 g en ok s v xs) (E:Ext g g'):Z0 g' en ok s v xs:=Wu.mono (RE.mono' en ok) h E.hle
theorem Un.ext (h:Un g b o vs) (E:Ext g g'):Un g' b o vs:=D7.mono h E.hle
theorem Z0.G9 (h:Z0 g en ok s v xs) (hm:∀x∈xs,ok x->ok' x):Z0 g en ok' s v xs:=by
 obtain ⟨a,cap,h1,h2,h3,h4⟩:=h
 exact ⟨a,cap,h1,h2,h3,fun hx=>let ⟨b,o,news,e,k1,k2⟩:=h4 hx;⟨b,o,news,e,k1,k2.1,fun i x hx=>⟨(k2.2 i x hx).1,hm x (lda hx) (k2.2 i x hx).2⟩⟩⟩
theorem Z0.VE {ok:ZE->α->Prop} (hm:∀(g g':ZE) (x:α),ok g x->Ext g g'->ok g' x) (h:Z0 g en (ok g) s v xs) (E:Ext g g'):Z0 g' en (ok g') s v xs :=
 Z0.G9 (Z0.ext h E) fun _ _ k=>hm _ _ _ k E
theorem Z0.all (h:Z0 g en ok s v xs):∀x∈xs,ok x:=fun x hx=>by
 obtain ⟨a,cap,h1,h2,h3,h4⟩:=h
 obtain ⟨b,o,news,e,k1,k2⟩:=h4 (List.ne_nil_of_mem hx)
 obtain ⟨i,hi,rfl⟩:=lzb.1 hx
 exact (k2.2 i _ (laa hi)).2
theorem Rd.tt {w:World} (h:Rd en ok s w v xs):Rd en (fun _=>True) s w v xs:=by
 obtain ⟨a,cap,h1,h2,h3,h4⟩:=h
 exact ⟨a,cap,h1,h2,h3,fun hx=>let ⟨b,o,news,e,k1,k2⟩:=h4 hx;⟨b,o,news,e,k1,k2.1,fun i x hx=>⟨(k2.2 i x hx).1,trivial⟩⟩⟩
theorem Z0.one (h:Z0 g en ok s v xs):v.oneCell'=true:=by obtain ⟨a,cap,rfl,_⟩:=h;rfl
theorem Z0.form (h:Z0 g en ok s v xs):∃a c,v=.slice a xs.length c:=by obtain ⟨a,cap,rfl,_⟩:=h;exact ⟨_,_,rfl⟩
theorem Z0.NR (g:ZE) (en:α->ym) (ok:α->Prop) (s:Nat):Z0 g en ok s (.slice none 0 0) []:=Wu.nil _ _ _
theorem Sat.acG (H:Sat g w l) (hj:l[j]?=some A):∃g' a,Ext g g'/\A a/\(∀k o,a k=some o->g'.fr k=some o)/\Sat g' w (l.eraseIdx j):=by
 obtain ⟨h,hs,f,b,h1,h2,h3⟩:=H.ex
 obtain rfl:f=g.fr:=h2
 obtain ⟨a,c,h4,h5,h6⟩:=(R6 hj).1 h3
 refine ⟨{ g with fr:=fun k=>match a k with
  | some o=>some o
  | none=>g.fr k },a,⟨rfl,rfl,rfl,fun k o hk=>?_⟩,h5,fun k o hk=>?_,H.os,H.tape,H.output,h,hs,_,c,fun k=>?_,rfl,h6⟩
 .dsimp only
  cases ha:a k with
  | none=>exact hk
  | some o' =>
   exfalso
   rcases h1 k with ⟨_,q⟩|⟨q,_⟩
   .rcases h4 k with ⟨r,_⟩|⟨r,_⟩
    .grind
    .grind
   .grind
 .grind
 .dsimp only
  rcases h1 k with ⟨q1,q2⟩|⟨q1,q2⟩
  .rcases h4 k with ⟨r1,r2⟩|⟨r1,r2⟩
   .grind
   .grind
  .rcases h4 k with ⟨r1,r2⟩|⟨r1,r2⟩
   .grind
   .grind
theorem Sl.rdf {a:Hp} (h:Sl e s en v xs a) (hf:∀k o,a k=some o->g.fr k=some o) (hok:∀x∈xs,ok x):Z0 g en ok s v xs:=by
 rcases h.1 with ⟨rfl,rfl⟩|⟨gb,o,cap,cur,rfl,hb,hfit,hnc,Qx,ht⟩
 .exact Wu.nil _ _ _
 .refine ⟨_,cap,rfl,⟨hnc,Qx⟩,nofun,fun _=>⟨gb,o,xs.flatMap en,rfl,⟨cur.toArray,e,(0,0),hf _ _ hb,fun i x hx=>?_⟩,Yp h.2 xs,fun i x hx=>⟨SB h.2 xs i x hx,hok x (lda hx)⟩⟩⟩
  rw [<-ht,lJa] at hx
  split at hx
  .grind
  .grind
theorem Sat.freeze (H:Sat g w l) (hj:l[j]?=some (Sl e s en v xs)) (hok:∀x∈xs,ok x):∃g',Ext g g'/\Z0 g' en ok s v xs/\Sat g' w (l.eraseIdx j):=by
 obtain ⟨g',a,E,h1,h2,h3⟩:=H.acG hj
 exact ⟨g',E,h1.rdf h2 hok,h3⟩
theorem Sat.Wn {G:Prop} (H:Sat g w l) (j:Nat) (ok:α->Prop) (hj:l[j]?=some (Sl e s en v xs)) (hok:∀x∈xs,ok x) (k:∀g',Ext g g'->Z0 g' en ok s v xs->JU l j fun l'=>Sat g' w l'->G):G:=by
 obtain ⟨g',E,h1,h2⟩:=H.freeze hj hok
 have k:=k g' E h1
 rw [QS] at k;exact k h2
theorem Sat.taken (H:Sat g w l) (n:Nat):Sat g w (l.take n):=by
 obtain ⟨h,hs,hx⟩:=H.ex
 exact ⟨H.os,H.tape,H.output,h,hs,abm (n:=n+1) hx⟩
theorem Sat.tl (H:Sat g w (A::l)):Sat g w l:=H.del 0
theorem Sat.forget (H:Sat g' w l) (E:Ext g g'):Sat g w l:=by
 obtain ⟨h,hs,f,b,h1,h2,h3⟩:=H.ex
 obtain rfl:f=g'.fr:=h2
 refine ⟨H.os.trans E.os,H.tape.trans E.tape,H.output.trans E.output,fun k=>match b k with
  | some o=>some o
  | none=>g.fr k,fun k o hk=>?_,g.fr,b,fun k=>?_,rfl,h3⟩
 .dsimp only at hk
  cases hb:b k with
  | some o' =>
   rw [hb] at hk
   obtain rfl:=yq6 hk
   rcases h1 k with ⟨_,q⟩|⟨_,q⟩
   .grind
   .exact hs k _ (q ▸ hb)
  | none =>
   rw [hb] at hk
   have:=E.fr k o hk
   rcases h1 k with ⟨q,_⟩|⟨q,_⟩
   .exact hs k _ (q ▸ this)
   .grind
 .dsimp only
  cases hb:b k with
  | none=>left;exact ⟨rfl,rfl⟩
  | some o =>
   right
   refine ⟨?_,rfl⟩
   cases hg:g.fr k with
   | none=>rfl
   | some o' =>
    have:=E.fr k o' hg
    rcases h1 k with ⟨_,q⟩|⟨q,_⟩
    .grind
    .grind
theorem Ext.fin {w0:World} (E:Ext (WO w0) g) (H:Sat g w l):Below w0.heap.size w0 w:=(H.forget E).finish
theorem Ext.start {w0:World} (E:Ext (WO w0) g) (H:Sat g w l):Sat (WO w0) w l:=H.forget E
end
end YY
namespace YY
open Go
theorem Fc.K6 {P:Program} {f:FuncId} {fn:Func} {c:Code} {args:Array Value} {w:World} {R:Value->World->Prop}
  (hf:P.funcs[f]?=some fn) (hb:fn.body=some c) (hn:(fn.name == "runtime.NumGoroutine")=false) (h:Calls P f args w fun e w'=>∃v,e=.returned v/\R v w'):Fc P f args w R:=by
 refine ⟨?_,h⟩
 simp only [callFunc,Sem.run_bind,program,Sem.run,Result.andThen_ok,hf]
 rw [if_neg (by grind),if_neg (by grind)]
 rfl
end YY
namespace X7
open Go Go.Lib
end X7
namespace Fb
open X7
structure RS where
 at_:Nat
 bad:Int
abbrev NZ (α:Type):=yo->RS->α × RS
def GK (e:Int) (r:RS):RS:=if r.bad=0 then ⟨r.at_,e⟩ else r
def TF:NZ Int:=fun s r=>if r.bad≠0 then (0,r) else match s[r.at_]? with
 | none=>(0,⟨r.at_,3⟩)
 | some c=>(c.toNat,⟨r.at_+1,0⟩)
def V9:NZ Int:=fun s r=>if r.bad≠0 then (0,r) else ((Jd 32 (s.drop r.at_) 0 0).1,⟨r.at_+(Jd 32 (s.drop r.at_) 0 0).2.1,(Jd 32 (s.drop r.at_) 0 0).2.2⟩)
def Vm (bits:Nat):NZ Int:=fun s r=>if r.bad≠0 then (0,r) else ((Ld bits (s.drop r.at_) 0 0).1,⟨r.at_+(Ld bits (s.drop r.at_) 0 0).2.1,(Ld bits (s.drop r.at_) 0 0).2.2⟩)
def Vo {α:Type} (v:α):NZ α:=fun _ r=>(v,r)
def Xi {α β:Type} (p:NZ α) (q:α->NZ β):NZ β:=fun s r=>q (p s r).1 s (p s r).2
def Uc (e:Int):NZ Unit:=fun _ r=>((),GK e r)
def ZP {α:Type} (p:NZ α):Prop:=∀s r,r.bad≠0->(p s r).2=r
structure Tx {α:Type} (A:yo) (p:NZ α) (v:α):Prop where
 whole:∀s k rest,s.drop k=A++rest->p s ⟨k,0⟩=(v,⟨k+A.length,0⟩)
 cut:∀s k j,s.drop k=A.take j->j<A.length->(p s ⟨k,0⟩).2.bad=3
theorem ZP.ret {α:Type} (v:α):ZP (Vo v):=fun _ _ _=>rfl
theorem ZP.Qu:ZP TF:=fun s r h=>by unfold TF;rw [if_pos h]
theorem ZP.plain:ZP V9:=fun s r h=>by unfold V9;rw [if_pos h]
theorem ZP.signed (b:Nat):ZP (Vm b):=fun s r h=>by unfold Vm;rw [if_pos h]
theorem ZP.fail (e:Int):ZP (Uc e):=fun s r h=>by unfold Uc GK;rw [if_neg h]
theorem ZP.bind {α β:Type} {p:NZ α} {q:α->NZ β} (hp:ZP p) (hq:∀v,ZP (q v)):ZP (Xi p q):=fun s r h=>by
 unfold Xi
 rw [hp s r h];exact hq _ s r h
theorem Tx.ret {α:Type} (v:α):Tx [] (Vo v) v:=⟨fun s k rest _=>rfl,fun s k j _ h=>absurd h (Nat.not_lt_zero j)⟩
theorem Tx.bind {α β:Type} {A B:yo} {p:NZ α} {q:α->NZ β} {v:α} {u:β} (hp:Tx A p v) (hq:Tx B (q v) u) (hs:∀v,ZP (q v)):Tx (A++B) (Xi p q) u:=by
 refine ⟨fun s k rest h=>?_,fun s k j h hj=>?_⟩
 .have h1:=hp.whole s k (B++rest) (by grind)
  unfold Xi
  rw [h1]
  have h2:s.drop (k+A.length)=B++rest:=by grind [List.drop_drop,List.append_assoc,List.drop_left]
  rw [hq.whole s _ rest h2,lca,lRb]
 .unfold Xi
  by_cases hja:j<A.length
  .rw [lAa (lab0 hja)] at h
   have h1:=hp.cut s k j h hja
   rw [hs _ s _ yQ,h1]
  .have hj2:j=A.length+(j-A.length):=by omega
   rw [hj2,List.take_append,lua yQ,Nat.add_sub_cancel_left] at h
   have h1:=hp.whole s k _ h
   rw [h1]
   refine hq.cut s _ (j-A.length) ?_ (by grind)
   rw [<-lZa,h,List.drop_left]
theorem Tx.Qu (c:UInt8):Tx [c] TF (c.toNat:Int):=by
 refine ⟨fun s k rest h=>?_,fun s k j h hj=>?_⟩
 .have hc:s[k]?=some c:=by
   have:=yq5 (·[0]?) h
   simpa [List.getElem?_drop] using this
  unfold TF
  rw [if_neg yO]
  simp only [hc];rfl
 .obtain rfl:j=0:=by grind
  have hc:s[k]?=none:=by grind
  unfold TF
  rw [if_neg yO]
  simp only [hc]
theorem Tx.aef (n:Int) (h:0<=n/\n<=255):Tx [UInt8.ofNat n.toNat] TF n:=by
 have:=Tx.Qu (UInt8.ofNat n.toNat)
 rw [VQ yQ] at this
 rw [show ((n.toNat:Nat):Int)=n by omega] at this
 exact this
theorem Tx.plain (n:Nat) (h:n<2 ^ 32):Tx (W4 n) V9 (n:Int):=by
 refine ⟨fun s k rest hd=>?_,fun s k j hd hj=>?_⟩
 .unfold V9
  rw [if_neg yO]
  simp only [hd,akq n rest h];rfl
 .unfold V9
  rw [if_neg yO]
  simp only [hd]
  rw [af2 32 n 0 0 j (by decide) yQ hj];rfl
theorem Tx.aeg (n:Int) (h:-2147483648<=n/\n<=2147483647):Tx (UY n) (Vm 32) n:=by
 refine ⟨fun s k rest hd=>?_,fun s k j hd hj=>?_⟩
 .unfold Vm
  rw [if_neg yO]
  simp only [hd,akp n rest h];rfl
 .unfold Vm
  rw [if_neg yO]
  simp only [hd]
  rw [acD 32 _ n 0 0 j (loa _) (by decide) (by simp;omega) (by simp;omega) hj];rfl
theorem Tx.aeh (n:Int) (h:-9223372036854775808<=n/\n<=9223372036854775807):Tx (UY n) (Vm 64) n:=by
 refine ⟨fun s k rest hd=>?_,fun s k j hd hj=>?_⟩
 .unfold Vm
  rw [if_neg yO]
  simp only [hd,ako n rest h];rfl
 .unfold Vm
  rw [if_neg yO]
  simp only [hd]
  rw [acD 64 _ n 0 0 j (loa _) (by decide) (by simp;omega) (by simp;omega) hj];rfl
def Gt {α:Type} (p:NZ α) (Q:α->Nat->Prop):Prop:=∀s k,k<=s.length->(p s ⟨k,0⟩).2.bad=0->(p s ⟨k,0⟩).2.at_<=s.length/\∃n,(p s ⟨k,0⟩).2.at_=k+n/\Q (p s ⟨k,0⟩).1 n
theorem Gt.imp {α:Type} {p:NZ α} {Q Q':α->Nat->Prop} (h:Gt p Q) (hq:∀v n,Q v n->Q' v n):Gt p Q':=fun s k hk h0=>by
 obtain ⟨h1,n,h2,h3⟩:=h s k hk h0
 exact ⟨h1,n,h2,hq _ _ h3⟩
theorem Gt.ret {α:Type} (v:α):Gt (Vo v) (fun u n=>u=v/\n=0):=fun s k hk _=>⟨hk,0,rfl,rfl,rfl⟩
theorem Gt.bind {α β:Type} {p:NZ α} {q:α->NZ β} {Q:α->Nat->Prop} {Q':α->β->Nat->Prop} (hp:Gt p Q) (hq:∀v n,Q v n->Gt (q v) (Q' v)) (hs:∀v,ZP (q v)) :
  Gt (Xi p q) (fun u n=>∃v m m',Q v m/\Q' v u m'/\n=m+m'):=fun s k hk h0=>by
 have h0':(q (p s ⟨k,0⟩).1 s (p s ⟨k,0⟩).2).2.bad=0:=h0
 show (q (p s ⟨k,0⟩).1 s (p s ⟨k,0⟩).2).2.at_<=_/\∃n,(q (p s ⟨k,0⟩).1 s (p s ⟨k,0⟩).2).2.at_=_/\∃v m m',_/\Q' v (q (p s ⟨k,0⟩).1 s (p s ⟨k,0⟩).2).1 m'/\_
 have AU:=hp s k hk
 generalize p s ⟨k,0⟩=pr at *
 obtain ⟨v,⟨k1,b1⟩⟩:=pr
 have hb:b1=0:=by
  apply Decidable.byContradiction
  intro hb
  rw [hs v s _ hb] at h0'
  exact hb h0'
 subst hb
 obtain ⟨h1,m,h2,h3⟩:=AU rfl
 obtain ⟨h4,m',h5,h6⟩:=hq v m h3 s k1 h1 h0'
 simp only at h1 h2 h4 h5
 exact ⟨h4,m+m',by rw [h5,h2,lRb],v,m,m',h3,h6,rfl⟩
theorem Gt.Qu:Gt TF (fun v n=>0<=v/\v<=255/\n=1):=fun s k hk h0=>by
 unfold TF at *
 rw [if_neg yO] at *
 cases hc:s[k]? with
 | none=>simp [hc] at h0
 | some c =>
  have hl:=(lba.1 hc).1
  have:=c.toNat_lt
  simp only [hc]
  exact ⟨hl,1,rfl,by omega,by omega,rfl⟩
theorem Gt.plain:Gt V9 (fun v n=>∃m:Nat,v=m/\m<2 ^ 32/\(W4 m).length<=n):=fun s k hk h0=>by
 unfold V9 at *
 rw [if_neg yO] at *
 simp only at h0 ⊢
 have hb:=aij 32 (s.drop k) 0 0 (by decide) (.inl rfl) (by decide)
 rcases hr:Jd 32 (s.drop k) 0 0 with ⟨n,m,e⟩
 rw [hr] at h0 hb
 simp only at h0 hb ⊢
 obtain rfl:e=0:=by omega
 obtain ⟨h1,h2,h3⟩:=ado 32 (s.drop k) 0 0 n m (by decide) hr
 rw [lIa] at h3
 exact ⟨by omega,m,rfl,n,rfl,hb,ab8 h1 h2⟩
theorem Gt.signed (b:Nat) (hb:b=32\/b=64):Gt (Vm b) (fun v n=>-((2 ^ (b-1):Nat):Int)<=v/\v<((2 ^ (b-1):Nat):Int)/\(UY v).length<=n):=fun s k hk h0=>by
 unfold Vm at *
 rw [if_neg yO] at *
 simp only at h0 ⊢
 have hbd:=aik b (s.drop k) 0 0 yQ hb (by decide)
 rcases hr:Ld b (s.drop k) 0 0 with ⟨n,m,e⟩
 rw [hr] at h0 hbd
 simp only at h0 hbd ⊢
 obtain rfl:e=0:=by omega
 obtain ⟨h1,h2,h3,h4⟩:=adp b (s.drop k) 0 0 n m (by decide) hr
 rw [lIa] at h4
 exact ⟨by omega,m,rfl,hbd.1,hbd.2,ab9 h1 h2 yQ⟩
end Fb
namespace YV
open X7 Fb
structure ZV where
 op:Int
 a:Int
 b:Int
 to:yp
def wid (o:Int):Int :=
 if o=44\/o=45\/o=48\/o=49\/o=58\/o=60 then 1
 else if o=46\/o=47\/o=50\/o=51\/o=59\/o=61 then 2
 else if o=40\/o=52\/o=53\/o=54\/o=62 then 4
 else if o=41\/o=55 then 8 else 0
def kd (o b:Int):Int:=if o<b then 127 else 126
def XS (o:Int):yp × Int × Bool :=
 if o=69\/o=80 then ([kd o 80],127,true)
 else if 69<o/\o<=90 then ([kd o 80,kd o 80],127,true)
 else if (103<=o/\o<=105)\/(121<=o/\o<=123) then ([kd o 121],kd o 121,true)
 else if 106<=o/\o<=138 then ([kd o 121,kd o 121],kd o 121,true)
 else if o=167 then ([126],127,true)
 else if o=172\/o=173 then ([127],126,true)
 else if 192<=o/\o<=196 then ([kd o 194],kd o 194,true)
 else ([],0,false)
def Yw (o:Int):Int :=
 if o=2\/o=3\/o=4 then 2
 else if o=12\/o=13\/o=16\/(32<=o/\o<=36) then 3
 else if o=14 then 4
 else if o=17 then 5
 else if 0<wid o then 6
 else if o=63\/o=64 then 7
 else if o=65 then 8
 else if o=66 then 9
 else if o<=1\/o=5\/o=11\/o=15\/o=26\/o=27 then 1
 else if (XS o).2.2=true then 1 else 0
def W6 (n:Int):Prop:=0<=n/\n<=4294967295
instance (n:Int):Decidable (W6 n):=by unfold W6;infer_instance
def YU (k a b:Int):Prop :=
 if k=1\/k=7 then a=0
 else if k=2 then a=64\/a=127\/a=126
 else if k=8 then -2147483648<=a/\a<=2147483647
 else if k=6 then W6 a/\W6 b
 else if k=3\/k=4\/k=5 then W6 a else True
instance (k a b:Int):Decidable (YU k a b):=by unfold YU;infer_instance
def WB (x:ZV):Int :=
 if Yw x.op=0 then 6
 else if 16<x.to.length then 2
 else if (Yw x.op≠4/\0<x.to.length)\/(Yw x.op≠6/\x.b≠0) then 1
 else if YU (Yw x.op) x.a x.b/\∀n∈x.to,W6 n then 0 else 1
def D1 (n:Int):UInt8:=UInt8.ofNat (n % 256).toNat
def Qh (k:Int) (x:ZV):yo :=
 if k=2 then [D1 x.a]
 else if k=3 then W4 x.a.toNat
 else if k=4 then W4 x.to.length++(x.to.flatMap (fun n=>W4 n.toNat)++W4 x.a.toNat)
 else if k=5 then W4 x.a.toNat++[0]
 else if k=6 then W4 x.a.toNat++W4 x.b.toNat
 else if k=7 then [0]
 else if k=8\/k=9 then UY x.a
 else []
def BK (x:ZV):yo:=D1 x.op::Qh (Yw x.op) x
def M8:Nat->NZ yp
 | 0=>Vo []
 | n+1=>Xi V9 fun v=>Xi (M8 n) fun l=>Vo (v::l)
def QN:NZ Unit:=Xi TF fun v=>if v≠0 then Uc 4 else Vo ()
def aei (o:Int):NZ ZV:=Xi TF fun k=>Xi (if k≠64/\k≠127/\k≠126 then Uc 6 else Vo ()) fun _=>Vo ⟨o,k,0,[]⟩
def ahA (o:Int):NZ ZV:=Xi V9 fun n=>Xi (if 16<n then Uc 2 else Vo ()) fun _=>Xi (M8 (if 16<n then 0 else n.toNat)) fun l=>Xi V9 fun a=>Vo ⟨o,a,0,l⟩
def JP (o k:Int):NZ ZV :=
 if k=2 then aei o
 else if k=3 then Xi V9 fun a=>Vo ⟨o,a,0,[]⟩
 else if k=4 then ahA o
 else if k=5 then Xi V9 fun a=>Xi QN fun _=>Vo ⟨o,a,0,[]⟩
 else if k=6 then Xi V9 fun a=>Xi V9 fun b=>Vo ⟨o,a,b,[]⟩
 else if k=7 then Xi QN fun _=>Vo ⟨o,0,0,[]⟩
 else if k=8 then Xi (Vm 32) fun a=>Vo ⟨o,a,0,[]⟩
 else if k=9 then Xi (Vm 64) fun a=>Vo ⟨o,a,0,[]⟩
 else Vo ⟨o,0,0,[]⟩
def IW:NZ ZV:=Xi TF fun o=>Xi (if Yw o=0 then Uc 6 else Vo ()) fun _=>JP o (Yw o)
def akI:ZV:=⟨0,0,0,[]⟩
def G8 (s:yo):ZV × Nat × Int :=
 if (IW s ⟨0,0⟩).2.bad=0 then ((IW s ⟨0,0⟩).1,(IW s ⟨0,0⟩).2.at_,0) else (akI,0,(IW s ⟨0,0⟩).2.bad)
theorem ZP.many:∀n,ZP (M8 n)
 | 0=>ZP.ret _
 | n+1=>ZP.plain.bind fun _=>(ZP.many n).bind fun _=>ZP.ret _
theorem ZP.SU:ZP QN:=ZP.Qu.bind fun v=>by
 split
 .exact ZP.fail _
 .exact ZP.ret _
theorem ZP.ite {α:Type} {c:Prop} [Decidable c] {p q:NZ α} (hp:ZP p) (hq:ZP q):ZP (if c then p else q):=by grind
theorem ZP.block (o:Int):ZP (aei o):=ZP.Qu.bind fun v=>(ZP.ite (ZP.fail _) (ZP.ret _)).bind fun _=>ZP.ret _
theorem ZP.ways (o:Int):ZP (ahA o):=ZP.plain.bind fun n=>(ZP.ite (ZP.fail _) (ZP.ret _)).bind fun _=>(ZP.many _).bind fun _=>ZP.plain.bind fun _=>ZP.ret _
theorem ZP.Yw (o k:Int):ZP (JP o k):=by
 unfold JP
 refine ZP.ite (ZP.block o) (ZP.ite (ZP.plain.bind fun _=>ZP.ret _) (ZP.ite (ZP.ways o) (ZP.ite (ZP.plain.bind fun _=>ZP.SU.bind fun _=>ZP.ret _) (ZP.ite (ZP.plain.bind fun _=>ZP.plain.bind fun _=>ZP.ret _) (ZP.ite (ZP.SU.bind fun _=>ZP.ret _) (ZP.ite ((ZP.signed _).bind fun _=>ZP.ret _) (ZP.ite ((ZP.signed _).bind fun _=>ZP.ret _) (ZP.ret _))))))))
theorem ZP.ins:ZP IW:=ZP.Qu.bind fun _=>(ZP.ite (ZP.fail _) (ZP.ret _)).bind fun _=>ZP.Yw _ _
theorem Tx.cg {α:Type} {A A':yo} {p:NZ α} {v:α} (h:Tx A p v) (e:A=A'):Tx A' p v:=e ▸ h
theorem Tx.many:∀(l:yp),(∀n∈l,W6 n)->Tx (l.flatMap fun n=>W4 n.toNat) (M8 l.length) l
 | [],_=>Tx.ret _
 | n::l,h=>by
  obtain ⟨h1,h2⟩:=h n (lmb ..)
  have h3:=Tx.plain n.toNat yQ
  rw [show ((n.toNat:Nat):Int)=n by omega] at h3
  have:=h3.bind (q:=fun v=>Xi (M8 l.length) fun l'=>Vo (v::l')) ((Tx.many l fun m hm=>h m (lkb _ hm)).bind (q:=fun l'=>Vo (n::l')) (Tx.ret _) fun _=>ZP.ret _) fun _=>(ZP.many _).bind fun _=>ZP.ret _
  rw [lta] at this
  exact this
theorem Tx.SU:Tx [0] QN ():=by
 have:=(Tx.Qu 0).bind (q:=fun v=>if v≠0 then Uc 4 else Vo ()) (B:=[]) (u:=()) (by
  rw [if_neg (by decide)];exact Tx.ret _) fun v=>ZP.ite (ZP.fail _) (ZP.ret _)
 rw [lta] at this;exact this
theorem Tx.idx {n:Int} (h:W6 n):Tx (W4 n.toNat) V9 n:=by
 obtain ⟨h1,h2⟩:=h
 have h3:=Tx.plain n.toNat yQ
 rw [show ((n.toNat:Nat):Int)=n by omega] at h3
 exact h3
theorem aaD (o:Int):Yw o=0\/Yw o=1\/Yw o=2\/Yw o=3\/Yw o=4\/Yw o=5\/Yw o=6\/Yw o=7\/Yw o=8\/Yw o=9:=by
 unfold Yw
 repeat' split
 all_goals simp
theorem aej {n:Int} (h:0<=n/\n<=255):D1 n=UInt8.ofNat n.toNat:=by grind [D1]
theorem Tx.beside {x:ZV} (h0:Yw x.op≠0) (hto:x.to.length<=16) (h1:Yw x.op≠4->x.to=[]) (h2:Yw x.op≠6->x.b=0) (hg:YU (Yw x.op) x.a x.b) (ht:∀n∈x.to,W6 n) (ha:-9223372036854775808<=x.a/\x.a<=9223372036854775807):Tx (Qh (Yw x.op) x) (JP x.op (Yw x.op)) x:=by
 obtain ⟨o,a,b,to⟩:=x
 simp only at h0 hto h1 h2 hg ht ha ⊢
 generalize hk:YV.Yw o=k at *
 have hkc:=aaD o
 rw [hk] at hkc
 unfold YU at hg
 unfold Qh JP
 rcases hkc with rfl|rfl|rfl|rfl|rfl|rfl|rfl|rfl|rfl|rfl
 .omega
 .simp at hg h1 h2
  simp only [h1,h2,hg]
  exact Tx.ret _
 .simp at hg h1 h2
  simp only [h1,h2]
  have hb:0<=a/\a<=255:=by omega
  have:=(Tx.aef a hb).bind (q:=fun k=>Xi (if k≠64/\k≠127/\k≠126 then Uc 6 else Vo ()) fun _=>Vo (⟨o,k,0,[]⟩:ZV)) (B:=[]++[]) (u:=⟨o,a,0,[]⟩) ((show Tx [] _ () by rw [if_neg yQ];exact Tx.ret _).bind (Tx.ret _) fun _=>ZP.ret _) fun v=>(ZP.ite (ZP.fail _) (ZP.ret _)).bind fun _=>ZP.ret _
  rw [lta,lta,<-aej hb] at this
  exact this
 .simp at hg h1 h2
  simp only [h1,h2]
  have:=(Tx.idx hg).bind (q:=fun a=>Vo (⟨o,a,0,[]⟩:ZV)) (Tx.ret _) fun _=>ZP.ret _
  rw [lta] at this
  exact this
 .simp at hg h2
  simp only [h2]
  have hidx:W6 ((to.length:Nat):Int):=⟨by omega,by omega⟩
  have hn:Tx (W4 to.length) V9 ((to.length:Nat):Int):=by have:=Tx.idx hidx;rwa [lga] at this
  have:=hn.bind (q:=fun n=>Xi (if 16<n then Uc 2 else Vo ()) fun _=>Xi (M8 (if 16<n then 0 else n.toNat)) fun l=>Xi V9 fun a=>Vo (⟨o,a,0,l⟩:ZV)) (B:=[]++(to.flatMap (fun n=>W4 n.toNat)++(W4 a.toNat++[]))) (u:=⟨o,a,0,to⟩) ((show Tx [] _ () by rw [if_neg yQ];exact Tx.ret _).bind (by
   rw [if_neg yQ,lga]
   exact (Tx.many to ht).bind ((Tx.idx hg).bind (Tx.ret _) fun _=>ZP.ret _) fun _=>ZP.plain.bind fun _=>ZP.ret _) fun _=>(ZP.many _).bind fun _=>ZP.plain.bind fun _=>ZP.ret _) fun n=>(ZP.ite (ZP.fail _) (ZP.ret _)).bind fun _=>(ZP.many _).bind fun _=>ZP.plain.bind fun _=>ZP.ret _
  rw [lLa,lta] at this
  exact this
 .simp at hg h1 h2
  simp only [h1,h2]
  have:=(Tx.idx hg).bind (q:=fun a=>Xi QN fun _=>Vo (⟨o,a,0,[]⟩:ZV)) (Tx.SU.bind (Tx.ret _) fun _=>ZP.ret _) fun _=>ZP.SU.bind fun _=>ZP.ret _
  rw [lta] at this
  exact this
 .simp at hg h1
  simp only [h1]
  have:=(Tx.idx hg.1).bind (q:=fun a=>Xi V9 fun b=>Vo (⟨o,a,b,[]⟩:ZV)) ((Tx.idx hg.2).bind (Tx.ret _) fun _=>ZP.ret _) fun _=>ZP.plain.bind fun _=>ZP.ret _
  rw [lta] at this
  exact this
 .simp at hg h1 h2
  simp only [h1,h2,hg]
  have:=Tx.SU.bind (q:=fun _=>Vo (⟨o,0,0,[]⟩:ZV)) (Tx.ret _) fun _=>ZP.ret _
  rw [lta] at this
  exact this
 .simp at hg h1 h2
  simp only [h1,h2]
  have:=(Tx.aeg a hg).bind (q:=fun a=>Vo (⟨o,a,0,[]⟩:ZV)) (Tx.ret _) fun _=>ZP.ret _
  rw [lta] at this
  exact this
 .simp at h1 h2
  simp only [h1,h2]
  have:=(Tx.aeh a ha).bind (q:=fun a=>Vo (⟨o,a,0,[]⟩:ZV)) (Tx.ret _) fun _=>ZP.ret _
  rw [lta] at this
  exact this
theorem aek {x:ZV} (h:WB x=0):Yw x.op≠0/\x.to.length<=16/\(Yw x.op≠4->x.to=[])/\(Yw x.op≠6->x.b=0)/\YU (Yw x.op) x.a x.b/\∀n∈x.to,W6 n:=by
 unfold WB at h
 split at h
 .cases h
 split at h
 .cases h
 split at h
 .cases h
 split at h
 .grind
 .cases h
theorem ais {x:ZV} (h0:Yw x.op≠0) (h1:x.to.length<=16) (h2:Yw x.op≠4->x.to=[]) (h3:Yw x.op≠6->x.b=0) (h4:YU (Yw x.op) x.a x.b) (h5:∀n∈x.to,W6 n):WB x=0:=by grind [WB]
theorem Tx.akJ {x:ZV} (h:WB x=0) (hop:0<=x.op/\x.op<=255) (ha:-9223372036854775808<=x.a/\x.a<=9223372036854775807):Tx (BK x) IW x:=by
 obtain ⟨h0,h1,h2,h3,h4,h5⟩:=aek h
 have:=(Tx.aef x.op hop).bind (q:=fun o=>Xi (if YV.Yw o=0 then Uc 6 else Vo ()) fun _=>JP o (YV.Yw o)) (B:=[]++Qh (YV.Yw x.op) x) (u:=x) ((show Tx [] _ () by rw [if_neg h0];exact Tx.ret _).bind (Tx.beside h0 h1 h2 h3 h4 h5 ha) fun _=>ZP.Yw _ _) fun _=>(ZP.ite (ZP.fail _) (ZP.ret _)).bind fun _=>ZP.Yw _ _
 rw [lLa,<-aej hop] at this
 exact this
theorem Gt.fail {e:Int} (he:e≠0) (Q:Unit->Nat->Prop):Gt (Uc e) Q:=fun s k _ h0=>absurd h0 (by grind [Uc,GK])
theorem Gt.many:∀n,Gt (M8 n) (fun l m=>l.length=n/\(∀x∈l,W6 x)/\(l.flatMap fun n=>W4 n.toNat).length<=m)
 | 0=>(Gt.ret _).imp fun v n ⟨h1,h2⟩=>by subst h1;exact ⟨rfl,nofun,lHa _⟩
 | n+1=>by
  refine (Gt.plain.bind (fun v m hv=>(Gt.many n).bind (fun l m hl=>Gt.ret (v::l)) fun _=>ZP.ret _) fun _=>(ZP.many _).bind fun _=>ZP.ret _).imp ?_
  rintro u k ⟨v,m,m',⟨q,rfl,hq,hl⟩,⟨l,m1,m2,⟨g1,g2,g3⟩,⟨rfl,rfl⟩,rfl⟩,rfl⟩
  refine ⟨by simp [g1],fun x hx=>?_,?_⟩
  .rcases List.mem_cons.1 hx with rfl|hx
   .exact ⟨by omega,by omega⟩
   .grind
  .grind
theorem Gt.SU:Gt QN (fun _ n=>n=1):=by
 refine (Gt.Qu.bind (Q':=fun _ _ n=>n=0) (fun v n hv=>?_) fun v=>ZP.ite (ZP.fail _) (ZP.ret _)).imp ?_
 .split
  .exact Gt.fail (by decide) _
  .exact (Gt.ret _).imp fun _ _ h=>h.2
 .omega
def Told (o:Int) (x:ZV) (n:Nat):Prop:=x.op=o/\WB x=0/\(Qh (Yw o) x).length<=n∧-9223372036854775808<=x.a/\x.a<=9223372036854775807/\anJ x.b
where anJ (b:Int):Prop:=-9223372036854775808<=b/\b<=9223372036854775807
theorem Gt.beside (o:Int) (h0:Yw o≠0):Gt (JP o (Yw o)) (Told o):=by
 have hkc:=aaD o
 have mk:∀{k:Int} {a b:Int} {to:yp} {n:Nat},Yw o=k->to.length<=16->(k≠4->to=[])->(k≠6->b=0)->YU k a b->(∀n∈to,W6 n)->(Qh k ⟨o,a,b,to⟩).length<=n->-9223372036854775808<=a/\a<=9223372036854775807->-9223372036854775808<=b/\b<=9223372036854775807->Told o ⟨o,a,b,to⟩ n:=by
  intro k a b to n hk h1 h2 h3 h4 h5 h6 h7 h8
  subst hk
  exact ⟨rfl,ais h0 h1 h2 h3 h4 h5,h6,h7.1,h7.2,h8⟩
 unfold JP
 rcases hkc with hk|hk|hk|hk|hk|hk|hk|hk|hk|hk <;> rw [hk] at h0 ⊢
 .omega
 .refine (Gt.ret _).imp ?_
  rintro v n ⟨rfl,rfl⟩
  exact mk hk (lHa _) (fun _=>rfl) (fun _=>rfl) (by simp [YU]) nofun (by simp [Qh]) yQ yQ
 .refine (Gt.Qu.bind (Q':=fun (k:Int) (x:ZV) (n:Nat)=>n=0/\(k=64\/k=127\/k=126)/\x=⟨o,k,0,[]⟩) (fun v n hv=>?_) fun v=>(ZP.ite (ZP.fail _) (ZP.ret _)).bind fun _=>ZP.ret _).imp ?_
  .refine (Gt.bind (Q:=fun _ n=>n=0/\(v=64\/v=127\/v=126)) ?_ (fun _ n _=>Gt.ret _) fun _=>ZP.ret _).imp ?_
   .split
    .exact Gt.fail (by decide) _
    .rename_i GJ
     exact (Gt.ret _).imp fun _ _ h=>⟨h.2,by omega⟩
   .grind
  .grind [YU,Qh]
 .refine (Gt.plain.bind (fun v n hv=>Gt.ret _) fun _=>ZP.ret _).imp ?_
  rintro u n ⟨v,m,m',⟨q,rfl,hq,hl⟩,⟨rfl,rfl⟩,rfl⟩
  exact mk hk (lHa _) (fun _=>rfl) (fun _=>rfl) (by grind [YU,W6]) nofun (by grind [Qh]) yQ yQ
 .refine (Gt.plain.bind (Q':=fun (v:Int) (x:ZV) (n:Nat)=>∃l:yp,∃q:Nat,l.length=v/\v<=16/\(∀x∈l,W6 x)/\q<2 ^ 32/\(l.flatMap fun n=>W4 n.toNat).length+(W4 q).length<=n/\x=⟨o,q,0,l⟩) (fun v n hv=>?_) fun v=>(ZP.ite (ZP.fail _) (ZP.ret _)).bind fun _=>(ZP.many _).bind fun _=>ZP.plain.bind fun _=>ZP.ret _).imp ?_
  .refine (Gt.bind (Q:=fun _ n=>n=0/\v<=16) ?_ (Q':=fun _ (x:ZV) (n:Nat)=>∃l:yp,∃q:Nat,l.length=v/\v<=16/\(∀x∈l,W6 x)/\q<2 ^ 32/\(l.flatMap fun n=>W4 n.toNat).length+(W4 q).length<=n/\x=⟨o,q,0,l⟩) (fun _ n hn=>?_) fun _=>(ZP.many _).bind fun _=>ZP.plain.bind fun _=>ZP.ret _).imp ?_
   .split
    .exact Gt.fail (by decide) _
    .exact (Gt.ret _).imp fun _ _ h=>⟨h.2,by omega⟩
   .rw [if_neg yQ]
    refine ((Gt.many v.toNat).bind (fun l n hl=>Gt.plain.bind (fun a n ha=>Gt.ret _) fun _=>ZP.ret _) fun _=>ZP.plain.bind fun _=>ZP.ret _).imp ?_
    rintro u k ⟨l,m1,m2,⟨g1,g2,g3⟩,⟨a,m3,m4,⟨q,rfl,hq,hl⟩,⟨rfl,rfl⟩,rfl⟩,rfl⟩
    obtain ⟨p,rfl,_⟩:=hv
    exact ⟨l,q,by rw [g1];simp,by omega,g2,hq,by omega,rfl⟩
   .grind
  .rintro u n ⟨v,m,m',⟨p,rfl,hp,hl⟩,⟨l,q,h1,h2,h3,h4,h5,rfl⟩,rfl⟩
   have hlp:l.length=p:=by omega
   refine mk hk yQ (fun h=>absurd rfl h) (fun _=>rfl) (by grind [YU,W6]) h3 ?_ yQ yQ
   unfold Qh
   rw [if_neg (by decide),if_neg (by decide),if_pos rfl,hlp]
   simp only [yq7,Int.toNat_natCast]
   omega
 .refine (Gt.plain.bind (fun v n hv=>Gt.SU.bind (fun _ n hn=>Gt.ret _) fun _=>ZP.ret _) fun _=>ZP.SU.bind fun _=>ZP.ret _).imp ?_
  rintro u n ⟨v,m,m',⟨q,rfl,hq,hl⟩,⟨_,m1,m2,rfl,⟨rfl,rfl⟩,rfl⟩,rfl⟩
  exact mk hk (lHa _) (fun _=>rfl) (fun _=>rfl) (by grind [YU,W6]) nofun (by grind [Qh]) yQ yQ
 .refine (Gt.plain.bind (fun v n hv=>Gt.plain.bind (fun b n hn=>Gt.ret _) fun _=>ZP.ret _) fun _=>ZP.plain.bind fun _=>ZP.ret _).imp ?_
  rintro u n ⟨v,m,m',⟨q,rfl,hq,hl⟩,⟨_,m1,m2,⟨q2,rfl,AT,Dt⟩,⟨rfl,rfl⟩,rfl⟩,rfl⟩
  exact mk hk (lHa _) (fun _=>rfl) (fun h=>absurd rfl h) (by grind [YU,W6]) nofun (by grind [Qh]) yQ yQ
 .refine (Gt.SU.bind (fun _ n hn=>Gt.ret _) fun _=>ZP.ret _).imp ?_
  rintro u n ⟨_,m1,m2,rfl,⟨rfl,rfl⟩,rfl⟩
  exact mk hk (lHa _) (fun _=>rfl) (fun _=>rfl) (by simp [YU]) nofun (by simp [Qh]) yQ yQ
 .refine ((Gt.signed 32 (.inl rfl)).bind (fun v n hv=>Gt.ret _) fun _=>ZP.ret _).imp ?_
  rintro u n ⟨v,m,m',⟨h1,h2,h3⟩,⟨rfl,rfl⟩,rfl⟩
  simp at h1 h2
  exact mk hk (lHa _) (fun _=>rfl) (fun _=>rfl) (by grind [YU]) nofun (by grind [Qh]) yQ yQ
 .refine ((Gt.signed 64 (.inr rfl)).bind (fun v n hv=>Gt.ret _) fun _=>ZP.ret _).imp ?_
  rintro u n ⟨v,m,m',⟨h1,h2,h3⟩,⟨rfl,rfl⟩,rfl⟩
  simp at h1 h2
  exact mk hk (lHa _) (fun _=>rfl) (fun _=>rfl) (by simp [YU]) nofun (by grind [Qh]) yQ yQ
theorem Gt.akJ:Gt IW (fun x n=>0<=x.op/\x.op<=255/\WB x=0/\(BK x).length<=n/\(-9223372036854775808<=x.a/\x.a<=9223372036854775807)∧-9223372036854775808<=x.b/\x.b<=9223372036854775807):=by
 refine (Gt.Qu.bind (Q':=fun o x n=>Told o x n) (fun o n ho=>?_) fun _=>(ZP.ite (ZP.fail _) (ZP.ret _)).bind fun _=>ZP.Yw _ _).imp ?_
 .refine (Gt.bind (Q:=fun _ n=>n=0/\Yw o≠0) (Q':=fun _=>Told o) ?_ (fun _ n hn=>Gt.beside o hn.2) fun _=>ZP.Yw _ _).imp ?_
  .split
   .exact Gt.fail (by decide) _
   .rename_i h;exact (Gt.ret _).imp fun _ _ h'=>⟨h'.2,h⟩
  .grind
 .rintro x n ⟨o,m,m',⟨h1,h2,rfl⟩,⟨rfl,h3,h4,h5,h6,h7⟩,rfl⟩
  exact ⟨h1,h2,h3,by unfold BK;simp only [List.length_cons];omega,⟨h5,h6⟩,h7⟩
theorem ael {s:yo} {x:ZV} {n:Nat} (h:G8 s=(x,n,0)):n<=s.length/\0<=x.op/\x.op<=255/\WB x=0/\(BK x).length<=n/\(-9223372036854775808<=x.a/\x.a<=9223372036854775807)∧-9223372036854775808<=x.b/\x.b<=9223372036854775807:=by
 unfold G8 at h
 split at h
 .rename_i h0
  obtain ⟨h1,m,h2,h3⟩:=Gt.akJ s 0 (lHa _) h0
  simp only [Prod.mk.injEq] at h
  obtain ⟨rfl,rfl,_⟩:=h
  rw [lKb] at h2
  rw [<-h2] at h3
  exact ⟨h1,h3⟩
 .grind
end YV
namespace Zo
open X7 Fb YV
structure NS where
 op:yp
 last:yp
 over:Bool
def NY:NS:=⟨[-1],[2],false⟩
def Zn (st:NS) (o k:Int):NS × Int × Int :=
 if st.over=true then (st,-2,4)
 else if o=2\/o=3\/o=4 then if 12<=st.op.length-1 then (st,-2,7) else (⟨st.op++[k],st.last++[o],st.over⟩,-2,0)
 else if o=5 then if st.last.getD (st.op.length-1) 0≠4 then (st,-2,4) else (⟨st.op,st.last.set (st.op.length-1) 5,st.over⟩,st.op.getD (st.op.length-1) 0,0)
 else if o=11 then (⟨st.op.take (st.op.length-1),st.last.take (st.op.length-1),decide (st.op.length-1=0)⟩,st.op.getD (st.op.length-1) 0,0)
 else (st,-2,0)
structure D0 (st:NS):Prop where
 len:st.last.length=st.op.length
 pos:st.over=false->0<st.op.length
 le:st.op.length<=13
theorem aem:D0 NY:=⟨rfl,fun _=>by decide,by decide⟩
theorem abn {st:NS} (h:D0 st) (o k:Int):D0 (Zn st o k).1:=by
 obtain ⟨h1,h2,h3⟩:=h
 unfold Zn
 split
 .exact ⟨h1,h2,h3⟩
 rename_i ho
 have h2:=h2 (by grind)
 split
 .split
  .exact ⟨h1,fun _=>h2,h3⟩
  .exact ⟨by simp [h1],fun _=>by simp,by simp;omega⟩
 split
 .split
  .exact ⟨h1,fun _=>h2,h3⟩
  .exact ⟨by simp [h1],fun _=>h2,h3⟩
 split
 .refine ⟨by simp [h1],fun hd=>?_,by simp;omega⟩
  have:¬(st.op.length-1=0):=by grind
  simp;omega
 .exact ⟨h1,fun _=>h2,h3⟩
def HX:List ZV->Nat->NS->Int
 | [],_,st=>if st.over=true then 0 else 3
 | x::r,k,st=>if WB x≠0 then WB x else if (Zn st x.op k).2.2≠0 then (Zn st x.op k).2.2 else HX r (k+1) (Zn st x.op k).1
def Yn (l:List ZV):Int:=if 200<l.length then 2 else HX l 0 NY
def Zr (l:List ZV):Nat->NS
 | 0=>NY
 | k+1=>match l[k]? with
  | none=>Zr l k
  | some x=>(Zn (Zr l k) x.op k).1
theorem Yb {l:List ZV} {k:Nat} {x:ZV} (h:l[k]?=some x):Zr l (k+1)=(Zn (Zr l k) x.op k).1:=by
 show (match l[k]? with|none=>Zr l k|some x=>(Zn (Zr l k) x.op k).1)=_
 rw [h]
theorem XM (l:List ZV):∀k,D0 (Zr l k)
 | 0=>aem
 | k+1=>by
  show D0 (match l[k]? with|none=>Zr l k|some x=>(Zn (Zr l k) x.op k).1)
  split
  .exact XM l k
  .exact abn (XM l k) _ _
def Wq (l:List ZV) (k:Nat):Prop:=∀i x,i<k->l[i]?=some x->WB x=0/\(Zn (Zr l i) x.op i).2.2=0
theorem Wq.zero (l:List ZV):Wq l 0:=fun i x h=>absurd h (Nat.not_lt_zero i)
theorem Wq.succ {l:List ZV} {k:Nat} {x:ZV} (h:Wq l k) (hx:l[k]?=some x) (h1:WB x=0) (h2:(Zn (Zr l k) x.op k).2.2=0):Wq l (k+1):=fun i y hi hy=>by
 by_cases e:i=k
 .grind
 .exact h i y yQ hy
theorem M7 {l:List ZV} {k:Nat} (hk:k<=l.length) (h:Wq l k):HX l 0 NY=HX (l.drop k) k (Zr l k):=by
 induction k with
 | zero=>rfl
 | succ k ih =>
  have hlt:k<l.length:=hk
  have hx:l[k]?=some l[k]:=laa hlt
  obtain ⟨h1,h2⟩:=h k _ (Nat.lt_succ_self k) hx
  rw [ih yQ (fun i x hi=>h i x yQ),lra hlt,HX,if_neg yQ,if_neg yQ,Yb hx]
theorem acn {l:List ZV} (h:200<l.length):Yn l=2:=if_pos h
theorem aen {l:List ZV} {k:Nat} {x:ZV} (hl:l.length<=200) (h:Wq l k) (hx:l[k]?=some x) (hc:WB x≠0):Yn l=WB x:=by
 have hlt:=(lba.1 hx).1
 unfold Yn
 rw [if_neg yQ,M7 (lab0 hlt) h,lra hlt]
 obtain rfl:l[k]=x:=by grind
 rw [HX,if_pos hc]
theorem adr {l:List ZV} {k:Nat} {x:ZV} (hl:l.length<=200) (h:Wq l k) (hx:l[k]?=some x) (hc:WB x=0) (hn:(Zn (Zr l k) x.op k).2.2≠0):Yn l=(Zn (Zr l k) x.op k).2.2:=by
 have hlt:=(lba.1 hx).1
 unfold Yn
 rw [if_neg yQ,M7 (lab0 hlt) h,lra hlt]
 obtain rfl:l[k]=x:=by grind
 rw [HX,if_neg yQ,if_pos hn]
theorem M6 {l:List ZV} {k:Nat} (hl:l.length<=200) (h:Wq l k) (hk:k=l.length):Yn l=if (Zr l k).over=true then 0 else 3:=by
 unfold Yn
 rw [if_neg yQ,M7 yQ h,lza yQ,HX]
theorem Y8 {l:List ZV} (h:Yn l=0):l.length<=200/\Wq l l.length/\(Zr l l.length).over=true:=by
 unfold Yn at h
 split at h
 .cases h
 rename_i hl
 have key:∀n k,k+n=l.length->Wq l k->HX (l.drop k) k (Zr l k)=0->Wq l l.length/\(Zr l l.length).over=true:=by
  intro n
  induction n with
  | zero =>
   intro k hk hs hg
   rw [lza yQ,HX] at hg
   obtain rfl:k=l.length:=by omega
   refine ⟨hs,?_⟩
   split at hg
   .omega
   .omega
  | succ n ih =>
   intro k hk hs hg
   have hlt:k<l.length:=by omega
   have hx:l[k]?=some l[k]:=laa hlt
   rw [lra hlt,HX] at hg
   split at hg
   .omega
   rename_i hc
   split at hg
   .omega
   rename_i hn
   exact ih (k+1) yQ (hs.succ hx (Decidable.not_not.1 hc) (Decidable.not_not.1 hn)) (by grind [Yb])
 have:=key l.length 0 yQ (Wq.zero l) h
 exact ⟨by omega,this⟩
end Zo
namespace Row
theorem own:ownKnob Tryz.prog.godebug=none:=by kernel_rfl
theorem laidOut:laidOutB Tryz.prog=true:=by kernel_rfl
end Row
namespace YY
open Go
theorem age {s:ByteArray} (h:s.size<=maxLen):∃l,s=bs l/\l.length<=9223372036854775807/\l=s.data.toList:=by
 refine ⟨s.data.toList,akj s,?_,rfl⟩
 have:s.size=s.data.toList.length:=by simp
 unfold maxLen at h
 omega
theorem ahB {k:IntKind} {a:Int} (h:(Lit.int k a).wf=true):k.min<=a/\a<=k.max:=by grind [Lit.wf]
theorem aeo {a:Int} (h:(Lit.int .i64 a).wf=true):-9223372036854775808<=a/\a<=9223372036854775807:=ahB h
end YY
namespace YY
open Go Go.RowKit
inductive Lk where
 | int (k:IntKind)
 | bool
 | str
def anK:Lk->Value->Prop
 | .int k,v=>∃n,v=.int k n/\k.min<=n/\n<=k.max
 | .bool,v=>∃b,v=.bool b
 | .str,v=>∃l,v=.string (bs l)/\l.length<=9223372036854775807
def Tg:List Lk->ym->Prop
 | [],cs=>cs=[]
 | k::ks,cs=>∃v r,cs=v::r/\anK k v/\Tg ks r
def K5:Value->Nat
 | .string s=>s.size
 | _=>0
def WS (cs:ym):Nat:=(cs.map K5).sum
def M5 (P:Program) (rec:TypeId->Option (List Lk)):Nat->List Field->Option (List Lk)
 | _,[]=>some []
 | off,f::fs=>match rec f.type with
  | none=>none
  | some ks=>if f.offset=off/\ks.length=P.cellsOf f.type then match M5 P rec (off+ks.length) fs with
   | none=>none
   | some r=>some (ks++r)
   else none
def M4 (P:Program):Nat->TypeId->Option (List Lk)
 | 0,_=>none
 | n+1,t=>match P.underlying t with
  | some (.int k)=>some [.int k]
  | some .bool=>some [.bool]
  | some .string=>some [.str]
  | some (.struct fs)=>match M5 P (M4 P n) 0 fs.toList with
   | some ks=>if ks.length=P.cellsOf t then some ks else none
   | none=>none
  | some (.array m e)=>match M4 P n e with
   | some ks=>if ks.length=P.cellsOf e/\m * ks.length=P.cellsOf t then some (List.replicate m ks).flatten else none
   | none=>none
  | _=>none
theorem aae {k1 k2:List Lk} {c1 c2:ym} (h1:Tg k1 c1) (h2:Tg k2 c2):Tg (k1++k2) (c1++c2):=by
 induction k1 generalizing c1 with
 | nil=>obtain rfl:c1=[]:=h1;exact h2
 | cons k ks ih=>obtain ⟨v,r,rfl,hv,hr⟩:=h1;exact ⟨v,r++c2,rfl,hv,ih hr⟩
theorem aab (a b:ym):WS (a++b)=WS a+WS b:=by simp [WS]
section
variable {H:Type} {enc:TypeId × Value->H} {P:Program} {w:World} {base:Nat} {sp:Nat->Bool} {held:Bool}
theorem aep (d:DataW H):1<=Rows.uptoBulk d:=by
 cases d with
 | lit l=>cases l <;> simp [Rows.uptoBulk]
 | _=>simp [Rows.uptoBulk]
theorem aco (n:Nat):∀{fuel:Nat} {t:TypeId} {cs:ym} {x:DataW H × List MemPlace} {ks:List Lk},M4 P n t=some ks->DataW.trod enc P w base sp held fuel t cs=some x->Tg ks cs/\WS cs+1<=Rows.uptoBulk x.1:=by
 induction n with
 | zero=>intro _ _ _ _ _ h;cases h
 | succ n ih =>
  intro fuel t cs x ks hf h
  unfold M4 at hf
  split at hf
  .rename_i k hu
   obtain rfl:=yq6 hf
   obtain ⟨m,rfl,rfl,hw⟩:=DataW.trod_int hu h
   have:=ahB hw
   exact ⟨⟨_,_,rfl,⟨m,rfl,this.1,this.2⟩,rfl⟩,by simp [WS,K5,Rows.uptoBulk]⟩
  .rename_i hu
   obtain rfl:=yq6 hf
   obtain ⟨b,rfl,rfl⟩:=DataW.trod_bool hu h
   exact ⟨⟨_,_,rfl,⟨b,rfl⟩,rfl⟩,by simp [WS,K5,Rows.uptoBulk]⟩
  .rename_i hu
   obtain rfl:=yq6 hf
   obtain ⟨s,rfl,rfl,hs⟩:=DataW.trod_string hu h
   obtain ⟨l,rfl,hl,e⟩:=age hs
   refine ⟨⟨_,_,rfl,⟨l,rfl,hl⟩,rfl⟩,?_⟩
   simp [WS,K5,Rows.uptoBulk,Th,<-e]
  .rename_i fs hu
   split at hf
   .rename_i ks' hks
    split at hf
    .rename_i hlen
     obtain rfl:=yq6 hf
     obtain ⟨xs,m,rfl,rfl,SA,hxl,hel⟩:=DataW.trod_struct hu h
     have key:∀(l:List Field) (i off:Nat) (ks:List Lk),(∀j f,l[j]?=some f->DataW.trod enc P w base sp held m f.type ((cs.drop f.offset).take (P.cellsOf f.type))=xs[i+j]?)->i+l.length=xs.length ->
       M5 P (M4 P n) off l=some ks->off+ks.length=cs.length->Tg ks (cs.drop off)/\WS (cs.drop off)<=Rows.uptoBulkAll ((xs.drop i).map (·.1)):=by
      intro l
      induction l with
      | nil =>
       intro i off ks hj hil DZ hl
       unfold M5 at DZ
       obtain rfl:=yq6 DZ
       rw [List.drop_eq_nil_of_le (by grind)]
       exact ⟨rfl,by simp [WS]⟩
      | cons f l ihl =>
       intro i off ks hj hil DZ hl
       unfold M5 at DZ
       split at DZ
       .grind
       .rename_i kf hkf
        split at DZ
        .rename_i hoff
         split at DZ
         .grind
         .rename_i kr hkr
          obtain rfl:=yq6 DZ
          rw [lca] at hl
          have h0:=hj 0 f rfl
          rw [Nat.add_zero] at h0
          have hi:i<xs.length:=by grind
          rw [laa hi,hoff.1,<-hoff.2] at h0
          obtain ⟨a1,a2⟩:=ih hkf h0
          obtain ⟨b1,b2⟩:=ihl (i+1) (off+kf.length) kr (fun j g hg=>by have:=hj (j+1) g hg;rwa [show i+(j+1)=i+1+j by omega] at this) (by grind) hkr yQ
          have e:cs.drop off=(cs.drop off).take kf.length++cs.drop (off+kf.length):=by rw [<-lZa,leb]
          rw [e]
          refine ⟨aae a1 b1,?_⟩
          rw [aab,lra hi]
          simp only [List.map_cons,Rows.uptoBulkAll]
          omega
        .grind
     have:=key fs.toList 0 0 ks' (fun j f hf=>by have:=hel j f (by grind);rwa [lKb]) (by simp [hxl]) hks yQ
     simp only [List.drop_zero] at this
     refine ⟨this.1,?_⟩
     simp only [Rows.uptoBulk]
     omega
    .grind
   .grind
  .rename_i m e hu
   split at hf
   .rename_i ks' hks
    split at hf
    .rename_i hlen
     obtain rfl:=yq6 hf
     obtain ⟨xs,fm,rfl,rfl,SA,hxl,hel⟩:=DataW.trod_array hu h
     have key:∀(j i:Nat),i+j=m->Tg (List.replicate j ks').flatten (cs.drop (i * ks'.length))/\WS (cs.drop (i * ks'.length))<=Rows.uptoBulkAll ((xs.drop i).map (·.1)):=by
      intro j
      induction j with
      | zero =>
       intro i hij
       rw [List.drop_eq_nil_of_le (by grind)]
       exact ⟨rfl,by simp [WS]⟩
      | succ j ihj =>
       intro i hij
       have hi:i<xs.length:=by omega
       have h0:=hel i yQ
       rw [laa hi,<-hlen.1] at h0
       obtain ⟨a1,a2⟩:=ih hks h0
       obtain ⟨b1,b2⟩:=ihj (i+1) yQ
       have e1:cs.drop (i * ks'.length)=(cs.drop (i * ks'.length)).take ks'.length++cs.drop ((i+1) * ks'.length):=by grind [Nat.succ_mul,List.drop_drop,List.take_append_drop]
       rw [e1,lEb,List.flatten_cons]
       refine ⟨aae a1 b1,?_⟩
       rw [aab,lra hi]
       simp only [List.map_cons,Rows.uptoBulkAll]
       omega
     have:=key m 0 yQ
     simp only [Nat.zero_mul,List.drop_zero] at this
     refine ⟨this.1,?_⟩
     simp only [Rows.uptoBulk]
     omega
    .grind
   .grind
  .grind
def M3 (enc:TypeId × Value->H) (P:Program) (w:World) (sp:Nat->Bool) (held:Bool) {α:Type} (t:TypeId) (R:Hv->ym->α->Prop) (sz:α->Nat):Prop :=
 ∀{fuel:Nat} {cs:ym} {x:DataW H × List MemPlace},DataW.trod enc P w 0 sp held fuel t cs=some x->∃a,R (Rg w 0 w.heap.size) cs a/\sz a<=Rows.uptoBulk x.1
theorem abo {α:Type} {n:Nat} {p:Nat->α->Prop} (h:∀i,i<n->∃x,p i x):∃l:List α,l.length=n/\∀i x,l[i]?=some x->p i x:=by
 induction n with
 | zero=>exact ⟨[],rfl,fun i x hx=>by simp at hx⟩
 | succ n ih =>
  obtain ⟨l,hl,hp⟩:=ih (fun i hi=>h i yQ)
  obtain ⟨x,hx⟩:=h n yQ
  refine ⟨l++[x],by simp [hl],fun i y hy=>?_⟩
  by_cases hi:i<n
  .grind
  .grind
theorem aeq {α:Type} (sz:α->Nat):∀(xs:List α) (ds:List (DataW H)),xs.length=ds.length->(∀(i:Nat) (x:α) (d:DataW H),xs[i]?=some x->ds[i]?=some d->sz x<=Rows.uptoBulk d)->(xs.map sz).sum<=Rows.uptoBulkAll ds:=by
 intro xs
 induction xs with
 | nil=>intro ds _ _;simp
 | cons x xs ih =>
  intro ds hl h
  cases ds with
  | nil=>simp at hl
  | cons d ds =>
   have h0:=h 0 x d rfl rfl
   have:=ih ds (by grind) (fun i y e hy he=>h (i+1) y e hy he)
   simp only [List.map_cons,List.sum_cons,Rows.uptoBulkAll]
   omega
theorem abp (ds:List (DataW H)):ds.length<=Rows.uptoBulkAll ds:=by
 induction ds with
 | nil=>simp
 | cons d ds ih=>have:=aep d;simp only [List.length_cons,Rows.uptoBulkAll];omega
theorem acH {α:Type} {t e:TypeId} {R:Hv->ym->α->Prop} {sz:α->Nat} (s:Nat) (hs:P.cellsOf e=s) (hs0:0<s) (ht:P.underlying t=some (.slice e)) (he:M3 enc P w sp held e R sz) :
  M3 enc P w sp held t (fun H cs xs=>∃v,cs=[v]/\Wu R s H v xs) (fun xs=>(xs.map sz).sum+1+0 * xs.length) /\
  (∀{fuel:Nat} {v:Value} {x:DataW H × List MemPlace},DataW.trod enc P w 0 sp held fuel t [v]=some x->∃xs:List α,Wu R s (Rg w 0 w.heap.size) v xs/\(xs.map sz).sum+1<=Rows.uptoBulk x.1/\xs.length+1<=Rows.uptoBulk x.1/\(∀r:Nat,((DataW.weights P t x.1).all (·<=r))=true->xs.length * P.bytesOf e<=r)):=by
 have main:∀{fuel:Nat} {cs:ym} {x:DataW H × List MemPlace},DataW.trod enc P w 0 sp held fuel t cs=some x->∃(v:Value) (xs:List α),cs=[v]/\Wu R s (Rg w 0 w.heap.size) v xs/\(xs.map sz).sum+1<=Rows.uptoBulk x.1/\xs.length+1<=Rows.uptoBulk x.1/\(∀r:Nat,((DataW.weights P t x.1).all (·<=r))=true->xs.length * P.bytesOf e<=r):=by
  intro fuel cs x h
  rcases DataW.trod_slice ht h with ⟨rfl,rfl⟩|⟨a,len,cap,elems,rest,n,rfl,rfl,rfl,hb,hlc,Qx,hel,TK,_,_⟩
  .exact ⟨_,[],rfl,Wu.nil _ _ _,by simp [Rows.uptoBulk],by simp [Rows.uptoBulk],fun r _=>by simp⟩
  .have hx:∀i,i<len->∃y:α,∃ci,w.cells? 0 (a.add (i * s)) s=some ci/\R (Rg w 0 w.heap.size) ci y/\∀d,(elems.map (·.1))[i]?=some d->sz y<=Rows.uptoBulk d:=by
    intro i hi
    have h0:=TK i hi
    rw [hs,laa yQ,lVa] at h0
    obtain ⟨ci,h1,h2⟩:=h0
    obtain ⟨y,h3,h4⟩:=he h2
    refine ⟨y,ci,h1,h3,fun d hd=>?_⟩
    rw [lwa,laa yQ] at hd
    obtain rfl:=yq6 hd
    exact h4
   obtain ⟨xs,hxl,hxs⟩:=abo hx
   have hml:xs.length=(elems.map (·.1)).length:=by grind
   have hsum:=aeq sz xs (elems.map (·.1)) hml (fun i y d hy hd=>by obtain ⟨ci,_,_,h⟩:=hxs i y hy;exact h d hd)
   have hlb:=abp (elems.map (·.1))
   refine ⟨_,xs,rfl,?_,by simp only [Rows.uptoBulk];omega,by simp only [Rows.uptoBulk];rw [hml];omega,fun r hr=>?_⟩
   rotate_left
   .simp only [DataW.weights,ht,yq9,yq4,decide_eq_true_eq,List.length_map] at hr
    refine lEa (lBa _ ?_) hr.1
    omega
   refine ⟨some a,cap,by rw [hxl],by unfold maxLen at Qx;omega,(fun h=>by cases h),fun hne=>?_⟩
   have hlen:0<len:=by grind
   obtain ⟨y0,hy0⟩:∃y,xs[0]?=some y:=⟨xs[0],laa yQ⟩
   obtain ⟨c0,hc0,_,_⟩:=hxs 0 y0 hy0
   obtain ⟨b,o,spot⟩:=a
   have hcells:∀i ci,w.cells? 0 ((⟨b,o,spot⟩:Addr).add (i * s)) s=some ci->ci.length=s/\∀j,j<s->w.cell? (((⟨b,o,spot⟩:Addr).add (i * s)).add j)=ci[j]?:=fun i ci h=>by
    have:=World.cells?_some h
    exact ⟨this.2.1,this.2.2⟩
   have akK:spot=none:=by
    have h1:=(hcells 0 c0 hc0).2 0 hs0
    have anL:=(hcells 0 c0 hc0).1
    rw [laa yQ] at h1
    simp only [Nat.zero_mul] at h1
    cases spot with
    | none=>rfl
    | some q =>
     exfalso
     simp only [Addr.add,if_true,World.cell?] at h1
     split at h1 <;> simp at h1
   subst akK
   have Mc:∃C ty fz,w.heap[b]?=some (.cells C ty fz):=by
    have h1:=(hcells 0 c0 hc0).2 0 hs0
    have anL:=(hcells 0 c0 hc0).1
    rw [laa yQ] at h1
    simp only [Nat.zero_mul,Addr.add,if_true,World.cell?] at h1
    split at h1
    .grind
    .grind
   obtain ⟨C,ty,fz,hC⟩:=Mc
   have hcell:∀k,w.cell? ⟨b,k,none⟩=C[k]?:=fun k=>by simp [World.cell?,hC]
   have hin:∀i,i<len->∀j,j<s->∀y ci,xs[i]?=some y->w.cells? 0 ((⟨b,o,none⟩:Addr).add (i * s)) s=some ci->C[o+i * s+j]?=ci[j]?:=fun i hi j hj y ci hy Fa=>by grind [Addr.add_lit]
   have hCl:o+len * s<=C.size:=by
    obtain ⟨y,hy⟩:∃y,xs[len-1]?=some y:=⟨xs[len-1],laa yQ⟩
    obtain ⟨ci,Fa,_,_⟩:=hxs (len-1) y hy
    have h1:=hin (len-1) yQ (s-1) yQ y ci hy Fa
    have hl:=(hcells (len-1) ci Fa).1
    rw [laa yQ] at h1
    have h2:=(lxa.1 h1).1
    have e:len * s=(len-1) * s+s:=by rw [<-lib];congr 1;omega
    omega
   refine ⟨b,o,(C.toList.drop o).take (len * s),rfl,⟨C,ty,fz,⟨lHa _,(lxa.1 hC).1,hC⟩,fun i v hv=>?_⟩,?_,fun i y hy=>?_⟩
   .grind
   .grind
   .obtain ⟨ci,Fa,hR,_⟩:=hxs i y hy
    have hi:i<len:=by grind
    have hl:=(hcells i ci Fa).1
    have e:(((C.toList.drop o).take (len * s)).drop (i * s)).take s=ci:=by
     apply lFa
     intro j
     rw [lJa]
     split
     .rename_i hj
      have hle:i * s+s<=len * s:=by rw [<-lib];exact lBa _ hi
      rw [lUa,lJa,if_pos yQ,lUa,<-hin i hi j hj y ci hy Fa,lRb]
      simp
     .grind
    rw [e];exact hR
 refine ⟨fun {fuel cs x} h=>?_,fun {fuel v x} h=>?_⟩
 .grind
 .grind
theorem Oq {α:Type} {t:TypeId} {ks:List Lk} (n:Nat) (hf:M4 P n t=some ks) {en:α->ym} {ok:α->Prop} (h:∀cs,Tg ks cs->∃x,cs=en x/\ok x):M3 enc P w sp held t (RE en ok) (fun x=>WS (en x)+1):=by
 intro fuel cs x hx
 obtain ⟨h1,h2⟩:=aco n hf hx
 obtain ⟨a,rfl,ha⟩:=h cs h1
 exact ⟨a,⟨rfl,ha⟩,h2⟩
theorem aer {α:Type} {r:Reach} {b0:Nat} {t e:TypeId} {R:Hv->ym->α->Prop} {sz:α->Nat} {v:Value} {d:DataW H} {ps:List MemPlace} (s:Nat) (hs:P.cellsOf e=s) (hs0:0<s) (ht:P.underlying t=some (.slice e)) (he:M3 enc P w sp held e R sz)
  (hval:Value.okWide P w r b0 t v) (h:DataW.Trod enc P w 0 sp held t v d ps):∃xs:List α,Wu R s (Rg w 0 w.heap.size) v xs/\(xs.map sz).sum+1<=Rows.uptoBulk d/\xs.length+1<=Rows.uptoBulk d/\(∀r:Nat,((DataW.weights P t d).all (·<=r))=true->xs.length * P.bytesOf e<=r):=by
 have hc:v.cells=#[v]:=by
  unfold Value.okWide at hval
  rw [ht] at hval
  dsimp only at hval
  unfold Cell.okWide at hval
  rw [ht] at hval
  cases v <;> first|rfl|(exfalso;simp [Cell.ok,ht] at hval)
 obtain ⟨fuel,hh⟩:=h
 rw [hc] at hh
 exact (acH s hs hs0 ht he).2 hh
end
end YY
namespace YY
open Go Go.RowKit
section
variable {H:Type} {enc:TypeId × Value->H} {P:Program} {w:World} {base:Nat} {sp:Nat->Bool} {held:Bool}
structure J9 (enc:TypeId × Value->H) (P:Program) (w:World) (sp:Nat->Bool) (held:Bool) {α:Type} (t:TypeId) (R:Hv->ym->α->Prop) (sz:α->Nat):Prop where
 o:M3 enc P w sp held t R sz
structure NK (enc:TypeId × Value->H) (P:Program) (w:World) (sp:Nat->Bool) (held:Bool) {α:Type} (l:List Field) (off:Nat) (R:Hv->ym->α->Prop) (sz:α->Nat):Prop where
 o:∀{n:Nat} {cs:ym} {xs:List (DataW H × List MemPlace)},(∀(i:Nat) (f:Field),l[i]?=some f->DataW.trod enc P w 0 sp held n f.type ((cs.drop f.offset).take (P.cellsOf f.type))=xs[i]?)->l.length=xs.length ->
  ∃a,R (Rg w 0 w.heap.size) (cs.drop off) a/\sz a<=Rows.uptoBulkAll (xs.map (·.1))
theorem TE {off:Nat}:NK enc P w sp held [] off (fun _ _ (_:Unit)=>True) (fun _=>0):=by
 refine ⟨?_⟩
 intro n cs xs _ hl
 exact ⟨(),trivial,lHa _⟩
theorem YZ {α β:Type} {f:Field} {l:List Field} {off:Nat} {R:Hv->ym->α->Prop} {sz:α->Nat} {R':Hv->ym->β->Prop} {sz':β->Nat} (ho:f.offset=off) (h:J9 enc P w sp held f.type R sz)
  (h':NK enc P w sp held l (off+P.cellsOf f.type) R' sz') :
  NK enc P w sp held (f::l) off (fun H cs (x:α × β)=>R H (cs.take (P.cellsOf f.type)) x.1/\R' H (cs.drop (P.cellsOf f.type)) x.2) (fun x=>sz x.1+sz' x.2):=by
 refine ⟨?_⟩
 intro n cs xs hj hl
 cases xs with
 | nil=>simp at hl
 | cons x xs =>
  have h0:=hj 0 f rfl
  subst ho
  obtain ⟨a,a1,a2⟩:=h.o h0
  obtain ⟨b,b1,b2⟩:=h'.o (cs:=cs) (xs:=xs) (fun i g hg=>by have:=hj (i+1) g hg;simpa using this) (by grind)
  refine ⟨(a,b),⟨a1,?_⟩,?_⟩
  .grind [List.drop_drop]
  .grind [Rows.uptoBulkAll]
theorem UW {α:Type} {t:TypeId} {fs:Array Field} {R:Hv->ym->α->Prop} {sz:α->Nat} (n0:Nat) (ht:P.underlying t=some (.struct fs)) (hc:P.cellsOf t=n0) (h:NK enc P w sp held fs.toList 0 R sz) :
  J9 enc P w sp held t (fun H cs a=>cs.length=n0/\R H cs a) (fun a=>sz a):=by
 refine ⟨?_⟩
 intro fuel cs x hx
 obtain ⟨xs,n,rfl,rfl,hl,hxl,hj⟩:=DataW.trod_struct ht hx
 obtain ⟨a,h1,h2⟩:=h.o (n:=n) (cs:=cs) (xs:=xs) (fun i f hf=>hj i f (by grind)) (by simp [hxl])
 refine ⟨a,⟨hl.trans hc,by simpa using h1⟩,?_⟩
 show sz a<=Rows.uptoBulk (.agg (xs.map (·.1)))
 rw [Rows.uptoBulk];omega
theorem J9.map {α β:Type} {t:TypeId} {R:Hv->ym->α->Prop} {sz:α->Nat} {R':Hv->ym->β->Prop} {sz':β->Nat} (h:J9 enc P w sp held t R sz) (hm:∀H cs a,R H cs a->∃b,R' H cs b/\sz' b<=sz a):J9 enc P w sp held t R' sz':=by
 refine ⟨?_⟩
 intro fuel cs x hx
 obtain ⟨a,h1,h2⟩:=h.o hx
 obtain ⟨b,h3,h4⟩:=hm _ _ _ h1
 exact ⟨b,h3,lEa h4 h2⟩
theorem Wu.conv {α:Type} {R R':Hv->ym->α->Prop} {s:Nat} {H H':Hv} {v:Value} {xs:List α} (h:Wu R s H v xs) (hh:JX H H') (hR:∀cs x,R H cs x->R' H' cs x):Wu R' s H' v xs:=by
 obtain ⟨a,cap,h1,h2,h3,h4⟩:=h
 exact ⟨a,cap,h1,h2,h3,fun hx=>let ⟨b,o,news,e,k1,k2⟩:=h4 hx;⟨b,o,news,e,k1.mono hh,k2.1,fun i x hx=>hR _ _ (k2.2 i x hx)⟩⟩
theorem agf (w:World):JX (Rg w 0 w.heap.size) (Gh (WO w)):=fun b o ⟨_,_,h⟩=>h
theorem Vv {α:Type} {t:TypeId} {ks:List Lk} (n:Nat) (hf:M4 P n t=some ks) {en:α->ym} {ok:α->Prop} (h:∀cs,Tg ks cs->∃x,cs=en x/\ok x):J9 enc P w sp held t (RE en ok) (fun x=>WS (en x)+1):=⟨Oq n hf h⟩
theorem M1 {α:Type} {t e:TypeId} {R:Hv->ym->α->Prop} {sz:α->Nat} (s:Nat) (hs:P.cellsOf e=s) (hs0:0<s) (ht:P.underlying t=some (.slice e)) (he:J9 enc P w sp held e R sz) :
  J9 enc P w sp held t (fun H cs xs=>∃v,cs=[v]/\Wu R s H v xs) (fun xs=>(xs.map sz).sum+1+0 * xs.length):=⟨(acH s hs hs0 ht he.o).1⟩
theorem ait {α:Type} {r:Reach} {b0:Nat} {t:TypeId} {fs:Array Field} {R:Hv->ym->α->Prop} {sz:α->Nat} {v:Value} {d:DataW H} {ps:List MemPlace} (ht:P.underlying t=some (.struct fs)) (he:J9 enc P w sp held t R sz)
  (hval:Value.okWide P w r b0 t v) (h:DataW.Trod enc P w 0 sp held t v d ps):∃(cs:ym) (a:α),v=.agg cs.toArray/\R (Rg w 0 w.heap.size) cs a/\sz a<=Rows.uptoBulk d:=by
 unfold Value.okWide at hval
 rw [ht] at hval
 obtain ⟨cs,rfl,_⟩:=hval
 obtain ⟨fuel,hh⟩:=h
 obtain ⟨a,h1,h2⟩:=he.o hh
 exact ⟨cs.toList,a,by simp,h1,h2⟩
end
end YY
namespace YV
open Go YY Go.RowKit
def YB (n:Int):ym:=[.int .u8 n]
theorem width (o:Int) (w:World):yq 200 #[.int .u8 o] w (fun v w'=>(∃r,v=yL r/\r=wid o)/\w=w'):=by
 refine Fc.of Tryz.func200 rfl k_d ?_
 have H:=Sat.start w
 refine bk ?_
 refine yw (fun c1=>?_) (fun c1=>?_)
 .refine cT (ZI yP)<|Z6.mk ?_
  (unfold wid;simp only [*];simp;done)
 refine yw (fun c2=>?_) (fun c2=>?_)
 .refine cT (ZI yP)<|Z6.mk ?_
  (unfold wid;simp only [*];simp;done)
 refine yw (fun c3=>?_) (fun c3=>?_)
 .refine cT (ZI yP)<|Z6.mk ?_
  (unfold wid;simp only [*];simp;done)
 refine yw (fun c4=>?_) (fun c4=>?_)
 .refine cT (ZI yP)<|Z6.mk ?_
  (unfold wid;simp only [*];simp;done)
 refine yw (fun c5=>?_) (fun c5=>?_)
 .refine cT (ZI yP)<|Z6.mk ?_
  (unfold wid;simp only [*];simp;done)
 refine yw (fun c6=>?_) (fun c6=>?_)
 .refine Z6.mk ?_
  (unfold wid;simp only [*];simp;done)
 refine yw (fun c7=>?_) (fun c7=>?_)
 .refine cT (ZI yP)<|Z6.mk ?_
  (unfold wid;simp only [*];simp;done)
 refine yw (fun c8=>?_) (fun c8=>?_)
 .refine cT (ZI yP)<|Z6.mk ?_
  (unfold wid;simp only [*];simp;done)
 refine yw (fun c9=>?_) (fun c9=>?_)
 .refine cT (ZI yP)<|Z6.mk ?_
  (unfold wid;simp only [*];simp;done)
 refine yw (fun c10=>?_) (fun c10=>?_)
 .refine cT (ZI yP)<|Z6.mk ?_
  (unfold wid;simp only [*];simp;done)
 refine yw (fun c11=>?_) (fun c11=>?_)
 .refine cT (ZI yP)<|Z6.mk ?_
  (unfold wid;simp only [*];simp;done)
 refine yw (fun c12=>?_) (fun c12=>?_)
 .refine Z6.mk ?_
  (unfold wid;simp only [*];simp;done)
 refine yw (fun c13=>?_) (fun c13=>?_)
 .refine cT (ZI yP)<|Z6.mk ?_
  (unfold wid;simp only [*];simp;done)
 refine yw (fun c14=>?_) (fun c14=>?_)
 .refine cT (ZI yP)<|Z6.mk ?_
  (unfold wid;simp only [*];simp;done)
 refine yw (fun c15=>?_) (fun c15=>?_)
 .refine cT (ZI yP)<|Z6.mk ?_
  (unfold wid;simp only [*];simp;done)
 refine yw (fun c16=>?_) (fun c16=>?_)
 .refine cT (ZI yP)<|Z6.mk ?_
  (unfold wid;simp only [*];simp;done)
 refine yw (fun c17=>?_) (fun c17=>?_)
 .refine Z6.mk ?_
  (unfold wid;simp only [*];simp;done)
 refine yw (fun c18=>?_) (fun c18=>?_)
 .refine cT (ZI yP)<|Z6.mk ?_
  (unfold wid;simp only [*];simp;done)
 refine yw (fun c19=>?_) (fun c19=>?_)
 .refine Z6.mk ?_
  (unfold wid;simp only [*];simp;done)
 refine Z6.mk ?_
 (unfold wid;simp only [*];simp;done)
theorem JO {g:ZE} {w:World} {l:List As} {p:Nat} {o:Int} (H:Sat g w (Pt p [.int .u8 o] 5::l)) (b:Int) :
  yq 256 #[.int .u8 b,yK p] w (fun v w'=>(∃r,v=.int .u8 r/\r=kd o b)/\w=w'):=by
 refine Fc.of Tryz.func256 rfl k_d<|Z4 (H.at 0 rfl) 0 rfl rfl rfl ?_
 refine yy (fun c1=>?_) (fun c1=>?_)
 .refine Z6.mk ?_
  constructor
  .grind [kd]
  rfl
 refine Z6.mk ?_
 constructor
 .grind [kd]
 rfl
theorem K4 (o:Int) (w:World):yq 235 #[.int .u8 o] w (fun v w'=>∃u k b xs,v=.tuple #[u,.int .u8 k,.bool b]/\XS o=(xs,k,b)/\Sat (WO w) w' [Sl 97 1 YB u xs]):=by
 refine Fc.of Tryz.func235 rfl k_d ?_
 have H:=Sat.start w
 refine ZN H<|fun p1 w1 H=>bk<|Z4 (H.at 0 rfl) 0 rfl rfl rfl ?_
 refine yw (fun c1=>?_) (fun c1=>?_)
 .refine cT (ZI yP) ?_
  refine Z8.mk (Fc.imp (YV.JO H _) ?_)
  rintro _ _ ⟨⟨r1,⟨rfl,h1⟩⟩,rfl⟩
  refine ZZ H rfl rfl rfl rfl<|fun p2 w2 H=>Z6.mk ?_
  (refine H.Wt (n:=1) (en:=YB) (s:=1) 0 rfl [_] rfl rfl (fun _=>rfl) rfl ?_;intro H;exact ⟨_,_,_,_,rfl,by unfold XS;repeat first|rw [if_pos yQ]|rw [if_neg yQ]|(subst_vars;rfl),H.del 1⟩)
 refine Z4 (H.at 0 rfl) 0 rfl rfl rfl ?_
 refine yw (fun c2=>?_) (fun c2=>?_)
 .refine Z8.mk (Fc.imp (YV.JO H _) ?_)
  rintro _ _ ⟨⟨r1,⟨rfl,h1⟩⟩,rfl⟩
  refine ZZ H rfl rfl rfl rfl<|fun p2 w2 H=>Z6.mk ?_
  (refine H.Wt (n:=1) (en:=YB) (s:=1) 0 rfl [_] rfl rfl (fun _=>rfl) rfl ?_;intro H;exact ⟨_,_,_,_,rfl,by unfold XS;repeat first|rw [if_pos yQ]|rw [if_neg yQ]|(subst_vars;rfl),H.del 1⟩)
 refine Z4 (H.at 0 rfl) 0 rfl rfl rfl ?_
 refine br (fun c3=>?_) (fun c3=>?_)
 .replace c3:=YN (c3)
  refine Z4 (H.at 0 rfl) 0 rfl rfl rfl ?_
  refine yx (fun c4=>?_) (fun c4=>?_)
  .refine Z8.mk (Fc.imp (YV.JO H _) ?_)
   rintro _ _ ⟨⟨r1,⟨rfl,h1⟩⟩,rfl⟩
   refine ZZ H rfl rfl rfl rfl<|fun p2 w2 H=>Z6.mk ?_
   (refine H.Wt (n:=2) (en:=YB) (s:=1) 0 rfl [_,_] rfl rfl (fun _=>rfl) rfl ?_;intro H;exact ⟨_,_,_,_,rfl,by unfold XS;repeat first|rw [if_pos yQ]|rw [if_neg yQ]|(subst_vars;rfl),H.del 1⟩)
  refine Z4 (H.at 0 rfl) 0 rfl rfl rfl ?_
  refine br (fun c5=>?_) (fun c5=>?_)
  .replace c5:=Xp (c5)
   refine Z4 (H.at 0 rfl) 0 rfl rfl rfl ?_
   refine yx (fun c6=>?_) (fun c6=>?_)
   .refine cT (Ya yP) ?_
    refine Z8.mk (Fc.imp (YV.JO H _) ?_)
    rintro _ _ ⟨⟨r1,⟨rfl,h1⟩⟩,rfl⟩
    refine ZZ H rfl rfl rfl rfl<|fun p2 w2 H=>Z6.mk ?_
    (refine H.Wt (n:=1) (en:=YB) (s:=1) 0 rfl [_] rfl rfl (fun _=>rfl) rfl ?_;intro H;exact ⟨_,_,_,_,rfl,by unfold XS;repeat first|rw [if_pos yQ]|rw [if_neg yQ]|(subst_vars;rfl),H.del 1⟩)
   refine Z4 (H.at 0 rfl) 0 rfl rfl rfl ?_
   refine br (fun c7=>?_) (fun c7=>?_)
   .replace c7:=Xp (c7)
    refine Z4 (H.at 0 rfl) 0 rfl rfl rfl ?_
    refine yx (fun c8=>?_) (fun c8=>?_)
    .refine Z8.mk (Fc.imp (YV.JO H _) ?_)
     rintro _ _ ⟨⟨r1,⟨rfl,h1⟩⟩,rfl⟩
     refine ZZ H rfl rfl rfl rfl<|fun p2 w2 H=>Z6.mk ?_
     (refine H.Wt (n:=1) (en:=YB) (s:=1) 0 rfl [_] rfl rfl (fun _=>rfl) rfl ?_;intro H;exact ⟨_,_,_,_,rfl,by unfold XS;repeat first|rw [if_pos yQ]|rw [if_neg yQ]|(subst_vars;rfl),H.del 1⟩)
    refine Z4 (H.at 0 rfl) 0 rfl rfl rfl<|TL (Ya yP)<|Z4 (H.at 0 rfl) 0 rfl rfl rfl ?_
    refine yx (fun c9=>?_) (fun c9=>?_)
    .refine Z8.mk (Fc.imp (YV.JO H _) ?_)
     rintro _ _ ⟨⟨r1,⟨rfl,h1⟩⟩,rfl⟩
     refine ZZ H rfl rfl rfl rfl<|fun p2 w2 H=>Z6.mk ?_
     (refine H.Wt (n:=2) (en:=YB) (s:=1) 0 rfl [_,_] rfl rfl (fun _=>rfl) rfl ?_;intro H;exact ⟨_,_,_,_,rfl,by unfold XS;repeat first|rw [if_pos yQ]|rw [if_neg yQ]|(subst_vars;rfl),H.del 1⟩)
    refine Z4 (H.at 0 rfl) 0 rfl rfl rfl ?_
    refine yw (fun c10=>?_) (fun c10=>?_)
    .refine ZZ H rfl rfl rfl rfl<|fun p2 w2 H=>Z6.mk ?_
     (refine H.Wt (n:=1) (en:=YB) (s:=1) 0 rfl [_] rfl rfl (fun _=>rfl) rfl ?_;intro H;exact ⟨_,_,_,_,rfl,by unfold XS;repeat first|rw [if_pos yQ]|rw [if_neg yQ]|(subst_vars;rfl),H.del 1⟩)
    refine Z4 (H.at 0 rfl) 0 rfl rfl rfl ?_
    refine yw (fun c11=>?_) (fun c11=>?_)
    .refine cT (ZI yP)<|ZZ H rfl rfl rfl rfl<|fun p2 w2 H=>Z6.mk ?_
     (refine H.Wt (n:=1) (en:=YB) (s:=1) 0 rfl [_] rfl rfl (fun _=>rfl) rfl ?_;intro H;exact ⟨_,_,_,_,rfl,by unfold XS;repeat first|rw [if_pos yQ]|rw [if_neg yQ]|(subst_vars;rfl),H.del 1⟩)
    refine Z4 (H.at 0 rfl) 0 rfl rfl rfl ?_
    refine yw (fun c12=>?_) (fun c12=>?_)
    .refine ZZ H rfl rfl rfl rfl<|fun p2 w2 H=>Z6.mk ?_
     (refine H.Wt (n:=1) (en:=YB) (s:=1) 0 rfl [_] rfl rfl (fun _=>rfl) rfl ?_;intro H;exact ⟨_,_,_,_,rfl,by unfold XS;repeat first|rw [if_pos yQ]|rw [if_neg yQ]|(subst_vars;rfl),H.del 1⟩)
    refine Z4 (H.at 0 rfl) 0 rfl rfl rfl ?_
    refine br (fun c13=>?_) (fun c13=>?_)
    .replace c13:=Xp (c13)
     refine Z4 (H.at 0 rfl) 0 rfl rfl rfl ?_
     refine yx (fun c14=>?_) (fun c14=>?_)
     .refine Z8.mk (Fc.imp (YV.JO H _) ?_)
      rintro _ _ ⟨⟨r1,⟨rfl,h1⟩⟩,rfl⟩
      refine ZZ H rfl rfl rfl rfl<|fun p2 w2 H=>Z6.mk ?_
      (refine H.Wt (n:=1) (en:=YB) (s:=1) 0 rfl [_] rfl rfl (fun _=>rfl) rfl ?_;intro H;exact ⟨_,_,_,_,rfl,by unfold XS;repeat first|rw [if_pos yQ]|rw [if_neg yQ]|(subst_vars;rfl),H.del 1⟩)
     exact Z6.mk<|⟨_,_,_,[],rfl,by unfold XS;repeat first|rw [if_pos yQ]|rw [if_neg yQ],(H.del 0).VS (en:=YB) (s:=1) 97 (fun _=>rfl)⟩
    replace c13:=Xo (c13)
    exact cF rfl<|Z6.mk<|⟨_,_,_,[],rfl,by unfold XS;repeat first|rw [if_pos yQ]|rw [if_neg yQ],(H.del 0).VS (en:=YB) (s:=1) 97 (fun _=>rfl)⟩
   replace c7:=Xo (c7)
   refine cF rfl<|Z4 (H.at 0 rfl) 0 rfl rfl rfl<|TL (Ya yP)<|Z4 (H.at 0 rfl) 0 rfl rfl rfl<|cT (Ya yQ) ?_
   refine Z8.mk (Fc.imp (YV.JO H _) ?_)
   rintro _ _ ⟨⟨r1,⟨rfl,h1⟩⟩,rfl⟩
   refine ZZ H rfl rfl rfl rfl<|fun p2 w2 H=>Z6.mk ?_
   (refine H.Wt (n:=2) (en:=YB) (s:=1) 0 rfl [_,_] rfl rfl (fun _=>rfl) rfl ?_;intro H;exact ⟨_,_,_,_,rfl,by unfold XS;repeat first|rw [if_pos yQ]|rw [if_neg yQ]|(subst_vars;rfl),H.del 1⟩)
  replace c5:=Xo (c5)
  exact cF rfl<|Z4 (H.at 0 rfl) 0 rfl rfl rfl<|WK (Yv yQ)<|cF rfl<|Z4 (H.at 0 rfl) 0 rfl rfl rfl<|WK (Yv yQ)<|cF rfl<|Z4 (H.at 0 rfl) 0 rfl rfl rfl<|cF (Z5 yQ)<|Z4 (H.at 0 rfl) 0 rfl rfl rfl<|cF (Z5 yQ)<|Z4 (H.at 0 rfl) 0 rfl rfl rfl<|cF (Z5 yQ)<|Z4 (H.at 0 rfl) 0 rfl rfl rfl<|WK (Yv yQ)<|cF rfl<|Z6.mk<|⟨_,_,_,[],rfl,by unfold XS;repeat first|rw [if_pos yQ]|rw [if_neg yQ],(H.del 0).VS (en:=YB) (s:=1) 97 (fun _=>rfl)⟩
 replace c3:=YM (c3)
 exact cF rfl<|Z4 (H.at 0 rfl) 0 rfl rfl rfl<|WK (Yv yQ)<|cF rfl<|Z4 (H.at 0 rfl) 0 rfl rfl rfl<|WK (Yv yQ)<|cF rfl<|Z4 (H.at 0 rfl) 0 rfl rfl rfl<|WK (Yv yQ)<|cF rfl<|Z4 (H.at 0 rfl) 0 rfl rfl rfl<|cF (Z5 yQ)<|Z4 (H.at 0 rfl) 0 rfl rfl rfl<|cF (Z5 yQ)<|Z4 (H.at 0 rfl) 0 rfl rfl rfl<|cF (Z5 yQ)<|Z4 (H.at 0 rfl) 0 rfl rfl rfl<|WK (Yv yQ)<|cF rfl<|Z6.mk<|⟨_,_,_,[],rfl,by unfold XS;repeat first|rw [if_pos yQ]|rw [if_neg yQ],(H.del 0).VS (en:=YB) (s:=1) 97 (fun _=>rfl)⟩
theorem agh (o:Int) (w:World):yq 254 #[.int .u8 o] w (fun v w'=>(∃r,v=yL r/\r=Yw o)/\Sat (WO w) w' []):=by
 refine Fc.of Tryz.func254 rfl k_d ?_
 have H:=Sat.start w
 refine bk ?_
 refine br (fun c1=>?_) (fun c1=>?_)
 .replace c1:=ZS (c1)
  refine cT rfl<|Z6.mk ?_
  constructor
  .grind [Yw]
  exact H
 replace c1:=ZR (c1)
 refine br (fun c2=>?_) (fun c2=>?_)
 .replace c2:=ZS (c2)
  refine cT rfl<|Z6.mk ?_
  constructor
  .grind [Yw]
  exact H
 replace c2:=ZR (c2)
 refine yw (fun c3=>?_) (fun c3=>?_)
 .refine Z6.mk ?_
  constructor
  .grind [Yw]
  exact H
 refine yw (fun c4=>?_) (fun c4=>?_)
 .refine cT (ZI yP)<|Z6.mk ?_
  constructor
  .grind [Yw]
  exact H
 refine yw (fun c5=>?_) (fun c5=>?_)
 .refine cT (ZI yP)<|Z6.mk ?_
  constructor
  .grind [Yw]
  exact H
 refine yw (fun c6=>?_) (fun c6=>?_)
 .refine cT (ZI yP)<|Z6.mk ?_
  constructor
  .grind [Yw]
  exact H
 refine br (fun c7=>?_) (fun c7=>?_)
 .replace c7:=Xp (c7)
  refine yx (fun c8=>?_) (fun c8=>?_)
  .refine Z6.mk ?_
   constructor
   .grind [Yw]
   exact H
  refine cF (Z5 yQ)<|cF (Z5 yQ) ?_
  refine Z8.mk (Fc.imp (YV.width _ _) ?_)
  rintro _ _ ⟨⟨r1,⟨rfl,h1⟩⟩,rfl⟩
  refine yy (fun c9=>?_) (fun c9=>?_)
  .refine Z6.mk ?_
   constructor
   .grind [Yw]
   exact H
  refine yw (fun c10=>?_) (fun c10=>?_)
  .refine cT (ZI yP)<|Z6.mk ?_
   constructor
   .grind [Yw]
   exact H
  refine yw (fun c11=>?_) (fun c11=>?_)
  .refine Z6.mk ?_
   constructor
   .grind [Yw]
   exact H
  refine yw (fun c12=>?_) (fun c12=>?_)
  .refine Z6.mk ?_
   constructor
   .grind [Yw]
   exact H
  refine yw (fun c13=>?_) (fun c13=>?_)
  .refine Z6.mk ?_
   constructor
   .grind [Yw]
   exact H
  refine cF (Yv yQ)<|cF (Z5 yQ)<|cF (Z5 yQ)<|cF (Z5 yQ)<|cF (Z5 yQ)<|cF (Z5 yQ) ?_
  refine Z8.mk (Fc.imp (YV.K4 _ _) ?_)
  rintro _ w1 ⟨u1,⟨k1,⟨b1,⟨JN,⟨rfl,⟨h2,H'⟩⟩⟩⟩⟩⟩
  refine H.XX H' ?_
  clear H H'
  intro H
  have hn:=yq5 (fun q=>q.2.2) h2
  simp only at hn
  refine cI (fun c14=>?_) (fun c14=>?_)
  .refine Z6.mk ?_
   constructor
   .grind [Yw]
   exact H.firsts 0<|fun H=>H
  refine Z6.mk ?_
  constructor
  .grind [Yw]
  exact H.firsts 0<|fun H=>H
 replace c7:=Xo (c7)
 refine cF rfl ?_
 refine yw (fun c8=>?_) (fun c8=>?_)
 .refine Z6.mk ?_
  constructor
  .grind [Yw]
  exact H
 refine yw (fun c9=>?_) (fun c9=>?_)
 .refine Z6.mk ?_
  constructor
  .grind [Yw]
  exact H
 refine Z8.mk (Fc.imp (YV.width _ _) ?_)
 rintro _ _ ⟨⟨r1,⟨rfl,h1⟩⟩,rfl⟩
 refine yy (fun c10=>?_) (fun c10=>?_)
 .refine Z6.mk ?_
  constructor
  .grind [Yw]
  exact H
 refine cF (Z5 yQ)<|cF (Z5 yQ)<|cF (Z5 yQ)<|cF (Z5 yQ) ?_
 refine yx (fun c11=>?_) (fun c11=>?_)
 .refine cT (Ya yP)<|Z6.mk ?_
  constructor
  .grind [Yw]
  exact H
 refine yw (fun c12=>?_) (fun c12=>?_)
 .refine cT (ZI yP)<|Z6.mk ?_
  constructor
  .grind [Yw]
  exact H
 refine yw (fun c13=>?_) (fun c13=>?_)
 .refine cT (ZI yP)<|Z6.mk ?_
  constructor
  .grind [Yw]
  exact H
 refine yw (fun c14=>?_) (fun c14=>?_)
 .refine cT (ZI yP)<|Z6.mk ?_
  constructor
  .grind [Yw]
  exact H
 refine yw (fun c15=>?_) (fun c15=>?_)
 .refine cT (ZI yP)<|Z6.mk ?_
  constructor
  .grind [Yw]
  exact H
 refine yw (fun c16=>?_) (fun c16=>?_)
 .refine Z6.mk ?_
  constructor
  .grind [Yw]
  exact H
 refine Z8.mk (Fc.imp (YV.K4 _ _) ?_)
 rintro _ w1 ⟨u1,⟨k1,⟨b1,⟨JN,⟨rfl,⟨h2,H'⟩⟩⟩⟩⟩⟩
 refine H.XX H' ?_
 clear H H'
 intro H
 have hn:=yq5 (fun q=>q.2.2) h2
 simp only at hn
 refine cI (fun c17=>?_) (fun c17=>?_)
 .refine Z6.mk ?_
  constructor
  .grind [Yw]
  exact H.firsts 0<|fun H=>H
 refine Z6.mk ?_
 constructor
 .grind [Yw]
 exact H.firsts 0<|fun H=>H
theorem Tf (n:Int) (w:World):yq 255 #[yL n] w (fun v w'=>(∃b,v=.bool b/\(b=true↔W6 n))/\w=w'):=by
 refine Fc.of Tryz.func255 rfl k_d ?_
 have H:=Sat.start w
 refine br (fun c1=>?_) (fun c1=>?_)
 .replace c1:=Xp (c1)
  refine Z6.mk ?_
  exact ⟨⟨_,rfl,by unfold W6;simp [YF];omega⟩,rfl⟩
 replace c1:=Xo (c1)
 refine Z6.mk ?_
 exact ⟨⟨_,rfl,by unfold W6;simp [YF];omega⟩,rfl⟩
end YV
end Go.Proofs.YtakpnepblgfknaaGreatDoor
