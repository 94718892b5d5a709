/- Texts of this claim, one behind the other. -/
import Derived.Test.YtakpnepblgfknaaGreatDoorM1
import Derived.Lib.AppendStr
import Derived.Laws.IdiomStrings
import Derived.Laws.MakeOwn
import Derived.Lib.ConvBytes
import Derived.Lib.AtoiErrMem
import Derived.Test.YtakpnepblgfknaaGreatDoorRows
import Derived.Lib.ValidLaws
import Derived.WalkKit
import Derived.ProofKit
import Derived.JoinedCond
import Derived.OpenShut
import Derived.ShutString
import Derived.ChangeOld
import Derived.Below
import Derived.ChangeArms
set_option linter.unusedVariables false
set_option linter.unusedSimpArgs false
set_option maxRecDepth 100000
set_option maxHeartbeats 4000000
set_option linter.defProp false
namespace Go.Proofs.YtakpnepblgfknaaGreatDoor
namespace YZ
open Go Go.RowKit
section
variable {P:Program} {ops:Array Oper} {Q:Exit→Act→World→Prop} {md:Region.Mode} {S:World→Prop} {Z:Nat→Bool}
def St (P:Program) (md:Region.Mode) (ops:Array Oper) (Q:Exit→Act→World→Prop) (S:World→Prop) (Z:Nat→Bool):Nat→Array Bool→Act→World→Prop
 | 0,listed,a,w=>Region.ready md ops listed=[]∧Q .normal a w
 | fuel+1,listed,a,w=>(Region.ready md ops listed=[]→Q .normal a w) ∧
   ∀i∈Region.ready md ops listed,wpOp P ops Q i (fun a' w'=>(Z i=true∨(S w→S w'))∧St P md ops Q S Z fuel (listed.setIfInBounds i true) a' w') a w
theorem abb:∀(fuel:Nat) (listed:Array Bool) (a:Act) (w:World),St P md ops Q S Z fuel listed a w→wpAny P md ops Q fuel listed a w:=by
 intro fuel
 induction fuel with
 | zero=>exact fun _ _ _ h=>h
 | succ f ih=>exact fun _ _ _ h=>⟨h.1,fun i hi=>wpOp_mono (fun a' w' k=>ih _ a' w' k.2) (h.2 i hi)⟩
def Cl (md:Region.Mode) (ops:Array Oper) (listed:Array Bool):Prop:=∀(k:Nat) (ok:Oper),ops[k]?=some ok→listed.getD k false=true→∀e∈ok.after,Region.binds md e=true→listed.getD e.on false=true
inductive Pre (md:Region.Mode) (ops:Array Oper):Nat→Nat→Prop
 | one {j i:Nat} {oj:Oper} (hj:ops[j]?=some oj) {e:Edge} (he:e∈oj.after) (hb:Region.binds md e=true) (hi:e.on=i):Pre md ops j i
 | more {j i:Nat} {oj:Oper} (hj:ops[j]?=some oj) {e:Edge} (he:e∈oj.after) (hb:Region.binds md e=true) (hi:Pre md ops e.on i):Pre md ops j i
theorem Pre.trans {a b c:Nat} (h:Pre md ops a b) (k:Pre md ops b c):Pre md ops a c:=by
 induction h with
 | one hj he hb hi=>subst hi;exact .more hj he hb k
 | more hj he hb _ ih=>exact .more hj he hb (ih k)
theorem Cl.pre {listed:Array Bool} (hc:Cl md ops listed) {j i:Nat} (h:Pre md ops j i) (hl:listed.getD j false=true):listed.getD i false=true:=by
 induction h with
 | one hj he hb hi=>subst hi;exact hc _ _ hj hl _ he hb
 | more hj he hb _ ih=>exact ih (hc _ _ hj hl _ he hb)
theorem Cl.ready {listed:Array Bool} (hc:Cl md ops listed) {j i:Nat} (h:Pre md ops j i) (hr:j∈Region.ready md ops listed):listed.getD i false=true:=by
 obtain ⟨_,oj,Og,hall⟩:=mem_ready.1 hr
 cases h with
 | one hj he hb hi=>subst hi;rw [hj] at Og;obtain rfl:=Option.some.inj Og;exact hall _ he hb
 | more hj he hb hp=>rw [hj] at Og;obtain rfl:=Option.some.inj Og;exact hc.pre hp (hall _ he hb)
theorem Cl.step {listed:Array Bool} (hc:Cl md ops listed) {j:Nat} (hr:j∈Region.ready md ops listed):Cl md ops (listed.setIfInBounds j true):=by
 obtain ⟨_,oj,Og,hall⟩:=mem_ready.1 hr
 have up:∀k,listed.getD k false=true→(listed.setIfInBounds j true).getD k false=true:=fun k hk=>by
  simp only [Array.getD_eq_getD_getElem?] at hk ⊢
  rw [Array.getElem?_setIfInBounds]
  split
  ·split
   ·rfl
   ·rename_i h h2;subst h
    rw [Array.getElem?_eq_none (ldc h2)] at hk;exact hk
  ·exact hk
 intro k ok hk hl e he hb
 by_cases h:j=k
 ·subst h;rw [Og] at hk;obtain rfl:=Option.some.inj hk;exact up _ (hall e he hb)
 ·refine up _ (hc k ok hk ?_ e he hb)
  simp only [Array.getD_eq_getD_getElem?] at hl ⊢
  rw [Array.getElem?_setIfInBounds,if_neg h] at hl;exact hl
theorem Cl.start (n:Nat):Cl md ops (Array.replicate n false):=fun k ok _ hl=>by
 simp only [Array.getD_eq_getD_getElem?,Array.getElem?_replicate] at hl
 split at hl <;> cases hl
theorem aap {i:Nat} {oi:Oper} {v:Value} (hi:ops[i]?=some oi) (hsel:∀(j:Nat) (o:Oper) cs b,ops[j]?=some o→o.op≠.select cs b)
  (hQ:∀c a w,Q (.panic c) (a.put oi.dst v) w→Q (.panic c) a w) (hz:∀j oj,ops[j]?=some oj→Z j=true→Pre md ops j i) :
  ∀(fuel:Nat) (listed:Array Bool) (a:Act) (w:World),Cl md ops listed →
   (∀j oj,ops[j]?=some oj→j≠i→listed.getD j true=false→(∀e∈oj.after,Region.binds md e=true→e.on≠i)→oi.apart ops oj=true) →
   i∈Region.ready md ops listed→YieldsIf P ops S oi v a→S w →
   St P md ops Q S Z fuel (listed.setIfInBounds i true) (a.put oi.dst v) w→St P md ops Q S Z (fuel+1) listed a w:=by
 intro fuel
 induction fuel with
 | zero =>
  intro listed a w _ _ hr hy hS H
  refine ⟨fun h=>absurd (h ▸ hr) (List.not_mem_nil),fun j hj=>?_⟩
  rcases Nat.decEq j i with hji|hji
  ·exact absurd (H.1 ▸ ready_mono hj hji) (List.not_mem_nil)
  ·subst hji;exact hy.wpOp hi hS ⟨.inr id,H⟩
 | succ fuel ih =>
  intro listed a w Uz hfree hr hy hS H
  refine ⟨fun h=>absurd (h ▸ hr) (List.not_mem_nil),fun j hj=>?_⟩
  rcases Nat.decEq j i with hji|hji
  ·have h1:=H.2 j (ready_mono hj hji)
   obtain ⟨IJ,oj,Og,hall⟩:=mem_ready.1 hj
   have Rq:=(mem_ready.1 hr).1
   have hnot:∀e∈oj.after,Region.binds md e=true→e.on≠i:=fun e he hb heq=>by
    have h2:=hall e he hb
    rw [heq] at h2
    simp only [Array.getD_eq_getD_getElem?] at h2 Rq
    cases hx:listed[i]? with
    | none=>rw [hx] at h2;simp at h2
    | some b=>rw [hx] at h2 Rq;simp at h2 Rq;rw [h2] at Rq;cases Rq
   have hZ:Z j≠true:=fun hzj=>by
    have h2:=Uz.ready (hz j oj Og hzj) hj
    simp only [Array.getD_eq_getD_getElem?] at h2 Rq
    cases hx:listed[i]? with
    | none=>rw [hx] at h2;simp at h2
    | some b=>rw [hx] at h2 Rq;simp at h2 Rq;rw [h2] at Rq;cases Rq
   have h2:=wpOp_putIf Og (hfree j oj Og hji IJ hnot) (fun cs b=>hsel i oi cs b hi) (fun cs b=>hsel j oj cs b Og) hQ hy h1
   refine wpOp_mono (fun a' w' h3=>?_) h2
   have hSw:S w':=h3.2.1.resolve_left hZ hS
   refine ⟨.inr fun _=>hSw,ih (listed.setIfInBounds j true) a' w' (Uz.step hj) (fun k ok hk hki hun hno=>hfree k ok hk hki ?_ hno) (ready_mono hr (Ne.symm hji)) h3.1 hSw ?_⟩
   ·rcases Nat.decEq j k with h|h
    ·rw [getD_set_ne true h] at hun;exact hun
    ·subst h;exact IJ
   ·rw [Array.setIfInBounds_comm _ _ hji];exact h3.2.2
  ·subst hji;exact hy.wpOp hi hS ⟨.inr id,H⟩
theorem aaA {i:Nat} {oi:Oper} {v:Value} (hi:ops[i]?=some oi) (hsel:∀(j:Nat) (o:Oper) cs b,ops[j]?=some o→o.op≠.select cs b)
  (hQ:∀c a w,Q (.panic c) (a.put oi.dst v) w→Q (.panic c) a w) :
  ∀(fuel:Nat) (listed:Array Bool) (a:Act) (w:World),
   (∀j oj,ops[j]?=some oj→j≠i→listed.getD j true=false→(∀e∈oj.after,Region.binds md e=true→e.on≠i)→oi.apart ops oj=true) →
   i∈Region.ready md ops listed→YieldsIf P ops (fun _=>True) oi v a →
   St P md ops Q S Z fuel (listed.setIfInBounds i true) (a.put oi.dst v) w→St P md ops Q S Z (fuel+1) listed a w:=by
 intro fuel
 induction fuel with
 | zero =>
  intro listed a w _ hr hy H
  refine ⟨fun h=>absurd (h ▸ hr) (List.not_mem_nil),fun j hj=>?_⟩
  rcases Nat.decEq j i with hji|hji
  ·exact absurd (H.1 ▸ ready_mono hj hji) (List.not_mem_nil)
  ·subst hji;exact hy.wpOp hi trivial ⟨.inr id,H⟩
 | succ fuel ih =>
  intro listed a w hfree hr hy H
  refine ⟨fun h=>absurd (h ▸ hr) (List.not_mem_nil),fun j hj=>?_⟩
  rcases Nat.decEq j i with hji|hji
  ·have h1:=H.2 j (ready_mono hj hji)
   obtain ⟨IJ,oj,Og,hall⟩:=mem_ready.1 hj
   have Rq:=(mem_ready.1 hr).1
   have hnot:∀e∈oj.after,Region.binds md e=true→e.on≠i:=fun e he hb heq=>by
    have h2:=hall e he hb
    rw [heq] at h2
    simp only [Array.getD_eq_getD_getElem?] at h2 Rq
    cases hx:listed[i]? with
    | none=>rw [hx] at h2;simp at h2
    | some b=>rw [hx] at h2 Rq;simp at h2 Rq;rw [h2] at Rq;cases Rq
   have h2:=wpOp_putIf Og (hfree j oj Og hji IJ hnot) (fun cs b=>hsel i oi cs b hi) (fun cs b=>hsel j oj cs b Og) hQ hy h1
   refine wpOp_mono (fun a' w' h3=>?_) h2
   refine ⟨h3.2.1,ih (listed.setIfInBounds j true) a' w' (fun k ok hk hki hun hno=>hfree k ok hk hki ?_ hno) (ready_mono hr (Ne.symm hji)) h3.1 ?_⟩
   ·rcases Nat.decEq j k with h|h
    ·rw [getD_set_ne true h] at hun;exact hun
    ·subst h;exact IJ
   ·rw [Array.setIfInBounds_comm _ _ hji];exact h3.2.2
  ·subst hji;exact hy.wpOp hi trivial ⟨.inr id,H⟩
end
inductive Kd where
 | pure
 | held
 | forced
 | free
def UW (P:Program) (ops:List Oper) (S:World→Prop) (K:List Value→World→Prop) (plan:List (Nat × Kd)):Bool→List Value→World→Prop :=
 List.rec (motive:=fun _=>Bool→List Value→World→Prop) (fun _=>K) (fun i _ ih live ρ w=>match ops[i.1]? with
  | none=>False
  | some o=>match i.2 with
   | .pure=>X8 ops o.guard ρ fun b ρ=>match b with
    | true=>I2 P (fun _=>True) o ρ fun v=>W8 ρ o.dst v fun ρ=>ih live ρ w
    | false=>W8 ρ o.dst undef fun ρ=>ih live ρ w
   | .held=>match live with
    | true=>X8 ops o.guard ρ fun b ρ=>match b with
     | true=>I2 P S o ρ fun v=>W8 ρ o.dst v fun ρ=>ih true ρ w
     | false=>W8 ρ o.dst undef fun ρ=>ih true ρ w
    | false=>False
   | .forced=>match live with
    | true=>X8 ops o.guard ρ fun b ρ=>match b with
     | true=>K7 P o ρ w fun v w'=>Yt (S w') (W8 ρ o.dst v fun ρ=>ih true ρ w')
     | false=>W8 ρ o.dst undef fun ρ=>ih true ρ w
    | false=>False
   | .free=>X8 ops o.guard ρ fun b ρ=>match b with
    | true=>K7 P o ρ w fun v w'=>W8 ρ o.dst v fun ρ=>ih false ρ w'
    | false=>W8 ρ o.dst undef fun ρ=>ih false ρ w) plan
theorem ab6 (P:Program) (ops:List Oper) (S:World→Prop) (K:List Value→World→Prop) (i:Nat × Kd) (r:List (Nat × Kd)) (live:Bool) (ρ:List Value) (w:World) :
  UW P ops S K (i::r) live ρ w=match ops[i.1]? with
  | none=>False
  | some o=>match i.2 with
   | .pure=>X8 ops o.guard ρ fun b ρ=>match b with
    | true=>I2 P (fun _=>True) o ρ fun v=>W8 ρ o.dst v fun ρ=>UW P ops S K r live ρ w
    | false=>W8 ρ o.dst undef fun ρ=>UW P ops S K r live ρ w
   | .held=>match live with
    | true=>X8 ops o.guard ρ fun b ρ=>match b with
     | true=>I2 P S o ρ fun v=>W8 ρ o.dst v fun ρ=>UW P ops S K r true ρ w
     | false=>W8 ρ o.dst undef fun ρ=>UW P ops S K r true ρ w
    | false=>False
   | .forced=>match live with
    | true=>X8 ops o.guard ρ fun b ρ=>match b with
     | true=>K7 P o ρ w fun v w'=>Yt (S w') (W8 ρ o.dst v fun ρ=>UW P ops S K r true ρ w')
     | false=>W8 ρ o.dst undef fun ρ=>UW P ops S K r true ρ w
    | false=>False
   | .free=>X8 ops o.guard ρ fun b ρ=>match b with
    | true=>K7 P o ρ w fun v w'=>W8 ρ o.dst v fun ρ=>UW P ops S K r false ρ w'
    | false=>W8 ρ o.dst undef fun ρ=>UW P ops S K r false ρ w:=rfl
def HB:Kd→Bool
 | .pure=>true
 | .held=>true
 | .forced=>false
 | .free=>false
def Gx (plan:List (Nat × Kd)):List (Nat × Bool):=plan.map fun p=>(p.1,HB p.2)
def Kk (plan:List (Nat × Kd)):List Nat:=plan.filterMap fun p=>match p.2 with
 | .held=>some p.1
 | _=>none
def Mj (plan:List (Nat × Kd)):List Nat:=plan.filterMap fun p=>match p.2 with
 | .free=>some p.1
 | _=>none
def reach (ops:List (Oper × Nat)) (m:Nat):Nat:=ops.foldl (fun m p=>match Kt m p.2 with
 | true=>Nat.lor m (UX p.1)
 | false=>m) m
theorem ab7 {ops:Array Oper} {z:Nat}:∀(l:List (Oper × Nat)) (m:Nat),(∀p∈l,ops[p.2]?=some p.1)→(∀i,m.testBit i=true→Pre .any ops z i)→∀i,(reach l m).testBit i=true→Pre .any ops z i:=by
 intro l
 induction l with
 | nil=>exact fun m _ h=>h
 | cons p l ih =>
  intro m hl h
  refine ih _ (fun q hq=>hl q (lGb _ hq)) fun i hi=>?_
  dsimp only at hi
  cases hb:Kt m p.2 with
  | false=>rw [hb] at hi;exact h i hi
  | true =>
   rw [hb] at hi
   have hi:(m ||| UX p.1).testBit i=true:=hi
   rw [lPb,Bool.or_eq_true] at hi
   rcases hi with hi|hi
   ·exact h i hi
   ·obtain ⟨e,he,Mk,G7⟩:=(VH p.1 i).1 hi
    exact (h p.2 (by rw [←Up];exact hb)).trans (.one (hl p (lxb ..)) he Mk G7)
def Ey (ops:Array Oper) (Wp zs:List Nat):Bool:=zs.all fun z=>match ops[z]? with
 | none=>false
 | some o=>Nat.beq (Nat.land (Wg Wp) (UX o)) (Wg Wp) || Nat.beq (Nat.land (Wg Wp) (reach ops.toList.zipIdx.reverse (UX o))) (Wg Wp)
theorem Of {ops:Array Oper} {Wp zs:List Nat} (h:Ey ops Wp zs=true) {i:Nat} (hi:i∈Wp):∀j oj,ops[j]?=some oj→zs.contains j=true→Pre .any ops j i:=by
 intro j oj hj hz
 have h1:=lkb.1 h j (by simpa using hz)
 rw [hj] at h1
 rw [Bool.or_eq_true] at h1
 have d:∀k,(UX oj).testBit k=true→Pre .any ops j k:=fun k hk=>by
  obtain ⟨e,he,hb,G7⟩:=(VH oj k).1 hk
  exact .one hj he hb G7
 rcases h1 with h1|h1
 ·exact d i (Qs h1 i ((VI Wp i).2 hi))
 ·refine ab7 ops.toList.zipIdx.reverse (UX oj) (fun p hp=>?_) d i (Qs h1 i ((VI Wp i).2 hi))
  have hp2:=List.mem_reverse.1 hp
  have:=List.mem_zipIdx' hp2
  rw [←lYa]
  rw [lca]
  exact ⟨this.1,this.2.symm⟩
section
variable {P:Program} {ops:Array Oper} {S:World→Prop} {K:List Value→World→Prop} {ρ0:List Value} {Z:Nat→Bool}
theorem abc (hs:Region.noSelect ops=true) (plan:List (Nat × Kd)):∀(fuel:Nat) (listed:Array Bool) (live:Bool) (ρ:List Value) (w:World),plan.length≤fuel →
  (∀i,(i,Kd.held)∈plan→∀j oj,ops[j]?=some oj→Z j=true→Pre .any ops j i) →
  (∀i,(i,Kd.free)∈plan→Z i=true) →
  PB ops (Gx plan) listed=true→(live=true→S w)→agree (YC ops.toList) ρ0 ρ →
  Cl .any ops listed→UW P ops.toList S K plan live ρ w→St P .any ops (fun e a w'=>e=.normal∧a.defers=[]∧agree (YC ops.toList) ρ0 a.tmps.toList∧K a.tmps.toList w') S Z fuel listed ⟨ρ.toArray,[]⟩ w:=by
 induction plan with
 | nil =>
  intro fuel listed live ρ w _ _ _ hok _ hag _ h
  have hr:=List.isEmpty_iff.1 hok
  cases fuel with
  | zero=>exact ⟨hr,rfl,rfl,hag,h⟩
  | succ f=>exact ⟨fun _=>⟨rfl,rfl,hag,h⟩,by rw [hr];simp⟩
 | cons ib r ih =>
  obtain ⟨i,kd⟩:=ib
  intro fuel listed live ρ w hfl Kl HA hok hS hag Uz h
  obtain ⟨f,rfl⟩:∃f,fuel=f+1:=⟨fuel-1,by simp at hfl;omega⟩
  have IL:r.length≤f:=by simpa using hfl
  have F0:∀i,(i,Kd.held)∈r→∀j oj,ops[j]?=some oj→Z j=true→Pre .any ops j i:=fun k hk=>Kl k (by simp [hk])
  have FZ:∀i,(i,Kd.free)∈r→Z i=true:=fun k hk=>HA k (by simp [hk])
  unfold Gx at hok
  rw [ljb,Sk] at hok
  rw [ab6] at h
  simp only [Array.getElem?_toList] at h
  cases ho:ops[i]? with
  | none=>rw [ho] at hok;cases hok
  | some o =>
   rw [ho] at hok h
   simp only [Bool.and_eq_true] at hok h
   have hmem:∀n,o.dst=some n→n∈YC ops.toList:=fun n hn=>by
    unfold YC;rw [lDb]
    exact ⟨o,by simpa using Array.mem_of_getElem? ho,hn⟩
   have Jh:=fun live ρ w=>ih f (listed.setIfInBounds i true) live ρ w IL F0 FZ
   cases kd with
   | pure =>
    simp only [HB,Bool.and_eq_true] at hok
    obtain ⟨⟨hfree,Xq⟩,VR⟩:=hok
    obtain ⟨b,hb,h⟩:=X0 h
    have key:∀v,YieldsIf P ops (fun _=>True) o v ⟨ρ.toArray,[]⟩→UW P ops.toList S K r live (put ρ o.dst v) w→St P .any ops (fun e a w'=>e=.normal∧a.defers=[]∧agree (YC ops.toList) ρ0 a.tmps.toList∧K a.tmps.toList w') S Z (f+1) listed ⟨ρ.toArray,[]⟩ w:=fun v hy hk =>
     aaA ho (Region.noSelect_spec hs) (fun c a w hq=>by cases hq.1) f listed _ _ (Region.free_spec ho hfree) (by simpa using Xq) hy (by
      rw [put_eq]
      exact Jh live _ w VR hS (XO hag hmem v) (Uz.step (by simpa using Xq)) hk)
    cases b
    ·simp only [Yh] at h
     exact key undef (.inr ⟨hb,rfl⟩) h
    ·obtain ⟨v,hv,hk⟩:=Tk h
     rw [Yh] at hk
     exact key v (.inl ⟨hb,fun w hS=>by rw [Yy];exact hv w hS⟩) hk
   | held =>
    simp only [HB,Bool.and_eq_true] at hok
    obtain ⟨⟨hfree,Xq⟩,VR⟩:=hok
    cases live with
    | false=>exact h.elim
    | true =>
     obtain ⟨b,hb,h⟩:=X0 h
     have key:∀v,YieldsIf P ops S o v ⟨ρ.toArray,[]⟩→UW P ops.toList S K r true (put ρ o.dst v) w→St P .any ops (fun e a w'=>e=.normal∧a.defers=[]∧agree (YC ops.toList) ρ0 a.tmps.toList∧K a.tmps.toList w') S Z (f+1) listed ⟨ρ.toArray,[]⟩ w:=fun v hy hk =>
      aap ho (Region.noSelect_spec hs) (fun c a w hq=>by cases hq.1) (Kl i qs) f listed _ _ Uz (Region.free_spec ho hfree) (by simpa using Xq) hy (hS rfl) (by
       rw [put_eq]
       exact Jh true _ w VR hS (XO hag hmem v) (Uz.step (by simpa using Xq)) hk)
     cases b
     ·simp only [Yh] at h
      exact key undef (.inr ⟨hb,rfl⟩) h
     ·obtain ⟨v,hv,hk⟩:=Tk h
      rw [Yh] at hk
      exact key v (.inl ⟨hb,fun w hS=>by rw [Yy];exact hv w hS⟩) hk
   | forced =>
    simp only [HB,beq_iff_eq] at hok
    obtain ⟨Xq,VR⟩:=hok
    cases live with
    | false=>exact h.elim
    | true =>
     obtain ⟨b,hb,h⟩:=X0 h
     refine ⟨fun h0=>by rw [Xq] at h0;simp at h0,fun j hj=>?_⟩
     obtain rfl:j=i:=by rw [Xq] at hj;simpa using hj
     unfold wpOp
     rw [ho]
     simp only [hb]
     cases b
     ·simp only [Bool.false_eq_true,if_false,Yh] at h ⊢
      rw [put_eq]
      exact ⟨.inr id,Jh true _ w VR hS (XO hag hmem _) (Uz.step hj) h⟩
     ·simp only [if_true] at h ⊢
      refine .inl (Uv h fun v w' ⟨GA,hk⟩=>?_)
      rw [Yh] at hk
      rw [put_eq]
      exact ⟨.inr fun _=>GA,Jh true _ w' VR (fun _=>GA) (XO hag hmem v) (Uz.step hj) hk⟩
   | free =>
    simp only [HB,beq_iff_eq] at hok
    obtain ⟨Xq,VR⟩:=hok
    have hz:Z i=true:=HA i qs
    obtain ⟨b,hb,h⟩:=X0 h
    refine ⟨fun h0=>by rw [Xq] at h0;simp at h0,fun j hj=>?_⟩
    obtain rfl:j=i:=by rw [Xq] at hj;simpa using hj
    unfold wpOp
    rw [ho]
    simp only [hb]
    cases b
    ·simp only [Bool.false_eq_true,if_false,Yh] at h ⊢
     rw [put_eq]
     exact ⟨.inl hz,Jh false _ w VR nofun (XO hag hmem _) (Uz.step hj) h⟩
    ·simp only [if_true] at h ⊢
     refine .inl (Uv h fun v w' hk=>?_)
     rw [Yh] at hk
     rw [put_eq]
     exact ⟨.inl hz,Jh false _ w' VR nofun (XO hag hmem v) (Uz.step hj) hk⟩
theorem ajK {id:Nat} {w:World} (S:World→Prop) (plan:List (Nat × Kd)) (hm:P.follows .mixedOrders=true) (hc:Oh ops (Gx plan)=true) (hz:Ey ops (Kk plan) (Mj plan)=true)
  (h:∀w1,w1=w.drew→S w1∧UW P ops.toList S K plan true ρ0 w1):Ou P id ops K ρ0 w:=by
 have Gw:=aac hc
 simp only [Sj,Bool.and_eq_true,beq_iff_eq] at Gw
 obtain ⟨⟨h1,h2⟩,h3⟩:=Gw
 obtain ⟨hS,hk⟩:=h _ rfl
 have hl:plan.length≤ops.size:=by rw [←h2];simp [Gx]
 refine ⟨wp_region_any hm (abb (S:=S) (Z:=fun i=>(Mj plan).contains i) _ _ _ _ (abc h1 plan _ _ true _ _ hl (fun i hi=>Of hz ?_) (fun i hi=>?_) h3 (fun _=>hS) (QX _ _) (Cl.start _) hk))⟩
 ·unfold Kk;rw [lDb];exact ⟨(i,.held),hi,rfl⟩
 ·simp only [List.contains_iff_mem]
  unfold Mj;rw [lDb];exact ⟨(i,.free),hi,rfl⟩
end
end YZ
namespace YZ
open Go Go.RowKit
abbrev Hp:=Nat→Option Obj
abbrev As:=Hp→Prop
def Ks (h a b:Hp):Prop:=∀k,(a k=h k∧b k=none)∨(a k=none∧b k=h k)
def Re:List As→As
 | [],_=>True
 | A::l,h=>∃a b,Ks h a b∧A a∧Re l b
structure Zv where
 os:Os
 tape:Nat→Question→Nat
 output:Array (Nat × ByteArray)
 fr:Hp
def Fz (f:Hp):As:=fun h=>h=f
def Sub (h:Hp) (w:World):Prop:=∀k o,h k=some o→w.heap[k]?=some o
structure Sat (g:Zv) (w:World) (l:List As):Prop where
 os:w.os=g.os
 tape:w.tape=g.tape
 output:w.output=g.output
 ex:∃h,Sub h w∧Re (Fz g.fr::l) h
theorem Ks.comm {h a b:Hp} (x:Ks h a b):Ks h b a:=fun k=>by
 rcases x k with h|h
 ·exact .inr ⟨h.2,h.1⟩
 ·exact .inl ⟨h.2,h.1⟩
theorem Ks.swap {h a b c d:Hp} (x:Ks h b c) (y:Ks c a d):∃e,Ks h a e∧Ks e b d:=by
 refine ⟨fun k=>match b k with
  | some o=>some o
  | none=>d k,fun k=>?_,fun k=>?_⟩
 ·rcases x k with ⟨h1,h2⟩|⟨h1,h2⟩ <;> rcases y k with ⟨h3,h4⟩|⟨h3,h4⟩
  ·right;rw [h2] at h3;refine ⟨h3,?_⟩
   cases hb:b k with
   | some o=>simp only [hb];rw [←h1,hb]
   | none=>simp only [hb];rw [h4,←h1,hb]
  ·right;rw [h2] at h4;refine ⟨h3,?_⟩
   cases hb:b k with
   | some o=>simp only [hb];rw [←h1,hb]
   | none=>simp only [hb];rw [h4,←h1,hb]
  ·left;refine ⟨h3.trans h2,?_⟩;simp only [h1];exact h4
  ·right;refine ⟨h3,?_⟩;simp only [h1];exact h4.trans h2
 ·rcases x k with ⟨h1,h2⟩|⟨h1,h2⟩ <;> rcases y k with ⟨h3,h4⟩|⟨h3,h4⟩
  ·left;refine ⟨?_,h4⟩
   cases hb:b k with
   | some o=>simp only [hb]
   | none=>simp only [hb];rw [h4]
  ·rw [h2] at h4;left;refine ⟨?_,h4⟩
   cases hb:b k with
   | some o=>simp only [hb]
   | none=>simp only [hb];rw [h4]
  ·left;refine ⟨?_,h4⟩;simp only [h1];exact h4.symm
  ·right;refine ⟨h1,?_⟩;simp only [h1]
theorem SV:∀{l:List As} {j:Nat} {A:As} {h:Hp},l[j]?=some A→(Re l h↔∃a b,Ks h a b∧A a∧Re (l.eraseIdx j) b):=by
 intro l
 induction l with
 | nil=>intro j A h hj;simp at hj
 | cons B r ih =>
  intro j A h hj
  cases j with
  | zero=>obtain rfl:=Option.some.inj hj;exact Iff.rfl
  | succ j =>
   have hj:r[j]?=some A:=by simpa using hj
   simp only [List.eraseIdx_cons_succ,Re]
   constructor
   ·rintro ⟨b,c,h1,h2,h3⟩
    obtain ⟨a,d,h4,h5,h6⟩:=(ih hj).1 h3
    obtain ⟨e,h7,h8⟩:=h1.swap h4
    exact ⟨a,e,h7,h5,b,d,h8,h2,h6⟩
   ·rintro ⟨a,e,h7,h5,b,d,h8,h2,h6⟩
    obtain ⟨c,h9,h10⟩:=h7.swap h8
    exact ⟨b,c,h9,h2,(ih hj).2 ⟨a,d,h10,h5,h6⟩⟩
theorem Ks.sub {h a b:Hp} {w:World} (x:Ks h a b) (s:Sub h w):Sub a w∧Sub b w:=by
 refine ⟨fun k o ho=>?_,fun k o ho=>?_⟩
 ·rcases x k with ⟨h1,_⟩|⟨h1,_⟩
  ·exact s k o (h1 ▸ ho)
  ·rw [h1] at ho;cases ho
 ·rcases x k with ⟨_,h1⟩|⟨_,h1⟩
  ·rw [h1] at ho;cases ho
  ·exact s k o (h1 ▸ ho)
section
variable {P:Program} {g:Zv} {w w':World} {l:List As} {A A':As} {j:Nat}
theorem Sat.part (H:Sat g w l) (hj:l[j]?=some A):∃a,A a∧Sub a w:=by
 obtain ⟨h,hs,hx⟩:=H.ex
 have hj':(Fz g.fr::l)[j+1]?=some A:=by simpa using hj
 obtain ⟨a,b,h1,h2,_⟩:=(SV hj').1 hx
 exact ⟨a,h2,(h1.sub hs).1⟩
theorem Sat.Di (H:Sat g w l):Sub g.fr w:=by
 obtain ⟨h,hs,a,b,h1,h2,_⟩:=H.ex
 have:=(h1.sub hs).1
 rw [show a=g.fr from h2] at this;exact this
theorem Sat.step (H:Sat g w l) (hj:l[j]?=some A) (hos:w'.os=w.os) (ht:w'.tape=w.tape) (ho:w'.output=w.output)
  (st:∀a,A a→Sub a w→∃a',A' a'∧Sub a' w'∧∀k,k<w.heap.size→a k=none→a' k=none∧w'.heap[k]?=w.heap[k]?):Sat g w' (l.set j A'):=by
 obtain ⟨h,hs,hx⟩:=H.ex
 have hj':(Fz g.fr::l)[j+1]?=some A:=by simpa using hj
 obtain ⟨a,b,h1,h2,h3⟩:=(SV hj').1 hx
 obtain ⟨sa,sb⟩:=h1.sub hs
 obtain ⟨a',k1,k2,k3⟩:=st a h2 sa
 have hlt:∀k o,b k=some o→k<w.heap.size∧a k=none:=fun k o hb=>by
  refine ⟨(lza.1 (sb k o hb)).1,?_⟩
  rcases h1 k with ⟨_,h⟩|⟨h,_⟩
  ·rw [h] at hb;cases hb
  ·exact h
 have hjl:j<l.length:=(lca.1 hj).1
 refine ⟨hos.trans H.os,ht.trans H.tape,ho.trans H.output,fun k=>match b k with
  | some o=>some o
  | none=>a' k,fun k o hk=>?_,?_⟩
 ·cases hb:b k with
  | none=>simp only [hb] at hk;exact k2 k o hk
  | some o' =>
   simp only [hb] at hk
   obtain rfl:=Option.some.inj hk
   obtain ⟨hl,hn⟩:=hlt k _ hb
   rw [(k3 k hl hn).2];exact sb k _ hb
 ·have hj2:(Fz g.fr::l.set j A')[j+1]?=some A':=by simp [hjl]
  refine (SV hj2).2 ⟨a',b,fun k=>?_,k1,?_⟩
  ·cases hb:b k with
   | none=>exact .inl ⟨by simp only [hb],rfl⟩
   | some o =>
    obtain ⟨hl,hn⟩:=hlt k _ hb
    exact .inr ⟨(k3 k hl hn).1,by simp only [hb]⟩
  ·have:(Fz g.fr::l.set j A').eraseIdx (j+1)=(Fz g.fr::l).eraseIdx (j+1):=by
    simp only [List.eraseIdx_cons_succ]
    congr 1
    apply lJa
    intro i
    simp only [List.getElem?_eraseIdx,List.getElem?_set]
    by_cases hi:i<j
    ·rw [if_pos hi,if_pos hi,if_neg qo]
    ·rw [if_neg hi,if_neg hi,if_neg qo]
   rw [this];exact h3
theorem Sat.emp (H:Sat g w l):Sat g w ((fun h=>∀k,h k=none)::l):=by
 obtain ⟨h,hs,a,b,h1,h2,h3⟩:=H.ex
 exact ⟨H.os,H.tape,H.output,h,hs,a,b,h1,h2,fun _=>none,b,fun k=>.inr ⟨rfl,rfl⟩,fun _=>rfl,h3⟩
theorem Sat.below (H:Sat g w l) (b:Below w.heap.size w w'):Sat g w' l:=by
 obtain ⟨h,hs,hx⟩:=H.ex
 exact ⟨b.os.trans H.os,b.tape.trans H.tape,b.output.trans H.output,h,fun k o hk=>by
  have:=hs k o hk
  rw [b.block k (lza.1 this).1];exact this,hx⟩
theorem Sat.still (H:Sat g w l) (s:Still w w'):Sat g w' l:=H.below (s.below _)
theorem Sat.more (H:Sat g w l) (b:Below w.heap.size w w') {a:Hp} (ha:A a) (hs:Sub a w') (hn:∀k,k<w.heap.size→a k=none):Sat g w' (A::l) :=
 H.emp.step (j:=0) (A':=A) rfl b.os b.tape b.output fun _ _ _=>⟨a,ha,hs,fun k hk _=>⟨hn k hk,b.block k hk⟩⟩
def FY (l:List As):Nat→(As→Prop)→Prop :=
 List.rec (motive:=fun _=>Nat→(As→Prop)→Prop) (fun _ _=>False) (fun v _ ih n k=>Nat.rec (motive:=fun _=>Prop) (k v) (fun m _=>ih m k) n) l
def Rp (l:List As):Nat→As→(List As→Prop)→Prop :=
 List.rec (motive:=fun _=>Nat→As→(List As→Prop)→Prop) (fun _ _ k=>k []) (fun x r ih n v k=>Nat.rec (motive:=fun _=>Prop) (k (v::r)) (fun m _=>ih m v (fun r'=>k (x::r'))) n) l
def Kj (l:List As):Nat→(List As→Prop)→Prop :=
 List.rec (motive:=fun _=>Nat→(List As→Prop)→Prop) (fun _ k=>k []) (fun x r ih n k=>Nat.rec (motive:=fun _=>Prop) (k r) (fun m _=>ih m (fun r'=>k (x::r'))) n) l
def ajL (l:List As):List As→(List As→Prop)→Prop :=
 List.rec (motive:=fun _=>List As→(List As→Prop)→Prop) (fun ys k=>k ys) (fun x _ ih ys k=>ih ys fun zs=>k (x::zs)) l
theorem afQ {l:List As} {n:Nat} {k:As→Prop} (h:FY l n k):∃v,l[n]?=some v∧k v:=by
 induction l generalizing n with
 | nil=>exact h.elim
 | cons x r ih=>cases n with
  | zero=>exact ⟨x,rfl,h⟩
  | succ n=>simpa using ih (n:=n) h
theorem Wo (l:List As) (n:Nat) (v:As) (k:List As→Prop):Rp l n v k=k (l.set n v):=by
 induction l generalizing n k with
 | nil=>cases n <;> rfl
 | cons x r ih=>cases n with
  | zero=>rfl
  | succ n=>exact ih n _
theorem Qr (l:List As) (n:Nat) (k:List As→Prop):Kj l n k=k (l.eraseIdx n):=by
 induction l generalizing n k with
 | nil=>cases n <;> rfl
 | cons x r ih=>cases n with
  | zero=>rfl
  | succ n=>exact ih n _
theorem afR (xs ys:List As) (k:List As→Prop):ajL xs ys k=k (xs++ys):=by
 induction xs generalizing k with
 | nil=>rfl
 | cons x xs ih=>exact ih _
theorem Sat.front (H:Sat g w l) (hj:l[j]?=some A):Sat g w (A::l.eraseIdx j):=by
 obtain ⟨h,hs,hx⟩:=H.ex
 refine ⟨H.os,H.tape,H.output,h,hs,?_⟩
 have hj':(Fz g.fr::l)[j+1]?=some A:=by simpa using hj
 obtain ⟨a,b,h1,h2,h3⟩:=(SV hj').1 hx
 exact (SV (l:=Fz g.fr::A::l.eraseIdx j) (j:=1) rfl).2 ⟨a,b,h1,h2,h3⟩
theorem Sat.del (H:Sat g w l) (j:Nat):Sat g w (l.eraseIdx j):=by
 cases hj:l[j]? with
 | none=>rw [List.eraseIdx_of_length_le (by simpa using hj)];exact H
 | some A =>
  obtain ⟨h,hs,hx⟩:=H.ex
  have hj':(Fz g.fr::l)[j+1]?=some A:=by simpa using hj
  obtain ⟨a,b,h1,h2,h3⟩:=(SV hj').1 hx
  exact ⟨H.os,H.tape,H.output,b,(h1.sub hs).2,h3⟩
def afS (is:List Nat):List As→(List As→Prop)→Prop :=
 List.rec (motive:=fun _=>List As→(List As→Prop)→Prop) (fun l k=>k l) (fun i _ ih l k=>FY l i fun A=>Kj l i fun r=>ih (A::r) k) is
def MT (is:List Nat):List As→(List As→Prop)→Prop :=
 List.rec (motive:=fun _=>List As→(List As→Prop)→Prop) (fun l k=>k l) (fun i _ ih l k=>Kj l i fun r=>ih r k) is
theorem Sat.Z8 {G:Prop} (H:Sat g w l) (is:List Nat) (k:afS is l fun l'=>Sat g w l'→G):G:=by
 induction is generalizing l with
 | nil=>exact k H
 | cons i is ih =>
  obtain ⟨A,hA,k⟩:=afQ (show FY l i _ from k)
  rw [Qr] at k
  exact ih (H.front hA) k
theorem Sat.drop {G:Prop} (H:Sat g w l) (j:Nat) (k:Kj l j fun l'=>Sat g w l'→G):G:=by
 rw [Qr] at k;exact k (H.del j)
def WA (w:World):Zv:=⟨w.os,w.tape,w.output,fun k=>w.heap[k]?⟩
theorem Sat.start (w:World):Sat (WA w) w [] :=
 ⟨rfl,rfl,rfl,fun k=>w.heap[k]?,fun _ _ h=>h,fun k=>w.heap[k]?,fun _=>none,fun k=>.inl ⟨rfl,rfl⟩,rfl,trivial⟩
theorem Sat.finish {w0:World} (H:Sat (WA w0) w l):Below w0.heap.size w0 w:=by
 have hf:=H.Di
 have hb:∀k,k<w0.heap.size→w.heap[k]?=w0.heap[k]?:=fun k hk=>by
  have e:w0.heap[k]?=some w0.heap[k]:=lib hk
  rw [e];exact hf k _ e
 refine ⟨H.os,H.tape,H.output,?_,hb⟩
 rcases lUb w0.heap.size with h|h
 ·omega
 ·have h1:=hb (w0.heap.size-1) qo
  rw [lib (show w0.heap.size-1<w0.heap.size by omega)] at h1
  have:=(lza.1 h1).1
  omega
theorem Qq:∀{l1 l2:List As} {h a b:Hp},Ks h a b→Re l1 a→Re l2 b→Re (l1++l2) h:=by
 intro l1
 induction l1 with
 | nil =>
  intro l2 h a b hs _ h2
  have key:∀{l:List As} {h b:Hp},(∀k o,b k=some o→h k=some o)→Re l b→(∃c,Re l c):=fun _ h=>⟨_,h⟩
  clear key
  revert h2
  cases l2 with
  | nil=>exact fun _=>trivial
  | cons B r =>
   rintro ⟨c,d,h3,h4,h5⟩
   obtain ⟨e,h6,h7⟩:=hs.swap h3
   refine ⟨c,e,h6,h4,?_⟩
   have:∀{l:List As} {x y z:Hp},Ks x y z→Re l z→Re l x:=by
    intro l
    induction l with
    | nil=>exact fun _ _=>trivial
    | cons C l ih =>
     rintro x y z k1 ⟨u,v,k2,k3,k4⟩
     obtain ⟨t,k5,k6⟩:=k1.swap k2
     exact ⟨u,t,k5,k3,ih k6 k4⟩
   exact this h7 h5
 | cons A l1 ih =>
  rintro l2 h a b hs ⟨c,d,h3,h4,h5⟩ h2
  obtain ⟨e,h6,h7⟩:=hs.comm.swap h3
  exact ⟨c,e,h6,h4,ih h7.comm h5 h2⟩
theorem Sat.merge {l':List As} (H:Sat g w l) (H':Sat (WA w) w' l'):Sat g w' (l'++l):=by
 obtain ⟨h,hs,hx⟩:=H.ex
 obtain ⟨h',hs',a,b,h1,h2,h3⟩:=H'.ex
 obtain rfl:a=fun k=>w.heap[k]?:=h2
 have hd:∀k o,b k=some o→w.heap[k]?=none:=fun k o hb=>by
  rcases h1 k with ⟨_,h⟩|⟨h,_⟩
  ·rw [h] at hb;cases hb
  ·exact h
 obtain ⟨_,sb⟩:=h1.sub hs'
 have FX:=H'.finish
 refine ⟨H'.os.trans H.os,H'.tape.trans H.tape,H'.output.trans H.output,fun k=>match b k with
  | some o=>some o
  | none=>h k,fun k o hk=>?_,?_⟩
 ·cases hb:b k with
  | some o'=>simp only [hb] at hk;obtain rfl:=Option.some.inj hk;exact sb k _ hb
  | none =>
   simp only [hb] at hk
   have:=hs k o hk
   rw [FX.block k (lza.1 this).1];exact this
 ·have hsp:Ks (fun k=>match b k with
   | some o=>some o
   | none=>h k) b h:=fun k=>by
   cases hb:b k with
   | none=>exact .inr ⟨rfl,by simp only [hb]⟩
   | some o =>
    refine .inl ⟨by simp only [hb],?_⟩
    cases hh:h k with
    | none=>rfl
    | some o'=>have:=hs k o' hh;rw [hd k o hb] at this;cases this
  obtain ⟨a2,b2,k1,k2,k3⟩:=hx
  obtain ⟨e,k4,k5⟩:=hsp.swap k1
  exact ⟨a2,e,k4,k2,Qq k5 h3 k3⟩
theorem Sat.XZ {G:Prop} {l':List As} (H:Sat g w l) (H':Sat (WA w) w' l') (k:ajL l' l fun l''=>Sat g w' l''→G):G:=by
 rw [afR] at k;exact k (H.merge H')
end
def Gh (g:Zv):Hv:=fun b o=>g.fr b=some o
abbrev No (g:Zv) (b o:Nat) (vs:List Value):Prop:=GB (Gh g) b o vs
abbrev ZZ {α:Type} (g:Zv) (en:α→List Value) (ok:α→Prop) (s:Nat) (v:Value) (xs:List α):Prop:=VS (RE en ok) s (Gh g) v xs
section
variable {P:Program} {g:Zv} {w w':World} {l:List As} {K:Value→World→Prop} {α:Type} {en:α→List Value} {ok:α→Prop} {s:Nat} {v:Value} {xs:List α} {b o j:Nat} {e:TypeId}
theorem Sat.hle (H:Sat g w l):K3 (Gh g) (Rg w 0 w.heap.size):=fun b o h=>⟨lRa _,(lza.1 (H.Di b o h)).1,H.Di b o h⟩
theorem Sat.rd (H:Sat g w l) (h:ZZ g en ok s v xs):Rd en ok s w v xs:=h.mono (RE.mono' en ok) H.hle
theorem Sat.XQ {vs:List Value} (H:Sat g w l) (h:No g b o vs):At w b o vs:=(h.mono H.hle).at
theorem Rd.fz {w:World} (h:Rd en ok s w v xs):ZZ (WA w) en ok s v xs:=h.mono (RE.mono' en ok) fun b o ⟨_,_,h⟩=>h
theorem ZZ.len (h:ZZ g en ok s v xs):xs.length≤9223372036854775807:=VS.len h
end
def Pt (p:Nat) (cs:List Value) (e:TypeId):As:=fun h=>h p=some (.cells cs.toArray e (0,0))
section
variable {P:Program} {g:Zv} {w w':World} {l:List As} {K:Value→World→Prop} {p j o:Nat} {cs:List Value} {e t:TypeId} {v:Value}
theorem Sat.pt (H:Sat g w l) (hj:l[j]?=some (Pt p cs e)):Su w p cs e:=by
 obtain ⟨a,h1,h2⟩:=H.part hj;exact h2 p _ h1
theorem Sat.at (H:Sat g w l) (j:Nat) (hj:l[j]?=some (Pt p cs e)):At w p 0 cs:=(H.pt hj).at
theorem Sat.new (H:Sat g w l) (n:Jf w w' cs e):Sat g w' (Pt w.heap.size cs e::l) :=
 H.more n.below (a:=fun k=>if k=w.heap.size then some (.cells cs.toArray e (0,0)) else none) (by simp [Pt]) (fun k o hk=>by
  dsimp only at hk
  split at hk
  ·rename_i h;subst h;obtain rfl:=Option.some.inj hk;exact n.Ur
  ·cases hk) fun k hk=>by rw [if_neg qo]
theorem Sat.HD {cs':List Value} (H:Sat g w l) (hj:l[j]?=some (Pt p cs e)) (u:Lg w w' p) (hb:Su w' p cs' e):Sat g w' (l.set j (Pt p cs' e)) :=
 H.step hj u.os u.tape u.output fun a ha _=>⟨fun k=>if k=p then some (.cells cs'.toArray e (0,0)) else none,by simp [Pt],(fun k o hk=>by
  dsimp only at hk
  split at hk
  ·rename_i h;subst h;obtain rfl:=Option.some.inj hk;exact hb
  ·cases hk),fun k _ hn=>by
  have hne:k≠p:=fun e=>by subst e;rw [show a k=_ from ha] at hn;cases hn
  exact ⟨if_neg hne,u.block k hne⟩⟩
theorem ZH (H:Sat g w l) (k:TE v fun cs=>∀p w',Sat g w' (Pt p cs t::l)→K (.pointer (some ⟨p,0,none⟩)) w'):Zi P (Instr.box t v) w K :=
 alV (by rw [Wv] at k ⊢;exact fun w' n=>k _ w' (H.new n))
theorem ZS {z:Value} (H:Sat g w l) (hz:(P.info? t).bind (fun i=>i.zero)=some z) (k:TE z fun cs=>∀p w',Sat g w' (Pt p cs t::l)→K (.pointer (some ⟨p,0,none⟩)) w'):Zi P (Instr.alloc t true (.tuple #[])) w K :=
 ahQ hz (by rw [Wv] at k ⊢;exact fun w' n=>k _ w' (H.new n))
theorem ZY {n sz:Nat} {z:Value} {ps:Array (Nat × Value)} (H:Sat g w l) (hu:P.underlying t=some (.slice e)) (hz:(P.info? e).map (fun i=>(i.size,i.zero))=some (sz,some z))
  (hsz:z.cells.size=sz) (hn:Nat.ble (n * sz) 16777216=true)
  (h:PC n z.cells.toList fun zs=>Qx (fun i=>some (i * sz,sz)) ps.toList zs fun cs=>∀p w',Sat g w' (Pt p cs e::l)→K (.slice (some ⟨p,0,none⟩) n n) w') :
  Zi P (Instr.buildSlice t n ps) w K :=
 aah hu hz hsz (llb hn) (by rw [RK] at h ⊢;exact aax _ h fun cs h w' n=>h _ w' (H.new n))
theorem XA {K:World→Prop} (H:Sat g w l) (j:Nat) (hj:l[j]?=some (Pt p cs e)) (ho:Nat.ble (o+1) cs.length=true) (hs:(P.info? t).map (·.size)=some 1) (hv:v.oneCell'=true)
  (k:JF cs o v fun cs'=>Rp l j (Pt p cs' e) fun l'=>∀w',Sat g w' l'→K w'):JE P (Instr.storeAt t (.pointer (some ⟨p,o,none⟩)) v) w K:=by
 rw [TH,Wo] at k
 exact aco (H.pt hj) (llb ho) hs hv fun w' u hb=>k w' (H.HD hj u hb)
theorem ZD {K:World→Prop} {vs:List Value} (H:Sat g w l) (j:Nat) (hj:l[j]?=some (Pt p cs e)) (hs:(P.info? t).map (·.size)=some vs.length) (ho:Nat.ble (o+vs.length) cs.length=true) (hv:vs.all (·.oneCell')=true)
  (k:Oq cs o vs fun cs'=>Rp l j (Pt p cs' e) fun l'=>∀w',Sat g w' l'→K w'):JE P (Instr.storeAt t (.pointer (some ⟨p,o,none⟩)) (.agg vs.toArray)) w K:=by
 rw [Tm,Wo] at k
 exact aa9 (H.pt hj) hs (llb ho) hv fun w' u hb=>k w' (H.HD hj u hb)
theorem ZM {id:Nat} {ops:Array Oper} {K:List Value→World→Prop} {ρ:List Value} (H:Sat g w l) (ds:List Nat) (plan:List (Nat × Kd)) (hm:P.follows .mixedOrders=true) (hc:Oh ops (Gx plan)=true) (hz:Ey ops (Kk plan) (Mj plan)=true)
  (h:MT ds l fun l'=>∀w1,Sat g w1 l→UW P ops.toList (fun wx=>Sat g wx l') K plan true ρ w1):Ou P id ops K ρ w:=by
 have key:∃l',(∀wx,Sat g wx l→Sat g wx l')∧∀w1,Sat g w1 l→UW P ops.toList (fun wx=>Sat g wx l') K plan true ρ w1:=by
  have:∀(ds:List Nat) (l0:List As),(∀wx,Sat g wx l→Sat g wx l0)→(MT ds l0 fun l'=>∀w1,Sat g w1 l→UW P ops.toList (fun wx=>Sat g wx l') K plan true ρ w1) →
    ∃l',(∀wx,Sat g wx l→Sat g wx l')∧∀w1,Sat g w1 l→UW P ops.toList (fun wx=>Sat g wx l') K plan true ρ w1:=by
   intro ds
   induction ds with
   | nil=>exact fun l0 h0 h=>⟨l0,h0,h⟩
   | cons i ds ih =>
    intro l0 h0 h
    have h:Kj l0 i fun r=>MT ds r _:=h
    rw [Qr] at h
    exact ih _ (fun wx hx=>(h0 wx hx).del i) h
  exact this ds l (fun _ h=>h) h
 obtain ⟨l',h1,h2⟩:=key
 refine ajK (fun wx=>Sat g wx l') plan hm hc hz fun w1 e=>?_
 have H1:Sat g w1 l:=H.still (by rw [e];exact Still.drew _)
 exact ⟨h1 _ H1,h2 _ H1⟩
end
end YZ
namespace YZ
open Go Go.RowKit
section
variable {P:Program} {g:Zv} {w w':World} {l:List As} {K:Value→World→Prop} {α:Type} {en:α→List Value} {ok:α→Prop} {s:Nat} {v v':Value} {xs xs' ys:List α} {b o j i:Nat} {e t ty:TypeId} {x:α}
def Sl (e:TypeId) (s:Nat) (en:α→List Value) (v:Value) (xs:List α):As:=fun h =>
 ((v=.slice none 0 0∧xs=[])∨∃g o cap cur,v=.slice (some ⟨g,o,none⟩) xs.length cap∧h g=some (.cells (List.toArray cur) e (0,0))∧o+cap * s≤cur.length∧xs.length≤cap∧cap≤9223372036854775807∧(cur.drop o).take (xs.length * s)=xs.flatMap en)∧∀x,(en x).length=s
theorem Sl.off {a:Hp} (h:Sl e s en v xs a) (hs:Sub a w):SA 0 w e s en v xs:=by
 refine ⟨?_,h.2⟩
 rcases h.1 with h|⟨g,o,cap,cur,h1,h2,r⟩
 ·exact .inl h
 ·exact .inr ⟨g,o,cap,cur,h1,lRa _,hs g _ h2,r⟩
theorem Sl.dom {a:Hp} (h:Sl e s en v xs a) {k:Nat} (hk:v.ownBlock=some k):a k≠none:=by
 rcases h.1 with ⟨rfl,_⟩|⟨g,o,cap,cur,rfl,h2,r⟩
 ·cases hk
 ·obtain rfl:=Option.some.inj hk;rw [h2];nofun
theorem SA.sl {lo:Nat} (h:SA lo w e s en v xs):Sl e s en v xs (fun k=>if v.ownBlock=some k then w.heap[k]? else none):=by
 refine ⟨?_,h.2⟩
 rcases h.1 with h|⟨g,o,cap,cur,rfl,_,h2,r⟩
 ·exact .inl h
 ·exact .inr ⟨g,o,cap,cur,rfl,(if_pos rfl).trans h2,r⟩
theorem Sat.off (H:Sat g w l) (j:Nat) (hj:l[j]?=some (Sl e s en v xs)):SA 0 w e s en v xs:=by
 obtain ⟨a,h1,h2⟩:=H.part hj;exact h1.off h2
theorem Sat.O4 {lo:Nat} (H:Sat g w l) (hj:l[j]?=some (Sl e s en v xs)) (hO:SA lo w' e s en v' xs') (G:Gr w w' v v'):Sat g w' (l.set j (Sl e s en v' xs')) :=
 H.step hj G.g.os G.g.tape G.g.output fun a ha _=>⟨_,hO.sl,(fun k o hk=>by
  dsimp only at hk
  split at hk
  ·exact hk
  ·cases hk),fun k hk hn=>by
  have hne:v.ownBlock≠some k:=fun h=>ha.dom h hn
  refine ⟨if_neg fun h=>?_,G.g.block k hk fun h=>hne h.symm⟩
  rcases G.at_ with h'|h'|⟨i,h',hi⟩
  ·exact hne (h' ▸ h)
  ·rw [h'] at h;cases h
  ·rw [h'] at h;obtain rfl:=Option.some.inj h;omega⟩
theorem Gr.same (w:World) {v v':Value} (h:v'.ownBlock=v.ownBlock∨v'.ownBlock=none):Gr w w v v':=⟨⟨rfl,rfl,rfl,lra _,fun _ _ _=>rfl⟩,h.elim .inl fun h=>.inr (.inl h)⟩
theorem Sat.UK (H:Sat g w l) (e:TypeId) (hs:∀x,(en x).length=s):Sat g w (Sl e s en (.slice none 0 0) []::l) :=
 H.more (Below.refl _ _) (a:=fun _=>none) ⟨.inl ⟨rfl,rfl⟩,hs⟩ (fun _ _ h=>by cases h) fun _ _=>rfl
theorem Sat.one (H:Sat g w l) (j:Nat) (hj:l[j]?=some (Sl e s en v xs)):v.oneCell'=true:=(H.off j hj).one
theorem Sat.form (H:Sat g w l) (j:Nat) (hj:l[j]?=some (Sl e s en v xs)):∃a c,v=.slice a xs.length c:=(H.off j hj).form
theorem SA.rd {lo:Nat} (h:SA lo w e s en v xs) (hok:∀x∈xs,ok x):Rd en ok s w v xs:=by
 rcases h.1 with ⟨rfl,rfl⟩|⟨g,o,cap,cur,rfl,hlo,hb,hfit,hnc,SB,ht⟩
 ·exact VS.nil _ _ _
 ·refine ⟨_,cap,rfl,⟨hnc,by omega⟩,nofun,fun _=>⟨g,o,xs.flatMap en,rfl,⟨cur.toArray,e,(0,0),⟨lRa _,hb.lt,hb⟩,fun i x hx=>?_⟩,YI h.2 xs,fun i x hx=>⟨Tj h.2 xs i x hx,hok x (lha hx)⟩⟩⟩
  rw [←ht,lAa] at hx
  split at hx
  ·rw [lNa] at hx;simpa using hx
  ·cases hx
theorem Sat.E7 (H:Sat g w l) (j:Nat) (hj:l[j]?=some (Sl e s en v xs)) (hok:∀x∈xs,ok x):Rd en ok s w v xs:=(H.off j hj).rd hok
theorem YJ (H:Sat g w l) (j:Nat) (hj:l[j]?=some (Sl e s en v xs)) (ht:P.underlying t=some (.slice e)) (k:K (.int .i64 xs.length) w):Zi P (Builtin.len_ #[t] ty #[v]) w K:=by
 obtain ⟨a,c,rfl⟩:=H.form j hj
 exact WM ht k
theorem Zw (h:ZZ g en ok s v xs) (ht:P.underlying t=some (.slice e)) (k:K (.int .i64 xs.length) w):Zi P (Builtin.len_ #[t] ty #[v]) w K:=ajA h ht k
def El (v:Value) (s i b o:Nat):Prop:=∃b0 n c,v=.slice (some ⟨b,b0,none⟩) n c∧i<n∧o=b0+i * s
theorem Sat.Y1 (H:Sat g w l) (j:Nat) (hj:l[j]?=some (Sl e s en v xs)) (i:Nat) (hi:i<xs.length):∃b o,El v s i b o:=by
 rcases (H.off j hj).1 with ⟨rfl,rfl⟩|⟨g,o,cap,cur,rfl,r⟩
 ·simp at hi
 ·exact ⟨_,_,_,_,_,rfl,hi,rfl⟩
theorem ZJ {ki:IntKind} {n:Int} (E:El v s i b o) (hn:n=i) (ht:P.underlying t=some (.slice e)) (hs:(P.info? e).map (fun i=>i.size)=some s) (k:K (.pointer (some ⟨b,o,none⟩)) w):Zi P (Instr.indexAt t v (.int ki n)) w K:=by
 obtain ⟨b0,m,c,rfl,hl,rfl⟩:=E
 exact alW s i _ hn hl rfl ht hs k
theorem Sat.el (H:Sat g w l) (j:Nat) (hj:l[j]?=some (Sl e s en v xs)) (E:El v s i b o) (hx:xs[i]?=some x):At w b o (en x):=by
 obtain ⟨b0,m,c,rfl,hl,rfl⟩:=E
 have ho:=H.off j hj
 rcases ho.1 with ⟨h,_⟩|⟨g',o',cap,cur,he,hlo,hb,hfit,hnc,SB,ht⟩
 ·cases h
 ·injection he with h1 h2 h3
  injection h1 with h1
  injection h1 with h1 h4
  subst h1;subst h4;subst h3
  have hp:=Tj ho.2 xs i x hx
  rw [←ht] at hp
  have:=hb.at.sub (b0+i * s) s
  rw [lwb] at this
  have hil:=(lca.1 hx).1
  have hle:i * s+s≤xs.length * s:=by rw [←lpb];exact lLa _ hil
  rw [lgc,lub0,List.take_take,lob qo] at hp
  rw [hp] at this;exact this
theorem Sat.II (H:Sat g w l) (hj:l[j]?=some (Sl e s en v xs)) (E:El v s i b o) (hx:xs[i]?=some x):∃cur,Su w b cur e∧o+s≤cur.length∧(cur.drop o).take s=en x ∧
  ∀(w':World) (x':α) (off:Nat) (vs:List Value),off+vs.length≤s→Wi (en x) off vs=en x'→Lg w w' b→Su w' b (Wi cur (o+off) vs) e→Sat g w' (l.set j (Sl e s en v (xs.set i x'))):=by
 obtain ⟨b0,m,c,rfl,hl,rfl⟩:=E
 have ho:=H.off j hj
 rcases ho.1 with ⟨h,_⟩|⟨g',o',cap,cur,he,hlo,hb,hfit,hnc,SB,ht⟩
 ·cases h
 ·injection he with h1 h2 h3
  injection h1 with h1
  injection h1 with h1 h4
  subst h1;subst h4;subst h3;subst h2
  have hp:=Tj ho.2 xs i x hx
  rw [←ht] at hp
  have hil:=(lca.1 hx).1
  have hle:i * s+s≤xs.length * s:=by rw [←lpb];exact lLa _ hil
  have hcs:xs.length * s≤c * s:=lLa _ hnc
  rw [lgc,lub0,List.take_take,lob qo] at hp
  refine ⟨cur,hb,by omega,hp,fun w' x' off vs hoff WY u hb'=>?_⟩
  refine H.O4 (lo:=0) hj ⟨.inr ⟨b,b0,c,_,by rw [lfa],lRa _,hb',by rw [V8];exact hfit,by rw [lfa];exact hnc,SB,?_⟩,ho.2⟩ ⟨⟨u.os,u.tape,u.output,by rw [u.size];exact lra _,fun k _ hk=>u.block k fun e=>hk (by rw [e];rfl)⟩,.inl rfl⟩
  rw [lfa]
  have Qp:(xs.set i x').flatMap en=(xs.take i).flatMap en++en x'++(xs.drop (i+1)).flatMap en:=by
   rw [List.set_eq_take_append_cons_drop,if_pos hil,lMa,lQa,lma]
  rw [Qp,←Ut ho.2 xs i (ldb hil),←Ti ho.2 xs (i+1) hil,←ht,←WY,←hp]
  apply lJa
  intro q
  have hel:((cur.drop (b0+i * s)).take s).length=s:=by rw [lla,lIa];omega
  rw [lAa,lNa,PA _ _ _ _ qo,lma]
  simp only [List.getElem?_append,List.length_take,List.length_drop,List.getElem?_take,List.getElem?_drop,V8,hel,Nat.succ_mul]
  rw [show min (i * s) (min (xs.length * s) (cur.length-b0))=i * s by omega]
  by_cases q1:q<xs.length * s
  ·rw [if_pos q1]
   by_cases q2:q<i * s
   ·rw [if_pos q2,if_pos q2,if_pos q1,if_neg qo]
   ·rw [if_neg q2]
    by_cases q3:q-i * s<s
    ·rw [if_pos q3,PA _ _ _ _ (by rw [hel];omega)]
     by_cases q4:off≤q-i * s∧q-i * s<off+vs.length
     ·rw [if_pos q4,if_pos qo];congr 1;omega
     ·rw [if_neg q4,if_neg qo,lAa,if_pos q3,lNa];congr 1;omega
    ·rw [if_neg q3,if_neg qo,if_pos qo];congr 1;omega
  ·rw [if_neg q1,if_neg qo,if_neg qo,if_neg qo]
theorem YB {K:World→Prop} {u:Value} (H:Sat g w l) (j:Nat) (hj:l[j]?=some (Sl e s en v xs)) (E:El v s i b o) (hx:xs[i]?=some x) (off:Nat) (x':α) (hs:(P.info? t).map (·.size)=some 1) (hu:u.oneCell'=true) (hoff:Nat.ble (off+1) s=true) (WY:Wi (en x) off [u]=en x')
  (k:Rp l j (Sl e s en v (xs.set i x')) fun l'=>∀w',Sat g w' l'→K w'):JE P (Instr.storeAt t (.pointer (some ⟨b,o+off,none⟩)) u) w K:=by
 obtain ⟨cur,hb,hle,_,hk⟩:=H.II hj E hx
 have FW:=llb hoff
 rw [Wo] at k
 exact aco hb qo hs hu fun w' up hb'=>k w' (hk w' x' off [u] FW WY up hb')
theorem ahd {K:World→Prop} {vs:List Value} (H:Sat g w l) (j:Nat) (hj:l[j]?=some (Sl e s en v xs)) (E:El v s i b o) (hx:xs[i]?=some x) (off:Nat) (x':α) (hs:(P.info? t).map (·.size)=some vs.length) (hu:vs.all (·.oneCell')=true) (hoff:Nat.ble (off+vs.length) s=true) (WY:Wi (en x) off vs=en x')
  (k:Rp l j (Sl e s en v (xs.set i x')) fun l'=>∀w',Sat g w' l'→K w'):JE P (Instr.storeAt t (.pointer (some ⟨b,o+off,none⟩)) (.agg vs.toArray)) w K:=by
 obtain ⟨cur,hb,hle,_,hk⟩:=H.II hj E hx
 have FW:=llb hoff
 rw [Wo] at k
 exact aa9 hb hs qo hu fun w' up hb'=>k w' (hk w' x' off vs FW WY up hb')
theorem zsz {n s QC:Nat} (hz:(P.info? e).map (fun i=>(i.zero.map (fun z=>z.cells.size),i.size,i.bytes))=some (some n,s,QC)):∃z,(P.info? e).map (fun i=>(i.zero,i.size,i.bytes))=some (some z,s,QC)∧z.cells.size=n:=by
 cases hi:P.info? e with
 | none=>simp [hi] at hz
 | some i =>
  simp only [hi,Option.map_some,Option.some.injEq,Prod.mk.injEq] at hz ⊢
  obtain ⟨h1,h2,h3⟩:=hz
  cases Kl:i.zero with
  | none=>simp [Kl] at h1
  | some z=>simp only [Kl,Option.map_some,Option.some.injEq] at h1;exact ⟨z,⟨rfl,h2,h3⟩,h1⟩
theorem Wk {m c:Nat} (QC:Nat) (H:Sat g w l) (j:Nat) (hj:l[j]?=some (Sl e s en v xs)) (UA:At w b o (ys.flatMap en)) (hm:ys.length=m)
  (h1:∀y∈ys,((en y).all (·.oneCell'))=true) (hu:P.underlying t=some (.slice e)) (hz:(P.info? e).map (fun i=>(i.zero.map (fun z=>z.cells.size),i.size,i.bytes))=some (some s,s,QC)) (hsz:Nat.ble 1 s=true)
  (hb:(xs.length+m) * QC≤140737488355328) (hml:xs.length+m≤140737488355328)
  (k:∀v',Rp l j (Sl e s en v' (xs++ys)) fun l'=>∀w',Sat g w' l'→K v' w'):Zi P (Builtin.append_ #[t,t] ty #[v,.slice (some ⟨b,o,none⟩) m c]) w K :=
 by
 obtain ⟨z,hz,hzs⟩:=zsz hz
 exact ajH (lo:=0) z QC (H.off j hj) UA hm h1 hu hz hzs (llb hsz) hb hml (lRa _) fun v' w' hO G=>by
  have k:=k v'
  rw [Wo] at k
  exact k w' (H.O4 hj hO G)
theorem ah0 {v:Value} (H:Sat g w l) (j:Nat) (hj:l[j]?=some (Sl e s en v xs)) (hu:P.underlying t=some (.slice e)) (hi:(P.info? e).map (fun i=>i.size)=some s) (k:K v w):Zi P (Builtin.append_ #[t,t] ty #[v,.slice none 0 0]) w K:=by
 cases hi':P.info? e with
 | none=>simp [hi'] at hi
 | some i =>
  rcases (H.off j hj).1 with ⟨rfl,rfl⟩|⟨g,o,cap,cur,rfl,hlo,hb,hfit,hnc,SB,ht⟩
  ·refine ⟨_,_,?_,k⟩
   simp [Builtin.append_,run_underlying hu,sizeOf,typeInfo,hi',Builtin.lenOf,Builtin.firstCells,loadCells,loadCellsFrom,storeCells]
  ·refine ⟨_,_,?_,k⟩
   simp [Builtin.append_,run_underlying hu,sizeOf,typeInfo,hi',Builtin.lenOf,Builtin.firstCells,loadCells,loadCellsFrom,storeCells,hnc]
theorem Uo {u:Value} (QC:Nat) (H:Sat g w l) (j:Nat) (hj:l[j]?=some (Sl e s en v xs)) (hr:Rd en ok s w u ys)
  (h1:∀y∈ys,((en y).all (·.oneCell'))=true) (hu:P.underlying t=some (.slice e)) (hz:(P.info? e).map (fun i=>(i.zero.map (fun z=>z.cells.size),i.size,i.bytes))=some (some s,s,QC)) (hsz:Nat.ble 1 s=true)
  (hb:(xs.length+ys.length) * QC≤140737488355328) (hml:xs.length+ys.length≤140737488355328)
  (k:∀v',Rp l j (Sl e s en v' (xs++ys)) fun l'=>∀w',Sat g w' l'→K v' w'):Zi P (Builtin.append_ #[t,t] ty #[v,u]) w K:=by
 obtain ⟨a,cap,rfl,h2,h3,h4⟩:=hr
 cases a with
 | none =>
  obtain ⟨rfl,rfl⟩:=h3 rfl
  have k:=k v
  rw [Wo,lua] at k
  have hs':l.set j (Sl e s en v xs)=l:=by
   apply lJa
   intro i
   rw [lPa]
   split
   ·rename_i h;subst h
    rw [if_pos (lca.1 hj).1];exact hj.symm
   ·rfl
  rw [hs'] at k
  exact ah0 H j hj hu (by cases hi:P.info? e with
   | none=>simp [hi] at hz
   | some i=>simp [hi] at hz ⊢;exact hz.2.1) (k w H)
 | some a =>
  by_cases hy:ys=[]
  ·subst hy
   obtain ⟨ab,ao,sp⟩:=a
   have kk:=k v
   rw [Wo,lua] at kk
   have hs':l.set j (Sl e s en v xs)=l:=by
    apply lJa
    intro i
    rw [lPa]
    split
    ·rename_i h;subst h
     rw [if_pos (lca.1 hj).1];exact hj.symm
    ·rfl
   rw [hs'] at kk
   cases hi':P.info? e with
   | none=>simp [hi'] at hz
   | some i =>
    rcases (H.off j hj).1 with ⟨rfl,rfl⟩|⟨g,o,cap',cur,rfl,hlo,hb,hfit,hnc,SB,ht⟩
    ·refine ⟨_,_,?_,kk w H⟩
     simp [Builtin.append_,run_underlying hu,sizeOf,typeInfo,hi',Builtin.lenOf,Builtin.firstCells,loadCells,loadCellsFrom,storeCells]
    ·refine ⟨_,_,?_,kk w H⟩
     simp [Builtin.append_,run_underlying hu,sizeOf,typeInfo,hi',Builtin.lenOf,Builtin.firstCells,loadCells,loadCellsFrom,storeCells,hnc]
  ·obtain ⟨b,o,news,he,k1,k2⟩:=h4 hy
   obtain rfl:=Option.some.inj he
   have UA:At w b o (ys.flatMap en):=by
    have h5:=k1.at
    have:news=ys.flatMap en:=by
     have hlen:∀x,(en x).length=s:=(H.off j hj).2
     have key:∀(ys:List α) (news:List Value),news.length=ys.length * s→(∀i x,ys[i]?=some x→(news.drop (i * s)).take s=en x)→news=ys.flatMap en:=by
      intro ys
      induction ys with
      | nil=>intro news hn _;exact lqa (by simpa using hn)
      | cons y ys ih =>
       intro news hn hp
       have h0:=hp 0 y rfl
       rw [lTb,lhb] at h0
       rw [lQa,←h0]
       rw [lda,lpb] at hn
       have:=ih (news.drop s) (by rw [lIa];omega) (fun i x hx=>by
        have:=hp (i+1) x (by simpa using hx)
        rw [lpb,Nat.add_comm,←lub0] at this;exact this)
       rw [←this,lZa]
     exact key ys news k2.1 fun i x hx=>(k2.2 i x hx).1
    rw [this] at h5;exact h5
   exact Wk QC H j hj UA rfl h1 hu hz hsz hb hml k
theorem SA.cut {lo:Nat} {a:Option Addr} {n cap l h:Nat} (ho:SA lo w e s en (.slice a n cap) xs) (hl:l≤h) (hh:h≤xs.length) :
  SA lo w e s en (.slice (if cap=l then a else a.map (·.add (l * s))) (h-l) (cap-l)) ((xs.take h).drop l):=by
 have hlen:((xs.take h).drop l).length=h-l:=by rw [lIa,lla];omega
 rcases ho.1 with ⟨he,rfl⟩|⟨g,o,cap',cur,he,hlo,hb,hfit,hnc,SB,ht⟩
 ·injection he with h1 h2 h3
  subst h1;subst h2;subst h3
  have h0:h=0:=by simpa using hh
  subst h0
  have l0:l=0:=by omega
  subst l0
  exact ⟨.inl ⟨by simp,by simp⟩,ho.2⟩
 ·injection he with h1 h2 h3
  subst h1;subst h2;subst h3
  refine ⟨.inr ⟨g,if cap=l then o else o+l * s,cap-l,cur,?_,hlo,hb,?_,?_,by omega,?_⟩,ho.2⟩
  ·rw [hlen]
   split
   ·rfl
   ·simp [Addr.add_lit]
  ·split
   ·rename_i h;rw [h,lqb,lTb];omega
   ·have:(cap-l) * s+l * s=cap * s:=by rw [←lMb];congr 1;omega
    omega
  ·rw [hlen];omega
  ·rw [hlen]
   split
   ·have:h-l=0:=by omega
    rw [this,lTb,lfc]
    have:(xs.take h).drop l=[]:=lqa (by rw [hlen];exact this)
    rw [this];rfl
   ·rw [←Ti ho.2 (xs.take h) l (by rw [lla];omega),←Ut ho.2 xs h hh,←ht,List.take_take,lgc,lub0]
    have h6:h * s≤xs.length * s:=lLa _ hh
    rw [lob h6,Nat.sub_mul]
theorem Oe {lo hi:Option Value} (H:Sat g w l) (j:Nat) (hj:l[j]?=some (Sl e s en v xs)) (a h:Nat) (ht:P.underlying t=some (.slice e)) (hsz:(P.info? e).map (fun i=>i.size)=some s) (ha:a≤h) (hh:h≤xs.length)
  (hlo:lo=none∧a=0∨∃k,lo=some (.int k a)) (hhi:hi=none∧h=xs.length∨∃k,hi=some (.int k h)) (k:∀v',Rp l j (Sl e s en v' ((xs.take h).drop a)) fun l'=>Sat g w l'→K v' w):Zi P (Instr.sliceAt t v lo hi none) w K:=by
 obtain ⟨ad,cap,rfl⟩:=H.form j hj
 have ho:=H.off j hj
 have hnc:xs.length≤cap:=by
  rcases ho.1 with ⟨he,rfl⟩|⟨g,o,cap',cur,he,hlo,hb,hfit,hnc,_⟩
  ·injection he with h1 h2 h3;omega
  ·injection he with h1 h2 h3;subst h3;exact hnc
 have hb:(Instr.sliceBounds true xs.length cap lo hi none).run P w=.ok (a,h,cap) w:=by
  unfold Instr.sliceBounds
  rcases hlo with ⟨rfl,rfl⟩|⟨kl,rfl⟩ <;> rcases hhi with ⟨rfl,rfl⟩|⟨kh,rfl⟩
  ·simp
  ·simp [run_sliceBound (P:=P) w kh (h:Int) cap _ qo qo]
  ·simp [run_sliceBound (P:=P) w kl (a:Int) xs.length _ qo qo]
  ·simp [run_sliceBound (P:=P) w kh (h:Int) cap _ qo qo,run_sliceBound (P:=P) w kl (a:Int) h _ qo qo]
 refine F6 ht hsz hb ?_
 have k:=k (.slice (if cap=a then ad else ad.map (·.add (a * s))) (h-a) (cap-a))
 rw [Wo] at k
 refine k (H.O4 hj (ho.cut ha hh) (Gr.same _ ?_))
 left
 cases ad with
 | none=>split <;> rfl
 | some q =>
  split
  ·rfl
  ·obtain ⟨qb,qo,sp⟩:=q
   simp only [Option.map_some,Value.ownBlock,Addr.add]
   split <;> rfl
theorem ZZ.Y1 (h:ZZ g en ok s v xs) (hx:xs[i]?=some x):∃b o,El v s i b o∧No g b o (en x)∧ok x:=by
 obtain ⟨a,cap,rfl,h2,h3,h4⟩:=h
 have hl:=(lca.1 hx).1
 obtain ⟨b,o,news,rfl,k1,k2⟩:=h4 (by intro e;subst e;simp at hl)
 obtain ⟨hr,hok⟩:=k2.2 i x hx
 refine ⟨b,o+i * s,⟨o,_,cap,rfl,hl,rfl⟩,?_,hok⟩
 rw [←hr]
 obtain ⟨cs,e',fz,h5,h6⟩:=k1
 refine ⟨cs,e',fz,h5,fun i v hv=>?_⟩
 rw [lAa] at hv
 split at hv
 ·rw [lNa] at hv;rw [lVb];exact h6 _ _ hv
 ·cases hv
theorem Sat.Sz (H:Sat g w l) (j:Nat) (hj:l[j]?=some (Sl e s en v xs)):(v=.slice none 0 0∧xs=[])∨∃b o c,v=.slice (some ⟨b,o,none⟩) xs.length c:=by
 rcases (H.off j hj).1 with ⟨h1,h2⟩|⟨g,o,cap,cur,h,_⟩
 ·exact .inl ⟨h1,h2⟩
 ·exact .inr ⟨_,_,_,h⟩
theorem ZZ.Sz (h:ZZ g en ok s v xs):(v=.slice none 0 0∧xs=[])∨∃a c,v=.slice (some a) xs.length c:=by
 obtain ⟨a,cap,rfl,h2,h3,h4⟩:=h
 cases a with
 | none=>obtain ⟨rfl,rfl⟩:=h3 rfl;exact .inl ⟨rfl,rfl⟩
 | some a=>exact .inr ⟨_,_,rfl⟩
theorem Sat.WI {G:Prop} {p n:Nat} {cells:List Value} (H:Sat g w l) (j:Nat) (hj:l[j]?=some (Pt p cells e)) (xs:List α) (hc:cells=xs.flatMap en) (hn:n=xs.length) (hs:∀x,(en x).length=s) (hb:Nat.ble xs.length 9223372036854775807=true)
  (k:Rp l j (Sl e s en (.slice (some ⟨p,0,none⟩) n n) xs) fun l'=>Sat g w l'→G):G:=by
 rw [Wo] at k
 subst hn
 refine k (H.step hj rfl rfl rfl fun a ha hsub=>⟨a,⟨.inr ⟨p,0,xs.length,cells,rfl,ha,?_,lra _,llb hb,?_⟩,hs⟩,hsub,fun k hk hn=>⟨hn,rfl⟩⟩)
 ·rw [hc,YI hs];omega
 ·rw [lhb,hc,lxa];rw [YI hs];exact lra _
theorem XP {a:Option Addr} {n c:Nat} (hv:v=.slice a n c) (ht:P.underlying t=some (.slice e)) (k:K (.int .i64 n) w):Zi P (Builtin.len_ #[t] ty #[v]) w K:=by
 subst hv;exact WM ht k
theorem Mi {b o n:Nat} {ki:IntKind} {i:Int} (sz j:Nat) (hj:i=j) (hl:j<n) (ht:P.underlying t=some (.array n e)) (hs:(P.info? e).map (fun i=>i.size)=some sz)
  (k:K (.pointer (some ⟨b,o+j * sz,none⟩)) w):Zi P (Instr.indexAt t (.pointer (some ⟨b,o,none⟩)) (.int ki i)) w K:=adT sz j _ hj hl rfl ht hs k
theorem Z4 {d:TypeDesc} {b o0 o:Nat} {vs:List Value} (h:At w b o0 vs) (i:Nat) (hi:o=o0+i) (hu:P.underlying t=some d) (hd:On d=false) (k:K8 vs i fun v=>K v w):Zi P (Instr.loadAt t (.pointer (some ⟨b,o,none⟩))) w K:=by
 subst hi;exact ajz h i hu hd k
theorem ZA {d:TypeDesc} {b o0 o:Nat} {vs:List Value} (h:At w b o0 vs) (i:Nat) (hi:o=o0+i) (hu:P.underlying t=some d) (hd:On d=true) (k:Om vs i fun r=>MV r (P.cellsOf t) fun us=>K (.agg us.toArray) w):Zi P (Instr.loadAt t (.pointer (some ⟨b,o,none⟩))) w K:=by
 subst hi;exact ahS h i hu hd k
theorem Xd {d:TypeDesc} {b o0 o:Nat} {vs:List Value} {K:Value→Prop} (h:At w b o0 vs) (i:Nat) (hi:o=o0+i) (hu:P.underlying t=some d) (hd:On d=true) (k:Om vs i fun r=>MV r (P.cellsOf t) fun us=>K (.agg us.toArray)):JD P (loadVar t ⟨b,o,none⟩) w K:=by
 subst hi
 rw [Qw] at k
 obtain ⟨h1,h2⟩:=Ol k
 refine rdA (h.sub i (P.cellsOf t)) hu hd ?_ h2
 cases hi:P.info? t with
 | none=>simp [Program.underlying,hi] at hu
 | some j=>simp [Program.cellsOf,hi] at h1 ⊢;omega
theorem ZX {n:Int} {K:Int→Prop} (h:-9223372036854775808≤n∧n≤9223372036854775807) (k:K n):W6 (ZO .i64 n) K:=⟨n,Sv h,k⟩
theorem MR {n:Int} {K:Int→Prop} (h:0≤n∧n≤18446744073709551615) (k:K n):W6 (ZO .u64 n) K:=⟨n,Ga h,k⟩
theorem K2 {n:Int} {K:Int→Prop} (h:0≤n∧n≤255) (k:K n):W6 (ZO .u8 n) K:=⟨n,wu8 h,k⟩
theorem Od {a b:Int} {K:Int→Prop} (ha:0≤a) (k:K (a % b)):W6 (S9 a b) K:=⟨a % b,by unfold S9;exact Int.tmod_eq_emod_of_nonneg ha,k⟩
theorem O3 {a b:Int} {K:Int→Prop} (ha:0≤a∧a≤9223372036854775807) (hb:0<b) (k:K (a / b)):W6 (TG .i64 a b) K:=by
 refine ⟨a / b,?_,k⟩
 have e:TG .i64 a b=ZO .i64 (a.tdiv b):=by unfold TG ZO;rfl
 rw [e,Int.tdiv_eq_ediv_of_nonneg ha.1]
 have h1:0≤a / b:=Int.ediv_nonneg ha.1 qo
 have h2:a / b≤a:=Int.ediv_le_self b ha.1
 exact Sv qo
theorem Xc {s d:TypeId} {k0:IntKind} {n:Int} (h:-9223372036854775808≤n∧n≤9223372036854775807) (hs:(P.underlying s).isSome=true) (hd:P.underlying d=some (.int .i64)) (k:K (.int .i64 n) w):Zi P (convert s d (.int k0 n)) w K:=Vc n (Sv h) hs hd k
theorem Qo {s d:TypeId} {k0:IntKind} {n:Int} (h:0≤n∧n≤18446744073709551615) (hs:(P.underlying s).isSome=true) (hd:P.underlying d=some (.int .u64)) (k:K (.int .u64 n) w):Zi P (convert s d (.int k0 n)) w K:=Vc n (Ga h) hs hd k
theorem abd {s d:TypeId} {k0:IntKind} {n:Int} (h:0≤n∧n≤4294967295) (hs:(P.underlying s).isSome=true) (hd:P.underlying d=some (.int .u32)) (k:K (.int .u32 n) w):Zi P (convert s d (.int k0 n)) w K:=Vc n (alS h) hs hd k
theorem TU {s d:TypeId} {k0:IntKind} {n:Int} (h:0≤n∧n≤255) (hs:(P.underlying s).isSome=true) (hd:P.underlying d=some (.int .u8)) (k:K (.int .u8 n) w):Zi P (convert s d (.int k0 n)) w K:=Vc n (wu8 h) hs hd k
theorem Y4 {a b:Int} (h:a<b):HG a b=true:=by rw [Ya];exact decide_eq_true h
theorem Zl {a b:Int} (h:b≤a):HG a b=false:=by rw [Ya];exact decide_eq_false qo
theorem Ys {a b:Int} (h:a≤b):Kx a b=true:=by rw [YY];exact decide_eq_true h
theorem YM {a b:Int} (h:b<a):Kx a b=false:=by rw [YY];exact decide_eq_false qo
theorem ZN {a b:Int} (h:a=b):Mt a b=true:=by rw [Y6];exact decide_eq_true h
theorem Z5 {a b:Int} (h:a≠b):Mt a b=false:=by rw [Y6];exact decide_eq_false h
theorem Vg {a b:Int} (h:a≠b):GC a b=true:=by rw [XS];simp [h]
theorem WG {a b:Int} (h:a=b):GC a b=false:=by rw [XS];simp [h]
theorem IG {b:Bool} (h:b=false):(!b)=true:=by rw [h];rfl
theorem JA {b:Bool} (h:b=true):(!b)=false:=by rw [h];rfl
theorem Si {b:Bool} (h:(!b)=true):b=false:=by simpa using h
theorem Sh {b:Bool} (h:(!b)=false):b=true:=by simpa using h
theorem Rc {b:Bool} {p:Prop} (h:b=true↔p) (c:b=false):¬p:=fun x=>by rw [h.2 x] at c;cases c
theorem ajM {b:Bool} {p:Prop} (h:b=true↔p) (c:¬p):b=false:=by cases b;rfl;exact absurd (h.1 rfl) c
end
end YZ
namespace YZ
open Go Go.RowKit Go.Lib
def Tu (c:UInt8):List Value:=[.int .u8 (c.toNat:Int)]
section
variable {P:Program} {g:Zv} {w w':World} {l:List As} {K:Value→World→Prop} {v v':Value} {xs ys:List UInt8} {j:Nat} {e t u ty:TypeId}
theorem aaj (ys:List UInt8):strCells (bs ys)=ys.flatMap Tu:=by
 unfold strCells bs
 show ys.toArray.toList.map _=_
 rw [List.toList_toArray]
 induction ys with
 | nil=>rfl
 | cons y ys ih=>rw [ljb,lQa,ih];rfl
theorem IF (ys:List UInt8):ys.flatMap Tu=(ys.map fun c=>(c.toNat:Int)).map (Value.int .u8):=by
 induction ys with
 | nil=>rfl
 | cons y ys ih=>rw [lQa,ljb,ljb,ih];rfl
theorem K1 (c:UInt8):(Tu c).length=1:=rfl
theorem SU {s d:TypeId} (H:Sat g w l) (j:Nat) (hj:l[j]?=some (Sl e 1 Tu v xs)) (hs:P.underlying s=some (.slice e)) (he:P.underlying e=some (.int .u8)) (hd:P.underlying d=some .string)
  (k:K (.string (bs xs)) w):Zi P (convert s d v) w K:=by
 refine ⟨_,w,?_,k⟩
 rcases (H.off j hj).1 with ⟨rfl,rfl⟩|⟨gb,of,cap,cur,rfl,Ez,HC,hfit,hnc,SB,ht⟩
 ·rw [run_convert_bytes_string (P:=P) w s d e none 0 0 hs he hd]
  rfl
 ·rw [run_convert_bytes_string (P:=P) w s d e _ _ _ hs he hd]
  have hl:(loadCells ⟨gb,of,none⟩ xs.length).run P w=.ok ((xs.map fun c=>(c.toNat:Int)).map (Value.int .u8)).toArray w:=by
   have:=run_loadCells_list (P:=P) w ⟨gb,of,none⟩ (xs.flatMap Tu) (fun i u hi=>by
    rw [Addr.add_lit]
    have UA:At w gb of (xs.flatMap Tu):=by
     have:=HC.at.sub of (xs.length * 1);rw [ht,lwb] at this;exact this
    exact UA.cell hi)
   rw [YI K1,lac] at this
   rw [this,IF]
  rw [run_bytesToString (P:=P) w _ xs.length cap _ hl,foldl_push_bytes]
  simp only [List.map_map]
  congr 2
  apply ByteArray.ext
  simp [bs,Function.comp_def]
end
section
variable {P:Program} {g:Zv} {w w':World} {l:List As} {K:Value→World→Prop} {α:Type} {en:α→List Value} {e t:TypeId} {s:Nat}
theorem SS {z:Value} {kl kc:IntKind} {ln cp:Int} (H:Sat g w l) (x:α) (n c QC:Nat) (ht:P.underlying t=some (.slice e)) (hz:(P.info? e).map (fun i=>(i.zero,i.size,i.bytes))=some (some z,s,QC))
  (hx:z.cells.toList=en x) (hs:∀x,(en x).length=s) (Dh:ln=n) (hcp:cp=c) (hnc:n≤c) (hb:QC * c≤281474976710656) (hc:c≤9223372036854775807)
  (k:∀v w',Sat g w' (Sl e s en v (List.replicate n x)::l)→K v w'):Zi P (Instr.makeSlice t (.int kl ln) (.int kc cp)) w K:=by
 subst Dh;subst hcp
 cases hi:P.info? e with
 | none=>simp [hi] at hz
 | some i =>
  simp only [hi,Option.map_some,Option.some.injEq,Prod.mk.injEq] at hz
  obtain ⟨h2,h3,h4⟩:=hz
  have hr:=run_make (P:=P) w t e i z ht hi h2 kl kc n c qo qo (by rw [h4];have h:((QC * c:Nat):Int)≤281474976710656:=qo;rwa [Int.natCast_mul] at h) qo
  rw [lka,lka] at hr
  refine ⟨_,_,hr,?_⟩
  have hzs:z.cells.size=s:=by
   have:=hs x
   rw [←hx,Array.length_toList] at this;exact this
  have hm:madeCells z.cells (c * i.size)=(List.replicate c z.cells.toList).flatten.toArray:=by
   have:=aa4 c z.cells
   rw [hzs] at this
   rw [h3];unfold madeCells;rw [hzs];exact this
  rw [hm]
  have nw:=Jf.mk' w (List.replicate c z.cells.toList).flatten e
  have hfl:∀k,(List.replicate k z.cells.toList).flatten=(List.replicate k x).flatMap en:=fun k=>by
   rw [hx];induction k with
   | zero=>rfl
   | succ k ih=>rw [lQb,lQb,List.flatten_cons,lQa,ih]
  refine k _ _ (H.more nw.below (a:=fun k=>if k=w.heap.size then some (.cells (List.replicate c z.cells.toList).flatten.toArray e (0,0)) else none) ⟨.inr ⟨w.heap.size,0,c,_,by rw [lja],if_pos rfl,?_,by rw [lja];exact hnc,hc,?_⟩,hs⟩ (fun k o hk=>?_) fun k hk=>if_neg qo)
  ·rw [hfl,YI hs,lja];omega
  ·rw [lhb,lja,hfl]
   rw [show List.replicate c x=List.replicate n x++List.replicate (c-n) x by rw [List.replicate_append_replicate];congr 1;omega,lMa,lya (by rw [YI hs,lja];exact lra _),lxa (by rw [YI hs,lja];exact lra _)]
  ·dsimp only at hk
   split at hk
   ·rename_i h;subst h;obtain rfl:=Option.some.inj hk;exact nw.Ur
   ·cases hk
end
end YZ
namespace YZ
open Go Go.RowKit
section
variable {P:Program} {w:World} {K:Int→Prop} {KV:Value→World→Prop}
theorem VG (k:IntKind) {a:Nat} (h:(a:Int)≤k.max):(BitVec.ofInt k.bits (a:Int)).toNat=a:=by
 have alX:k.max<2 ^ k.bits:=by cases k <;> decide
 have:=UZ k.bits a
 rw [Int.emod_eq_of_lt qo qo] at this
 omega
theorem wrap_small (k:IntKind) {a:Nat} (h:(a:Int)≤k.max):k.wrap (a:Int)=a:=by
 have:=U0 (k:=k) (n:=(a:Int)) (by
  have:k.min≤0:=by cases k <;> decide
  omega) h
 unfold ZO at this
 exact this
theorem ajN (k:IntKind) (m:Nat) (hm:k.max=2 ^ m-1) {a b:Nat} (ha:(a:Int)≤k.max) (hb:(b:Int)≤k.max):Q3 k a b=((a ^^^ b:Nat):Int)∧((a ^^^ b:Nat):Int)≤k.max:=by
 have p:((2 ^ m:Nat):Int)=2 ^ m:=by norm_cast
 have h1:a<2 ^ m:=by omega
 have h2:b<2 ^ m:=by omega
 have h3:=Nat.xor_lt_two_pow h1 h2
 have h4:((a ^^^ b:Nat):Int)≤k.max:=by omega
 refine ⟨?_,h4⟩
 unfold Q3
 rw [BitVec.toNat_xor,VG k ha,VG k hb,wrap_small k h4]
theorem orN (k:IntKind) (m:Nat) (hm:k.max=2 ^ m-1) {a b:Nat} (ha:(a:Int)≤k.max) (hb:(b:Int)≤k.max):So k a b=((a ||| b:Nat):Int)∧((a ||| b:Nat):Int)≤k.max:=by
 have p:((2 ^ m:Nat):Int)=2 ^ m:=by norm_cast
 have h1:a<2 ^ m:=by omega
 have h2:b<2 ^ m:=by omega
 have h3:=Nat.or_lt_two_pow h1 h2
 have h4:((a ||| b:Nat):Int)≤k.max:=by omega
 refine ⟨?_,h4⟩
 unfold So
 rw [BitVec.toNat_or,VG k ha,VG k hb,wrap_small k h4]
theorem ajO (k:IntKind) {a b:Nat} (ha:(a:Int)≤k.max) (hb:(b:Int)≤k.max):TY k a b=((a &&& b:Nat):Int):=by
 have h3:a &&& b≤a:=Nat.and_le_left
 have h4:((a &&& b:Nat):Int)≤k.max:=by omega
 unfold TY
 rw [BitVec.toNat_and,VG k ha,VG k hb,wrap_small k h4]
theorem abe (n:Nat) {a:Nat} (h:a<2 ^ n):(2 ^ n-1) ^^^ a=2 ^ n-1-a:=by
 apply Nat.eq_of_testBit_eq
 intro i
 rw [Nat.testBit_xor,lCb,show 2 ^ n-1-a=2 ^ n-(a+1) by omega,Nat.testBit_two_pow_sub_succ h]
 by_cases hi:i<n
 ·simp [hi]
 ·have:a.testBit i=false:=Nat.testBit_lt_two_pow (Nat.lt_of_lt_of_le h (lUa (by decide) qo))
  simp [hi,this]
theorem Ki {x:Int} {n:Nat} (h:x=(n:Int) % 256):x=((UInt8.ofNat n).toNat:Int):=by
 rw [UInt8.toNat_ofNat',h];exact (Int.natCast_emod n 256).symm
theorem RH {k:IntKind} {x y:Int} (n:Nat) (M:Int) (hM:M=2 ^ n) (hy:y=M-1) (hn:n<k.bits) (h:K (x % M)):W6 (TY k x y) K:=⟨_,by rw [hy,hM];exact aay k x n hn,hM ▸ h⟩
theorem Vv {k:IntKind} {x y:Int} (n:Nat) (M:Int) (hM:M=2 ^ n) (hy:y=n) (hn:n≤k.bits) (h:K (x / M)):W6 (Xe k x y) K:=⟨_,by rw [hy];exact afJ k x n hn,hM ▸ h⟩
theorem adV {x y:Int} (a b:Nat) (hx:x=a) (hy:y=b) (ha:a≤255) (hb:b≤255) (h:a ||| b≤255→K ((a ||| b:Nat):Int)):W6 (So .u8 x y) K:=by
 obtain ⟨e,hl⟩:=orN .u8 8 rfl (a:=a) (b:=b) (by show (a:Int)≤255;omega) (by show (b:Int)≤255;omega)
 have hl:((a ||| b:Nat):Int)≤255:=hl
 exact ⟨_,by rw [hx,hy,e],h qo⟩
theorem abf {x y:Int} (a b:Nat) (hx:x=a) (hy:y=b) (ha:a≤4294967295) (hb:b≤4294967295) (h:a &&& b≤a→a &&& b≤b→K ((a &&& b:Nat):Int)):W6 (TY .u32 x y) K :=
 ⟨_,by rw [hx,hy,ajO .u32 (by show (a:Int)≤4294967295;omega) (by show (b:Int)≤4294967295;omega)],h Nat.and_le_left Nat.and_le_right⟩
theorem Un {x y:Int} (a b:Nat) (hx:x=a) (hy:y=b) (ha:a≤18446744073709551615) (hb:b≤18446744073709551615) (h:a &&& b≤a→a &&& b≤b→K ((a &&& b:Nat):Int)):W6 (TY .u64 x y) K :=
 ⟨_,by rw [hx,hy,ajO .u64 (by show (a:Int)≤18446744073709551615;omega) (by show (b:Int)≤18446744073709551615;omega)],h Nat.and_le_left Nat.and_le_right⟩
theorem acs (x:Int):ZO .u8 x=x % 256:=by unfold ZO;simp [IntKind.wrap,IntKind.bits,IntKind.signed]
theorem Py {x:Int} (h:K (x % 256)):W6 (ZO .u8 x) K:=⟨_,acs x,h⟩
theorem adW {s d:TypeId} {k0:IntKind} {n:Int} (hs:(P.underlying s).isSome=true) (hd:P.underlying d=some (.int .u8)) (k:KV (.int .u8 (n % 256)) w):Zi P (convert s d (.int k0 n)) w KV:=Vc (n % 256) (acs n) hs hd k
theorem Oc (x:Int):ZO .u32 x=x % 4294967296:=by unfold ZO;simp [IntKind.wrap,IntKind.bits,IntKind.signed]
theorem SQ {x:Int} (h:K (x % 4294967296)):W6 (ZO .u32 x) K:=⟨_,Oc x,h⟩
theorem Yr {s d:TypeId} {k0:IntKind} {n:Int} (hs:(P.underlying s).isSome=true) (hd:P.underlying d=some (.int .u32)) (k:KV (.int .u32 (n % 4294967296)) w):Zi P (convert s d (.int k0 n)) w KV:=Vc (n % 4294967296) (Oc n) hs hd k
theorem afT {x:Int} (h0:0≤x) (h1:x≤4294967295) (k:KV (.int .u32 (4294967295-x)) w):Zi P (Op.unary .xor (.int .u32 x)) w KV:=by
 refine ⟨_,w,?_,k⟩
 obtain ⟨a,rfl⟩:∃a:Nat,x=a:=⟨x.toNat,by omega⟩
 have h2:=(ajN .u32 32 rfl (a:=2 ^ 32-1) (b:=a) (by decide) (show (a:Int)≤4294967295 from h1)).1
 rw [abe 32 qo] at h2
 have h3:(4294967295-(a:Int))=((2 ^ 32-1-a:Nat):Int):=by omega
 rw [h3,←h2]
 unfold Q3
 rfl
theorem Ob (x:Int):ZO .u64 x=x % 18446744073709551616:=by unfold ZO;simp [IntKind.wrap,IntKind.bits,IntKind.signed]
theorem SO {x:Int} (h:K (x % 18446744073709551616)):W6 (ZO .u64 x) K:=⟨_,Ob x,h⟩
theorem WL {s d:TypeId} {k0:IntKind} {n:Int} (hs:(P.underlying s).isSome=true) (hd:P.underlying d=some (.int .u64)) (k:KV (.int .u64 (n % 18446744073709551616)) w):Zi P (convert s d (.int k0 n)) w KV:=Vc (n % 18446744073709551616) (Ob n) hs hd k
theorem afU {x:Int} (h0:0≤x) (h1:x≤18446744073709551615) (k:KV (.int .u64 (18446744073709551615-x)) w):Zi P (Op.unary .xor (.int .u64 x)) w KV:=by
 refine ⟨_,w,?_,k⟩
 obtain ⟨a,rfl⟩:∃a:Nat,x=a:=⟨x.toNat,by omega⟩
 have h2:=(ajN .u64 64 rfl (a:=2 ^ 64-1) (b:=a) (by decide) (show (a:Int)≤18446744073709551615 from h1)).1
 rw [abe 64 qo] at h2
 have h3:(18446744073709551615-(a:Int))=((2 ^ 64-1-a:Nat):Int):=by omega
 rw [h3,←h2]
 unfold Q3
 rfl
theorem ab8 {x y:Int} (n:Nat) (M:Int) (hM:M=2 ^ n) (hx:x % M=0) (hx0:0≤x) (hy:0≤y∧y<M) (hs:x+y≤18446744073709551615) (h:K (x+y)):W6 (So .u64 x y) K:=by
 obtain ⟨a,rfl⟩:∃a:Nat,x=a:=⟨x.toNat,by omega⟩
 obtain ⟨b,rfl⟩:∃b:Nat,y=b:=⟨y.toNat,by omega⟩
 refine ⟨_,?_,h⟩
 have hp:((2 ^ n:Nat):Int)=2 ^ n:=by norm_cast
 have hd:(2 ^ n:Nat) ∣ a:=by
  rw [hM,←hp] at hx
  exact Int.natCast_dvd_natCast.1 (Int.dvd_of_emod_eq_zero hx)
 have hb:b<2 ^ n:=by omega
 have:=afK .u64 b a n hb hd (show (b:Int)+a≤18446744073709551615 by omega)
 rw [show So .u64 (a:Int) (b:Int)=So .u64 b a by unfold So;rw [BitVec.or_comm],this]
 omega
theorem adX {x:Int} (h0:0≤x) (h:K ((4294967296-x) % 4294967296)):W6 (ZO .u32 (0-x)) K:=⟨_,by rw [Oc];omega,h⟩
theorem adY {x:Int} (h0:0≤x) (h:K ((18446744073709551616-x) % 18446744073709551616)):W6 (ZO .u64 (0-x)) K:=⟨_,by rw [Ob];omega,h⟩
end
end YZ
namespace YZ
open Go Go.RowKit
def Sb (e:TypeId) (v:Value) (xs:List UInt8):As:=fun h =>
 ∃g cap cs fz,v=.slice (some ⟨g,0,none⟩) xs.length cap∧h g=some (.cells (List.toArray cs) e fz)∧cs.length≤fz.1∧cs.take xs.length=xs.flatMap Tu∧xs.length≤cs.length
section
variable {P:Program} {g:Zv} {w w':World} {l:List As} {K:Value→World→Prop} {v v':Value} {xs ys:List UInt8} {i j b o:Nat} {e t u ty:TypeId} {x:UInt8}
theorem Sat.sb (H:Sat g w l) (j:Nat) (hj:l[j]?=some (Sb e v xs)):∃g cap cs fz,v=.slice (some ⟨g,0,none⟩) xs.length cap∧w.heap[g]?=some (.cells (List.toArray cs) e fz)∧cs.length≤fz.1∧cs.take xs.length=xs.flatMap Tu∧xs.length≤cs.length:=by
 obtain ⟨a,⟨g,cap,cs,fz,h1,h2,h3⟩,hs⟩:=H.part hj
 exact ⟨g,cap,cs,fz,h1,hs g _ h2,h3⟩
theorem Oa (xs:List UInt8) (i:Nat) (c:UInt8):(xs.set i c).flatMap Tu=(xs.flatMap Tu).set i (.int .u8 (c.toNat:Int)):=by
 induction xs generalizing i with
 | nil=>rfl
 | cons a xs ih =>
  cases i with
  | zero=>rfl
  | succ i=>rw [ltb,lQa,lQa,ih];rfl
end
end YZ
namespace YZ
open Go Go.RowKit
inductive Tr where
 | nil
 | op (i:Nat) (k:Kd) (r:Tr)
 | fork (a b:Tr)
 | hold (r:Tr)
def O1:Tr→List Nat
 | .nil=>[]
 | .op i _ _=>[i]
 | .fork a b=>O1 a++O1 b
 | .hold _=>[]
def dep:Tr→Nat
 | .nil=>0
 | .op _ _ r=>dep r+1
 | .fork a b=>max (dep a) (dep b)
 | .hold r=>dep r
def Rb:Tr→List Nat
 | .nil=>[]
 | .op i k r=>match k with
  | .held=>i::Rb r
  | _=>Rb r
 | .fork a b=>Rb a++Rb b
 | .hold _=>[]
def Mh:Tr→List Nat
 | .nil=>[]
 | .op i _ r=>i::Mh r
 | .fork a b=>Mh a++Mh b
 | .hold r=>Mh r
def Sf:Tr→List Nat
 | .nil=>[]
 | .op i k r=>match k with
  | .free=>i::Sf r
  | _=>Sf r
 | .fork a b=>Sf a++Sf b
 | .hold r=>Mh r
def KZ (ops:Array Oper):Tr→Bool
 | .nil=>true
 | .op _ _ r=>KZ ops r
 | .fork a b=>KZ ops a && KZ ops b
 | .hold r=>Ey ops (Rb r) (Sf r) && KZ ops r
def O0 (ops:Array Oper) (x:Oper × Nat):Rec:=⟨x.2,true,UX x.1,Wg (x.1.looksAt ops),Wg x.1.dst.toList⟩
def TC (ops:Array Oper):List Rec:=ops.toList.zipIdx.map (O0 ops)
def Kh (a m:Nat):Bool:=Nat.beq (Nat.land a m) a
def Xz (all:Nat) (Px:List Rec):Tr→Nat→Bool→Bool
 | .nil,m,f=>!f && Nat.beq m all
 | .op i k r,m,f=>match Px[i]? with
  | none=>false
  | some x=>Kh x.af m && !Kt m i && (match HB k with
   | true=>!f && Px.all fun q=>Kt m q.i || Nat.beq q.i i || Kt q.af i || Qt x q
   | false=>f || Px.all fun q=>Kt m q.i || Nat.beq q.i i || !Kh q.af m) && Xz all Px r (Nat.lor m (Nat.shiftLeft 1 i)) false
 | .fork a b,m,f=>(f || Px.all fun q=>Kt m q.i || !Kh q.af m || (O1 a++O1 b).contains q.i) && Xz all Px a m true && Xz all Px b m true
 | .hold r,m,f=>!f && Xz all Px r m false
theorem ab9 {ops:Array Oper} {j:Nat} {o:Oper} (h:ops[j]?=some o):(TC ops)[j]?=some (O0 ops (o,j)):=by
 unfold TC
 rw [lva,List.getElem?_zipIdx,lYa,h]
 simp
theorem Pw {ops:Array Oper} {j:Nat} {x:Rec} (h:(TC ops)[j]?=some x):∃o,ops[j]?=some o∧x=O0 ops (o,j):=by
 unfold TC at h
 rw [lva,List.getElem?_zipIdx,lYa] at h
 cases ho:ops[j]? with
 | none=>rw [ho] at h;cases h
 | some o=>rw [ho] at h;exact ⟨o,rfl,by simpa using h.symm⟩
theorem QW {ops:Array Oper} {j:Nat} {o:Oper} (h:ops[j]?=some o):O0 ops (o,j)∈TC ops:=lha (ab9 h)
theorem ah1 {a b:Nat} (h:∀j,a.testBit j=true→b.testBit j=true):Kh a b=true:=by
 unfold Kh
 rw [show Nat.land a b=a &&& b from rfl]
 have:a &&& b=a:=by
  apply Nat.eq_of_testBit_eq
  intro j
  rw [Nat.testBit_and]
  cases ha:a.testBit j
  ·rfl
  ·rw [h j ha];rfl
 rw [this];exact Nat.beq_refl a
structure Pv (ops:Array Oper) (listed:Array Bool) (m:Nat):Prop where
 sz:listed.size=ops.size
 bit:∀j,j<ops.size→listed.getD j true=m.testBit j
 lt:∀j,m.testBit j=true→j<ops.size
 cl:Cl .any ops listed
section
variable {ops:Array Oper} {listed:Array Bool} {m:Nat}
theorem Pv.ajP (I:Pv ops listed m) {j:Nat}:listed.getD j false=true↔m.testBit j=true:=by
 constructor
 ·intro h
  have hj:j<listed.size:=by
   rcases lEa j listed.size with h1|h1
   ·exact h1
   ·simp [Array.getD_eq_getD_getElem?,Array.getElem?_eq_none h1] at h
  have h2:=I.bit j (I.sz ▸ hj)
  simp only [Array.getD_eq_getD_getElem?] at h h2
  rw [lib hj] at h h2
  simp at h h2
  rw [←h2,h]
 ·intro h
  have hj:=I.lt j h
  have h2:=I.bit j hj
  rw [h] at h2
  simp only [Array.getD_eq_getD_getElem?] at h2 ⊢
  rw [lib (by rw [I.sz];exact hj)] at h2 ⊢
  simpa using h2
theorem Pv.E0 (I:Pv ops listed m) {j:Nat} {o:Oper} (ho:ops[j]?=some o):j∈Region.ready .any ops listed↔m.testBit j=false∧Kh (UX o) m=true:=by
 have hj:j<ops.size:=(lza.1 ho).1
 rw [mem_ready,I.bit j hj]
 constructor
 ·rintro ⟨h1,o',ho',h2⟩
  obtain rfl:o=o':=by rw [ho] at ho';exact Option.some.inj ho'
  refine ⟨h1,ah1 fun k hk=>?_⟩
  obtain ⟨e,he,hb,rfl⟩:=(VH o k).1 hk
  exact I.ajP.1 (h2 e he hb)
 ·rintro ⟨h1,h2⟩
  exact ⟨h1,o,ho,fun e he hb=>I.ajP.2 (Qs h2 e.on ((VH o e.on).2 ⟨e,he,hb,rfl⟩))⟩
theorem Pv.step (I:Pv ops listed m) {i:Nat} (hi:i<ops.size) (hr:i∈Region.ready .any ops listed):Pv ops (listed.setIfInBounds i true) (Nat.lor m (Nat.shiftLeft 1 i)):=by
 refine ⟨by simpa using I.sz,fun j hj=>?_,fun j h=>?_,I.cl.step hr⟩
 ·rw [show Nat.lor m (Nat.shiftLeft 1 i)=m ||| (1 <<< i) from rfl,lPb,Nat.one_shiftLeft,lZb,←I.bit j hj]
  by_cases h:i=j
  ·subst h;simp [I.sz,hj]
  ·simp [Array.getElem?_setIfInBounds_ne h,h]
 ·rw [show Nat.lor m (Nat.shiftLeft 1 i)=m ||| (1 <<< i) from rfl,lPb,Nat.one_shiftLeft,lZb,Bool.or_eq_true] at h
  rcases h with h|h
  ·exact I.lt j h
  ·have:=of_decide_eq_true h;omega
theorem Pv.Kt (I:Pv ops listed m) {j:Nat}:YZ.Kt m j=m.testBit j:=Up m j
end
inductive ajQ (k:(World→Prop)→Prop) (w:World):Prop
 | mk (S:World→Prop) (hS:S w) (h:k S)
def VQ (P:Program) (ops:List Oper) (S:World→Prop) (K:List Value→World→Prop) (t:Tr):Bool→List Value→World→Prop :=
 Tr.rec (motive:=fun _=>(World→Prop)→Bool→List Value→World→Prop) (fun _ _=>K) (fun i k _ ih S live ρ w=>match ops[i]? with
  | none=>False
  | some o=>match k with
   | .pure=>X8 ops o.guard ρ fun b ρ=>match b with
    | true=>I2 P (fun _=>True) o ρ fun v=>W8 ρ o.dst v fun ρ=>ih S live ρ w
    | false=>W8 ρ o.dst undef fun ρ=>ih S live ρ w
   | .held=>match live with
    | true=>X8 ops o.guard ρ fun b ρ=>match b with
     | true=>I2 P S o ρ fun v=>W8 ρ o.dst v fun ρ=>ih S true ρ w
     | false=>W8 ρ o.dst undef fun ρ=>ih S true ρ w
    | false=>False
   | .forced=>match live with
    | true=>X8 ops o.guard ρ fun b ρ=>match b with
     | true=>K7 P o ρ w fun v w'=>Yt (S w') (W8 ρ o.dst v fun ρ=>ih S true ρ w')
     | false=>W8 ρ o.dst undef fun ρ=>ih S true ρ w
    | false=>False
   | .free=>X8 ops o.guard ρ fun b ρ=>match b with
    | true=>K7 P o ρ w fun v w'=>W8 ρ o.dst v fun ρ=>ih S false ρ w'
    | false=>W8 ρ o.dst undef fun ρ=>ih S false ρ w) (fun _ _ FV Dg S live ρ w=>FV S live ρ w∧Dg S live ρ w) (fun _ ih S live ρ w=>ajQ (fun S2=>ih S2 true ρ w) w) t S
theorem abg (P:Program) (ops:List Oper) (S:World→Prop) (K:List Value→World→Prop) (i:Nat) (k:Kd) (r:Tr) (live:Bool) (ρ:List Value) (w:World) :
  VQ P ops S K (.op i k r) live ρ w=match ops[i]? with
  | none=>False
  | some o=>match k with
   | .pure=>X8 ops o.guard ρ fun b ρ=>match b with
    | true=>I2 P (fun _=>True) o ρ fun v=>W8 ρ o.dst v fun ρ=>VQ P ops S K r live ρ w
    | false=>W8 ρ o.dst undef fun ρ=>VQ P ops S K r live ρ w
   | .held=>match live with
    | true=>X8 ops o.guard ρ fun b ρ=>match b with
     | true=>I2 P S o ρ fun v=>W8 ρ o.dst v fun ρ=>VQ P ops S K r true ρ w
     | false=>W8 ρ o.dst undef fun ρ=>VQ P ops S K r true ρ w
    | false=>False
   | .forced=>match live with
    | true=>X8 ops o.guard ρ fun b ρ=>match b with
     | true=>K7 P o ρ w fun v w'=>Yt (S w') (W8 ρ o.dst v fun ρ=>VQ P ops S K r true ρ w')
     | false=>W8 ρ o.dst undef fun ρ=>VQ P ops S K r true ρ w
    | false=>False
   | .free=>X8 ops o.guard ρ fun b ρ=>match b with
    | true=>K7 P o ρ w fun v w'=>W8 ρ o.dst v fun ρ=>VQ P ops S K r false ρ w'
    | false=>W8 ρ o.dst undef fun ρ=>VQ P ops S K r false ρ w:=rfl
section
variable {P:Program} {ops:Array Oper} {S:World→Prop} {K:List Value→World→Prop} {ρ0:List Value} {Z:Nat→Bool}
abbrev QT (ops:Array Oper) (K:List Value→World→Prop) (ρ0:List Value):Exit→Act→World→Prop:=fun e a w'=>e=.normal∧a.defers=[]∧agree (YC ops.toList) ρ0 a.tmps.toList∧K a.tmps.toList w'
theorem afV {all:Nat} {Px:List Rec}:∀{t:Tr} {m:Nat},Xz all Px t m true=true→1≤dep t∧∃i∈O1 t,∃x,Px[i]?=some x∧Kh x.af m=true∧Kt m i=false:=by
 intro t
 induction t with
 | nil=>intro m h;cases h
 | op i k r _ =>
  intro m h
  unfold Xz at h
  split at h
  ·cases h
  ·rename_i x hx
   simp only [Bool.and_eq_true] at h
   exact ⟨Nat.le_add_left _ _,i,lta.2 rfl,x,hx,h.1.1.1,by simpa using h.1.1.2⟩
 | fork a b FV _ =>
  intro m h
  unfold Xz at h
  simp only [Bool.and_eq_true] at h
  obtain ⟨h1,i,hi,r⟩:=FV h.1.2
  exact ⟨lGa h1 (Nat.le_max_left _ _),i,leb _ hi,r⟩
 | hold r _=>intro m h;simp [Xz] at h
theorem aaq {i:Nat} {k:Kd} {r:Tr} {o:Oper} (ho:ops[i]?=some o) (hk:HB k=false) {fuel:Nat} {listed:Array Bool} {live:Bool} {ρ:List Value} {w:World}
  (hz:k=.free→Z i=true) (hS:live=true→S w) (hag:agree (YC ops.toList) ρ0 ρ) (h:VQ P ops.toList S K (.op i k r) live ρ w)
  (ih:∀live ρ w,(live=true→S w)→agree (YC ops.toList) ρ0 ρ→VQ P ops.toList S K r live ρ w→St P .any ops (QT ops K ρ0) S Z fuel (listed.setIfInBounds i true) ⟨ρ.toArray,[]⟩ w) :
  wpOp P ops (QT ops K ρ0) i (fun a' w'=>(Z i=true∨(S w→S w'))∧St P .any ops (QT ops K ρ0) S Z fuel (listed.setIfInBounds i true) a' w') ⟨ρ.toArray,[]⟩ w:=by
 have hmem:∀n,o.dst=some n→n∈YC ops.toList:=fun n hn=>by
  unfold YC;rw [lDb]
  exact ⟨o,by simpa using Array.mem_of_getElem? ho,hn⟩
 rw [abg] at h
 simp only [Array.getElem?_toList,ho] at h
 cases k with
 | pure=>cases hk
 | held=>cases hk
 | forced =>
  cases live with
  | false=>exact h.elim
  | true =>
   obtain ⟨b,hb,h⟩:=X0 h
   unfold wpOp
   rw [ho]
   simp only [hb]
   cases b
   ·simp only [Bool.false_eq_true,if_false,Yh] at h ⊢
    rw [put_eq]
    exact ⟨.inr id,ih true _ w hS (XO hag hmem _) h⟩
   ·simp only [if_true] at h ⊢
    refine .inl (Uv h fun v w' ⟨GA,hk⟩=>?_)
    rw [Yh] at hk
    rw [put_eq]
    exact ⟨.inr fun _=>GA,ih true _ w' (fun _=>GA) (XO hag hmem v) hk⟩
 | free =>
  have hz:=hz rfl
  obtain ⟨b,hb,h⟩:=X0 h
  unfold wpOp
  rw [ho]
  simp only [hb]
  cases b
  ·simp only [Bool.false_eq_true,if_false,Yh] at h ⊢
   rw [put_eq]
   exact ⟨.inl hz,ih false _ w nofun (XO hag hmem _) h⟩
  ·simp only [if_true] at h ⊢
   refine .inl (Uv h fun v w' hk=>?_)
   rw [Yh] at hk
   rw [put_eq]
   exact ⟨.inl hz,ih false _ w' nofun (XO hag hmem v) hk⟩
theorem ade {S1 S2:World→Prop} {Z1 Z2:Nat→Bool} {Q:Exit→Act→World→Prop}:∀(fuel:Nat) (listed:Array Bool) (a:Act) (w:World),(∀i,i<ops.size→listed.getD i true=false→Z1 i=true)→St P .any ops Q S2 Z2 fuel listed a w→St P .any ops Q S1 Z1 fuel listed a w:=by
 intro fuel
 induction fuel with
 | zero=>exact fun _ _ _ _ h=>h
 | succ f ih =>
  intro listed a w hz h
  refine ⟨h.1,fun i hi=>wpOp_mono (fun a' w' k=>⟨.inl ?_,ih _ a' w' (fun j hl hj=>hz j hl ?_) k.2⟩) (h.2 i hi)⟩
  ·obtain ⟨h1,o,ho,_⟩:=mem_ready.1 hi
   exact hz i (lza.1 ho).1 h1
  ·rcases Nat.decEq i j with h|h
   ·rw [getD_set_ne true h] at hj;exact hj
   ·subst h
    simp only [Array.getD_eq_getD_getElem?,Array.getElem?_setIfInBounds] at hj ⊢
    split at hj
    ·split at hj <;> first|cases hj|(rename_i h2;rw [Array.getElem?_eq_none (ldc h2)];exact hj)
    ·exact hj
theorem cover {n:Nat} {Px:List Rec}:∀{t:Tr} {m:Nat} {f:Bool},Xz (2 ^ n-1) Px t m f=true→∀j,j<n→m.testBit j=false→j∈Mh t:=by
 intro t
 induction t with
 | nil =>
  intro m f h j hj hm
  unfold Xz at h
  rw [Bool.and_eq_true] at h
  rw [lmb h.2,lCb] at hm
  simp [hj] at hm
 | op i k r ih =>
  intro m f h j hj hm
  unfold Xz at h
  split at h
  ·cases h
  ·rw [Bool.and_eq_true] at h
   by_cases e:j=i
   ·subst e;exact lxb ..
   ·refine lGb _ (ih h.2 j hj ?_)
    rw [show Nat.lor m (Nat.shiftLeft 1 i)=m ||| (1 <<< i) from rfl,lPb,hm,Nat.one_shiftLeft,lZb]
    simp;omega
 | fork a b FV _ =>
  intro m f h j hj hm
  unfold Xz at h
  simp only [Bool.and_eq_true] at h
  exact leb _ (FV h.1.2 j hj hm)
 | hold r ih =>
  intro m f h j hj hm
  unfold Xz at h
  rw [Bool.and_eq_true] at h
  exact ih h.2 j hj hm
theorem abh (hs:Region.noSelect ops=true) (t:Tr):(∀i∈Rb t,∀j oj,ops[j]?=some oj→Z j=true→Pre .any ops j i)→(∀i∈Sf t,Z i=true)→KZ ops t=true →
  (∀(fuel:Nat) (listed:Array Bool) (m:Nat) (live:Bool) (ρ:List Value) (w:World),dep t≤fuel→Pv ops listed m→Xz (2 ^ ops.size-1) (TC ops) t m false=true→(live=true→S w)→agree (YC ops.toList) ρ0 ρ →
   VQ P ops.toList S K t live ρ w→St P .any ops (QT ops K ρ0) S Z fuel listed ⟨ρ.toArray,[]⟩ w) ∧
  (∀(fuel:Nat) (listed:Array Bool) (m:Nat) (live:Bool) (ρ:List Value) (w:World),dep t≤fuel+1→Pv ops listed m→Xz (2 ^ ops.size-1) (TC ops) t m true=true→(live=true→S w)→agree (YC ops.toList) ρ0 ρ →
   VQ P ops.toList S K t live ρ w→∀i∈O1 t,wpOp P ops (QT ops K ρ0) i (fun a' w'=>(Z i=true∨(S w→S w'))∧St P .any ops (QT ops K ρ0) S Z fuel (listed.setIfInBounds i true) a' w') ⟨ρ.toArray,[]⟩ w):=by
 induction t generalizing S Z with
 | nil =>
  intro _ _ _
  refine ⟨fun fuel listed m live ρ w _ I hok _ hag h=>?_,fun fuel listed m live ρ w _ _ hok=>by cases hok⟩
  unfold Xz at hok
  simp only [Bool.not_false,Bool.true_and] at hok
  have hok:=lmb hok
  have hr:Region.ready .any ops listed=[]:=by
   rw [List.eq_nil_iff_forall_not_mem]
   intro j hj
   obtain ⟨_,o,ho,_⟩:=mem_ready.1 hj
   have hlt:j<ops.size:=(lza.1 ho).1
   have:=((I.E0 ho).1 hj).1
   rw [hok,lCb] at this
   simp [hlt] at this
  cases fuel with
  | zero=>exact ⟨hr,rfl,rfl,hag,h⟩
  | succ f=>exact ⟨fun _=>⟨rfl,rfl,hag,h⟩,by rw [hr];simp⟩
 | fork a b FV Dg =>
  intro Kl HA Je
  unfold KZ at Je
  rw [Bool.and_eq_true] at Je
  obtain ⟨_,ia⟩:=FV (fun i hi=>Kl i (leb _ hi)) (fun i hi=>HA i (leb _ hi)) Je.1
  obtain ⟨_,ib⟩:=Dg (fun i hi=>Kl i (lLb _ hi)) (fun i hi=>HA i (lLb _ hi)) Je.2
  have two:∀(fuel:Nat) (listed:Array Bool) (m:Nat) (live:Bool) (ρ:List Value) (w:World),dep (.fork a b)≤fuel+1→Pv ops listed m→Xz (2 ^ ops.size-1) (TC ops) a m true=true→Xz (2 ^ ops.size-1) (TC ops) b m true=true→(live=true→S w)→agree (YC ops.toList) ρ0 ρ →
   VQ P ops.toList S K (.fork a b) live ρ w→∀i∈O1 (.fork a b),wpOp P ops (QT ops K ρ0) i (fun a' w'=>(Z i=true∨(S w→S w'))∧St P .any ops (QT ops K ρ0) S Z fuel (listed.setIfInBounds i true) a' w') ⟨ρ.toArray,[]⟩ w:=by
   intro fuel listed m live ρ w hf I h1 h2 hS hag h i hi
   have hf:max (dep a) (dep b)≤fuel+1:=hf
   rcases lFa.1 hi with hi|hi
   ·exact ia fuel listed m live ρ w qo I h1 hS hag h.1 i hi
   ·exact ib fuel listed m live ρ w qo I h2 hS hag h.2 i hi
  refine ⟨fun fuel listed m live ρ w hf I hok hS hag h=>?_,fun fuel listed m live ρ w hf I hok hS hag h=>?_⟩
  ·unfold Xz at hok
   simp only [Bool.and_eq_true,Bool.false_or] at hok
   obtain ⟨⟨hall,h1⟩,h2⟩:=hok
   obtain ⟨hd,i0,hi0,x,hx,hsub,hin⟩:=afV h1
   obtain ⟨f,rfl⟩:∃f,fuel=f+1:=⟨fuel-1,by have:max (dep a) (dep b)≤fuel:=hf;omega⟩
   refine ⟨fun h0=>?_,fun j hj=>?_⟩
   ·obtain ⟨o,ho,rfl⟩:=Pw hx
    have:i0∈Region.ready .any ops listed:=(I.E0 ho).2 ⟨by rw [←Up];exact hin,hsub⟩
    rw [h0] at this;cases this
   ·refine two f listed m live ρ w (lGa hf (lra _)) I h1 h2 hS hag h j ?_
    obtain ⟨_,o,ho,_⟩:=mem_ready.1 hj
    obtain ⟨hb,Df⟩:=(I.E0 ho).1 hj
    have:=lkb.1 hall _ (QW ho)
    simp only [O0,Up,hb,Df,Bool.not_true,Bool.or_false,Bool.false_or] at this
    exact List.contains_iff_mem.1 this
  ·unfold Xz at hok
   simp only [Bool.and_eq_true] at hok
   exact two fuel listed m live ρ w hf I hok.1.2 hok.2 hS hag h
 | op i k r ih =>
  intro Kl HA Je
  have F0:∀i∈Rb r,∀j oj,ops[j]?=some oj→Z j=true→Pre .any ops j i:=fun j hj=>Kl j (by unfold Rb;cases k <;> first|exact hj|exact lGb _ hj)
  have FZ:∀i∈Sf r,Z i=true:=fun j hj=>HA j (by unfold Sf;cases k <;> first|exact hj|exact lGb _ hj)
  have hzi:k=.free→Z i=true:=fun e=>HA i (by subst e;exact lxb ..)
  obtain ⟨ih1,_⟩:=ih F0 FZ Je
  refine ⟨fun fuel listed m live ρ w hf I hok hS hag h=>?_,fun fuel listed m live ρ w hf I hok hS hag h j hj=>?_⟩
  ·obtain ⟨f,rfl⟩:∃f,fuel=f+1:=⟨fuel-1,by have:dep r+1≤fuel:=hf;omega⟩
   have Kg:dep r≤f:=Nat.le_of_succ_le_succ hf
   unfold Xz at hok
   split at hok
   ·cases hok
   ·rename_i x hx
    obtain ⟨o,ho,rfl⟩:=Pw hx
    have hlt:i<ops.size:=(lza.1 ho).1
    rw [Bool.and_eq_true,Bool.and_eq_true,Bool.and_eq_true] at hok
    obtain ⟨⟨⟨hsub,hin⟩,hk⟩,VR⟩:=hok
    have Xq:i∈Region.ready .any ops listed:=(I.E0 ho).2 ⟨by rw [←Up];simpa using hin,hsub⟩
    have hmem:∀n,o.dst=some n→n∈YC ops.toList:=fun n hn=>by
     unfold YC;rw [lDb]
     exact ⟨o,by simpa using Array.mem_of_getElem? ho,hn⟩
    have Jh:=fun live ρ w hS hag h=>ih1 f (listed.setIfInBounds i true) _ live ρ w Kg (I.step hlt Xq) VR hS hag h
    cases T3:HB k with
    | false =>
     rw [T3] at hk
     simp only [Bool.false_or] at hk
     refine ⟨fun h0=>(by rw [h0] at Xq;cases Xq),fun j hj=>?_⟩
     have:j=i:=by
      obtain ⟨_,oj,Og,_⟩:=mem_ready.1 hj
      obtain ⟨hb,Df⟩:=(I.E0 Og).1 hj
      have:=lkb.1 hk _ (QW Og)
      simp only [O0,Up,hb,Df,Bool.not_true,Bool.or_false,Bool.false_or] at this
      exact lmb this
     subst this
     exact aaq ho T3 hzi hS hag h Jh
    | true =>
     rw [T3] at hk
     simp only [Bool.not_false,Bool.true_and] at hk
     have hfree:∀j oj,ops[j]?=some oj→j≠i→listed.getD j true=false→(∀e∈oj.after,Region.binds .any e=true→e.on≠i)→o.apart ops oj=true:=fun j oj Og hne hun hno=>by
      have hjl:j<ops.size:=(lza.1 Og).1
      have h4:=lkb.1 hk _ (QW Og)
      rw [I.bit j hjl] at hun
      have al2:Nat.beq j i=false:=by
       cases hb:Nat.beq j i
       ·rfl
       ·exact absurd (lmb hb) hne
      have haf:Kt (UX oj) i=false:=by
       cases hb:Kt (UX oj) i
       ·rfl
       ·rw [Up,VH] at hb
        obtain ⟨e,he,hb,G7⟩:=hb
        exact absurd G7 (hno e he hb)
      have al3:(O0 ops (oj,j)).af=UX oj:=rfl
      have hi2:(O0 ops (oj,j)).i=j:=rfl
      rw [hi2,al3,Up,hun,al2,haf] at h4
      exact aaa rfl rfl rfl rfl (by simpa using h4)
     rw [abg] at h
     simp only [Array.getElem?_toList,ho] at h
     cases k with
     | forced=>cases T3
     | free=>cases T3
     | pure =>
      obtain ⟨b,hb,h⟩:=X0 h
      have key:∀v,YieldsIf P ops (fun _=>True) o v ⟨ρ.toArray,[]⟩→VQ P ops.toList S K r live (put ρ o.dst v) w→St P .any ops (QT ops K ρ0) S Z (f+1) listed ⟨ρ.toArray,[]⟩ w:=fun v hy hk =>
       aaA ho (Region.noSelect_spec hs) (fun c a w hq=>by cases hq.1) f listed _ _ hfree Xq hy (by
        rw [put_eq]
        exact Jh live _ w hS (XO hag hmem v) hk)
      cases b
      ·simp only [Yh] at h
       exact key undef (.inr ⟨hb,rfl⟩) h
      ·obtain ⟨v,hv,hk⟩:=Tk h
       rw [Yh] at hk
       exact key v (.inl ⟨hb,fun w hS=>by rw [Yy];exact hv w hS⟩) hk
     | held =>
      cases live with
      | false=>exact h.elim
      | true =>
       obtain ⟨b,hb,h⟩:=X0 h
       have key:∀v,YieldsIf P ops S o v ⟨ρ.toArray,[]⟩→VQ P ops.toList S K r true (put ρ o.dst v) w→St P .any ops (QT ops K ρ0) S Z (f+1) listed ⟨ρ.toArray,[]⟩ w:=fun v hy hk =>
        aap ho (Region.noSelect_spec hs) (fun c a w hq=>by cases hq.1) (Kl i (by unfold Rb;exact lxb ..)) f listed _ _ I.cl hfree Xq hy (hS rfl) (by
         rw [put_eq]
         exact Jh true _ w hS (XO hag hmem v) hk)
       cases b
       ·simp only [Yh] at h
        exact key undef (.inr ⟨hb,rfl⟩) h
       ·obtain ⟨v,hv,hk⟩:=Tk h
        rw [Yh] at hk
        exact key v (.inl ⟨hb,fun w hS=>by rw [Yy];exact hv w hS⟩) hk
  ·obtain rfl:j=i:=by simpa [O1] using hj
   have Kg:dep r≤fuel:=Nat.le_of_succ_le_succ hf
   unfold Xz at hok
   split at hok
   ·cases hok
   ·rename_i x hx
    obtain ⟨o,ho,rfl⟩:=Pw hx
    have hlt:j<ops.size:=(lza.1 ho).1
    rw [Bool.and_eq_true,Bool.and_eq_true,Bool.and_eq_true] at hok
    obtain ⟨⟨⟨hsub,hin⟩,hk⟩,VR⟩:=hok
    have T3:HB k=false:=by
     cases T3:HB k
     ·rfl
     ·rw [T3] at hk;cases hk
    exact aaq ho T3 hzi hS hag h fun live ρ w hS hag h=>ih1 fuel (listed.setIfInBounds j true) _ live ρ w Kg (I.step hlt ((I.E0 ho).2 ⟨by rw [←Up];simpa using hin,hsub⟩)) VR hS hag h
 | hold r ih =>
  intro Kl HA Je
  unfold KZ at Je
  rw [Bool.and_eq_true] at Je
  refine ⟨fun fuel listed m live ρ w hf I hok hS hag h=>?_,fun fuel listed m live ρ w _ _ hok=>by simp [Xz] at hok⟩
  obtain ⟨S2,hS2,h2⟩:=h
  unfold Xz at hok
  rw [Bool.and_eq_true] at hok
  have k:=(ih (S:=S2) (Z:=fun i=>(Sf r).contains i) (fun i hi=>Of Je.1 hi) (fun i hi=>by simpa using hi) Je.2).1 fuel listed m true ρ w hf I hok.2 (fun _=>hS2) hag h2
  exact ade fuel listed _ w (fun i hl hi=>HA i (cover hok.2 i hl (by rw [←I.bit i hl];exact hi))) k
def Mg (ops:Array Oper) (t:Tr):Bool:=Region.noSelect ops && Nat.ble (dep t) ops.size && Xz (2 ^ ops.size-1) (TC ops) t 0 false && (Ey ops (Rb t) (Sf t) && KZ ops t)
theorem ajR {id:Nat} {w:World} (S:World→Prop) (t:Tr) (hm:P.follows .mixedOrders=true) (hc:Mg ops t=true)
  (h:∀w1,w1=w.drew→S w1∧VQ P ops.toList S K t true ρ0 w1):Ou P id ops K ρ0 w:=by
 simp only [Mg,Bool.and_eq_true] at hc
 obtain ⟨⟨⟨h1,h2⟩,h3⟩,hz,Je⟩:=hc
 obtain ⟨hS,hk⟩:=h _ rfl
 have I:Pv ops (Array.replicate ops.size false) 0:=⟨by simp,fun j hj=>by simp [hj],fun j hj=>by simp at hj,Cl.start _⟩
 refine ⟨wp_region_any hm (abb (S:=S) (Z:=fun i=>(Sf t).contains i) _ _ _ _ (((abh h1 t (fun i hi=>Of hz hi) (fun i hi=>by simpa using hi) Je).1) _ _ _ true _ _ (llb h2) I h3 (fun _=>hS) (QX _ _) hk))⟩
end
section
variable {P:Program} {g:Zv} {w w':World} {l:List As}
theorem Kf {id:Nat} {ops:Array Oper} {K:List Value→World→Prop} {ρ:List Value} (H:Sat g w l) (ds:List Nat) (t:Tr) (hm:P.follows .mixedOrders=true) (hc:Mg ops t=true)
  (h:MT ds l fun l'=>∀w1,Sat g w1 l→VQ P ops.toList (fun wx=>Sat g wx l') K t true ρ w1):Ou P id ops K ρ w:=by
 have key:∃l',(∀wx,Sat g wx l→Sat g wx l')∧∀w1,Sat g w1 l→VQ P ops.toList (fun wx=>Sat g wx l') K t true ρ w1:=by
  have:∀(ds:List Nat) (l0:List As),(∀wx,Sat g wx l→Sat g wx l0)→(MT ds l0 fun l'=>∀w1,Sat g w1 l→VQ P ops.toList (fun wx=>Sat g wx l') K t true ρ w1) →
    ∃l',(∀wx,Sat g wx l→Sat g wx l')∧∀w1,Sat g w1 l→VQ P ops.toList (fun wx=>Sat g wx l') K t true ρ w1:=by
   intro ds
   induction ds with
   | nil=>exact fun l0 h0 h=>⟨l0,h0,h⟩
   | cons i ds ih =>
    intro l0 h0 h
    have h:Kj l0 i fun r=>MT ds r _:=h
    rw [Qr] at h
    exact ih _ (fun wx hx=>(h0 wx hx).del i) h
  exact this ds l (fun _ h=>h) h
 obtain ⟨l',h1,h2⟩:=key
 refine ajR (fun wx=>Sat g wx l') t hm hc fun w1 e=>?_
 have H1:Sat g w1 l:=H.still (by rw [e];exact Still.drew _)
 exact ⟨h1 _ H1,h2 _ H1⟩
end
end YZ
namespace YZ
open Go YZ Go.RowKit
theorem mixed:(Tryz.prog).follows .mixedOrders=true:=by kernel_rfl
abbrev WU (x:Int):Prop:=-9223372036854775808≤x∧x≤9223372036854775807
abbrev U8 (x:Int):Prop:=0≤x∧x≤255
section
variable {g:Zv} {w:World} {l l':List As} {A B:As} {α:Type} {en:α→List Value} {s p:Nat} {v:Value} {xs ys:List α} {e:TypeId} {cs cs':List Value}
def ajS (l:List As):Nat→(List As→Prop)→Prop :=
 List.rec (motive:=fun _=>Nat→(List As→Prop)→Prop) (fun _ k=>k []) (fun x _ ih n k=>Nat.rec (motive:=fun _=>Prop) (k []) (fun m _=>ih m (fun r=>k (x::r))) n) l
theorem afW (l:List As) (n:Nat) (k:List As→Prop):ajS l n k=k (l.take n):=by
 induction l generalizing n k with
 | nil=>cases n <;> rfl
 | cons x r ih=>cases n with
  | zero=>rfl
  | succ n=>exact ih n _
theorem abi:∀{l:List As} {n:Nat} {h:Hp},Re l h→Re (l.take n) h:=by
 intro l
 induction l with
 | nil=>intro n h _;rw [List.take_nil];trivial
 | cons A r ih =>
  intro n h hs
  cases n with
  | zero=>trivial
  | succ n =>
   obtain ⟨a,b,h1,h2,h3⟩:=hs
   exact ⟨a,b,h1,h2,ih h3⟩
theorem Sat.firsts {G:Prop} (H:Sat g w l) (n:Nat) (k:ajS l n fun l'=>Sat g w l'→G):G:=by
 rw [afW] at k
 obtain ⟨h,hs,hx⟩:=H.ex
 exact k ⟨H.os,H.tape,H.output,h,hs,abi (n:=n+1) hx⟩
theorem Sat.cg (H:Sat g w l) (h:l=l'):Sat g w l':=h ▸ H
theorem YT (h:A=B) (t:l=l'):A::l=B::l':=by rw [h,t]
theorem Ro (h:xs=ys):Sl e s en v xs=Sl e s en v ys:=by rw [h]
theorem Mf (h:cs=cs'):Pt p cs e=Pt p cs' e:=by rw [h]
theorem WQ {i:Nat} {x y:α} (h:xs[i]?=some x):(xs.set i y)[i]?=some y:=by rw [lyb (lca.1 h).1]
end
end YZ
namespace XV
open Go YZ Go.RowKit
end XV
namespace YZ
open Go Go.RowKit
def Vw (v:Value) (s n a h:Nat) (v':Value):Prop:=∃ad cap,v=.slice ad n cap∧h≤n∧n≤cap∧cap≤9223372036854775807∧a≤h∧v'=.slice (if cap=a then ad else ad.map (·.add (a * s))) (h-a) (cap-a)
section
variable {P:Program} {g:Zv} {w:World} {l:List As} {K:Value→World→Prop} {α:Type} {en:α→List Value} {ok:α→Prop} {s j n a h i b o:Nat} {v v':Value} {xs:List α} {e t ty:TypeId}
theorem Sat.vw (H:Sat g w l) (j:Nat) (hj:l[j]?=some (Sl e s en v xs)) (a h:Nat) (ha:a≤h) (hh:h≤xs.length):∃v',Vw v s xs.length a h v':=by
 rcases (H.off j hj).1 with ⟨rfl,rfl⟩|⟨g,o,cap,cur,rfl,_,_,_,hnc,SB,_⟩
 ·exact ⟨_,none,0,rfl,hh,lRa _,by omega,ha,rfl⟩
 ·exact ⟨_,_,cap,rfl,hh,hnc,SB,ha,rfl⟩
theorem VP {lo hi:Option Value} (V:Vw v s n a h v') (ht:P.underlying t=some (.slice e)) (hsz:(P.info? e).map (fun i=>i.size)=some s)
  (hlo:lo=none∧a=0∨∃k,lo=some (.int k a)) (hhi:hi=none∧h=n∨∃k,hi=some (.int k h)) (k:K v' w):Zi P (Instr.sliceAt t v lo hi none) w K:=by
 obtain ⟨ad,cap,rfl,hh,hnc,_,ha,rfl⟩:=V
 have hb:(Instr.sliceBounds true n cap lo hi none).run P w=.ok (a,h,cap) w:=by
  unfold Instr.sliceBounds
  rcases hlo with ⟨rfl,rfl⟩|⟨kl,rfl⟩ <;> rcases hhi with ⟨rfl,rfl⟩|⟨kh,rfl⟩
  ·simp
  ·simp [run_sliceBound (P:=P) w kh (h:Int) cap _ qo qo]
  ·simp [run_sliceBound (P:=P) w kl (a:Int) h _ qo qo]
  ·simp [run_sliceBound (P:=P) w kh (h:Int) cap _ qo qo,run_sliceBound (P:=P) w kl (a:Int) h _ qo qo]
 exact F6 ht hsz hb k
theorem Ke (V:Vw v s n a h v') (ht:P.underlying t=some (.slice e)) (k:K (.int .i64 ((h-a:Nat):Int)) w):Zi P (Builtin.len_ #[t] ty #[v']) w K:=by
 obtain ⟨ad,cap,rfl,hh,hnc,_,ha,rfl⟩:=V
 exact WM ht k
theorem Sat.rdv (H:Sat g w l) (j:Nat) (hj:l[j]?=some (Sl e s en v xs)) (V:Vw v s n a h v') (hok:∀x∈(xs.take h).drop a,ok x):Rd en ok s w v' ((xs.take h).drop a):=by
 have ho:=H.off j hj
 obtain ⟨ad,cap,rfl,hh,hnc,_,ha,rfl⟩:=V
 obtain ⟨a',c',hf⟩:=H.form j hj
 injection hf with _ h2 _
 exact (ho.cut ha qo).rd hok
theorem Vw.le (V:Vw v s n a h v'):h≤n∧a≤h:=by
 obtain ⟨ad,cap,rfl,hh,hnc,_,ha,rfl⟩:=V;exact ⟨hh,ha⟩
theorem Vw.one (V:Vw v s n a h v'):v'.oneCell'=true:=by obtain ⟨ad,cap,rfl,hh,hnc,_,ha,rfl⟩:=V;rfl
theorem Vw.el (V:Vw v s n a h v') (E:El v s (a+i) b o) (hi:i<h-a):El v' s i b o:=by
 obtain ⟨ad,cap,rfl,hh,hnc,_,ha,rfl⟩:=V
 obtain ⟨b0,n',c,hv,h1,rfl⟩:=E
 injection hv with e1 e2 e3
 subst e1
 refine ⟨b0+a * s,h-a,cap-a,?_,hi,by rw [lMb];omega⟩
 rw [if_neg qo]
 simp [Addr.add_lit]
end
end YZ
namespace YZ
open Go Go.RowKit
end YZ
namespace XV
open Go YZ Go.RowKit
theorem ahe {x:Nat} (h:x<128):x ||| 128=x+128:=by
 have:=Nat.two_pow_add_eq_or_of_lt (i:=7) h 1
 rw [lac] at this
 rw [Nat.or_comm]
 show 2 ^ 7 ||| x=x+128
 rw [←this];omega
theorem U1 (n:Int) (w:World):Fc Tryz.prog 168 #[.int .u64 n] w (fun v w'=>v=.bool (HG n 128)∧w=w'):=by
 refine Fc.of Tryz.func168 rfl k_i ?_
 have H:=Sat.start w
 refine Z6.mk ?_
 exact ⟨rfl,rfl⟩
theorem afX (n:Int) (m0:Nat) (hm0:n=(m0:Int)) (hn:m0<2 ^ 64) (w:World):Fc Tryz.prog 167 #[.int .u64 n,.func (.func 168) #[] #[]] w
  (fun v w'=>∃l,v=.string (bs l)∧l=Xt m0∧Sat (WA w) w' []):=by
 subst hm0
 have hlen:(Xt m0).length≤10:=Ok 9 m0 qo
 refine Fc.of Tryz.func167 rfl k_i ?_
 have H:=Sat.start w
 refine YP.rule (α:=Nat × Value × List UInt8) (m0,.slice none 0 0,[]) (fun x_=>[(0,.int .u64 x_.1),(5,x_.2.1)]) (fun x_ w_=>(x_.2.2++Xt x_.1=Xt m0)∧(x_.1<2 ^ 64)∧Sat (WA w) w_ ((Sl 5 1 Tu x_.2.1 x_.2.2::[]))) (fun x_=>x_.1) ?_ ?_ ?_
 ·exact k_b
 ·try simp only
  refine ⟨rfl,?_⟩
  refine ⟨qa,?_⟩
  replace H:=H.UK (en:=Tu) (s:=1) (5) (fun _=>rfl)
  exact H
 clear H
 rintro ⟨m,vo,l⟩ f_ w_ ⟨hl,hm,H⟩
 try simp only at hl hm H ⊢
 have DQ:l.length+(Xt m).length≤10:=by rw [←lba,hl];exact hlen
 have hpos:=adP m
 have e0:TY .u64 (m:Int) 127=((m % 128:Nat):Int):=by rw [Mm];omega
 by_cases h:m<128
 ·have hu:=RJ h
  rw [hu] at hl
  refine Z7.mk (Fc.imp (XV.U1 _ _) ?_)
  rintro _ _ ⟨rfl,rfl⟩
  refine cF (JA (Y4 qo))<|W6.mk _ e0<|TU qo rfl rfl<|ZY H rfl rfl rfl rfl<|fun p1 w1 H=>?_
  have KY:=Ki (x:=(↑(m % 128):Int)) (n:=(m % 128)) qo
  rw [KY] at H
  clear KY
  refine Wk (ys:=[_]) 1 H 1 rfl (H.at 0 rfl) rfl (fun y _=>rfl) rfl rfl rfl qo qo<|fun v1=>?_
  intro w2 H
  refine SU H 1 rfl rfl rfl rfl<|Z6.mk ?_
  refine ⟨l++[UInt8.ofNat (m % 128)],?_⟩
  refine ⟨rfl,?_⟩
  refine ⟨?_,?_⟩
  ·(rw [Nat.mod_eq_of_lt h];exact hl)
  refine H.firsts 0<|fun H=>?_
  exact H
 ·have hu:=Qv (n:=m) qo
  rw [hu] at hl
  have ho:m % 128 ||| 128=m % 128+128:=by
   exact ahe qo
  refine Z7.mk (Fc.imp (XV.U1 _ _) ?_)
  rintro _ _ ⟨rfl,rfl⟩
  refine cT (IG (Zl qo))<|bk<|W6.mk _ e0<|TU qo rfl rfl ?_
  (refine adV ((m % 128)) (128) qo qo qo qo ?_;intro hB)
  refine ZY H rfl rfl rfl rfl<|fun p1 w1 H=>?_
  have KY:=Ki (x:=(↑(m % 128 ||| 128):Int)) (n:=(m % 128 ||| 128)) qo
  rw [KY] at H
  clear KY
  refine Wk (ys:=[_]) 1 H 1 rfl (H.at 0 rfl) rfl (fun y _=>rfl) rfl rfl rfl qo qo<|fun v1=>?_
  intro w2 H
  refine YN.mk (by decide)<|Vv 7 128 rfl rfl (by decide) ?_
  refine WN.mk ((m / 128,v1,l++[UInt8.ofNat (m % 128 ||| 128)])) (Zo rfl k_c (ZL rfl (ZT))) ?_ ?_
  ·refine ⟨?_,?_⟩
   ·(rw [ho,lma];exact hl)
   refine ⟨qo,?_⟩
   refine H.Z8 [1]<|fun H=>H.firsts 1<|fun H=>?_
   exact H
  omega
theorem U (n:Int) (m0:Nat) (hm0:n=(m0:Int)) (hn:m0<2 ^ 64) (w:World):Fc Tryz.prog 122 #[.int .u64 n] w (fun v w'=>∃l,v=.string (bs l)∧l=Xt m0∧l.length≤10∧Sat (WA w) w' []):=by
 subst hm0
 have hlen:(Xt m0).length≤10:=Ok 9 m0 qo
 refine Fc.of Tryz.func122 rfl k_i ?_
 have H:=Sat.start w
 refine Z7.mk (Fc.imp (XV.afX _ (m0) qo qa _) ?_)
 rintro _ w1 ⟨l1,⟨rfl,⟨h1,H'⟩⟩⟩
 refine H.XZ H' ?_
 clear H H'
 intro H
 refine Z6.mk ?_
 refine ⟨l1,?_⟩
 refine ⟨rfl,?_⟩
 refine ⟨qa,?_⟩
 refine ⟨?_,?_⟩
 ·(rw [h1];exact hlen)
 exact H
end XV
namespace YZ
open Go Go.RowKit
structure Ext (g g':Zv):Prop where
 os:g'.os=g.os
 tape:g'.tape=g.tape
 output:g'.output=g.output
 fr:∀k o,g.fr k=some o→g'.fr k=some o
theorem Ext.refl (g:Zv):Ext g g:=⟨rfl,rfl,rfl,fun _ _ h=>h⟩
theorem Ext.trans {a b c:Zv} (h:Ext a b) (k:Ext b c):Ext a c:=⟨k.os.trans h.os,k.tape.trans h.tape,k.output.trans h.output,fun _ _ x=>k.fr _ _ (h.fr _ _ x)⟩
theorem Ext.hle {g g':Zv} (E:Ext g g'):K3 (Gh g) (Gh g'):=fun b o h=>E.fr b o h
section
variable {P:Program} {g g':Zv} {w w':World} {l:List As} {A:As} {α:Type} {en:α→List Value} {ok ok':α→Prop} {s j b o:Nat} {v:Value} {xs:List α} {vs:List Value} {e:TypeId}
theorem ZZ.ext (h:ZZ g en ok s v xs) (E:Ext g g'):ZZ g' en ok s v xs:=VS.mono (RE.mono' en ok) h E.hle
theorem No.ext (h:No g b o vs) (E:Ext g g'):No g' b o vs:=GB.mono h E.hle
theorem ZZ.FU (h:ZZ g en ok s v xs) (hm:∀x∈xs,ok x→ok' x):ZZ g en ok' s v xs:=by
 obtain ⟨a,cap,h1,h2,h3,h4⟩:=h
 exact ⟨a,cap,h1,h2,h3,fun hx=>let ⟨b,o,news,e,k1,k2⟩:=h4 hx;⟨b,o,news,e,k1,k2.1,fun i x hx=>⟨(k2.2 i x hx).1,hm x (lha hx) (k2.2 i x hx).2⟩⟩⟩
theorem ZZ.UU {ok:Zv→α→Prop} (hm:∀(g g':Zv) (x:α),ok g x→Ext g g'→ok g' x) (h:ZZ g en (ok g) s v xs) (E:Ext g g'):ZZ g' en (ok g') s v xs :=
 ZZ.FU (ZZ.ext h E) fun _ _ k=>hm _ _ _ k E
theorem ZZ.all (h:ZZ g en ok s v xs):∀x∈xs,ok x:=fun x hx=>by
 obtain ⟨a,cap,h1,h2,h3,h4⟩:=h
 obtain ⟨b,o,news,e,k1,k2⟩:=h4 (List.ne_nil_of_mem hx)
 obtain ⟨i,hi,rfl⟩:=lFb.1 hx
 exact (k2.2 i _ (laa hi)).2
theorem Rd.tt {w:World} (h:Rd en ok s w v xs):Rd en (fun _=>True) s w v xs:=by
 obtain ⟨a,cap,h1,h2,h3,h4⟩:=h
 exact ⟨a,cap,h1,h2,h3,fun hx=>let ⟨b,o,news,e,k1,k2⟩:=h4 hx;⟨b,o,news,e,k1,k2.1,fun i x hx=>⟨(k2.2 i x hx).1,trivial⟩⟩⟩
theorem ZZ.one (h:ZZ g en ok s v xs):v.oneCell'=true:=by obtain ⟨a,cap,rfl,_⟩:=h;rfl
theorem ZZ.form (h:ZZ g en ok s v xs):∃a c,v=.slice a xs.length c:=by obtain ⟨a,cap,rfl,_⟩:=h;exact ⟨_,_,rfl⟩
theorem ZZ.N9 (g:Zv) (en:α→List Value) (ok:α→Prop) (s:Nat):ZZ g en ok s (.slice none 0 0) []:=VS.nil _ _ _
theorem Sat.afY (H:Sat g w l) (hj:l[j]?=some A):∃g' a,Ext g g'∧A a∧(∀k o,a k=some o→g'.fr k=some o)∧Sat g' w (l.eraseIdx j):=by
 obtain ⟨h,hs,f,b,h1,h2,h3⟩:=H.ex
 obtain rfl:f=g.fr:=h2
 obtain ⟨a,c,h4,h5,h6⟩:=(SV hj).1 h3
 refine ⟨{ g with fr:=fun k=>match a k with
  | some o=>some o
  | none=>g.fr k },a,⟨rfl,rfl,rfl,fun k o hk=>?_⟩,h5,fun k o hk=>?_,H.os,H.tape,H.output,h,hs,_,c,fun k=>?_,rfl,h6⟩
 ·dsimp only
  cases ha:a k with
  | none=>exact hk
  | some o' =>
   exfalso
   rcases h1 k with ⟨_,q⟩|⟨q,_⟩
   ·rcases h4 k with ⟨r,_⟩|⟨r,_⟩
    ·rw [ha,q] at r;cases r
    ·rw [ha] at r;cases r
   ·rw [hk] at q;cases q
 ·dsimp only;rw [hk]
 ·dsimp only
  rcases h1 k with ⟨q1,q2⟩|⟨q1,q2⟩
  ·rcases h4 k with ⟨r1,r2⟩|⟨r1,r2⟩
   ·left;rw [r1,q2];exact ⟨q1,r2⟩
   ·left;rw [r1];exact ⟨q1,r2.trans q2⟩
  ·rcases h4 k with ⟨r1,r2⟩|⟨r1,r2⟩
   ·cases ha:a k with
    | none =>
     right
     dsimp only
     exact ⟨q1,by rw [r2,←q2,←r1,ha]⟩
    | some o=>left;dsimp only;exact ⟨by rw [←q2,←r1,ha],r2⟩
   ·right;rw [r1];exact ⟨q1,r2.trans q2⟩
theorem Sl.rdf {a:Hp} (h:Sl e s en v xs a) (hf:∀k o,a k=some o→g.fr k=some o) (hok:∀x∈xs,ok x):ZZ g en ok s v xs:=by
 rcases h.1 with ⟨rfl,rfl⟩|⟨gb,o,cap,cur,rfl,hb,hfit,hnc,SB,ht⟩
 ·exact VS.nil _ _ _
 ·refine ⟨_,cap,rfl,⟨hnc,SB⟩,nofun,fun _=>⟨gb,o,xs.flatMap en,rfl,⟨cur.toArray,e,(0,0),hf _ _ hb,fun i x hx=>?_⟩,YI h.2 xs,fun i x hx=>⟨Tj h.2 xs i x hx,hok x (lha hx)⟩⟩⟩
  rw [←ht,lAa] at hx
  split at hx
  ·rw [lNa] at hx;simpa using hx
  ·cases hx
theorem Sat.freeze (H:Sat g w l) (hj:l[j]?=some (Sl e s en v xs)) (hok:∀x∈xs,ok x):∃g',Ext g g'∧ZZ g' en ok s v xs∧Sat g' w (l.eraseIdx j):=by
 obtain ⟨g',a,E,h1,h2,h3⟩:=H.afY hj
 exact ⟨g',E,h1.rdf h2 hok,h3⟩
theorem Sat.SN {G:Prop} (H:Sat g w l) (j:Nat) (ok:α→Prop) (hj:l[j]?=some (Sl e s en v xs)) (hok:∀x∈xs,ok x) (k:∀g',Ext g g'→ZZ g' en ok s v xs→Kj l j fun l'=>Sat g' w l'→G):G:=by
 obtain ⟨g',E,h1,h2⟩:=H.freeze hj hok
 have k:=k g' E h1
 rw [Qr] at k;exact k h2
theorem Sat.taken (H:Sat g w l) (n:Nat):Sat g w (l.take n):=by
 obtain ⟨h,hs,hx⟩:=H.ex
 exact ⟨H.os,H.tape,H.output,h,hs,abi (n:=n+1) hx⟩
theorem Sat.tl (H:Sat g w (A::l)):Sat g w l:=H.del 0
theorem Sat.forget (H:Sat g' w l) (E:Ext g g'):Sat g w l:=by
 obtain ⟨h,hs,f,b,h1,h2,h3⟩:=H.ex
 obtain rfl:f=g'.fr:=h2
 refine ⟨H.os.trans E.os,H.tape.trans E.tape,H.output.trans E.output,fun k=>match b k with
  | some o=>some o
  | none=>g.fr k,fun k o hk=>?_,g.fr,b,fun k=>?_,rfl,h3⟩
 ·dsimp only at hk
  cases hb:b k with
  | some o' =>
   rw [hb] at hk
   obtain rfl:=Option.some.inj hk
   rcases h1 k with ⟨_,q⟩|⟨_,q⟩
   ·rw [hb] at q;cases q
   ·exact hs k _ (q ▸ hb)
  | none =>
   rw [hb] at hk
   have:=E.fr k o hk
   rcases h1 k with ⟨q,_⟩|⟨q,_⟩
   ·exact hs k _ (q ▸ this)
   ·rw [this] at q;cases q
 ·dsimp only
  cases hb:b k with
  | none=>left;exact ⟨rfl,rfl⟩
  | some o =>
   right
   refine ⟨?_,rfl⟩
   cases hg:g.fr k with
   | none=>rfl
   | some o' =>
    have:=E.fr k o' hg
    rcases h1 k with ⟨_,q⟩|⟨q,_⟩
    ·rw [hb] at q;cases q
    ·rw [this] at q;cases q
theorem Ext.fin {w0:World} (E:Ext (WA w0) g) (H:Sat g w l):Below w0.heap.size w0 w:=(H.forget E).finish
theorem Ext.start {w0:World} (E:Ext (WA w0) g) (H:Sat g w l):Sat (WA w0) w l:=H.forget E
end
end YZ
namespace YZ
open Go
theorem Fc.Me {P:Program} {f:FuncId} {fn:Func} {c:Code} {args:Array Value} {w:World} {R:Value→World→Prop}
  (hf:P.funcs[f]?=some fn) (hb:fn.body=some c) (hn:(fn.name == "runtime.NumGoroutine")=false) (h:Calls P f args w fun e w'=>∃v,e=.returned v∧R v w'):Fc P f args w R:=by
 refine ⟨?_,h⟩
 simp only [callFunc,Sem.run_bind,program,Sem.run,Result.andThen_ok,hf]
 rw [if_neg (by rw [hn];decide),if_neg (by rw [hb];simp)]
 rfl
end YZ
namespace XV
open Go Go.Lib
end XV
namespace G6
open XV
structure RS where
 at_:Nat
 bad:Int
abbrev OZ (α:Type):=List UInt8→RS→α × RS
def IE (e:Int) (r:RS):RS:=if r.bad=0 then ⟨r.at_,e⟩ else r
def Um:OZ Int:=fun s r=>if r.bad≠0 then (0,r) else match s[r.at_]? with
 | none=>(0,⟨r.at_,3⟩)
 | some c=>(c.toNat,⟨r.at_+1,0⟩)
def Wr:OZ Int:=fun s r=>if r.bad≠0 then (0,r) else ((Kv 32 (s.drop r.at_) 0 0).1,⟨r.at_+(Kv 32 (s.drop r.at_) 0 0).2.1,(Kv 32 (s.drop r.at_) 0 0).2.2⟩)
def VM (bits:Nat):OZ Int:=fun s r=>if r.bad≠0 then (0,r) else ((Ml bits (s.drop r.at_) 0 0).1,⟨r.at_+(Ml bits (s.drop r.at_) 0 0).2.1,(Ml bits (s.drop r.at_) 0 0).2.2⟩)
def VO {α:Type} (v:α):OZ α:=fun _ r=>(v,r)
def Xs {α β:Type} (p:OZ α) (q:α→OZ β):OZ β:=fun s r=>q (p s r).1 s (p s r).2
def UJ (e:Int):OZ Unit:=fun _ r=>((),IE e r)
def ZV {α:Type} (p:OZ α):Prop:=∀s r,r.bad≠0→(p s r).2=r
structure Tx {α:Type} (A:List UInt8) (p:OZ α) (v:α):Prop where
 whole:∀s k rest,s.drop k=A++rest→p s ⟨k,0⟩=(v,⟨k+A.length,0⟩)
 cut:∀s k j,s.drop k=A.take j→j<A.length→(p s ⟨k,0⟩).2.bad=3
theorem ZV.ret {α:Type} (v:α):ZV (VO v):=fun _ _ _=>rfl
theorem ZV.Ra:ZV Um:=fun s r h=>by unfold Um;rw [if_pos h]
theorem ZV.plain:ZV Wr:=fun s r h=>by unfold Wr;rw [if_pos h]
theorem ZV.signed (b:Nat):ZV (VM b):=fun s r h=>by unfold VM;rw [if_pos h]
theorem ZV.fail (e:Int):ZV (UJ e):=fun s r h=>by unfold UJ IE;rw [if_neg h]
theorem ZV.bind {α β:Type} {p:OZ α} {q:α→OZ β} (hp:ZV p) (hq:∀v,ZV (q v)):ZV (Xs p q):=fun s r h=>by
 unfold Xs
 rw [hp s r h];exact hq _ s r h
theorem Tx.ret {α:Type} (v:α):Tx [] (VO v) v:=⟨fun s k rest _=>rfl,fun s k j _ h=>absurd h (Nat.not_lt_zero j)⟩
theorem Tx.bind {α β:Type} {A B:List UInt8} {p:OZ α} {q:α→OZ β} {v:α} {u:β} (hp:Tx A p v) (hq:Tx B (q v) u) (hs:∀v,ZV (q v)):Tx (A++B) (Xs p q) u:=by
 refine ⟨fun s k rest h=>?_,fun s k j h hj=>?_⟩
 ·have h1:=hp.whole s k (B++rest) (by rw [h,lma])
  unfold Xs
  rw [h1]
  have h2:s.drop (k+A.length)=B++rest:=by rw [←lub0,h,lma,List.drop_left]
  rw [hq.whole s _ rest h2,lba,lVb]
 ·unfold Xs
  by_cases hja:j<A.length
  ·rw [lya (ldb hja)] at h
   have h1:=hp.cut s k j h hja
   rw [hs _ s _ (by rw [h1];decide),h1]
  ·have hj2:j=A.length+(j-A.length):=by omega
   rw [hj2,List.take_append,lxa qo,Nat.add_sub_cancel_left] at h
   have h1:=hp.whole s k _ h
   rw [h1]
   refine hq.cut s _ (j-A.length) ?_ (by rw [lba] at hj;omega)
   rw [←lub0,h,List.drop_left]
theorem Tx.Ra (c:UInt8):Tx [c] Um (c.toNat:Int):=by
 refine ⟨fun s k rest h=>?_,fun s k j h hj=>?_⟩
 ·have hc:s[k]?=some c:=by
   have:=congrArg (·[0]?) h
   simpa [List.getElem?_drop] using this
  unfold Um
  rw [if_neg qs]
  simp only [hc];rfl
 ·obtain rfl:j=0:=by simp at hj;exact hj
  have hc:s[k]?=none:=by
   rw [lfc] at h
   exact lSa (List.drop_eq_nil_iff.1 h)
  unfold Um
  rw [if_neg qs]
  simp only [hc]
theorem Tx.adZ (n:Int) (h:0≤n∧n≤255):Tx [UInt8.ofNat n.toNat] Um n:=by
 have:=Tx.Ra (UInt8.ofNat n.toNat)
 rw [Wh qo] at this
 rw [show ((n.toNat:Nat):Int)=n by omega] at this
 exact this
theorem Tx.plain (n:Nat) (h:n<2 ^ 32):Tx (Xt n) Wr (n:Int):=by
 refine ⟨fun s k rest hd=>?_,fun s k j hd hj=>?_⟩
 ·unfold Wr
  rw [if_neg qs]
  simp only [hd,ajD n rest h];rfl
 ·unfold Wr
  rw [if_neg qs]
  simp only [hd]
  rw [afM 32 n 0 0 j (by decide) (by simpa using h) hj];rfl
theorem Tx.ad0 (n:Int) (h:-2147483648≤n∧n≤2147483647):Tx (VK n) (VM 32) n:=by
 refine ⟨fun s k rest hd=>?_,fun s k j hd hj=>?_⟩
 ·unfold VM
  rw [if_neg qs]
  simp only [hd,ajC n rest h];rfl
 ·unfold VM
  rw [if_neg qs]
  simp only [hd]
  rw [acq 32 _ n 0 0 j (lra _) (by decide) (by simp;omega) (by simp;omega) hj];rfl
theorem Tx.ad1 (n:Int) (h:-9223372036854775808≤n∧n≤9223372036854775807):Tx (VK n) (VM 64) n:=by
 refine ⟨fun s k rest hd=>?_,fun s k j hd hj=>?_⟩
 ·unfold VM
  rw [if_neg qs]
  simp only [hd,ajB n rest h];rfl
 ·unfold VM
  rw [if_neg qs]
  simp only [hd]
  rw [acq 64 _ n 0 0 j (lra _) (by decide) (by simp;omega) (by simp;omega) hj];rfl
def Gt {α:Type} (p:OZ α) (Q:α→Nat→Prop):Prop:=∀s k,k≤s.length→(p s ⟨k,0⟩).2.bad=0→(p s ⟨k,0⟩).2.at_≤s.length∧∃n,(p s ⟨k,0⟩).2.at_=k+n∧Q (p s ⟨k,0⟩).1 n
theorem Gt.imp {α:Type} {p:OZ α} {Q Q':α→Nat→Prop} (h:Gt p Q) (hq:∀v n,Q v n→Q' v n):Gt p Q':=fun s k hk h0=>by
 obtain ⟨h1,n,h2,h3⟩:=h s k hk h0
 exact ⟨h1,n,h2,hq _ _ h3⟩
theorem Gt.ret {α:Type} (v:α):Gt (VO v) (fun u n=>u=v∧n=0):=fun s k hk _=>⟨hk,0,rfl,rfl,rfl⟩
theorem Gt.bind {α β:Type} {p:OZ α} {q:α→OZ β} {Q:α→Nat→Prop} {Q':α→β→Nat→Prop} (hp:Gt p Q) (hq:∀v n,Q v n→Gt (q v) (Q' v)) (hs:∀v,ZV (q v)) :
  Gt (Xs p q) (fun u n=>∃v m m',Q v m∧Q' v u m'∧n=m+m'):=fun s k hk h0=>by
 have h0':(q (p s ⟨k,0⟩).1 s (p s ⟨k,0⟩).2).2.bad=0:=h0
 show (q (p s ⟨k,0⟩).1 s (p s ⟨k,0⟩).2).2.at_≤_∧∃n,(q (p s ⟨k,0⟩).1 s (p s ⟨k,0⟩).2).2.at_=_∧∃v m m',_∧Q' v (q (p s ⟨k,0⟩).1 s (p s ⟨k,0⟩).2).1 m'∧_
 have DP:=hp s k hk
 generalize p s ⟨k,0⟩=pr at *
 obtain ⟨v,⟨k1,b1⟩⟩:=pr
 have hb:b1=0:=by
  apply Decidable.byContradiction
  intro hb
  rw [hs v s _ hb] at h0'
  exact hb h0'
 subst hb
 obtain ⟨h1,m,h2,h3⟩:=DP rfl
 obtain ⟨h4,m',h5,h6⟩:=hq v m h3 s k1 h1 h0'
 simp only at h1 h2 h4 h5
 exact ⟨h4,m+m',by rw [h5,h2,lVb],v,m,m',h3,h6,rfl⟩
theorem Gt.Ra:Gt Um (fun v n=>0≤v∧v≤255∧n=1):=fun s k hk h0=>by
 unfold Um at *
 rw [if_neg qs] at *
 cases hc:s[k]? with
 | none=>simp [hc] at h0
 | some c =>
  have hl:=(lca.1 hc).1
  have:=c.toNat_lt
  simp only [hc]
  exact ⟨hl,1,rfl,by omega,by omega,rfl⟩
theorem Gt.plain:Gt Wr (fun v n=>∃m:Nat,v=m∧m<2 ^ 32∧(Xt m).length≤n):=fun s k hk h0=>by
 unfold Wr at *
 rw [if_neg qs] at *
 simp only at h0 ⊢
 have hb:=ahT 32 (s.drop k) 0 0 (by decide) (.inl rfl) (by decide)
 rcases hr:Kv 32 (s.drop k) 0 0 with ⟨n,m,e⟩
 rw [hr] at h0 hb
 simp only at h0 hb ⊢
 obtain rfl:e=0:=by omega
 obtain ⟨h1,h2,h3⟩:=ada 32 (s.drop k) 0 0 n m (by decide) hr
 rw [lIa] at h3
 exact ⟨by omega,m,rfl,n,rfl,hb,ab0 h1 h2⟩
theorem Gt.signed (b:Nat) (hb:b=32∨b=64):Gt (VM b) (fun v n=>-((2 ^ (b-1):Nat):Int)≤v∧v<((2 ^ (b-1):Nat):Int)∧(VK v).length≤n):=fun s k hk h0=>by
 unfold VM at *
 rw [if_neg qs] at *
 simp only at h0 ⊢
 have hbd:=ahU b (s.drop k) 0 0 qo hb (by decide)
 rcases hr:Ml b (s.drop k) 0 0 with ⟨n,m,e⟩
 rw [hr] at h0 hbd
 simp only at h0 hbd ⊢
 obtain rfl:e=0:=by omega
 obtain ⟨h1,h2,h3,h4⟩:=adb b (s.drop k) 0 0 n m (by decide) hr
 rw [lIa] at h4
 exact ⟨by omega,m,rfl,hbd.1,hbd.2,ab1 h1 h2 qo⟩
end G6
namespace YS
open XV G6
structure ZU where
 op:Int
 a:Int
 b:Int
 to:List Int
def wid (o:Int):Int :=
 if o=44∨o=45∨o=48∨o=49∨o=58∨o=60 then 1
 else if o=46∨o=47∨o=50∨o=51∨o=59∨o=61 then 2
 else if o=40∨o=52∨o=53∨o=54∨o=62 then 4
 else if o=41∨o=55 then 8 else 0
def kd (o b:Int):Int:=if o<b then 127 else 126
def X7 (o:Int):List Int × Int × Bool :=
 if o=69∨o=80 then ([kd o 80],127,true)
 else if 69<o∧o≤90 then ([kd o 80,kd o 80],127,true)
 else if (103≤o∧o≤105)∨(121≤o∧o≤123) then ([kd o 121],kd o 121,true)
 else if 106≤o∧o≤138 then ([kd o 121,kd o 121],kd o 121,true)
 else if o=167 then ([126],127,true)
 else if o=172∨o=173 then ([127],126,true)
 else if 192≤o∧o≤196 then ([kd o 194],kd o 194,true)
 else ([],0,false)
def YR (o:Int):Int :=
 if o=2∨o=3∨o=4 then 2
 else if o=12∨o=13∨o=16∨(32≤o∧o≤36) then 3
 else if o=14 then 4
 else if o=17 then 5
 else if 0<wid o then 6
 else if o=63∨o=64 then 7
 else if o=65 then 8
 else if o=66 then 9
 else if o≤1∨o=5∨o=11∨o=15∨o=26∨o=27 then 1
 else if (X7 o).2.2=true then 1 else 0
def XL (n:Int):Prop:=0≤n∧n≤4294967295
instance (n:Int):Decidable (XL n):=by unfold XL;infer_instance
def Ze (k a b:Int):Prop :=
 if k=1∨k=7 then a=0
 else if k=2 then a=64∨a=127∨a=126
 else if k=8 then -2147483648≤a∧a≤2147483647
 else if k=6 then XL a∧XL b
 else if k=3∨k=4∨k=5 then XL a else True
instance (k a b:Int):Decidable (Ze k a b):=by unfold Ze;infer_instance
def WK (x:ZU):Int :=
 if YR x.op=0 then 6
 else if 16<x.to.length then 2
 else if (YR x.op≠4∧0<x.to.length)∨(YR x.op≠6∧x.b≠0) then 1
 else if Ze (YR x.op) x.a x.b∧∀n∈x.to,XL n then 0 else 1
def Gv (n:Int):UInt8:=UInt8.ofNat (n % 256).toNat
def QV (k:Int) (x:ZU):List UInt8 :=
 if k=2 then [Gv x.a]
 else if k=3 then Xt x.a.toNat
 else if k=4 then Xt x.to.length++(x.to.flatMap (fun n=>Xt n.toNat)++Xt x.a.toNat)
 else if k=5 then Xt x.a.toNat++[0]
 else if k=6 then Xt x.a.toNat++Xt x.b.toNat
 else if k=7 then [0]
 else if k=8∨k=9 then VK x.a
 else []
def Ex (x:ZU):List UInt8:=Gv x.op::QV (YR x.op) x
def N8:Nat→OZ (List Int)
 | 0=>VO []
 | n+1=>Xs Wr fun v=>Xs (N8 n) fun l=>VO (v::l)
def RF:OZ Unit:=Xs Um fun v=>if v≠0 then UJ 4 else VO ()
def ad2 (o:Int):OZ ZU:=Xs Um fun k=>Xs (if k≠64∧k≠127∧k≠126 then UJ 6 else VO ()) fun _=>VO ⟨o,k,0,[]⟩
def ahf (o:Int):OZ ZU:=Xs Wr fun n=>Xs (if 16<n then UJ 2 else VO ()) fun _=>Xs (N8 (if 16<n then 0 else n.toNat)) fun l=>Xs Wr fun a=>VO ⟨o,a,0,l⟩
def KX (o k:Int):OZ ZU :=
 if k=2 then ad2 o
 else if k=3 then Xs Wr fun a=>VO ⟨o,a,0,[]⟩
 else if k=4 then ahf o
 else if k=5 then Xs Wr fun a=>Xs RF fun _=>VO ⟨o,a,0,[]⟩
 else if k=6 then Xs Wr fun a=>Xs Wr fun b=>VO ⟨o,a,b,[]⟩
 else if k=7 then Xs RF fun _=>VO ⟨o,0,0,[]⟩
 else if k=8 then Xs (VM 32) fun a=>VO ⟨o,a,0,[]⟩
 else if k=9 then Xs (VM 64) fun a=>VO ⟨o,a,0,[]⟩
 else VO ⟨o,0,0,[]⟩
def Kc:OZ ZU:=Xs Um fun o=>Xs (if YR o=0 then UJ 6 else VO ()) fun _=>KX o (YR o)
def ajT:ZU:=⟨0,0,0,[]⟩
def I1 (s:List UInt8):ZU × Nat × Int :=
 if (Kc s ⟨0,0⟩).2.bad=0 then ((Kc s ⟨0,0⟩).1,(Kc s ⟨0,0⟩).2.at_,0) else (ajT,0,(Kc s ⟨0,0⟩).2.bad)
theorem ZV.many:∀n,ZV (N8 n)
 | 0=>ZV.ret _
 | n+1=>ZV.plain.bind fun _=>(ZV.many n).bind fun _=>ZV.ret _
theorem ZV.TB:ZV RF:=ZV.Ra.bind fun v=>by
 split
 ·exact ZV.fail _
 ·exact ZV.ret _
theorem ZV.ite {α:Type} {c:Prop} [Decidable c] {p q:OZ α} (hp:ZV p) (hq:ZV q):ZV (if c then p else q):=by split <;> assumption
theorem ZV.block (o:Int):ZV (ad2 o):=ZV.Ra.bind fun v=>(ZV.ite (ZV.fail _) (ZV.ret _)).bind fun _=>ZV.ret _
theorem ZV.ways (o:Int):ZV (ahf o):=ZV.plain.bind fun n=>(ZV.ite (ZV.fail _) (ZV.ret _)).bind fun _=>(ZV.many _).bind fun _=>ZV.plain.bind fun _=>ZV.ret _
theorem ZV.YR (o k:Int):ZV (KX o k):=by
 unfold KX
 refine ZV.ite (ZV.block o) (ZV.ite (ZV.plain.bind fun _=>ZV.ret _) (ZV.ite (ZV.ways o) (ZV.ite (ZV.plain.bind fun _=>ZV.TB.bind fun _=>ZV.ret _) (ZV.ite (ZV.plain.bind fun _=>ZV.plain.bind fun _=>ZV.ret _) (ZV.ite (ZV.TB.bind fun _=>ZV.ret _) (ZV.ite ((ZV.signed _).bind fun _=>ZV.ret _) (ZV.ite ((ZV.signed _).bind fun _=>ZV.ret _) (ZV.ret _))))))))
theorem ZV.ins:ZV Kc:=ZV.Ra.bind fun _=>(ZV.ite (ZV.fail _) (ZV.ret _)).bind fun _=>ZV.YR _ _
theorem Tx.cg {α:Type} {A A':List UInt8} {p:OZ α} {v:α} (h:Tx A p v) (e:A=A'):Tx A' p v:=e ▸ h
theorem Tx.many:∀(l:List Int),(∀n∈l,XL n)→Tx (l.flatMap fun n=>Xt n.toNat) (N8 l.length) l
 | [],_=>Tx.ret _
 | n::l,h=>by
  obtain ⟨h1,h2⟩:=h n (lxb ..)
  have h3:=Tx.plain n.toNat qo
  rw [show ((n.toNat:Nat):Int)=n by omega] at h3
  have:=h3.bind (q:=fun v=>Xs (N8 l.length) fun l'=>VO (v::l')) ((Tx.many l fun m hm=>h m (lGb _ hm)).bind (q:=fun l'=>VO (n::l')) (Tx.ret _) fun _=>ZV.ret _) fun _=>(ZV.many _).bind fun _=>ZV.ret _
  rw [lua] at this
  exact this
theorem Tx.TB:Tx [0] RF ():=by
 have:=(Tx.Ra 0).bind (q:=fun v=>if v≠0 then UJ 4 else VO ()) (B:=[]) (u:=()) (by
  rw [if_neg (by decide)];exact Tx.ret _) fun v=>ZV.ite (ZV.fail _) (ZV.ret _)
 rw [lua] at this;exact this
theorem Tx.idx {n:Int} (h:XL n):Tx (Xt n.toNat) Wr n:=by
 obtain ⟨h1,h2⟩:=h
 have h3:=Tx.plain n.toNat qo
 rw [show ((n.toNat:Nat):Int)=n by omega] at h3
 exact h3
theorem aaB (o:Int):YR o=0∨YR o=1∨YR o=2∨YR o=3∨YR o=4∨YR o=5∨YR o=6∨YR o=7∨YR o=8∨YR o=9:=by
 unfold YR
 repeat' split
 all_goals simp
theorem ad3 {n:Int} (h:0≤n∧n≤255):Gv n=UInt8.ofNat n.toNat:=by unfold Gv;rw [Int.emod_eq_of_lt qo qo]
theorem Tx.beside {x:ZU} (h0:YR x.op≠0) (hto:x.to.length≤16) (h1:YR x.op≠4→x.to=[]) (h2:YR x.op≠6→x.b=0) (hg:Ze (YR x.op) x.a x.b) (ht:∀n∈x.to,XL n) (ha:-9223372036854775808≤x.a∧x.a≤9223372036854775807):Tx (QV (YR x.op) x) (KX x.op (YR x.op)) x:=by
 obtain ⟨o,a,b,to⟩:=x
 simp only at h0 hto h1 h2 hg ht ha ⊢
 generalize hk:YS.YR o=k at *
 have hkc:=aaB o
 rw [hk] at hkc
 unfold Ze at hg
 unfold QV KX
 rcases hkc with rfl|rfl|rfl|rfl|rfl|rfl|rfl|rfl|rfl|rfl
 ·exact absurd rfl h0
 ·simp at hg h1 h2
  simp only [h1,h2,hg]
  exact Tx.ret _
 ·simp at hg h1 h2
  simp only [h1,h2]
  have hb:0≤a∧a≤255:=by omega
  have:=(Tx.adZ a hb).bind (q:=fun k=>Xs (if k≠64∧k≠127∧k≠126 then UJ 6 else VO ()) fun _=>VO (⟨o,k,0,[]⟩:ZU)) (B:=[]++[]) (u:=⟨o,a,0,[]⟩) ((show Tx [] _ () by rw [if_neg qo];exact Tx.ret _).bind (Tx.ret _) fun _=>ZV.ret _) fun v=>(ZV.ite (ZV.fail _) (ZV.ret _)).bind fun _=>ZV.ret _
  rw [lua,lua,←ad3 hb] at this
  exact this
 ·simp at hg h1 h2
  simp only [h1,h2]
  have:=(Tx.idx hg).bind (q:=fun a=>VO (⟨o,a,0,[]⟩:ZU)) (Tx.ret _) fun _=>ZV.ret _
  rw [lua] at this
  exact this
 ·simp at hg h2
  simp only [h2]
  have hidx:XL ((to.length:Nat):Int):=⟨by omega,by omega⟩
  have hn:Tx (Xt to.length) Wr ((to.length:Nat):Int):=by have:=Tx.idx hidx;rwa [lka] at this
  have:=hn.bind (q:=fun n=>Xs (if 16<n then UJ 2 else VO ()) fun _=>Xs (N8 (if 16<n then 0 else n.toNat)) fun l=>Xs Wr fun a=>VO (⟨o,a,0,l⟩:ZU)) (B:=[]++(to.flatMap (fun n=>Xt n.toNat)++(Xt a.toNat++[]))) (u:=⟨o,a,0,to⟩) ((show Tx [] _ () by rw [if_neg qo];exact Tx.ret _).bind (by
   rw [if_neg qo,lka]
   exact (Tx.many to ht).bind ((Tx.idx hg).bind (Tx.ret _) fun _=>ZV.ret _) fun _=>ZV.plain.bind fun _=>ZV.ret _) fun _=>(ZV.many _).bind fun _=>ZV.plain.bind fun _=>ZV.ret _) fun n=>(ZV.ite (ZV.fail _) (ZV.ret _)).bind fun _=>(ZV.many _).bind fun _=>ZV.plain.bind fun _=>ZV.ret _
  rw [lTa,lua] at this
  exact this
 ·simp at hg h1 h2
  simp only [h1,h2]
  have:=(Tx.idx hg).bind (q:=fun a=>Xs RF fun _=>VO (⟨o,a,0,[]⟩:ZU)) (Tx.TB.bind (Tx.ret _) fun _=>ZV.ret _) fun _=>ZV.TB.bind fun _=>ZV.ret _
  rw [lua] at this
  exact this
 ·simp at hg h1
  simp only [h1]
  have:=(Tx.idx hg.1).bind (q:=fun a=>Xs Wr fun b=>VO (⟨o,a,b,[]⟩:ZU)) ((Tx.idx hg.2).bind (Tx.ret _) fun _=>ZV.ret _) fun _=>ZV.plain.bind fun _=>ZV.ret _
  rw [lua] at this
  exact this
 ·simp at hg h1 h2
  simp only [h1,h2,hg]
  have:=Tx.TB.bind (q:=fun _=>VO (⟨o,0,0,[]⟩:ZU)) (Tx.ret _) fun _=>ZV.ret _
  rw [lua] at this
  exact this
 ·simp at hg h1 h2
  simp only [h1,h2]
  have:=(Tx.ad0 a hg).bind (q:=fun a=>VO (⟨o,a,0,[]⟩:ZU)) (Tx.ret _) fun _=>ZV.ret _
  rw [lua] at this
  exact this
 ·simp at h1 h2
  simp only [h1,h2]
  have:=(Tx.ad1 a ha).bind (q:=fun a=>VO (⟨o,a,0,[]⟩:ZU)) (Tx.ret _) fun _=>ZV.ret _
  rw [lua] at this
  exact this
theorem ad4 {x:ZU} (h:WK x=0):YR x.op≠0∧x.to.length≤16∧(YR x.op≠4→x.to=[])∧(YR x.op≠6→x.b=0)∧Ze (YR x.op) x.a x.b∧∀n∈x.to,XL n:=by
 unfold WK at h
 split at h
 ·cases h
 split at h
 ·cases h
 split at h
 ·cases h
 split at h
 ·rename_i h1 h2 h3 h4
  refine ⟨h1,by omega,fun h5=>?_,fun h5=>?_,h4.1,h4.2⟩
  ·exact lqa (by
    apply Decidable.byContradiction
    intro h6;exact h3 (.inl ⟨h5,by omega⟩))
  ·apply Decidable.byContradiction
   intro h6;exact h3 (.inr ⟨h5,h6⟩)
 ·cases h
theorem ah2 {x:ZU} (h0:YR x.op≠0) (h1:x.to.length≤16) (h2:YR x.op≠4→x.to=[]) (h3:YR x.op≠6→x.b=0) (h4:Ze (YR x.op) x.a x.b) (h5:∀n∈x.to,XL n):WK x=0:=by
 unfold WK
 rw [if_neg h0,if_neg qo,if_neg,if_pos ⟨h4,h5⟩]
 rintro (⟨h,h6⟩|⟨h,h6⟩)
 ·rw [h2 h] at h6;simp at h6
 ·exact h6 (h3 h)
theorem Tx.ajU {x:ZU} (h:WK x=0) (hop:0≤x.op∧x.op≤255) (ha:-9223372036854775808≤x.a∧x.a≤9223372036854775807):Tx (Ex x) Kc x:=by
 obtain ⟨h0,h1,h2,h3,h4,h5⟩:=ad4 h
 have:=(Tx.adZ x.op hop).bind (q:=fun o=>Xs (if YS.YR o=0 then UJ 6 else VO ()) fun _=>KX o (YS.YR o)) (B:=[]++QV (YS.YR x.op) x) (u:=x) ((show Tx [] _ () by rw [if_neg h0];exact Tx.ret _).bind (Tx.beside h0 h1 h2 h3 h4 h5 ha) fun _=>ZV.YR _ _) fun _=>(ZV.ite (ZV.fail _) (ZV.ret _)).bind fun _=>ZV.YR _ _
 rw [lTa,←ad3 hop] at this
 exact this
theorem Gt.fail {e:Int} (he:e≠0) (Q:Unit→Nat→Prop):Gt (UJ e) Q:=fun s k _ h0=>absurd h0 (by unfold UJ IE;simpa using he)
theorem Gt.many:∀n,Gt (N8 n) (fun l m=>l.length=n∧(∀x∈l,XL x)∧(l.flatMap fun n=>Xt n.toNat).length≤m)
 | 0=>(Gt.ret _).imp fun v n ⟨h1,h2⟩=>by subst h1;exact ⟨rfl,nofun,lRa _⟩
 | n+1=>by
  refine (Gt.plain.bind (fun v m hv=>(Gt.many n).bind (fun l m hl=>Gt.ret (v::l)) fun _=>ZV.ret _) fun _=>(ZV.many _).bind fun _=>ZV.ret _).imp ?_
  rintro u k ⟨v,m,m',⟨q,rfl,hq,hl⟩,⟨l,m1,m2,⟨g1,g2,g3⟩,⟨rfl,rfl⟩,rfl⟩,rfl⟩
  refine ⟨by simp [g1],fun x hx=>?_,?_⟩
  ·rcases lbc.1 hx with rfl|hx
   ·exact ⟨by omega,by omega⟩
   ·exact g2 x hx
  ·rw [lQa,lba,lka];omega
theorem Gt.TB:Gt RF (fun _ n=>n=1):=by
 refine (Gt.Ra.bind (Q':=fun _ _ n=>n=0) (fun v n hv=>?_) fun v=>ZV.ite (ZV.fail _) (ZV.ret _)).imp ?_
 ·split
  ·exact Gt.fail (by decide) _
  ·exact (Gt.ret _).imp fun _ _ h=>h.2
 ·rintro u n ⟨v,m,m',⟨_,_,rfl⟩,rfl,rfl⟩;rfl
def Told (o:Int) (x:ZU) (n:Nat):Prop:=x.op=o∧WK x=0∧(QV (YR o) x).length≤n∧-9223372036854775808≤x.a∧x.a≤9223372036854775807∧al4 x.b
where al4 (b:Int):Prop:=-9223372036854775808≤b∧b≤9223372036854775807
theorem Gt.beside (o:Int) (h0:YR o≠0):Gt (KX o (YR o)) (Told o):=by
 have hkc:=aaB o
 have mk:∀{k:Int} {a b:Int} {to:List Int} {n:Nat},YR o=k→to.length≤16→(k≠4→to=[])→(k≠6→b=0)→Ze k a b→(∀n∈to,XL n)→(QV k ⟨o,a,b,to⟩).length≤n→-9223372036854775808≤a∧a≤9223372036854775807→-9223372036854775808≤b∧b≤9223372036854775807→Told o ⟨o,a,b,to⟩ n:=by
  intro k a b to n hk h1 h2 h3 h4 h5 h6 h7 h8
  subst hk
  exact ⟨rfl,ah2 h0 h1 h2 h3 h4 h5,h6,h7.1,h7.2,h8⟩
 unfold KX
 rcases hkc with hk|hk|hk|hk|hk|hk|hk|hk|hk|hk <;> rw [hk] at h0 ⊢
 ·exact absurd rfl h0
 ·refine (Gt.ret _).imp ?_
  rintro v n ⟨rfl,rfl⟩
  exact mk hk (lRa _) (fun _=>rfl) (fun _=>rfl) (by simp [Ze]) nofun (by simp [QV]) qo qo
 ·refine (Gt.Ra.bind (Q':=fun (k:Int) (x:ZU) (n:Nat)=>n=0∧(k=64∨k=127∨k=126)∧x=⟨o,k,0,[]⟩) (fun v n hv=>?_) fun v=>(ZV.ite (ZV.fail _) (ZV.ret _)).bind fun _=>ZV.ret _).imp ?_
  ·refine (Gt.bind (Q:=fun _ n=>n=0∧(v=64∨v=127∨v=126)) ?_ (fun _ n _=>Gt.ret _) fun _=>ZV.ret _).imp ?_
   ·split
    ·exact Gt.fail (by decide) _
    ·rename_i ID
     exact (Gt.ret _).imp fun _ _ h=>⟨h.2,by omega⟩
   ·rintro u n ⟨_,m,m',⟨rfl,h1⟩,⟨rfl,rfl⟩,rfl⟩;exact ⟨rfl,h1,rfl⟩
  ·rintro u n ⟨v,m,m',⟨_,_,rfl⟩,⟨rfl,h1,rfl⟩,rfl⟩
   exact mk hk (lRa _) (fun _=>rfl) (fun _=>rfl) (by simpa [Ze] using h1) nofun (by simp [QV]) qo qo
 ·refine (Gt.plain.bind (fun v n hv=>Gt.ret _) fun _=>ZV.ret _).imp ?_
  rintro u n ⟨v,m,m',⟨q,rfl,hq,hl⟩,⟨rfl,rfl⟩,rfl⟩
  exact mk hk (lRa _) (fun _=>rfl) (fun _=>rfl) (by simp [Ze,XL];omega) nofun (by simpa [QV] using hl) qo qo
 ·refine (Gt.plain.bind (Q':=fun (v:Int) (x:ZU) (n:Nat)=>∃l:List Int,∃q:Nat,l.length=v∧v≤16∧(∀x∈l,XL x)∧q<2 ^ 32∧(l.flatMap fun n=>Xt n.toNat).length+(Xt q).length≤n∧x=⟨o,q,0,l⟩) (fun v n hv=>?_) fun v=>(ZV.ite (ZV.fail _) (ZV.ret _)).bind fun _=>(ZV.many _).bind fun _=>ZV.plain.bind fun _=>ZV.ret _).imp ?_
  ·refine (Gt.bind (Q:=fun _ n=>n=0∧v≤16) ?_ (Q':=fun _ (x:ZU) (n:Nat)=>∃l:List Int,∃q:Nat,l.length=v∧v≤16∧(∀x∈l,XL x)∧q<2 ^ 32∧(l.flatMap fun n=>Xt n.toNat).length+(Xt q).length≤n∧x=⟨o,q,0,l⟩) (fun _ n hn=>?_) fun _=>(ZV.many _).bind fun _=>ZV.plain.bind fun _=>ZV.ret _).imp ?_
   ·split
    ·exact Gt.fail (by decide) _
    ·exact (Gt.ret _).imp fun _ _ h=>⟨h.2,by omega⟩
   ·rw [if_neg qo]
    refine ((Gt.many v.toNat).bind (fun l n hl=>Gt.plain.bind (fun a n ha=>Gt.ret _) fun _=>ZV.ret _) fun _=>ZV.plain.bind fun _=>ZV.ret _).imp ?_
    rintro u k ⟨l,m1,m2,⟨g1,g2,g3⟩,⟨a,m3,m4,⟨q,rfl,hq,hl⟩,⟨rfl,rfl⟩,rfl⟩,rfl⟩
    obtain ⟨p,rfl,_⟩:=hv
    exact ⟨l,q,by rw [g1];simp,by omega,g2,hq,by omega,rfl⟩
   ·rintro u n ⟨_,m,m',⟨rfl,_⟩,h,rfl⟩
    rw [lwb];exact h
  ·rintro u n ⟨v,m,m',⟨p,rfl,hp,hl⟩,⟨l,q,h1,h2,h3,h4,h5,rfl⟩,rfl⟩
   have hlp:l.length=p:=by omega
   refine mk hk qo (fun h=>absurd rfl h) (fun _=>rfl) (by simp [Ze,XL];omega) h3 ?_ qo qo
   unfold QV
   rw [if_neg (by decide),if_neg (by decide),if_pos rfl,hlp]
   simp only [List.length_append,Int.toNat_natCast]
   omega
 ·refine (Gt.plain.bind (fun v n hv=>Gt.TB.bind (fun _ n hn=>Gt.ret _) fun _=>ZV.ret _) fun _=>ZV.TB.bind fun _=>ZV.ret _).imp ?_
  rintro u n ⟨v,m,m',⟨q,rfl,hq,hl⟩,⟨_,m1,m2,rfl,⟨rfl,rfl⟩,rfl⟩,rfl⟩
  exact mk hk (lRa _) (fun _=>rfl) (fun _=>rfl) (by simp [Ze,XL];omega) nofun (by simp [QV];omega) qo qo
 ·refine (Gt.plain.bind (fun v n hv=>Gt.plain.bind (fun b n hn=>Gt.ret _) fun _=>ZV.ret _) fun _=>ZV.plain.bind fun _=>ZV.ret _).imp ?_
  rintro u n ⟨v,m,m',⟨q,rfl,hq,hl⟩,⟨_,m1,m2,⟨q2,rfl,hq2,FT⟩,⟨rfl,rfl⟩,rfl⟩,rfl⟩
  exact mk hk (lRa _) (fun _=>rfl) (fun h=>absurd rfl h) (by simp [Ze,XL];omega) nofun (by simp [QV];omega) qo qo
 ·refine (Gt.TB.bind (fun _ n hn=>Gt.ret _) fun _=>ZV.ret _).imp ?_
  rintro u n ⟨_,m1,m2,rfl,⟨rfl,rfl⟩,rfl⟩
  exact mk hk (lRa _) (fun _=>rfl) (fun _=>rfl) (by simp [Ze]) nofun (by simp [QV]) qo qo
 ·refine ((Gt.signed 32 (.inl rfl)).bind (fun v n hv=>Gt.ret _) fun _=>ZV.ret _).imp ?_
  rintro u n ⟨v,m,m',⟨h1,h2,h3⟩,⟨rfl,rfl⟩,rfl⟩
  simp at h1 h2
  exact mk hk (lRa _) (fun _=>rfl) (fun _=>rfl) (by simp [Ze];omega) nofun (by simpa [QV] using h3) qo qo
 ·refine ((Gt.signed 64 (.inr rfl)).bind (fun v n hv=>Gt.ret _) fun _=>ZV.ret _).imp ?_
  rintro u n ⟨v,m,m',⟨h1,h2,h3⟩,⟨rfl,rfl⟩,rfl⟩
  simp at h1 h2
  exact mk hk (lRa _) (fun _=>rfl) (fun _=>rfl) (by simp [Ze]) nofun (by simpa [QV] using h3) qo qo
theorem Gt.ajU:Gt Kc (fun x n=>0≤x.op∧x.op≤255∧WK x=0∧(Ex x).length≤n∧(-9223372036854775808≤x.a∧x.a≤9223372036854775807)∧-9223372036854775808≤x.b∧x.b≤9223372036854775807):=by
 refine (Gt.Ra.bind (Q':=fun o x n=>Told o x n) (fun o n ho=>?_) fun _=>(ZV.ite (ZV.fail _) (ZV.ret _)).bind fun _=>ZV.YR _ _).imp ?_
 ·refine (Gt.bind (Q:=fun _ n=>n=0∧YR o≠0) (Q':=fun _=>Told o) ?_ (fun _ n hn=>Gt.beside o hn.2) fun _=>ZV.YR _ _).imp ?_
  ·split
   ·exact Gt.fail (by decide) _
   ·rename_i h;exact (Gt.ret _).imp fun _ _ h'=>⟨h'.2,h⟩
  ·rintro u n ⟨_,m,m',⟨rfl,_⟩,h,rfl⟩
   rw [lwb];exact h
 ·rintro x n ⟨o,m,m',⟨h1,h2,rfl⟩,⟨rfl,h3,h4,h5,h6,h7⟩,rfl⟩
  exact ⟨h1,h2,h3,by unfold Ex;simp only [List.length_cons];omega,⟨h5,h6⟩,h7⟩
theorem ad5 {s:List UInt8} {x:ZU} {n:Nat} (h:I1 s=(x,n,0)):n≤s.length∧0≤x.op∧x.op≤255∧WK x=0∧(Ex x).length≤n∧(-9223372036854775808≤x.a∧x.a≤9223372036854775807)∧-9223372036854775808≤x.b∧x.b≤9223372036854775807:=by
 unfold I1 at h
 split at h
 ·rename_i h0
  obtain ⟨h1,m,h2,h3⟩:=Gt.ajU s 0 (lRa _) h0
  simp only [Prod.mk.injEq] at h
  obtain ⟨rfl,rfl,_⟩:=h
  rw [lwb] at h2
  rw [←h2] at h3
  exact ⟨h1,h3⟩
 ·rename_i h0
  simp only [Prod.mk.injEq] at h
  exact absurd h.2.2 h0
end YS
namespace Zk
open XV G6 YS
structure NS where
 op:List Int
 last:List Int
 over:Bool
def OY:NS:=⟨[-1],[2],false⟩
def Zs (st:NS) (o k:Int):NS × Int × Int :=
 if st.over=true then (st,-2,4)
 else if o=2∨o=3∨o=4 then if 12≤st.op.length-1 then (st,-2,7) else (⟨st.op++[k],st.last++[o],st.over⟩,-2,0)
 else if o=5 then if st.last.getD (st.op.length-1) 0≠4 then (st,-2,4) else (⟨st.op,st.last.set (st.op.length-1) 5,st.over⟩,st.op.getD (st.op.length-1) 0,0)
 else if o=11 then (⟨st.op.take (st.op.length-1),st.last.take (st.op.length-1),decide (st.op.length-1=0)⟩,st.op.getD (st.op.length-1) 0,0)
 else (st,-2,0)
structure Gu (st:NS):Prop where
 len:st.last.length=st.op.length
 pos:st.over=false→0<st.op.length
 le:st.op.length≤13
theorem ad6:Gu OY:=⟨rfl,fun _=>by decide,by decide⟩
theorem abj {st:NS} (h:Gu st) (o k:Int):Gu (Zs st o k).1:=by
 obtain ⟨h1,h2,h3⟩:=h
 unfold Zs
 split
 ·exact ⟨h1,h2,h3⟩
 rename_i ho
 have h2:=h2 (by simpa using ho)
 split
 ·split
  ·exact ⟨h1,fun _=>h2,h3⟩
  ·exact ⟨by simp [h1],fun _=>by simp,by simp;omega⟩
 split
 ·split
  ·exact ⟨h1,fun _=>h2,h3⟩
  ·exact ⟨by simp [h1],fun _=>h2,h3⟩
 split
 ·refine ⟨by simp [h1],fun hd=>?_,by simp;omega⟩
  have:¬(st.op.length-1=0):=by simpa using hd
  simp;omega
 ·exact ⟨h1,fun _=>h2,h3⟩
def Jz:List ZU→Nat→NS→Int
 | [],_,st=>if st.over=true then 0 else 3
 | x::r,k,st=>if WK x≠0 then WK x else if (Zs st x.op k).2.2≠0 then (Zs st x.op k).2.2 else Jz r (k+1) (Zs st x.op k).1
def Yp (l:List ZU):Int:=if 200<l.length then 2 else Jz l 0 OY
def Zq (l:List ZU):Nat→NS
 | 0=>OY
 | k+1=>match l[k]? with
  | none=>Zq l k
  | some x=>(Zs (Zq l k) x.op k).1
theorem Yo {l:List ZU} {k:Nat} {x:ZU} (h:l[k]?=some x):Zq l (k+1)=(Zs (Zq l k) x.op k).1:=by
 show (match l[k]? with|none=>Zq l k|some x=>(Zs (Zq l k) x.op k).1)=_
 rw [h]
theorem X6 (l:List ZU):∀k,Gu (Zq l k)
 | 0=>ad6
 | k+1=>by
  show Gu (match l[k]? with|none=>Zq l k|some x=>(Zs (Zq l k) x.op k).1)
  split
  ·exact X6 l k
  ·exact abj (X6 l k) _ _
def WE (l:List ZU) (k:Nat):Prop:=∀i x,i<k→l[i]?=some x→WK x=0∧(Zs (Zq l i) x.op i).2.2=0
theorem WE.zero (l:List ZU):WE l 0:=fun i x h=>absurd h (Nat.not_lt_zero i)
theorem WE.succ {l:List ZU} {k:Nat} {x:ZU} (h:WE l k) (hx:l[k]?=some x) (h1:WK x=0) (h2:(Zs (Zq l k) x.op k).2.2=0):WE l (k+1):=fun i y hi hy=>by
 by_cases e:i=k
 ·subst e;rw [hx] at hy;obtain rfl:=Option.some.inj hy;exact ⟨h1,h2⟩
 ·exact h i y qo hy
theorem N7 {l:List ZU} {k:Nat} (hk:k≤l.length) (h:WE l k):Jz l 0 OY=Jz (l.drop k) k (Zq l k):=by
 induction k with
 | zero=>rfl
 | succ k ih =>
  have hlt:k<l.length:=hk
  have hx:l[k]?=some l[k]:=laa hlt
  obtain ⟨h1,h2⟩:=h k _ (Nat.lt_succ_self k) hx
  rw [ih qo (fun i x hi=>h i x qo),lwa hlt,Jz,if_neg (by rw [h1];simp),if_neg (by rw [h2];simp),Yo hx]
theorem acd {l:List ZU} (h:200<l.length):Yp l=2:=if_pos h
theorem ad7 {l:List ZU} {k:Nat} {x:ZU} (hl:l.length≤200) (h:WE l k) (hx:l[k]?=some x) (hc:WK x≠0):Yp l=WK x:=by
 have hlt:=(lca.1 hx).1
 unfold Yp
 rw [if_neg qo,N7 (ldb hlt) h,lwa hlt]
 obtain rfl:l[k]=x:=by rw [laa hlt] at hx;exact Option.some.inj hx
 rw [Jz,if_pos hc]
theorem adf {l:List ZU} {k:Nat} {x:ZU} (hl:l.length≤200) (h:WE l k) (hx:l[k]?=some x) (hc:WK x=0) (hn:(Zs (Zq l k) x.op k).2.2≠0):Yp l=(Zs (Zq l k) x.op k).2.2:=by
 have hlt:=(lca.1 hx).1
 unfold Yp
 rw [if_neg qo,N7 (ldb hlt) h,lwa hlt]
 obtain rfl:l[k]=x:=by rw [laa hlt] at hx;exact Option.some.inj hx
 rw [Jz,if_neg (by rw [hc];simp),if_pos hn]
theorem N6 {l:List ZU} {k:Nat} (hl:l.length≤200) (h:WE l k) (hk:k=l.length):Yp l=if (Zq l k).over=true then 0 else 3:=by
 unfold Yp
 rw [if_neg qo,N7 qo h,lDa qo,Jz]
theorem Zb {l:List ZU} (h:Yp l=0):l.length≤200∧WE l l.length∧(Zq l l.length).over=true:=by
 unfold Yp at h
 split at h
 ·cases h
 rename_i hl
 have key:∀n k,k+n=l.length→WE l k→Jz (l.drop k) k (Zq l k)=0→WE l l.length∧(Zq l l.length).over=true:=by
  intro n
  induction n with
  | zero =>
   intro k hk hs hg
   rw [lDa qo,Jz] at hg
   obtain rfl:k=l.length:=by omega
   refine ⟨hs,?_⟩
   split at hg
   ·assumption
   ·cases hg
  | succ n ih =>
   intro k hk hs hg
   have hlt:k<l.length:=by omega
   have hx:l[k]?=some l[k]:=laa hlt
   rw [lwa hlt,Jz] at hg
   split at hg
   ·rename_i hc;exact absurd hg hc
   rename_i hc
   split at hg
   ·rename_i hn;exact absurd hg hn
   rename_i hn
   exact ih (k+1) qo (hs.succ hx (Decidable.not_not.1 hc) (Decidable.not_not.1 hn)) (by rw [Yo hx];exact hg)
 have:=key l.length 0 qo (WE.zero l) h
 exact ⟨by omega,this⟩
end Zk
namespace Row
theorem own:ownKnob Tryz.prog.godebug=none:=by kernel_rfl
theorem laidOut:laidOutB Tryz.prog=true:=by kernel_rfl
end Row
namespace YZ
open Go
theorem afZ {s:ByteArray} (h:s.size≤maxLen):∃l,s=bs l∧l.length≤9223372036854775807∧l=s.data.toList:=by
 refine ⟨s.data.toList,ajw s,?_,rfl⟩
 have:s.size=s.data.toList.length:=by rw [Array.length_toList];rfl
 unfold maxLen at h
 omega
theorem ahg {k:IntKind} {a:Int} (h:(Lit.int k a).wf=true):k.min≤a∧a≤k.max:=by
 simpa [Lit.wf] using h
theorem ad8 {a:Int} (h:(Lit.int .i64 a).wf=true):-9223372036854775808≤a∧a≤9223372036854775807:=ahg h
end YZ
namespace YZ
open Go Go.RowKit
inductive Lk where
 | int (k:IntKind)
 | bool
 | str
def al5:Lk→Value→Prop
 | .int k,v=>∃n,v=.int k n∧k.min≤n∧n≤k.max
 | .bool,v=>∃b,v=.bool b
 | .str,v=>∃l,v=.string (bs l)∧l.length≤9223372036854775807
def TT:List Lk→List Value→Prop
 | [],cs=>cs=[]
 | k::ks,cs=>∃v r,cs=v::r∧al5 k v∧TT ks r
def Md:Value→Nat
 | .string s=>s.size
 | _=>0
def W9 (cs:List Value):Nat:=(cs.map Md).sum
def N5 (P:Program) (rec:TypeId→Option (List Lk)):Nat→List Field→Option (List Lk)
 | _,[]=>some []
 | off,f::fs=>match rec f.type with
  | none=>none
  | some ks=>if f.offset=off∧ks.length=P.cellsOf f.type then match N5 P rec (off+ks.length) fs with
   | none=>none
   | some r=>some (ks++r)
   else none
def N4 (P:Program):Nat→TypeId→Option (List Lk)
 | 0,_=>none
 | n+1,t=>match P.underlying t with
  | some (.int k)=>some [.int k]
  | some .bool=>some [.bool]
  | some .string=>some [.str]
  | some (.struct fs)=>match N5 P (N4 P n) 0 fs.toList with
   | some ks=>if ks.length=P.cellsOf t then some ks else none
   | none=>none
  | some (.array m e)=>match N4 P n e with
   | some ks=>if ks.length=P.cellsOf e∧m * ks.length=P.cellsOf t then some (List.replicate m ks).flatten else none
   | none=>none
  | _=>none
theorem aad {k1 k2:List Lk} {c1 c2:List Value} (h1:TT k1 c1) (h2:TT k2 c2):TT (k1++k2) (c1++c2):=by
 induction k1 generalizing c1 with
 | nil=>obtain rfl:c1=[]:=h1;exact h2
 | cons k ks ih=>obtain ⟨v,r,rfl,hv,hr⟩:=h1;exact ⟨v,r++c2,rfl,hv,ih hr⟩
theorem aab (a b:List Value):W9 (a++b)=W9 a+W9 b:=by simp [W9]
section
variable {H:Type} {enc:TypeId × Value→H} {P:Program} {w:World} {base:Nat} {sp:Nat→Bool} {held:Bool}
theorem ad9 (d:DataW H):1≤Rows.uptoBulk d:=by
 cases d with
 | lit l=>cases l <;> simp [Rows.uptoBulk]
 | _=>simp [Rows.uptoBulk]
theorem ace (n:Nat):∀{fuel:Nat} {t:TypeId} {cs:List Value} {x:DataW H × List MemPlace} {ks:List Lk},N4 P n t=some ks→DataW.trod enc P w base sp held fuel t cs=some x→TT ks cs∧W9 cs+1≤Rows.uptoBulk x.1:=by
 induction n with
 | zero=>intro _ _ _ _ _ h;cases h
 | succ n ih =>
  intro fuel t cs x ks hf h
  unfold N4 at hf
  split at hf
  ·rename_i k hu
   obtain rfl:=Option.some.inj hf
   obtain ⟨m,rfl,rfl,hw⟩:=DataW.trod_int hu h
   have:=ahg hw
   exact ⟨⟨_,_,rfl,⟨m,rfl,this.1,this.2⟩,rfl⟩,by simp [W9,Md,Rows.uptoBulk]⟩
  ·rename_i hu
   obtain rfl:=Option.some.inj hf
   obtain ⟨b,rfl,rfl⟩:=DataW.trod_bool hu h
   exact ⟨⟨_,_,rfl,⟨b,rfl⟩,rfl⟩,by simp [W9,Md,Rows.uptoBulk]⟩
  ·rename_i hu
   obtain rfl:=Option.some.inj hf
   obtain ⟨s,rfl,rfl,hs⟩:=DataW.trod_string hu h
   obtain ⟨l,rfl,hl,e⟩:=afZ hs
   refine ⟨⟨_,_,rfl,⟨l,rfl,hl⟩,rfl⟩,?_⟩
   simp [W9,Md,Rows.uptoBulk,TW,←e]
  ·rename_i fs hu
   split at hf
   ·rename_i ks' hks
    split at hf
    ·rename_i hlen
     obtain rfl:=Option.some.inj hf
     obtain ⟨xs,m,rfl,rfl,Uz,hxl,hel⟩:=DataW.trod_struct hu h
     have key:∀(l:List Field) (i off:Nat) (ks:List Lk),(∀j f,l[j]?=some f→DataW.trod enc P w base sp held m f.type ((cs.drop f.offset).take (P.cellsOf f.type))=xs[i+j]?)→i+l.length=xs.length →
       N5 P (N4 P n) off l=some ks→off+ks.length=cs.length→TT ks (cs.drop off)∧W9 (cs.drop off)≤Rows.uptoBulkAll ((xs.drop i).map (·.1)):=by
      intro l
      induction l with
      | nil =>
       intro i off ks hj hil IC hl
       unfold N5 at IC
       obtain rfl:=Option.some.inj IC
       rw [List.drop_eq_nil_of_le (by simp at hl;omega)]
       exact ⟨rfl,by simp [W9]⟩
      | cons f l ihl =>
       intro i off ks hj hil IC hl
       unfold N5 at IC
       split at IC
       ·cases IC
       ·rename_i kf hkf
        split at IC
        ·rename_i hoff
         split at IC
         ·cases IC
         ·rename_i kr hkr
          obtain rfl:=Option.some.inj IC
          rw [lba] at hl
          have h0:=hj 0 f rfl
          rw [Nat.add_zero] at h0
          have hi:i<xs.length:=by simp at hil;omega
          rw [laa hi,hoff.1,←hoff.2] at h0
          obtain ⟨a1,a2⟩:=ih hkf h0
          obtain ⟨b1,b2⟩:=ihl (i+1) (off+kf.length) kr (fun j g hg=>by have:=hj (j+1) g hg;rwa [show i+(j+1)=i+1+j by omega] at this) (by simp at hil;omega) hkr qo
          have e:cs.drop off=(cs.drop off).take kf.length++cs.drop (off+kf.length):=by rw [←lub0,lZa]
          rw [e]
          refine ⟨aad a1 b1,?_⟩
          rw [aab,lwa hi]
          simp only [List.map_cons,Rows.uptoBulkAll]
          omega
        ·cases IC
     have:=key fs.toList 0 0 ks' (fun j f hf=>by have:=hel j f (by simpa using hf);rwa [lwb]) (by simp [hxl]) hks qo
     simp only [List.drop_zero] at this
     refine ⟨this.1,?_⟩
     simp only [Rows.uptoBulk]
     omega
    ·cases hf
   ·cases hf
  ·rename_i m e hu
   split at hf
   ·rename_i ks' hks
    split at hf
    ·rename_i hlen
     obtain rfl:=Option.some.inj hf
     obtain ⟨xs,fm,rfl,rfl,Uz,hxl,hel⟩:=DataW.trod_array hu h
     have key:∀(j i:Nat),i+j=m→TT (List.replicate j ks').flatten (cs.drop (i * ks'.length))∧W9 (cs.drop (i * ks'.length))≤Rows.uptoBulkAll ((xs.drop i).map (·.1)):=by
      intro j
      induction j with
      | zero =>
       intro i hij
       rw [List.drop_eq_nil_of_le (by rw [Uz,←hlen.2,show i=m by omega];exact lra _)]
       exact ⟨rfl,by simp [W9]⟩
      | succ j ihj =>
       intro i hij
       have hi:i<xs.length:=by omega
       have h0:=hel i qo
       rw [laa hi,←hlen.1] at h0
       obtain ⟨a1,a2⟩:=ih hks h0
       obtain ⟨b1,b2⟩:=ihj (i+1) qo
       have e1:cs.drop (i * ks'.length)=(cs.drop (i * ks'.length)).take ks'.length++cs.drop ((i+1) * ks'.length):=by
        rw [lpb,←lub0,lZa]
       rw [e1,lQb,List.flatten_cons]
       refine ⟨aad a1 b1,?_⟩
       rw [aab,lwa hi]
       simp only [List.map_cons,Rows.uptoBulkAll]
       omega
     have:=key m 0 qo
     simp only [Nat.zero_mul,List.drop_zero] at this
     refine ⟨this.1,?_⟩
     simp only [Rows.uptoBulk]
     omega
    ·cases hf
   ·cases hf
  ·cases hf
def N3 (enc:TypeId × Value→H) (P:Program) (w:World) (sp:Nat→Bool) (held:Bool) {α:Type} (t:TypeId) (R:Hv→List Value→α→Prop) (sz:α→Nat):Prop :=
 ∀{fuel:Nat} {cs:List Value} {x:DataW H × List MemPlace},DataW.trod enc P w 0 sp held fuel t cs=some x→∃a,R (Rg w 0 w.heap.size) cs a∧sz a≤Rows.uptoBulk x.1
theorem abk {α:Type} {n:Nat} {p:Nat→α→Prop} (h:∀i,i<n→∃x,p i x):∃l:List α,l.length=n∧∀i x,l[i]?=some x→p i x:=by
 induction n with
 | zero=>exact ⟨[],rfl,fun i x hx=>by simp at hx⟩
 | succ n ih =>
  obtain ⟨l,hl,hp⟩:=ih (fun i hi=>h i qo)
  obtain ⟨x,hx⟩:=h n qo
  refine ⟨l++[x],by simp [hl],fun i y hy=>?_⟩
  by_cases hi:i<n
  ·rw [loa qo] at hy;exact hp i y hy
  ·rw [lsa qo] at hy
   have:i=n:=by
    have:=(lca.1 hy).1
    simp at this;omega
   subst this
   rw [hl,lqb] at hy
   obtain rfl:=Option.some.inj hy
   exact hx
theorem Kb {α:Type} (sz:α→Nat):∀(xs:List α) (ds:List (DataW H)),xs.length=ds.length→(∀(i:Nat) (x:α) (d:DataW H),xs[i]?=some x→ds[i]?=some d→sz x≤Rows.uptoBulk d)→(xs.map sz).sum≤Rows.uptoBulkAll ds:=by
 intro xs
 induction xs with
 | nil=>intro ds _ _;simp
 | cons x xs ih =>
  intro ds hl h
  cases ds with
  | nil=>simp at hl
  | cons d ds =>
   have h0:=h 0 x d rfl rfl
   have:=ih ds (by simpa using hl) (fun i y e hy he=>h (i+1) y e hy he)
   simp only [List.map_cons,List.sum_cons,Rows.uptoBulkAll]
   omega
theorem abl (ds:List (DataW H)):ds.length≤Rows.uptoBulkAll ds:=by
 induction ds with
 | nil=>simp
 | cons d ds ih=>have:=ad9 d;simp only [List.length_cons,Rows.uptoBulkAll];omega
theorem acu {α:Type} {t e:TypeId} {R:Hv→List Value→α→Prop} {sz:α→Nat} (s:Nat) (hs:P.cellsOf e=s) (hs0:0<s) (ht:P.underlying t=some (.slice e)) (he:N3 enc P w sp held e R sz) :
  N3 enc P w sp held t (fun H cs xs=>∃v,cs=[v]∧VS R s H v xs) (fun xs=>(xs.map sz).sum+1+0 * xs.length) ∧
  (∀{fuel:Nat} {v:Value} {x:DataW H × List MemPlace},DataW.trod enc P w 0 sp held fuel t [v]=some x→∃xs:List α,VS R s (Rg w 0 w.heap.size) v xs∧(xs.map sz).sum+1≤Rows.uptoBulk x.1∧xs.length+1≤Rows.uptoBulk x.1∧(∀r:Nat,((DataW.weights P t x.1).all (·≤r))=true→xs.length * P.bytesOf e≤r)):=by
 have main:∀{fuel:Nat} {cs:List Value} {x:DataW H × List MemPlace},DataW.trod enc P w 0 sp held fuel t cs=some x→∃(v:Value) (xs:List α),cs=[v]∧VS R s (Rg w 0 w.heap.size) v xs∧(xs.map sz).sum+1≤Rows.uptoBulk x.1∧xs.length+1≤Rows.uptoBulk x.1∧(∀r:Nat,((DataW.weights P t x.1).all (·≤r))=true→xs.length * P.bytesOf e≤r):=by
  intro fuel cs x h
  rcases DataW.trod_slice ht h with ⟨rfl,rfl⟩|⟨a,len,cap,elems,rest,n,rfl,rfl,rfl,hb,hlc,SB,hel,UA,_,_⟩
  ·exact ⟨_,[],rfl,VS.nil _ _ _,by simp [Rows.uptoBulk],by simp [Rows.uptoBulk],fun r _=>by simp⟩
  ·have hx:∀i,i<len→∃y:α,∃ci,w.cells? 0 (a.add (i * s)) s=some ci∧R (Rg w 0 w.heap.size) ci y∧∀d,(elems.map (·.1))[i]?=some d→sz y≤Rows.uptoBulk d:=by
    intro i hi
    have h0:=UA i hi
    rw [hs,laa qo,lfb] at h0
    obtain ⟨ci,h1,h2⟩:=h0
    obtain ⟨y,h3,h4⟩:=he h2
    refine ⟨y,ci,h1,h3,fun d hd=>?_⟩
    rw [lva,laa qo] at hd
    obtain rfl:=Option.some.inj hd
    exact h4
   obtain ⟨xs,hxl,hxs⟩:=abk hx
   have hml:xs.length=(elems.map (·.1)).length:=by simp;omega
   have hsum:=Kb sz xs (elems.map (·.1)) hml (fun i y d hy hd=>by obtain ⟨ci,_,_,h⟩:=hxs i y hy;exact h d hd)
   have hlb:=abl (elems.map (·.1))
   refine ⟨_,xs,rfl,?_,by simp only [Rows.uptoBulk];omega,by simp only [Rows.uptoBulk];rw [hml];omega,fun r hr=>?_⟩
   rotate_left
   ·simp only [DataW.weights,ht,List.all_cons,Bool.and_eq_true,decide_eq_true_eq,List.length_map] at hr
    refine lGa (lLa _ ?_) hr.1
    omega
   refine ⟨some a,cap,by rw [hxl],by unfold maxLen at SB;omega,(fun h=>by cases h),fun hne=>?_⟩
   have hlen:0<len:=by
    rw [←hxl];exact lIb.2 hne
   obtain ⟨y0,hy0⟩:∃y,xs[0]?=some y:=⟨xs[0],laa qo⟩
   obtain ⟨c0,hc0,_,_⟩:=hxs 0 y0 hy0
   obtain ⟨b,o,spot⟩:=a
   have hcells:∀i ci,w.cells? 0 ((⟨b,o,spot⟩:Addr).add (i * s)) s=some ci→ci.length=s∧∀j,j<s→w.cell? (((⟨b,o,spot⟩:Addr).add (i * s)).add j)=ci[j]?:=fun i ci h=>by
    have:=World.cells?_some h
    exact ⟨this.2.1,this.2.2⟩
   have ajV:spot=none:=by
    have h1:=(hcells 0 c0 hc0).2 0 hs0
    have al6:=(hcells 0 c0 hc0).1
    rw [laa qo] at h1
    simp only [Nat.zero_mul] at h1
    cases spot with
    | none=>rfl
    | some q =>
     exfalso
     simp only [Addr.add,if_true,World.cell?] at h1
     split at h1 <;> simp at h1
   subst ajV
   have Nd:∃C ty fz,w.heap[b]?=some (.cells C ty fz):=by
    have h1:=(hcells 0 c0 hc0).2 0 hs0
    have al6:=(hcells 0 c0 hc0).1
    rw [laa qo] at h1
    simp only [Nat.zero_mul,Addr.add,if_true,World.cell?] at h1
    split at h1
    ·rename_i C ty fz hh;exact ⟨C,ty,fz,hh⟩
    ·cases h1
   obtain ⟨C,ty,fz,hC⟩:=Nd
   have hcell:∀k,w.cell? ⟨b,k,none⟩=C[k]?:=fun k=>by simp [World.cell?,hC]
   have hin:∀i,i<len→∀j,j<s→∀y ci,xs[i]?=some y→w.cells? 0 ((⟨b,o,none⟩:Addr).add (i * s)) s=some ci→C[o+i * s+j]?=ci[j]?:=fun i hi j hj y ci hy FR=>by
    have:=(hcells i ci FR).2 j hj
    rw [Addr.add_lit,Addr.add_lit,hcell] at this
    exact this
   have hCl:o+len * s≤C.size:=by
    obtain ⟨y,hy⟩:∃y,xs[len-1]?=some y:=⟨xs[len-1],laa qo⟩
    obtain ⟨ci,FR,_,_⟩:=hxs (len-1) y hy
    have h1:=hin (len-1) qo (s-1) qo y ci hy FR
    have hl:=(hcells (len-1) ci FR).1
    rw [laa qo] at h1
    have h2:=(lza.1 h1).1
    have e:len * s=(len-1) * s+s:=by rw [←lpb];congr 1;omega
    omega
   refine ⟨b,o,(C.toList.drop o).take (len * s),rfl,⟨C,ty,fz,⟨lRa _,(lza.1 hC).1,hC⟩,fun i v hv=>?_⟩,?_,fun i y hy=>?_⟩
   ·rw [lAa] at hv
    split at hv
    ·rw [lNa] at hv;simpa using hv
    ·cases hv
   ·simp [hxl];omega
   ·obtain ⟨ci,FR,hR,_⟩:=hxs i y hy
    have hi:i<len:=by rw [←hxl];exact (lca.1 hy).1
    have hl:=(hcells i ci FR).1
    have e:(((C.toList.drop o).take (len * s)).drop (i * s)).take s=ci:=by
     apply lJa
     intro j
     rw [lAa]
     split
     ·rename_i hj
      have hle:i * s+s≤len * s:=by rw [←lpb];exact lLa _ hi
      rw [lNa,lAa,if_pos qo,lNa,←hin i hi j hj y ci hy FR,lVb]
      simp
     ·rw [lSa qo]
    rw [e];exact hR
 refine ⟨fun {fuel cs x} h=>?_,fun {fuel v x} h=>?_⟩
 ·obtain ⟨v,xs,h1,h2,h3,_⟩:=main h
  exact ⟨xs,⟨v,h1,h2⟩,by simp only [Nat.zero_mul,Nat.add_zero];exact h3⟩
 ·obtain ⟨v',xs,h1,h2,h3,h4,h5⟩:=main h
  obtain rfl:v=v':=by simpa using h1
  exact ⟨xs,h2,h3,h4,h5⟩
theorem aaC {α:Type} {t:TypeId} {ks:List Lk} (n:Nat) (hf:N4 P n t=some ks) {en:α→List Value} {ok:α→Prop} (h:∀cs,TT ks cs→∃x,cs=en x∧ok x):N3 enc P w sp held t (RE en ok) (fun x=>W9 (en x)+1):=by
 intro fuel cs x hx
 obtain ⟨h1,h2⟩:=ace n hf hx
 obtain ⟨a,rfl,ha⟩:=h cs h1
 exact ⟨a,⟨rfl,ha⟩,h2⟩
theorem ah3 {α:Type} {r:Reach} {b0:Nat} {t e:TypeId} {R:Hv→List Value→α→Prop} {sz:α→Nat} {v:Value} {d:DataW H} {ps:List MemPlace} (s:Nat) (hs:P.cellsOf e=s) (hs0:0<s) (ht:P.underlying t=some (.slice e)) (he:N3 enc P w sp held e R sz)
  (hval:Value.okWide P w r b0 t v) (h:DataW.Trod enc P w 0 sp held t v d ps):∃xs:List α,VS R s (Rg w 0 w.heap.size) v xs∧(xs.map sz).sum+1≤Rows.uptoBulk d∧xs.length+1≤Rows.uptoBulk d∧(∀r:Nat,((DataW.weights P t d).all (·≤r))=true→xs.length * P.bytesOf e≤r):=by
 have hc:v.cells=#[v]:=by
  unfold Value.okWide at hval
  rw [ht] at hval
  dsimp only at hval
  unfold Cell.okWide at hval
  rw [ht] at hval
  cases v <;> first|rfl|(exfalso;simp [Cell.ok,ht] at hval)
 obtain ⟨fuel,hh⟩:=h
 rw [hc] at hh
 exact (acu s hs hs0 ht he).2 hh
end
end YZ
namespace YZ
open Go Go.RowKit
section
variable {H:Type} {enc:TypeId × Value→H} {P:Program} {w:World} {base:Nat} {sp:Nat→Bool} {held:Bool}
structure Lf (enc:TypeId × Value→H) (P:Program) (w:World) (sp:Nat→Bool) (held:Bool) {α:Type} (t:TypeId) (R:Hv→List Value→α→Prop) (sz:α→Nat):Prop where
 o:N3 enc P w sp held t R sz
structure OL (enc:TypeId × Value→H) (P:Program) (w:World) (sp:Nat→Bool) (held:Bool) {α:Type} (l:List Field) (off:Nat) (R:Hv→List Value→α→Prop) (sz:α→Nat):Prop where
 o:∀{n:Nat} {cs:List Value} {xs:List (DataW H × List MemPlace)},(∀(i:Nat) (f:Field),l[i]?=some f→DataW.trod enc P w 0 sp held n f.type ((cs.drop f.offset).take (P.cellsOf f.type))=xs[i]?)→l.length=xs.length →
  ∃a,R (Rg w 0 w.heap.size) (cs.drop off) a∧sz a≤Rows.uptoBulkAll (xs.map (·.1))
theorem Ul {off:Nat}:OL enc P w sp held [] off (fun _ _ (_:Unit)=>True) (fun _=>0):=by
 refine ⟨?_⟩
 intro n cs xs _ hl
 exact ⟨(),trivial,lRa _⟩
theorem Zd {α β:Type} {f:Field} {l:List Field} {off:Nat} {R:Hv→List Value→α→Prop} {sz:α→Nat} {R':Hv→List Value→β→Prop} {sz':β→Nat} (ho:f.offset=off) (h:Lf enc P w sp held f.type R sz)
  (h':OL enc P w sp held l (off+P.cellsOf f.type) R' sz') :
  OL enc P w sp held (f::l) off (fun H cs (x:α × β)=>R H (cs.take (P.cellsOf f.type)) x.1∧R' H (cs.drop (P.cellsOf f.type)) x.2) (fun x=>sz x.1+sz' x.2):=by
 refine ⟨?_⟩
 intro n cs xs hj hl
 cases xs with
 | nil=>simp at hl
 | cons x xs =>
  have h0:=hj 0 f rfl
  subst ho
  obtain ⟨a,a1,a2⟩:=h.o h0
  obtain ⟨b,b1,b2⟩:=h'.o (cs:=cs) (xs:=xs) (fun i g hg=>by have:=hj (i+1) g hg;simpa using this) (by simpa using hl)
  refine ⟨(a,b),⟨a1,?_⟩,?_⟩
  ·rw [lub0];exact b1
  ·simp only [List.map_cons,Rows.uptoBulkAll];omega
theorem Vu {α:Type} {t:TypeId} {fs:Array Field} {R:Hv→List Value→α→Prop} {sz:α→Nat} (n0:Nat) (ht:P.underlying t=some (.struct fs)) (hc:P.cellsOf t=n0) (h:OL enc P w sp held fs.toList 0 R sz) :
  Lf enc P w sp held t (fun H cs a=>cs.length=n0∧R H cs a) (fun a=>sz a):=by
 refine ⟨?_⟩
 intro fuel cs x hx
 obtain ⟨xs,n,rfl,rfl,hl,hxl,hj⟩:=DataW.trod_struct ht hx
 obtain ⟨a,h1,h2⟩:=h.o (n:=n) (cs:=cs) (xs:=xs) (fun i f hf=>hj i f (by simpa using hf)) (by simp [hxl])
 refine ⟨a,⟨hl.trans hc,by simpa using h1⟩,?_⟩
 show sz a≤Rows.uptoBulk (.agg (xs.map (·.1)))
 rw [Rows.uptoBulk];omega
theorem Lf.map {α β:Type} {t:TypeId} {R:Hv→List Value→α→Prop} {sz:α→Nat} {R':Hv→List Value→β→Prop} {sz':β→Nat} (h:Lf enc P w sp held t R sz) (hm:∀H cs a,R H cs a→∃b,R' H cs b∧sz' b≤sz a):Lf enc P w sp held t R' sz':=by
 refine ⟨?_⟩
 intro fuel cs x hx
 obtain ⟨a,h1,h2⟩:=h.o hx
 obtain ⟨b,h3,h4⟩:=hm _ _ _ h1
 exact ⟨b,h3,lGa h4 h2⟩
theorem VS.conv {α:Type} {R R':Hv→List Value→α→Prop} {s:Nat} {H H':Hv} {v:Value} {xs:List α} (h:VS R s H v xs) (hh:K3 H H') (hR:∀cs x,R H cs x→R' H' cs x):VS R' s H' v xs:=by
 obtain ⟨a,cap,h1,h2,h3,h4⟩:=h
 exact ⟨a,cap,h1,h2,h3,fun hx=>let ⟨b,o,news,e,k1,k2⟩:=h4 hx;⟨b,o,news,e,k1.mono hh,k2.1,fun i x hx=>hR _ _ (k2.2 i x hx)⟩⟩
theorem af0 (w:World):K3 (Rg w 0 w.heap.size) (Gh (WA w)):=fun b o ⟨_,_,h⟩=>h
theorem VV {α:Type} {t:TypeId} {ks:List Lk} (n:Nat) (hf:N4 P n t=some ks) {en:α→List Value} {ok:α→Prop} (h:∀cs,TT ks cs→∃x,cs=en x∧ok x):Lf enc P w sp held t (RE en ok) (fun x=>W9 (en x)+1):=⟨aaC n hf h⟩
theorem N2 {α:Type} {t e:TypeId} {R:Hv→List Value→α→Prop} {sz:α→Nat} (s:Nat) (hs:P.cellsOf e=s) (hs0:0<s) (ht:P.underlying t=some (.slice e)) (he:Lf enc P w sp held e R sz) :
  Lf enc P w sp held t (fun H cs xs=>∃v,cs=[v]∧VS R s H v xs) (fun xs=>(xs.map sz).sum+1+0 * xs.length):=⟨(acu s hs hs0 ht he.o).1⟩
theorem ah4 {α:Type} {r:Reach} {b0:Nat} {t:TypeId} {fs:Array Field} {R:Hv→List Value→α→Prop} {sz:α→Nat} {v:Value} {d:DataW H} {ps:List MemPlace} (ht:P.underlying t=some (.struct fs)) (he:Lf enc P w sp held t R sz)
  (hval:Value.okWide P w r b0 t v) (h:DataW.Trod enc P w 0 sp held t v d ps):∃(cs:List Value) (a:α),v=.agg cs.toArray∧R (Rg w 0 w.heap.size) cs a∧sz a≤Rows.uptoBulk d:=by
 unfold Value.okWide at hval
 rw [ht] at hval
 obtain ⟨cs,rfl,_⟩:=hval
 obtain ⟨fuel,hh⟩:=h
 obtain ⟨a,h1,h2⟩:=he.o hh
 exact ⟨cs.toList,a,by simp,h1,h2⟩
end
end YZ
end Go.Proofs.YtakpnepblgfknaaGreatDoor
