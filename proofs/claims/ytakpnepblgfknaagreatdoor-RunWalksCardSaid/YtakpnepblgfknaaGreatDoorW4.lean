import Derived.Test.YtakpnepblgfknaaGreatDoorW3
import Derived.Defers
set_option maxRecDepth 100000
set_option linter.unusedVariables false
set_option linter.unusedSimpArgs false
set_option maxHeartbeats 4000000
set_option linter.defProp false
namespace Go.Proofs.YtakpnepblgfknaaGreatDoor
namespace YY
open Go Go.RowKit
section
variable {P:Program} {g:Zz} {w w':World} {l l1 l2:List As} {A:As} {K:Value->World->Prop} {α:Type} {en:α->xM} {s j h a:Nat} {v v1 v2:Value} {xs:List α} {e t ty:TypeId}
theorem Kx:∀{l1 l2:List As} {h:Hp},Qx (l1++l2) h->∃a b,IU h a b/\Qx l1 a/\Qx l2 b
 | [],l2,h,hs=>⟨fun _=>none,h,fun k=>.inr ⟨rfl,rfl⟩,trivial,hs⟩
 | A::l1,l2,h,hs=>by
  obtain ⟨a,b,h1,h2,h3⟩:=hs
  obtain ⟨c,d,h4,h5,h6⟩:=Kx (l1:=l1) h3
  obtain ⟨f,h7,h8⟩:=h1.swap h4.comm
  exact ⟨f,d,h7.comm,⟨a,c,h8,h2,h5⟩,h6⟩
theorem Sat.box (H:Sat g w (l1++l)):Sat g w (Qx l1::l):=by
 obtain ⟨h,hs,a,b,h1,h2,h3⟩:=H.ex
 obtain ⟨c,d,h4,h5,h6⟩:=Kx h3
 exact ⟨H.os,H.tape,H.output,h,hs,a,b,h1,h2,c,d,h4,h5,h6⟩
theorem Sat.unbox (H:Sat g w (Qx l1::l)):Sat g w (l1++l):=by
 obtain ⟨h,hs,a,b,h1,h2,c,d,h4,h5,h6⟩:=H.ex
 exact ⟨H.os,H.tape,H.output,h,hs,a,b,h1,h2,Pz h4 h5 h6⟩
theorem Sat.weak {A B:As} (H:Sat g w (A::l)) (hAB:∀h,A h->B h):Sat g w (B::l):=by
 obtain ⟨h,hs,a,b,h1,h2,c,d,h4,h5,h6⟩:=H.ex
 exact ⟨H.os,H.tape,H.output,h,hs,a,b,h1,h2,c,d,h4,hAB _ h5,h6⟩
theorem Sat.aeH {β:Type} {Q:β->Prop} {f:β->List As} (H:Sat g w ((fun h=>∃x,Q x/\Qx (f x) h)::l)):∃x,Q x/\Sat g w (f x++l):=by
 obtain ⟨h,hs,a,b,h1,h2,c,d,h4,⟨x,h5,h6⟩,h7⟩:=H.ex
 exact ⟨x,h5,H.os,H.tape,H.output,h,hs,a,b,h1,h2,Pz h4 h6 h7⟩
theorem Sat.akO {β:Type} {Q:β->Prop} {f:β->List As} (x:β) (hx:Q x) (H:Sat g w (f x++l)):Sat g w ((fun h=>∃x,Q x/\Qx (f x) h)::l) :=
 H.box.weak fun _ hh=>⟨x,hx,hh⟩
theorem Sat.Jl (H:Sat g w l) (j:Nat) (hj:l[j]?=some (Sl e s en v xs)) (V:Vw v s xs.length a h v1):Sat g w (l.set j (Sl e s en v1 ((xs.take h).drop a))):=by
 have ho:=H.off j hj
 obtain ⟨ad,cap,rfl,q1,q2,q3,q4,rfl⟩:=V
 refine H.N1 hj (ho.cut q4 q1) (Gr.same w ?_)
 left
 cases ad with
 | none=>split <;> rfl
 | some q =>
  split
  .rfl
  .grind [Value.ownBlock,Addr.add]
theorem ahS (PC:Nat) (H:Sat g w l) (j:Nat) (hj:l[j]?=some (Sl e s en v xs)) (V2:Vw v s xs.length 0 h v2) (V1:Vw v s xs.length a xs.length v1) (h1:∀y∈xs,((en y).all (·.oneCell'))=true)
  (hu:P.underlying t=some (.slice e)) (hz:(P.info? e).map (fun i=>(i.zero.map (fun z=>z.cells.size),i.size,i.bytes))=some (some s,s,PC)) (hsz:Nat.ble 1 s=true)
  (hb:(xs.length+xs.length) * PC<=140737488355328) (hml:xs.length+xs.length<=140737488355328)
  (k:∀v',Qw l j (Sl e s en v' (xs.take h++xs.drop a)) fun l'=>∀w',Sat g w' l'->K v' w'):Za P (Builtin.append_ #[t,t] ty #[v2,v1]) w K:=by
 have hr:=H.rdv (ok:=fun _=>True) j hj V1 (fun _ _=>trivial)
 rw [lpb] at hr
 have ho:=H.off j hj
 have hle:=V2.le
 have akP:=V1.le
 obtain ⟨ad,cap,rfl,q1,q2,q3,q4,rfl⟩:=V2
 have hc:=ho.cut (l:=0) (h:=h) (lJa _) hle.1
 rw [lgb] at hc
 have hown:(Value.slice (if cap=0 then ad else ad.map (·.add (0 * s))) (h-0) (cap-0)).ownBlock=(Value.slice ad xs.length cap).ownBlock\/(Value.slice (if cap=0 then ad else ad.map (·.add (0 * s))) (h-0) (cap-0)).ownBlock=none:=by
  left
  cases ad with
  | none=>split <;> rfl
  | some q =>
   split
   .rfl
   .grind [Value.ownBlock,Addr.add]
 have H1:=H.N1 hj hc (Gr.same w hown)
 have hj1:(l.set j (Sl e s en (Value.slice (if cap=0 then ad else ad.map (·.add (0 * s))) (h-0) (cap-0)) (xs.take h)))[j]?=some (Sl e s en (Value.slice (if cap=0 then ad else ad.map (·.add (0 * s))) (h-0) (cap-0)) (xs.take h)):=by grind
 have Qo:(xs.take h).length+(xs.drop a).length<=xs.length+xs.length:=by grind
 refine Ug PC H1 j hj1 hr (fun y hy=>h1 y (List.mem_of_mem_drop hy)) hu hz hsz (lDa (lza _ Qo) hb) (lDa Qo hml) fun v'=>?_
 have k:=k v'
 rw [VX] at k ⊢
 rw [List.set_set]
 exact k
theorem Gz (z:Value) (n:Nat) (hz:z.cells=#[z]):Builtin.zeroCells z.cells n=(List.replicate n z).toArray:=by grind [Builtin.zeroCells]
theorem aaX {tx:TypeId} {ki:IntKind} {m:Nat} {z:Value} {i:TypeInfo} (Ar:z.cells=#[z]) (hu:P.underlying t=some (.slice e)) (hx:P.underlying tx=some (.int ki)) (hi:P.info? e=some i) (h2:i.zero=some z) (h3:i.size=1)
  (Bu:IntKind.i64.wrap (m:Int)=m) (EM:¬(281474976710656<(m:Int) * (i.bytes:Int))) (base:Option Addr) (n cap:Nat) (olds:xM) (hold:(Builtin.firstCells 1 n (.slice base n cap)).run P w.drew=.ok olds.toArray w.drew)
  (hm0:m≠0) (hg:cap<n+m) (h63:((n+m:Nat):Int)<=9223372036854775807) (hfit:Builtin.nextslicecap (n+m) cap * i.bytes<=281474976710656) :
  (Builtin.append_ #[t,tx] ty #[.slice base n cap,.int .i64 m]).run P w=.ok (.slice (some ⟨w.heap.size,0,none⟩) (n+m) (grownCap w (n+m) cap e))
    (w.drew.alloc (.cells ((olds++List.replicate m z).toArray++Builtin.zeroCells z.cells (grownCap w (n+m) cap e-(n+m))) e)):=by
 have hn:¬(n+m<=cap):=by omega
 have hneg:¬((m:Int)<0):=by omega
 have h63':¬(9223372036854775807<((n:Int)+(m:Int))):=by omega
 have anJ:¬(281474976710656<Builtin.nextslicecap (n+m) cap * i.bytes):=by omega
 have Dc:Builtin.zeroCells z.cells m=(List.replicate m z).toArray:=Gz z m Ar
 simp [Builtin.append_,run_underlying hu,run_underlying hx,sizeOf,typeInfo,zeroValue,hi,h2,h3,asInt,asIntOf,Bu,hneg,hn,h63',anJ,EM,hm0,Dc,Question.forced,hold,newRow,grownCap]
 congr 2
 apply Array.ext'
 simp [List.append_assoc]
theorem aaD {tx:TypeId} {ki:IntKind} {z:Value} {i:TypeInfo} (hu:P.underlying t=some (.slice e)) (hx:P.underlying tx=some (.int ki)) (hi:P.info? e=some i) (h3:i.size=1) (base:Option Addr) (n cap:Nat) (hn:n<=cap) (hb:base.isSome=true\/base=none) :
  (Builtin.append_ #[t,tx] ty #[.slice base n cap,.int .i64 ((0:Nat):Int)]).run P w=.ok (.slice base n cap) w:=by
 have hw0:IntKind.i64.wrap 0=0:=by decide
 cases base with
 | none=>simp [Builtin.append_,run_underlying hu,run_underlying hx,sizeOf,typeInfo,hi,h3,asInt,asIntOf,hw0,hn]
 | some a=>simp [Builtin.append_,run_underlying hu,run_underlying hx,sizeOf,typeInfo,hi,h3,asInt,asIntOf,hw0,hn,storeCells]
theorem akQ {tx:TypeId} {ki:IntKind} {m:Nat} {z:Value} {zx:α} (PC:Nat) (H:Sat g w l) (j:Nat) (hj:l[j]?=some (Sl e 1 en v xs)) (hzx:en zx=[z]) (Bt:z.oneCell'=true) (Ar:z.cells=#[z])
  (hu:P.underlying t=some (.slice e)) (hx:P.underlying tx=some (.int ki)) (hz:(P.info? e).map (fun i=>(i.zero,i.size,i.bytes))=some (some z,1,PC))
  (hb:(xs.length+m) * PC<=140737488355328) (hml:xs.length+m<=140737488355328)
  (k:∀v',Qw l j (Sl e 1 en v' (xs++List.replicate m zx)) fun l'=>∀w',Sat g w' l'->K v' w'):Za P (Builtin.append_ #[t,tx] ty #[v,.int .i64 m]) w K:=by
 have ho:=H.off j hj
 have Bu:IntKind.i64.wrap (m:Int)=m:=by have:=R9 (show -9223372036854775808<=(m:Int)/\(m:Int)<=9223372036854775807 by omega);unfold ZM at this;exact this
 have fin:∀{v':Value} {w':World},RM 0 w' e 1 en v' (xs++List.replicate m zx)->Gr w w' v v'->K v' w':=fun {v' w'} hO G=>by
  have k:=k v'
  rw [VX] at k
  exact k w' (H.N1 hj hO G)
 have hfl:(List.replicate m zx).flatMap en=List.replicate m z:=by
  clear fin k Bu hml hb
  induction m with
  | zero=>rfl
  | succ m ih=>rw [lGb,lPa,ih,hzx];rfl
 have h1:∀u∈List.replicate m z,u.oneCell'=true:=fun u hu=>by rw [List.eq_of_mem_replicate hu];exact Bt
 cases hi:P.info? e with
 | none=>simp [hi] at hz
 | some i =>
  simp only [hi,Option.map_some,Option.some.injEq,Prod.mk.injEq] at hz
  obtain ⟨h2,h3,h4⟩:=hz
  subst h4
  have hneg:¬((m:Int)<0):=by omega
  have hmb:m * i.bytes<=140737488355328:=lDa (lza _ (Nat.le_add_left _ _)) hb
  have EM:¬(281474976710656<(m:Int) * (i.bytes:Int)):=by omega
  have Dc:Builtin.zeroCells z.cells m=(List.replicate m z).toArray:=Gz z m Ar
  by_cases hm0:m=0
  .subst hm0
   have hst:RM 0 w e 1 en v (xs++List.replicate 0 zx):=by rw [List.replicate_zero,lna];exact ho
   rcases ho.1 with ⟨rfl,rfl⟩|⟨gg,of,cap,cur,rfl,BC,JB,hfit,hnc,RD,ht⟩
   .exact ⟨_,_,aaD (z:=z) hu hx hi h3 none 0 0 (loa _) (.inr rfl),fin hst (Gr.same w (.inl rfl))⟩
   .exact ⟨_,_,aaD (z:=z) hu hx hi h3 (some ⟨gg,of,none⟩) xs.length cap hnc (.inl rfl),fin hst (Gr.same w (.inl rfl))⟩
  have grow:∀(base:Option Addr) (cap:Nat) (olds:xM),v=.slice base xs.length cap->olds=xs.flatMap en->(Builtin.firstCells 1 xs.length (.slice base xs.length cap)).run P w.drew=.ok olds.toArray w.drew->cap<xs.length+m->Za P (Builtin.append_ #[t,tx] ty #[v,.int .i64 m]) w K:=by
   intro base cap olds hv LV hold hg
   subst hv
   have Db:olds.length=xs.length:=by rw [LV,Yp ho.2,Nat.mul_one]
   have hr:=aaX (P:=P) (w:=w) (ty:=ty) Ar hu hx hi h2 h3 Bu EM base xs.length cap olds hold hm0 hg yp (growslice_fits hg hb)
   have hge:=grownCap_ge w (xs.length+m) cap e
   have RD:grownCap w (xs.length+m) cap e<=maxLen:=grownCap_le_maxLen w (xs.length+m) cap e (by grind [maxLen])
   refine ⟨_,_,hr,fin ⟨.inr ⟨w.heap.size,0,_,((olds++List.replicate m z).toArray++Builtin.zeroCells z.cells (grownCap w (xs.length+m) cap e-(xs.length+m))).toList,by rw [lca,lfa],lJa _,heap_alloc_new w.drew _,?_,?_,?_,?_⟩,ho.2⟩ ⟨⟨rfl,rfl,rfl,by simp,fun k hk _=>by first|exact heap_alloc_old w.drew _ k hk|exact heap_alloc_old w.drew _ hk⟩,.inr (.inr ⟨w.heap.size,rfl,loa _⟩)⟩⟩
   .grind [Array.toList_append,Gz,yq7,List.length_replicate]
   .grind
   .grind [maxLen]
   .grind
  rcases ho.1 with ⟨rfl,rfl⟩|⟨gg,of,cap,cur,rfl,BC,JB,hfit,hnc,RD,ht⟩
  .exact grow none 0 [] rfl rfl (by simp [Builtin.firstCells]) (show 0<0+m by omega)
  .by_cases hr:xs.length+m<=cap
   .have hst:=run_storeCells_at (P:=P) gg (of+xs.length * 1) e (List.replicate m z) 0 cur.toArray w JB (by grind) h1
    simp only [Nat.add_zero,Nat.mul_one] at hst
    obtain ⟨hU,hB⟩:=R7 (o:=of+xs.length * 1) (vs:=List.replicate m z) JB (by grind)
    refine ⟨.slice (some ⟨gg,of,none⟩) (xs.length+m) cap,_,?_,fin (w':=_) ⟨.inr ⟨gg,of,cap,_,by rw [lca,lfa],BC,hB,by rw [VE];exact hfit,by rw [lca,lfa];exact hr,RD,?_⟩,ho.2⟩ ⟨⟨hU.os,hU.tape,hU.output,by rw [hU.size];exact loa _,fun k _ hk=>hU.block k (fun e=>hk (by rw [e];rfl))⟩,.inl rfl⟩⟩
    .simp [Builtin.append_,run_underlying hu,run_underlying hx,sizeOf,typeInfo,zeroValue,hi,h2,h3,asInt,asIntOf,Bu,hneg,EM,hr,hm0,Dc,Addr.add_lit,hst]
    .rw [lca,lfa,lIa,<-ht,hfl,Uq _ _ _ (by grind),lfa,Nat.mul_one,Nat.mul_one,lka,
      ltb (by grind),<-lka,lPb,show of+xs.length-of=xs.length by omega,
      lya (by grind),lta (by grind)]
   .refine grow (some ⟨gg,of,none⟩) cap (xs.flatMap en) rfl rfl ?_ yp
    have ET:At w gg of (xs.flatMap en):=by
     have:=JB.at.sub of (xs.length * 1);rw [ht,lNb] at this;exact this
    exact run_firstCells_some (P:=P) w.drew 1 xs.length ⟨gg,of,none⟩ xs.length cap (xs.flatMap en) (Yp ho.2 xs) (fun q u hq=>by rw [Addr.add_lit];simpa using ET.cell hq)
end
end YY
namespace Zl
open Go YY Go.RowKit
open YT
section
variable {g:Zz} {w:World} {l:List As}
theorem match_ (H:Sat g w l) (v:Value) (xs:List Y6) (hx:Z0 g Ot (okV g) 4 v xs):xP 203 #[v] w (fun r w'=>∃(u1 u2:Value) (E L:xO) (e:Int),r=.tuple #[u1,u2,yh e]/\e=Yn (xs.map Y6.d)/\((e≠0/\E=[]/\L=[])\/(e=0/\∃op last,MK (xs.map Y6.d) xs.length ⟨op,last,true⟩ E L))/\Sat g w' (Sl 3 1 ZJ u1 E::Sl 3 1 ZJ u2 L::l)):=by
 refine Fc.of Tryz.func203 rfl k_d ?_
 have hml:(xs.map Y6.d).length=xs.length:=lea ..
 by_cases hc:Yn (xs.map Y6.d)=0
 .obtain ⟨hl,hF,RJ⟩:=Zf hc
  rw [hml] at hl hF RJ
  refine Z7.mk (Fc.imp (Zl.check H _ _ hx) ?_)
  rintro _ w1 ⟨⟨e1,⟨rfl,h1⟩⟩,H⟩
  refine cF (XL yp)<|ID H [] (.op 0 .pure (.op 1 .pure (.op 3 .pure (.op 4 .pure (.fork (.op 2 .free (.op 6 .pure (.op 5 .free (.op 7 .pure .nil)))) (.op 5 .free (.op 2 .free (.op 6 .pure (.op 7 .pure .nil))))))))) mixed k_d<|fun w2 H=>tk (fun _ Z=>ZF hx rfl yj)<|tk (fun _ Z=>ZF hx rfl yj) ?_
  constructor
  focus
   refine R1 (en:=ZJ) (s:=1) H (0) ((xs.length)) ((xs.length)) 8 rfl rfl rfl (fun _=>rfl) yp yp yp yp yp<|fun v1 w1 H=>R1 (en:=ZJ) (s:=1) H (0) ((xs.length)) ((xs.length)) 8 rfl rfl rfl (fun _=>rfl) yp yp yp yp yp<|fun v2 w2 H=>?_
   refine Z7.mk (Fc.imp (Zl.WZ _) ?_)
   rintro _ w1 ⟨p1,⟨IT,⟨DQ,⟨rfl,H'⟩⟩⟩⟩
   refine H.XW H' ?_
   clear H H'
   intro H
   refine ZF hx rfl ?_
  rotate_left 1
  focus
   refine R1 (en:=ZJ) (s:=1) H (0) ((xs.length)) ((xs.length)) 8 rfl rfl rfl (fun _=>rfl) yp yp yp yp yp<|fun v1 w1 H=>R1 (en:=ZJ) (s:=1) H (0) ((xs.length)) ((xs.length)) 8 rfl rfl rfl (fun _=>rfl) yp yp yp yp yp<|fun v2 w2 H=>?_
   refine Z7.mk (Fc.imp (Zl.WZ _) ?_)
   rintro _ w1 ⟨p1,⟨IT,⟨DQ,⟨rfl,H'⟩⟩⟩⟩
   refine H.XW H' ?_
   clear H H'
   intro H
   refine ZF hx rfl ?_
  rotate_left 1
  focus
   generalize v1=ue at *
   generalize v2=ul at *
  rotate_left
  focus
   generalize v2=ue at *
   generalize v1=ul at *
  rotate_left
  .refine YV.rule (α:=Nat × xO × xO × Bool × Value × Value × xO × xO) (0,NX.op,NX.last,NX.over,IT,DQ,List.replicate xs.length 0,List.replicate xs.length 0) (fun x_=>[(26,yh x_.1)]) (fun x_ w_=>(x_.1<=xs.length)/\(MK (xs.map Y6.d) x_.1 ⟨x_.2.1,x_.2.2.1,x_.2.2.2.1⟩ x_.2.2.2.2.2.2.1 x_.2.2.2.2.2.2.2)/\Sat g w_ ((Pt p1 [x_.2.2.2.2.1,x_.2.2.2.2.2.1,.bool x_.2.2.2.1] 324::Sl 3 1 ZJ x_.2.2.2.2.1 x_.2.1::Sl 5 1 Yu x_.2.2.2.2.2.1 x_.2.2.1::Sl 3 1 ZJ ue x_.2.2.2.2.2.2.1::Sl 3 1 ZJ ul x_.2.2.2.2.2.2.2::l))) (fun x_=>xs.length-x_.1) ?_ ?_ ?_
   .exact k_a
   .try simp only
    refine ⟨yp,?_⟩
    constructor
    .exact MK.zero ym ym
    exact H.Z8 [3,4,4,4,4]<|fun H=>H
   rintro ⟨k,op,last,ov,vo,vl,E,L⟩ f_ w_ ⟨hk,hM,H⟩
   try simp only at hk hM H ⊢
   have De:=hM.eL
   have Bs:=hM.lL
   rw [hml] at De Bs
   rcases lAa k xs.length with hlt|hge
   .obtain ⟨x,EL⟩:∃x,xs[k]?=some x:=⟨_,laa hlt⟩
    have GN:=VW EL
    have Ol:=(hF k _ hlt GN).2
    have hok:=XO (xs.map Y6.d) k
    rw [<-hM.cur] at Ol hok
    have RJ:ov=false:=by
     cases ov
     .rfl
     .rw [Pu rfl] at Ol;cases Ol
    subst RJ
    change (Zm ⟨op,last,false⟩ x.op k).2.2=0 at Ol
    by_cases h5:x.op=5
    .refine cT (Y9 yp)<|bk ?_
     obtain ⟨b1,o1,E1,F1,ZH⟩:=Z0.Y5 hx EL
     have Vf:=ZH.op
     have Ud:=ZH.a
     have Uc:=ZH.b
     have YA:=ZH.to
     refine ZI E1 rfl rfl rfl<|ZC (H.Yt F1) 0 rfl rfl rfl<|ZV H rfl<|fun p2 w3 H=>ZG H 0 rfl rfl rfl k_i<|fun w4 H=>?_
     obtain ⟨x1,hx1⟩:∃x,(E)[(k)]?=some x:=⟨_,laa yp⟩
     obtain ⟨b2,o2,E2⟩:=H.Y5 4 rfl (k) yp
     refine ZI E2 rfl rfl rfl<|Yl H 4 rfl E2 hx1 0 (-1) rfl rfl rfl rfl<|fun w3 H=>?_
     obtain ⟨x2,RK⟩:∃x,(L)[(k)]?=some x:=⟨_,laa yp⟩
     obtain ⟨b3,o3,E3⟩:=H.Y5 5 rfl (k) yp
     refine ZI E3 rfl rfl rfl<|Yl H 5 rfl E3 RK 0 (-1) rfl rfl rfl rfl<|fun w4 H=>ZC (H.at 0 rfl) 0 rfl rfl rfl<|H.Z8 [3,3,3]<|fun H=>?_
     refine Z7.mk (Fc.imp (Zl.next _ hok H _ _ _ _ _) ?_)
     rintro _ w3 ⟨Xz,⟨VN,⟨Rr,⟨WY,⟨TK,⟨Us,⟨e2,⟨rfl,⟨h2,H⟩⟩⟩⟩⟩⟩⟩⟩⟩
     rw [h2] at Ol
     simp only at Ol
     subst Ol
     obtain ⟨Da,SA,Qy⟩:=hM.UA GN h2 h5
     rw [hml] at Qy
     refine bk<|Z9 rfl<|ye H 3 0 x9<|cT (ZK yo)<|ZI E3 rfl rfl rfl ?_
     have It:(L.set k (-1))[k]?=some _:=Wv RK
     refine Yl H 5 rfl E3 It 0 (Us) rfl rfl rfl rfl<|fun w5 H=>?_
     obtain ⟨x3,Ir⟩:∃x,((L.set k (-1)).set k Us)[(Us).toNat]?=some x:=⟨_,laa (by grind)⟩
     obtain ⟨b4,o4,E4⟩:=H.Y5 5 rfl (Us).toNat (by grind)
     refine ZI E4 yp rfl rfl<|Yl H 5 rfl E4 Ir 0 ((↑k:Int)) rfl rfl rfl rfl<|fun w3 H=>ZX yp ?_
     refine W0.mk ((k+1,Xz,VN,Rr,WY,TK,E.set k (-1),((L.set k (-1)).set k Us).set Us.toNat (↑k:Int))) (Zr rfl yp (ZW)) ?_ ?_
     .refine ⟨yp,?_⟩
      refine ⟨yp,?_⟩
      exact H.Z8 [5,5,4,4,4]<|fun H=>H.drop 5<|fun H=>H
     omega
    by_cases h11:x.op=11
    .refine cT (Y9 yp)<|bk ?_
     obtain ⟨b1,o1,E1,F1,ZH⟩:=Z0.Y5 hx EL
     have Vf:=ZH.op
     have Ud:=ZH.a
     have Uc:=ZH.b
     have YA:=ZH.to
     refine ZI E1 rfl rfl rfl<|ZC (H.Yt F1) 0 rfl rfl rfl<|ZV H rfl<|fun p2 w3 H=>ZG H 0 rfl rfl rfl k_i<|fun w4 H=>?_
     obtain ⟨x1,hx1⟩:∃x,(E)[(k)]?=some x:=⟨_,laa yp⟩
     obtain ⟨b2,o2,E2⟩:=H.Y5 4 rfl (k) yp
     refine ZI E2 rfl rfl rfl<|Yl H 4 rfl E2 hx1 0 (-1) rfl rfl rfl rfl<|fun w3 H=>?_
     obtain ⟨x2,RK⟩:∃x,(L)[(k)]?=some x:=⟨_,laa yp⟩
     obtain ⟨b3,o3,E3⟩:=H.Y5 5 rfl (k) yp
     refine ZI E3 rfl rfl rfl<|Yl H 5 rfl E3 RK 0 (-1) rfl rfl rfl rfl<|fun w4 H=>ZC (H.at 0 rfl) 0 rfl rfl rfl<|H.Z8 [3,3,3]<|fun H=>?_
     refine Z7.mk (Fc.imp (Zl.next _ hok H _ _ _ _ _) ?_)
     rintro _ w3 ⟨Xz,⟨VN,⟨Rr,⟨WY,⟨TK,⟨Us,⟨e2,⟨rfl,⟨h2,H⟩⟩⟩⟩⟩⟩⟩⟩⟩
     rw [h2] at Ol
     simp only at Ol
     subst Ol
     rcases hM.St GN h2 h11 with ⟨SA,Da⟩|⟨z,SA,Qy,hz,Fs,Da⟩|⟨z,SA,Qy,hz,Fs,Kw,Da⟩
     refine bk<|Z9 rfl<|ye H 3 0 x9<|cF (Z5 yo)<|Z9 rfl<|ye H 3 0 x9<|cT (ZK yo)<|ZI E2 rfl rfl rfl ?_
     have It:(E.set k (-1))[k]?=some _:=Wv hx1
     refine Yl H 4 rfl E2 It 0 (Us) rfl rfl rfl rfl<|fun w5 H=>cF (Yy yo)<|ZX yp ?_
     refine W0.mk ((k+1,Xz,VN,Rr,WY,TK,(E.set k (-1)).set k Us,L.set k (-1))) (Zr rfl yp (ZW)) ?_ ?_
     .refine ⟨yp,?_⟩
      refine ⟨yp,?_⟩
      exact H.Z8 [5,5,4,4,4]<|fun H=>H.drop 5<|fun H=>H
     .omega
     .refine bk<|Z9 rfl<|ye H 3 0 x9<|cF (Z5 yo)<|Z9 rfl<|ye H 3 0 x9<|cT (ZK yo)<|ZI E2 rfl rfl rfl ?_
      have It:(E.set k (-1))[k]?=some _:=Wv hx1
      refine Yl H 4 rfl E2 It 0 (Us) rfl rfl rfl rfl<|fun w5 H=>cT (Yc yo) ?_
      obtain ⟨x3,Ir⟩:∃x,((E.set k (-1)).set k Us)[(Us).toNat]?=some x:=⟨_,laa (by grind)⟩
      obtain ⟨b4,o4,E4⟩:=H.Y5 4 rfl (Us).toNat (by grind)
      refine ZI E4 yp rfl rfl<|Yl H 4 rfl E4 Ir 0 ((↑k:Int)) rfl rfl rfl rfl<|fun w3 H=>?_
      obtain ⟨b5,o5,E5⟩:=H.Y5 5 rfl (Us).toNat (by grind)
      refine ZI E5 yp rfl rfl<|xW (H.el 5 rfl E5 hz) 0 xV<|cF (Yy yo)<|ZX yp ?_
      refine W0.mk ((k+1,Xz,VN,Rr,WY,TK,((E.set k (-1)).set k Us).set Us.toNat (↑k:Int),L.set k (-1))) (Zr rfl yp (ZW)) ?_ ?_
      .refine ⟨yp,?_⟩
       refine ⟨yp,?_⟩
       exact H.Z8 [5,5,4,4,4]<|fun H=>H.drop 5<|fun H=>H
      omega
     refine bk<|Z9 rfl<|ye H 3 0 x9<|cF (Z5 yo)<|Z9 rfl<|ye H 3 0 x9<|cT (ZK yo)<|ZI E2 rfl rfl rfl ?_
     have It:(E.set k (-1))[k]?=some _:=Wv hx1
     refine Yl H 4 rfl E2 It 0 (Us) rfl rfl rfl rfl<|fun w5 H=>cT (Yc yo) ?_
     obtain ⟨x3,Ir⟩:∃x,((E.set k (-1)).set k Us)[(Us).toNat]?=some x:=⟨_,laa (by grind)⟩
     obtain ⟨b4,o4,E4⟩:=H.Y5 4 rfl (Us).toNat (by grind)
     refine ZI E4 yp rfl rfl<|Yl H 4 rfl E4 Ir 0 ((↑k:Int)) rfl rfl rfl rfl<|fun w3 H=>?_
     obtain ⟨b5,o5,E5⟩:=H.Y5 5 rfl (Us).toNat (by grind)
     refine ZI E5 yp rfl rfl<|xW (H.el 5 rfl E5 hz) 0 xV<|cT (Yc yo) ?_
     obtain ⟨x4,DN⟩:∃x,(((E.set k (-1)).set k Us).set Us.toNat (↑k:Int))[(z).toNat]?=some x:=⟨_,laa (by grind)⟩
     obtain ⟨b6,o6,E6⟩:=H.Y5 4 rfl (z).toNat (by grind)
     refine ZI E6 yp rfl rfl<|Yl H 4 rfl E6 DN 0 ((↑k:Int)) rfl rfl rfl rfl<|fun w5 H=>ZX yp ?_
     refine W0.mk ((k+1,Xz,VN,Rr,WY,TK,(((E.set k (-1)).set k Us).set Us.toNat (↑k:Int)).set z.toNat (↑k:Int),L.set k (-1))) (Zr rfl yp (ZW)) ?_ ?_
     .refine ⟨yp,?_⟩
      refine ⟨yp,?_⟩
      exact H.Z8 [5,5,4,4,4]<|fun H=>H.drop 5<|fun H=>H
     omega
    .refine cT (Y9 yp)<|bk ?_
     obtain ⟨b1,o1,E1,F1,ZH⟩:=Z0.Y5 hx EL
     have Vf:=ZH.op
     have Ud:=ZH.a
     have Uc:=ZH.b
     have YA:=ZH.to
     refine ZI E1 rfl rfl rfl<|ZC (H.Yt F1) 0 rfl rfl rfl<|ZV H rfl<|fun p2 w3 H=>ZG H 0 rfl rfl rfl k_i<|fun w4 H=>?_
     obtain ⟨x1,hx1⟩:∃x,(E)[(k)]?=some x:=⟨_,laa yp⟩
     obtain ⟨b2,o2,E2⟩:=H.Y5 4 rfl (k) yp
     refine ZI E2 rfl rfl rfl<|Yl H 4 rfl E2 hx1 0 (-1) rfl rfl rfl rfl<|fun w3 H=>?_
     obtain ⟨x2,RK⟩:∃x,(L)[(k)]?=some x:=⟨_,laa yp⟩
     obtain ⟨b3,o3,E3⟩:=H.Y5 5 rfl (k) yp
     refine ZI E3 rfl rfl rfl<|Yl H 5 rfl E3 RK 0 (-1) rfl rfl rfl rfl<|fun w4 H=>ZC (H.at 0 rfl) 0 rfl rfl rfl<|H.Z8 [3,3,3]<|fun H=>?_
     refine Z7.mk (Fc.imp (Zl.next _ hok H _ _ _ _ _) ?_)
     rintro _ w3 ⟨Xz,⟨VN,⟨Rr,⟨WY,⟨TK,⟨Us,⟨e2,⟨rfl,⟨h2,H⟩⟩⟩⟩⟩⟩⟩⟩⟩
     rw [h2] at Ol
     simp only at Ol
     subst Ol
     refine bk<|Z9 rfl<|ye H 3 0 x9<|cF (Z5 yo)<|Z9 rfl<|ye H 3 0 x9<|cF (Z5 yo)<|ZX yp ?_
     refine W0.mk ((k+1,Xz,VN,Rr,WY,TK,E.set k (-1),L.set k (-1))) (Zr rfl yp (ZW)) ?_ ?_
     .refine ⟨yp,?_⟩
      constructor
      .exact hM.MU GN h2 h5 h11
      exact H.Z8 [5,5,4,4,4]<|fun H=>H.drop 5<|fun H=>H
     omega
   .obtain rfl:k=xs.length:=by omega
    rw [<-hM.cur] at RJ
    have RJ:ov=true:=RJ
    subst RJ
    refine cF (Zs yp)<|Z6.mk ?_
    refine ⟨ue,ul,E,L,0,?_⟩
    refine ⟨rfl,?_⟩
    refine ⟨yp,?_⟩
    constructor
    .grind
    exact H.Z8 [4,4]<|fun H=>xU H [4,3,2]<|fun H=>H
  .refine YV.rule (α:=Nat × xO × xO × Bool × Value × Value × xO × xO) (0,NX.op,NX.last,NX.over,IT,DQ,List.replicate xs.length 0,List.replicate xs.length 0) (fun x_=>[(26,yh x_.1)]) (fun x_ w_=>(x_.1<=xs.length)/\(MK (xs.map Y6.d) x_.1 ⟨x_.2.1,x_.2.2.1,x_.2.2.2.1⟩ x_.2.2.2.2.2.2.1 x_.2.2.2.2.2.2.2)/\Sat g w_ ((Pt p1 [x_.2.2.2.2.1,x_.2.2.2.2.2.1,.bool x_.2.2.2.1] 324::Sl 3 1 ZJ x_.2.2.2.2.1 x_.2.1::Sl 5 1 Yu x_.2.2.2.2.2.1 x_.2.2.1::Sl 3 1 ZJ ue x_.2.2.2.2.2.2.1::Sl 3 1 ZJ ul x_.2.2.2.2.2.2.2::l))) (fun x_=>xs.length-x_.1) ?_ ?_ ?_
   .exact k_a
   .try simp only
    refine ⟨yp,?_⟩
    constructor
    .exact MK.zero ym ym
    exact H
   rintro ⟨k,op,last,ov,vo,vl,E,L⟩ f_ w_ ⟨hk,hM,H⟩
   try simp only at hk hM H ⊢
   have De:=hM.eL
   have Bs:=hM.lL
   rw [hml] at De Bs
   rcases lAa k xs.length with hlt|hge
   .obtain ⟨x,EL⟩:∃x,xs[k]?=some x:=⟨_,laa hlt⟩
    have GN:=VW EL
    have Ol:=(hF k _ hlt GN).2
    have hok:=XO (xs.map Y6.d) k
    rw [<-hM.cur] at Ol hok
    have RJ:ov=false:=by
     cases ov
     .rfl
     .rw [Pu rfl] at Ol;cases Ol
    subst RJ
    change (Zm ⟨op,last,false⟩ x.op k).2.2=0 at Ol
    by_cases h5:x.op=5
    .refine cT (Y9 yp)<|bk ?_
     obtain ⟨b1,o1,E1,F1,ZH⟩:=Z0.Y5 hx EL
     have Vf:=ZH.op
     have Ud:=ZH.a
     have Uc:=ZH.b
     have YA:=ZH.to
     refine ZI E1 rfl rfl rfl<|ZC (H.Yt F1) 0 rfl rfl rfl<|ZV H rfl<|fun p2 w3 H=>ZG H 0 rfl rfl rfl k_i<|fun w4 H=>?_
     obtain ⟨x1,hx1⟩:∃x,(E)[(k)]?=some x:=⟨_,laa yp⟩
     obtain ⟨b2,o2,E2⟩:=H.Y5 4 rfl (k) yp
     refine ZI E2 rfl rfl rfl<|Yl H 4 rfl E2 hx1 0 (-1) rfl rfl rfl rfl<|fun w3 H=>?_
     obtain ⟨x2,RK⟩:∃x,(L)[(k)]?=some x:=⟨_,laa yp⟩
     obtain ⟨b3,o3,E3⟩:=H.Y5 5 rfl (k) yp
     refine ZI E3 rfl rfl rfl<|Yl H 5 rfl E3 RK 0 (-1) rfl rfl rfl rfl<|fun w4 H=>ZC (H.at 0 rfl) 0 rfl rfl rfl<|H.Z8 [3,3,3]<|fun H=>?_
     refine Z7.mk (Fc.imp (Zl.next _ hok H _ _ _ _ _) ?_)
     rintro _ w3 ⟨Xz,⟨VN,⟨Rr,⟨WY,⟨TK,⟨Us,⟨e2,⟨rfl,⟨h2,H⟩⟩⟩⟩⟩⟩⟩⟩⟩
     rw [h2] at Ol
     simp only at Ol
     subst Ol
     obtain ⟨Da,SA,Qy⟩:=hM.UA GN h2 h5
     rw [hml] at Qy
     refine bk<|Z9 rfl<|ye H 3 0 x9<|cT (ZK yo)<|ZI E3 rfl rfl rfl ?_
     have It:(L.set k (-1))[k]?=some _:=Wv RK
     refine Yl H 5 rfl E3 It 0 (Us) rfl rfl rfl rfl<|fun w5 H=>?_
     obtain ⟨x3,Ir⟩:∃x,((L.set k (-1)).set k Us)[(Us).toNat]?=some x:=⟨_,laa (by grind)⟩
     obtain ⟨b4,o4,E4⟩:=H.Y5 5 rfl (Us).toNat (by grind)
     refine ZI E4 yp rfl rfl<|Yl H 5 rfl E4 Ir 0 ((↑k:Int)) rfl rfl rfl rfl<|fun w3 H=>ZX yp ?_
     refine W0.mk ((k+1,Xz,VN,Rr,WY,TK,E.set k (-1),((L.set k (-1)).set k Us).set Us.toNat (↑k:Int))) (Zr rfl yp (ZW)) ?_ ?_
     .refine ⟨yp,?_⟩
      refine ⟨yp,?_⟩
      exact H.Z8 [5,5,4,4,4]<|fun H=>H.drop 5<|fun H=>H
     omega
    by_cases h11:x.op=11
    .refine cT (Y9 yp)<|bk ?_
     obtain ⟨b1,o1,E1,F1,ZH⟩:=Z0.Y5 hx EL
     have Vf:=ZH.op
     have Ud:=ZH.a
     have Uc:=ZH.b
     have YA:=ZH.to
     refine ZI E1 rfl rfl rfl<|ZC (H.Yt F1) 0 rfl rfl rfl<|ZV H rfl<|fun p2 w3 H=>ZG H 0 rfl rfl rfl k_i<|fun w4 H=>?_
     obtain ⟨x1,hx1⟩:∃x,(E)[(k)]?=some x:=⟨_,laa yp⟩
     obtain ⟨b2,o2,E2⟩:=H.Y5 4 rfl (k) yp
     refine ZI E2 rfl rfl rfl<|Yl H 4 rfl E2 hx1 0 (-1) rfl rfl rfl rfl<|fun w3 H=>?_
     obtain ⟨x2,RK⟩:∃x,(L)[(k)]?=some x:=⟨_,laa yp⟩
     obtain ⟨b3,o3,E3⟩:=H.Y5 5 rfl (k) yp
     refine ZI E3 rfl rfl rfl<|Yl H 5 rfl E3 RK 0 (-1) rfl rfl rfl rfl<|fun w4 H=>ZC (H.at 0 rfl) 0 rfl rfl rfl<|H.Z8 [3,3,3]<|fun H=>?_
     refine Z7.mk (Fc.imp (Zl.next _ hok H _ _ _ _ _) ?_)
     rintro _ w3 ⟨Xz,⟨VN,⟨Rr,⟨WY,⟨TK,⟨Us,⟨e2,⟨rfl,⟨h2,H⟩⟩⟩⟩⟩⟩⟩⟩⟩
     rw [h2] at Ol
     simp only at Ol
     subst Ol
     rcases hM.St GN h2 h11 with ⟨SA,Da⟩|⟨z,SA,Qy,hz,Fs,Da⟩|⟨z,SA,Qy,hz,Fs,Kw,Da⟩
     refine bk<|Z9 rfl<|ye H 3 0 x9<|cF (Z5 yo)<|Z9 rfl<|ye H 3 0 x9<|cT (ZK yo)<|ZI E2 rfl rfl rfl ?_
     have It:(E.set k (-1))[k]?=some _:=Wv hx1
     refine Yl H 4 rfl E2 It 0 (Us) rfl rfl rfl rfl<|fun w5 H=>cF (Yy yo)<|ZX yp ?_
     refine W0.mk ((k+1,Xz,VN,Rr,WY,TK,(E.set k (-1)).set k Us,L.set k (-1))) (Zr rfl yp (ZW)) ?_ ?_
     .refine ⟨yp,?_⟩
      refine ⟨yp,?_⟩
      exact H.Z8 [5,5,4,4,4]<|fun H=>H.drop 5<|fun H=>H
     .omega
     .refine bk<|Z9 rfl<|ye H 3 0 x9<|cF (Z5 yo)<|Z9 rfl<|ye H 3 0 x9<|cT (ZK yo)<|ZI E2 rfl rfl rfl ?_
      have It:(E.set k (-1))[k]?=some _:=Wv hx1
      refine Yl H 4 rfl E2 It 0 (Us) rfl rfl rfl rfl<|fun w5 H=>cT (Yc yo) ?_
      obtain ⟨x3,Ir⟩:∃x,((E.set k (-1)).set k Us)[(Us).toNat]?=some x:=⟨_,laa (by grind)⟩
      obtain ⟨b4,o4,E4⟩:=H.Y5 4 rfl (Us).toNat (by grind)
      refine ZI E4 yp rfl rfl<|Yl H 4 rfl E4 Ir 0 ((↑k:Int)) rfl rfl rfl rfl<|fun w3 H=>?_
      obtain ⟨b5,o5,E5⟩:=H.Y5 5 rfl (Us).toNat (by grind)
      refine ZI E5 yp rfl rfl<|xW (H.el 5 rfl E5 hz) 0 xV<|cF (Yy yo)<|ZX yp ?_
      refine W0.mk ((k+1,Xz,VN,Rr,WY,TK,((E.set k (-1)).set k Us).set Us.toNat (↑k:Int),L.set k (-1))) (Zr rfl yp (ZW)) ?_ ?_
      .refine ⟨yp,?_⟩
       refine ⟨yp,?_⟩
       exact H.Z8 [5,5,4,4,4]<|fun H=>H.drop 5<|fun H=>H
      omega
     refine bk<|Z9 rfl<|ye H 3 0 x9<|cF (Z5 yo)<|Z9 rfl<|ye H 3 0 x9<|cT (ZK yo)<|ZI E2 rfl rfl rfl ?_
     have It:(E.set k (-1))[k]?=some _:=Wv hx1
     refine Yl H 4 rfl E2 It 0 (Us) rfl rfl rfl rfl<|fun w5 H=>cT (Yc yo) ?_
     obtain ⟨x3,Ir⟩:∃x,((E.set k (-1)).set k Us)[(Us).toNat]?=some x:=⟨_,laa (by grind)⟩
     obtain ⟨b4,o4,E4⟩:=H.Y5 4 rfl (Us).toNat (by grind)
     refine ZI E4 yp rfl rfl<|Yl H 4 rfl E4 Ir 0 ((↑k:Int)) rfl rfl rfl rfl<|fun w3 H=>?_
     obtain ⟨b5,o5,E5⟩:=H.Y5 5 rfl (Us).toNat (by grind)
     refine ZI E5 yp rfl rfl<|xW (H.el 5 rfl E5 hz) 0 xV<|cT (Yc yo) ?_
     obtain ⟨x4,DN⟩:∃x,(((E.set k (-1)).set k Us).set Us.toNat (↑k:Int))[(z).toNat]?=some x:=⟨_,laa (by grind)⟩
     obtain ⟨b6,o6,E6⟩:=H.Y5 4 rfl (z).toNat (by grind)
     refine ZI E6 yp rfl rfl<|Yl H 4 rfl E6 DN 0 ((↑k:Int)) rfl rfl rfl rfl<|fun w5 H=>ZX yp ?_
     refine W0.mk ((k+1,Xz,VN,Rr,WY,TK,(((E.set k (-1)).set k Us).set Us.toNat (↑k:Int)).set z.toNat (↑k:Int),L.set k (-1))) (Zr rfl yp (ZW)) ?_ ?_
     .refine ⟨yp,?_⟩
      refine ⟨yp,?_⟩
      exact H.Z8 [5,5,4,4,4]<|fun H=>H.drop 5<|fun H=>H
     omega
    .refine cT (Y9 yp)<|bk ?_
     obtain ⟨b1,o1,E1,F1,ZH⟩:=Z0.Y5 hx EL
     have Vf:=ZH.op
     have Ud:=ZH.a
     have Uc:=ZH.b
     have YA:=ZH.to
     refine ZI E1 rfl rfl rfl<|ZC (H.Yt F1) 0 rfl rfl rfl<|ZV H rfl<|fun p2 w3 H=>ZG H 0 rfl rfl rfl k_i<|fun w4 H=>?_
     obtain ⟨x1,hx1⟩:∃x,(E)[(k)]?=some x:=⟨_,laa yp⟩
     obtain ⟨b2,o2,E2⟩:=H.Y5 4 rfl (k) yp
     refine ZI E2 rfl rfl rfl<|Yl H 4 rfl E2 hx1 0 (-1) rfl rfl rfl rfl<|fun w3 H=>?_
     obtain ⟨x2,RK⟩:∃x,(L)[(k)]?=some x:=⟨_,laa yp⟩
     obtain ⟨b3,o3,E3⟩:=H.Y5 5 rfl (k) yp
     refine ZI E3 rfl rfl rfl<|Yl H 5 rfl E3 RK 0 (-1) rfl rfl rfl rfl<|fun w4 H=>ZC (H.at 0 rfl) 0 rfl rfl rfl<|H.Z8 [3,3,3]<|fun H=>?_
     refine Z7.mk (Fc.imp (Zl.next _ hok H _ _ _ _ _) ?_)
     rintro _ w3 ⟨Xz,⟨VN,⟨Rr,⟨WY,⟨TK,⟨Us,⟨e2,⟨rfl,⟨h2,H⟩⟩⟩⟩⟩⟩⟩⟩⟩
     rw [h2] at Ol
     simp only at Ol
     subst Ol
     refine bk<|Z9 rfl<|ye H 3 0 x9<|cF (Z5 yo)<|Z9 rfl<|ye H 3 0 x9<|cF (Z5 yo)<|ZX yp ?_
     refine W0.mk ((k+1,Xz,VN,Rr,WY,TK,E.set k (-1),L.set k (-1))) (Zr rfl yp (ZW)) ?_ ?_
     .refine ⟨yp,?_⟩
      constructor
      .exact hM.MU GN h2 h5 h11
      exact H.Z8 [5,5,4,4,4]<|fun H=>H.drop 5<|fun H=>H
     omega
   .obtain rfl:k=xs.length:=by omega
    rw [<-hM.cur] at RJ
    have RJ:ov=true:=RJ
    subst RJ
    refine cF (Zs yp)<|Z6.mk ?_
    refine ⟨ue,ul,E,L,0,?_⟩
    refine ⟨rfl,?_⟩
    refine ⟨yp,?_⟩
    constructor
    .grind
    exact H.Z8 [4,4]<|fun H=>xU H [4,3,2]<|fun H=>H
 .refine Z7.mk (Fc.imp (Zl.check H _ _ hx) ?_)
  rintro _ w1 ⟨⟨e1,⟨rfl,h1⟩⟩,H⟩
  exact cT (WE yp)<|Z6.mk<|⟨.slice none 0 0,.slice none 0 0,[],[],_,rfl,h1,.inl ⟨by rw [h1];exact hc,rfl,rfl⟩,(H.Ve (en:=ZJ) (s:=1) 3 (fun _=>rfl)).Ve (en:=ZJ) (s:=1) 3 (fun _=>rfl)⟩
end
end Zl
namespace YY
open Go
structure DM (P:Program) (f:FuncId) (args:Array Value) (w:World) (R:Value->World->Prop):Prop where
 NN:(callFunc f args).run P w=.ok (.enter f args) w
 calls:∀u,CallsD P f args u w fun e u' w'=>u'=u/\∃v,e=.returned v/\R v w'
theorem DM.imp {P:Program} {f:FuncId} {args:Array Value} {w:World} {R R':Value->World->Prop} (h:DM P f args w R) (hk:∀v w',R v w'->R' v w'):DM P f args w R' :=
 ⟨h.NN,fun u=>(h.calls u).mono fun _ _ _ ⟨a,v,b,c⟩=>⟨a,v,b,hk _ _ c⟩⟩
theorem DM.of {P:Program} {f:FuncId} {fn:Func} {c:Code} {args:Array Value} {w:World} {R:Value->World->Prop}
  (hf:P.funcs[f]?=some fn) (hb:fn.body=some c) (hn:(fn.name == "runtime.NumGoroutine")=false) (h:EZ P fn c args.toList w R):DM P f args w R:=by
 refine ⟨?_,fun u=>?_⟩
 .simp only [callFunc,Sem.run_bind,program,Sem.run,Result.andThen_ok,hf]
  rw [if_neg (by rw [hn];decide),if_neg (by rw [hb];simp)]
  rfl
 .refine callsD_of_wp hf hb ?_
  unfold EZ at h
  rw [KU,Sa,lna] at h
  have:=UE (ds:=[]) c h
  have e:(args.toList++List.replicate (fn.ntmps-args.toList.length) undef).toArray=args++Array.replicate (fn.ntmps-args.size) undef:=by
   apply Array.ext';simp
  rw [e] at this
  exact wp_mono this fun e a w h=>Rz h
abbrev DL:=List (FuncId × xM)
abbrev akR:=(Exit->xM->DL->World->Prop)->xM->DL->World->Prop
inductive Aq (P:Program) (f:FuncId) (args:Array Value) (w:World) (K:World->Prop):Prop
 | mk (h:DM P f args w fun _ w'=>K w')
def MQ (P:Program) (ops:List Oper) (K:xM->DL->World->Prop) (l:List Oper):xM->DL->World->Prop :=
 List.rec (motive:=fun _=>xM->DL->World->Prop) K (fun o _ ih ρ dl w=>XX ops o.guard ρ fun b ρ=>match b with
  | true=>match o.op with
   | .defer c=>match c.callee with
    | .value f=>VG ρ f fun f=>T4 ρ c.args.toList fun vs=>match f with
     | .func fn first captured=>match fn with
      | .func id=>OI vs captured.toList fun a=>OI first.toList a fun a=>Xi ρ o.dst undef fun ρ=>ih ρ ((id,a)::dl) w
      | _=>False
     | _=>False
    | _=>False
   | _=>K1 P o ρ w fun v w=>Xi ρ o.dst v fun ρ=>ih ρ dl w
  | false=>Xi ρ o.dst undef fun ρ=>ih ρ dl w) l
theorem adv (P:Program) (ops:List Oper) (K:xM->DL->World->Prop) (ρ:xM) (dl:DL) (w:World):MQ P ops K [] ρ dl w=K ρ dl w:=rfl
theorem aco (P:Program) (ops:List Oper) (K:xM->DL->World->Prop) (o:Oper) (r:List Oper) (ρ:xM) (dl:DL) (w:World) :
  MQ P ops K (o::r) ρ dl w=XX ops o.guard ρ fun b ρ=>match b with
  | true=>match o.op with
   | .defer c=>match c.callee with
    | .value f=>VG ρ f fun f=>T4 ρ c.args.toList fun vs=>match f with
     | .func fn first captured=>match fn with
      | .func id=>OI vs captured.toList fun a=>OI first.toList a fun a=>Xi ρ o.dst undef fun ρ=>MQ P ops K r ρ ((id,a)::dl) w
      | _=>False
     | _=>False
    | _=>False
   | _=>K1 P o ρ w fun v w=>Xi ρ o.dst v fun ρ=>MQ P ops K r ρ dl w
  | false=>Xi ρ o.dst undef fun ρ=>MQ P ops K r ρ dl w:=rfl
def akS (o:Oper):Bool:=match o.op with
 | .defer _=>true
 | _=>false
noncomputable def aeI (c:Code):Bool :=
 Code.rec (motive:=fun _=>Bool) false (fun _ ops _=>List.rec (motive:=fun _=>Bool) false (fun o _ ih=>match akS o with
   | true=>true
   | false=>ih) ops.toList)
  (fun _ _ a b=>match a with
   | true=>true
   | false=>b) (fun _ _ _ _ _=>false) (fun _ _ a=>a) (fun _ _=>false) (fun _ _ _ _ _ _=>false) (fun _=>false) (fun _ a=>a) (fun _=>false) (fun _=>false) false (fun _=>false) c
def Iq (next:xM->DL->World->Prop) (Q:Exit->xM->DL->World->Prop) (e:Exit) (ρ:xM) (dl:DL) (w:World):Prop :=
 match e with
 | .normal=>next ρ dl w
 | e=>Q e ρ dl w
def Br (P:Program) (c:Code):akR :=
 Code.rec (motive:=fun _=>akR)
  (fun Q ρ dl w=>Q .normal ρ dl w)
  (fun id ops draw Q ρ dl w=>match draw with
   | false=>MQ P ops.toList (Q .normal) ops.toList ρ dl w
   | true=>N2 P id ops (fun ρ w=>Q .normal ρ dl w) ρ w)
  (fun x _ KY LB Q ρ dl w=>match aeI x with
   | true=>KY (Iq (LB Q) Q) ρ dl w
   | false=>OM P x (Vx (fun ρ w=>LB Q ρ dl w) (fun e ρ w=>Q e ρ dl w)) ρ w)
  (fun c x y _ _ Q ρ dl w=>OM P (.cond c x y) (fun e ρ w=>Q e ρ dl w) ρ w)
  (fun id c _ Q ρ dl w=>OM P (.block id c) (fun e ρ w=>Q e ρ dl w) ρ w)
  (fun c _ Q ρ dl w=>OM P (.loop c) (fun e ρ w=>Q e ρ dl w) ρ w)
  (fun _ _ _ _ _ _ _ _ _ _=>False)
  (fun id Q ρ dl w=>Q (.exit id) ρ dl w)
  (fun c _ Q ρ dl w=>OM P (.scope c) (fun e ρ w=>Q e ρ dl w) ρ w)
  (fun _ Q ρ dl w=>Q .normal ρ dl w)
  (fun l Q ρ dl w=>Q (.goto l) ρ dl w)
  (fun Q ρ dl w=>Q .ret ρ dl w)
  (fun _ _ _ _ _=>False) c
def Kv (P:Program) (rs:List ResultVar) (R:Value->World->Prop) (ρ:xM) (dl:DL):World->Prop :=
 List.rec (motive:=fun _=>World->Prop) (fun w=>LX P ρ w rs fun vs=>Ho R w vs) (fun d _ ih w=>Aq P d.1 d.2.toArray w ih) dl
def aeJ (P:Program) (rs:List ResultVar) (R:Value->World->Prop) (e:Exit) (ρ:xM) (dl:DL) (w:World):Prop :=
 match e with
 | .normal=>Kv P rs R ρ dl w
 | .ret=>Kv P rs R ρ dl w
 | _=>False
def ahT (P:Program) (fn:Func) (c:Code) (args:xM) (w:World) (R:Value->World->Prop):Prop :=
 GM (fn.ntmps-args.length) [] fun us=>OI args us fun ρ=>Br P c (aeJ P fn.results.toList R) ρ [] w
def Dm:List Deferred->DL->Prop
 | [],[]=>True
 | d::ds,x::dl=>(∃cap,d.target=.fn (.func x.1) cap/\d.args++cap=x.2.toArray)/\Dm ds dl
 | _,_=>False
def Gy (Q:Exit->xM->DL->World->Prop) (e:Exit) (a:Act) (w:World):Prop:=∃dl,Dm a.defers dl/\Q e a.tmps.toList dl w
theorem RX {ds:List Deferred} {dl:DL} (hd:Dm ds dl) {Q:Exit->xM->DL->World->Prop} {e:Exit} {a:Act} {w:World} (h:lift ds (fun e ρ w=>Q e ρ dl w) e a w):Gy Q e a w:=by
 obtain ⟨rfl,h⟩:=h
 exact ⟨dl,hd,h⟩
theorem abr {P:Program} {ops:Array Oper} {Q:Exit->xM->DL->World->Prop} (l:List Oper) :
  ∀{ρ:xM} {w:World} {ds:List Deferred} {dl:DL},Dm ds dl->MQ P ops.toList (Q .normal) l ρ dl w->wpList P ops (Gy Q) l ⟨ρ.toArray,ds⟩ w:=by
 induction l with
 | nil=>exact fun hd h=>⟨_,hd,by simpa [adv] using h⟩
 | cons o r ih =>
  intro ρ w ds dl hd h
  simp only [aco,X5] at h
  obtain ⟨b,hb,h⟩:=XT h
  unfold wpList
  cases b
  .rw [if_neg (by simp [hb]),put_eq]
   exact ih hd h
  .rw [if_pos hb]
   refine .inl ?_
   simp only at h
   split at h
   .rename_i c ho
    split at h
    .rename_i f hf
     simp only [S5,NO] at h
     split at h
     .rename_i fn fst cap hv
      split at h
      .rename_i id
       simp only [Sa] at h
       have hx:(execOp (⟨ρ.toArray,ds⟩:Act).eval o).run P w=.ok (.defer ⟨.fn (.func id) cap,fst++c.args.map (ev ρ)⟩) w:=by
        rw [Yj];unfold execOp;rw [ho]
        simp only [resolve,hf,hv,Deferred.ofValue,Sem.run_bind,Sem.run_pure,Result.andThen_ok]
       simp only [Oper.wp,hx,Oper.upon]
       rw [put_eq]
       refine ih (dl:=(id,fst.toList++(List.map (ev ρ) c.args.toList++cap.toList))::dl) ⟨⟨cap,rfl,?_⟩,hd⟩ h
       apply Array.ext';simp
      .exact h.elim
     .exact h.elim
    .exact h.elim
   .exact UF h fun v w' h=>by rw [put_eq];exact ih hd h
theorem adw {P:Program} (c:Code):∀{Q:Exit->xM->DL->World->Prop} {ρ:xM} {w:World} {ds:List Deferred} {dl:DL},Dm ds dl->Br P c Q ρ dl w->c.wp P (Gy Q) ⟨ρ.toArray,ds⟩ w:=by
 induction c with
 | skip=>exact fun hd h=>wp_skip ⟨_,hd,h⟩
 | label l=>exact fun hd h=>wp_label ⟨_,hd,h⟩
 | exit i=>exact fun hd h=>wp_exit ⟨_,hd,h⟩
 | ret=>exact fun hd h=>wp_ret ⟨_,hd,h⟩
 | goto=>exact fun hd h=>wp_goto ⟨_,hd,h⟩
 | refuse=>exact fun _ h=>h.elim
 | rangeFunc=>exact fun _ h=>h.elim
 | cond c x y _ _=>exact fun hd h=>wp_mono (UE (.cond c x y) h) fun _ _ _=>RX hd
 | block id c _=>exact fun hd h=>wp_mono (UE (.block id c) h) fun _ _ _=>RX hd
 | loop c _=>exact fun hd h=>wp_mono (UE (.loop c) h) fun _ _ _=>RX hd
 | scope c _=>exact fun hd h=>wp_mono (UE (.scope c) h) fun _ _ _=>RX hd
 | region id ops draw =>
  intro Q ρ w ds dl hd h
  cases draw
  .exact wp_region_list (abr _ hd h)
  .obtain ⟨h⟩:=h
   refine wp_mono (h ds) ?_
   rintro e a w ⟨rfl,rfl,-,h4⟩
   exact ⟨dl,hd,h4⟩
 | seq x y KY LB =>
  intro Q ρ w ds dl hd h
  have h:(match aeI x with
   | true=>Br P x (Iq (Br P y Q) Q) ρ dl w
   | false=>OM P x (Vx (fun ρ w=>Br P y Q ρ dl w) (fun e ρ w=>Q e ρ dl w)) ρ w):=h
  split at h
  .refine wp_seq (wp_mono (KY hd h) ?_)
   rintro e a w ⟨dl,hd,he⟩
   cases e <;> simp only [Iq] at he <;> simp only [Exit.then]
   .rw [QZ (a:=a) rfl];exact LB hd he
   all_goals exact ⟨dl,hd,he⟩
  .refine wp_seq (wp_mono (UE x h) ?_)
   rintro e a w ⟨rfl,he⟩
   cases e <;> simp only [Vx] at he <;> simp only [Exit.then]
   .rw [QZ (a:=a) rfl];exact LB hd he
   all_goals exact ⟨dl,hd,he⟩
theorem acp {P:Program} {fn:Func} {R:Value->World->Prop} {ρ:xM} {w:World} (h:LX P ρ w fn.results.toList fun vs=>Ho R w vs) :
  ∃v,(results fn ρ.toArray).run P w=.ok v w/\R v w:=by
 obtain ⟨_,v,h1,v',h2,h3⟩:=Rz (P:=P) (fn:=fn) (R:=R) (e:=.normal) (a:=⟨ρ.toArray,[]⟩) (w:=w) ⟨rfl,by simpa [GL] using h⟩
 cases h2
 exact ⟨v,h1,h3⟩
theorem aag {P:Program} {fn:Func} {R:Value->World->Prop} {ρ:xM}:∀{ds:List Deferred} {dl:DL} {w:World},Dm ds dl->Kv P fn.results.toList R ρ dl w ->
  Leaves P fn ρ.toArray (fun e w'=>∃v,e=.returned v/\R v w') ds .returning w:=by
 intro ds
 induction ds with
 | nil =>
  intro dl w hd h
  cases dl with
  | nil=>obtain ⟨v,h1,h2⟩:=acp h;exact ⟨v,h1,v,rfl,h2⟩
  | cons x dl=>exact hd.elim
 | cons d ds ih =>
  intro dl w hd h
  cases dl with
  | nil=>exact hd.elim
  | cons x dl =>
   obtain ⟨⟨cap,ht,ha⟩,hd⟩:=hd
   obtain ⟨h⟩:=(h:Aq P x.1 x.2.toArray w (Kv P fn.results.toList R ρ dl))
   refine ⟨by simp,.func x.1,cap,x.1,x.2.toArray,ht,?_,?_⟩
   .rw [ht];simp only [invoke,ha];exact h.NN
   .refine (h.calls .returning).mono ?_
    rintro e u' w' ⟨rfl,v,rfl,hr⟩
    exact ih hd hr
theorem Fc.ofD {P:Program} {f:FuncId} {fn:Func} {c:Code} {args:Array Value} {w:World} {R:Value->World->Prop}
  (hf:P.funcs[f]?=some fn) (hb:fn.body=some c) (hn:(fn.name == "runtime.NumGoroutine")=false) (h:ahT P fn c args.toList w R):Fc P f args w R:=by
 constructor
 .simp only [callFunc,Sem.run_bind,program,Sem.run,Result.andThen_ok,hf]
  rw [if_neg (by rw [hn];decide),if_neg (by rw [hb];simp)]
  rfl
 .refine calls_of_wp_defers hf hb ?_
  unfold ahT at h
  rw [KU,Sa,lna] at h
  have:=adw (ds:=[]) (dl:=[]) c (by simp [Dm]) h
  have e:(args.toList++List.replicate (fn.ntmps-args.toList.length) undef).toArray=args++Array.replicate (fn.ntmps-args.size) undef:=by
   apply Array.ext';simp
  rw [e] at this
  refine wp_mono this ?_
  rintro e a w ⟨dl,hd,h⟩
  cases e <;> simp only [aeJ] at h
  .have:=aag hd h;simpa [bodyPostD] using this
  .have:=aag hd h;simpa [bodyPostD] using this
end YY
end Go.Proofs.YtakpnepblgfknaaGreatDoor
