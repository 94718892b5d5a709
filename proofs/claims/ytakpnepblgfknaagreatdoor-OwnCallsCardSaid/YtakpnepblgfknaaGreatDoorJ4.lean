import Derived.Test.YtakpnepblgfknaaGreatDoorJ3
import Derived.Defers
set_option maxRecDepth 100000
set_option linter.unusedVariables false
set_option linter.unusedSimpArgs false
set_option maxHeartbeats 4000000
set_option linter.defProp false
namespace Go.Proofs.YtakpnepblgfknaaGreatDoor
namespace YY
open Go Go.RowKit
section
variable {P:Program} {g:ZE} {w w':World} {l l1 l2:List As} {A:As} {K:Value->World->Prop} {α:Type} {en:α->ym} {s j h a:Nat} {v v1 v2:Value} {xs:List α} {e t ty:TypeId}
theorem acM:∀{l1 l2:List As} {h:Hp},Oy (l1++l2) h->∃a b,Jc h a b/\Oy l1 a/\Oy l2 b
 | [],l2,h,hs=>⟨fun _=>none,h,fun k=>.inr ⟨rfl,rfl⟩,trivial,hs⟩
 | A::l1,l2,h,hs=>by
  obtain ⟨a,b,h1,h2,h3⟩:=hs
  obtain ⟨c,d,h4,h5,h6⟩:=acM (l1:=l1) h3
  obtain ⟨f,h7,h8⟩:=h1.swap h4.comm
  exact ⟨f,d,h7.comm,⟨a,c,h8,h2,h5⟩,h6⟩
theorem Sat.box (H:Sat g w (l1++l)):Sat g w (Oy l1::l):=by
 obtain ⟨h,hs,a,b,h1,h2,h3⟩:=H.ex
 obtain ⟨c,d,h4,h5,h6⟩:=acM h3
 exact ⟨H.os,H.tape,H.output,h,hs,a,b,h1,h2,c,d,h4,h5,h6⟩
theorem Sat.unbox (H:Sat g w (Oy l1::l)):Sat g w (l1++l):=by
 obtain ⟨h,hs,a,b,h1,h2,c,d,h4,h5,h6⟩:=H.ex
 exact ⟨H.os,H.tape,H.output,h,hs,a,b,h1,h2,Lb h4 h5 h6⟩
theorem Sat.weak {A B:As} (H:Sat g w (A::l)) (hAB:∀h,A h->B h):Sat g w (B::l):=by
 obtain ⟨h,hs,a,b,h1,h2,c,d,h4,h5,h6⟩:=H.ex
 exact ⟨H.os,H.tape,H.output,h,hs,a,b,h1,h2,c,d,h4,hAB _ h5,h6⟩
theorem Sat.aiC {β:Type} {Q:β->Prop} {f:β->List As} (H:Sat g w ((fun h=>∃x,Q x/\Oy (f x) h)::l)):∃x,Q x/\Sat g w (f x++l):=by
 obtain ⟨h,hs,a,b,h1,h2,c,d,h4,⟨x,h5,h6⟩,h7⟩:=H.ex
 exact ⟨x,h5,H.os,H.tape,H.output,h,hs,a,b,h1,h2,Lb h4 h6 h7⟩
theorem Sat.akU {β:Type} {Q:β->Prop} {f:β->List As} (x:β) (hx:Q x) (H:Sat g w (f x++l)):Sat g w ((fun h=>∃x,Q x/\Oy (f x) h)::l) :=
 H.box.weak fun _ hh=>⟨x,hx,hh⟩
theorem Sat.IP (H:Sat g w l) (j:Nat) (hj:l[j]?=some (Sl e s en v xs)) (V:Vw v s xs.length a h v1):Sat g w (l.set j (Sl e s en v1 ((xs.take h).drop a))):=by
 have ho:=H.off j hj
 obtain ⟨ad,cap,rfl,q1,q2,q3,q4,rfl⟩:=V
 refine H.N2 hj (ho.cut q4 q1) (Gr.same w ?_)
 left
 cases ad with
 | none=>split <;> rfl
 | some q =>
  split
  .rfl
  .grind [Value.ownBlock,Addr.add]
theorem ahJ (PF:Nat) (H:Sat g w l) (j:Nat) (hj:l[j]?=some (Sl e s en v xs)) (V2:Vw v s xs.length 0 h v2) (V1:Vw v s xs.length a xs.length v1) (h1:∀y∈xs,((en y).all (·.oneCell'))=true)
  (hu:P.underlying t=some (.slice e)) (hz:(P.info? e).map (fun i=>(i.zero.map (fun z=>z.cells.size),i.size,i.bytes))=some (some s,s,PF)) (hsz:Nat.ble 1 s=true)
  (hb:(xs.length+xs.length) * PF<=140737488355328) (hml:xs.length+xs.length<=140737488355328)
  (k:∀v',QB l j (Sl e s en v' (xs.take h++xs.drop a)) fun l'=>∀w',Sat g w' l'->K v' w'):Zb P (Builtin.append_ #[t,t] ty #[v2,v1]) w K:=by
 have hr:=H.rdv (ok:=fun _=>True) j hj V1 (fun _ _=>trivial)
 rw [lub0] at hr
 have ho:=H.off j hj
 have hle:=V2.le
 have Dk:=V1.le
 obtain ⟨ad,cap,rfl,q1,q2,q3,q4,rfl⟩:=V2
 have hc:=ho.cut (l:=0) (h:=h) (lHa _) hle.1
 rw [lYa] at hc
 have hown:(Value.slice (if cap=0 then ad else ad.map (·.add (0 * s))) (h-0) (cap-0)).ownBlock=(Value.slice ad xs.length cap).ownBlock\/(Value.slice (if cap=0 then ad else ad.map (·.add (0 * s))) (h-0) (cap-0)).ownBlock=none:=by
  left
  cases ad with
  | none=>split <;> rfl
  | some q =>
   split
   .rfl
   .grind [Value.ownBlock,Addr.add]
 have H1:=H.N2 hj hc (Gr.same w hown)
 have hj1:(l.set j (Sl e s en (Value.slice (if cap=0 then ad else ad.map (·.add (0 * s))) (h-0) (cap-0)) (xs.take h)))[j]?=some (Sl e s en (Value.slice (if cap=0 then ad else ad.map (·.add (0 * s))) (h-0) (cap-0)) (xs.take h)):=by grind
 have MZ:(xs.take h).length+(xs.drop a).length<=xs.length+xs.length:=by grind
 refine VO PF H1 j hj1 hr (fun y hy=>h1 y (List.mem_of_mem_drop hy)) hu hz hsz (lEa (lBa _ MZ) hb) (lEa MZ hml) fun v'=>?_
 have k:=k v'
 rw [V6] at k ⊢
 rw [List.set_set]
 exact k
theorem GD (z:Value) (n:Nat) (hz:z.cells=#[z]):Builtin.zeroCells z.cells n=(List.replicate n z).toArray:=by grind [Builtin.zeroCells]
theorem aa0 {tx:TypeId} {ki:IntKind} {m:Nat} {z:Value} {i:TypeInfo} (AO:z.cells=#[z]) (hu:P.underlying t=some (.slice e)) (hx:P.underlying tx=some (.int ki)) (hi:P.info? e=some i) (h2:i.zero=some z) (h3:i.size=1)
  (BG:IntKind.i64.wrap (m:Int)=m) (EX:¬(281474976710656<(m:Int) * (i.bytes:Int))) (base:Option Addr) (n cap:Nat) (olds:ym) (hold:(Builtin.firstCells 1 n (.slice base n cap)).run P w.drew=.ok olds.toArray w.drew)
  (hm0:m≠0) (hg:cap<n+m) (h63:((n+m:Nat):Int)<=9223372036854775807) (hfit:Builtin.nextslicecap (n+m) cap * i.bytes<=281474976710656) :
  (Builtin.append_ #[t,tx] ty #[.slice base n cap,.int .i64 m]).run P w=.ok (.slice (some ⟨w.heap.size,0,none⟩) (n+m) (grownCap w (n+m) cap e))
    (w.drew.alloc (.cells ((olds++List.replicate m z).toArray++Builtin.zeroCells z.cells (grownCap w (n+m) cap e-(n+m))) e)):=by
 have hn:¬(n+m<=cap):=by omega
 have hneg:¬((m:Int)<0):=by omega
 have h63':¬(9223372036854775807<((n:Int)+(m:Int))):=by omega
 have anZ:¬(281474976710656<Builtin.nextslicecap (n+m) cap * i.bytes):=by omega
 have Di:Builtin.zeroCells z.cells m=(List.replicate m z).toArray:=GD z m AO
 simp [Builtin.append_,run_underlying hu,run_underlying hx,sizeOf,typeInfo,zeroValue,hi,h2,h3,asInt,asIntOf,BG,hneg,hn,h63',anZ,EX,hm0,Di,Question.forced,hold,newRow,grownCap]
 congr 2
 apply Array.ext'
 simp [List.append_assoc]
theorem aaF {tx:TypeId} {ki:IntKind} {z:Value} {i:TypeInfo} (hu:P.underlying t=some (.slice e)) (hx:P.underlying tx=some (.int ki)) (hi:P.info? e=some i) (h3:i.size=1) (base:Option Addr) (n cap:Nat) (hn:n<=cap) (hb:base.isSome=true\/base=none) :
  (Builtin.append_ #[t,tx] ty #[.slice base n cap,.int .i64 ((0:Nat):Int)]).run P w=.ok (.slice base n cap) w:=by
 have hw0:IntKind.i64.wrap 0=0:=by decide
 cases base with
 | none=>simp [Builtin.append_,run_underlying hu,run_underlying hx,sizeOf,typeInfo,hi,h3,asInt,asIntOf,hw0,hn]
 | some a=>simp [Builtin.append_,run_underlying hu,run_underlying hx,sizeOf,typeInfo,hi,h3,asInt,asIntOf,hw0,hn,storeCells]
theorem akV {tx:TypeId} {ki:IntKind} {m:Nat} {z:Value} {zx:α} (PF:Nat) (H:Sat g w l) (j:Nat) (hj:l[j]?=some (Sl e 1 en v xs)) (hzx:en zx=[z]) (Co:z.oneCell'=true) (AO:z.cells=#[z])
  (hu:P.underlying t=some (.slice e)) (hx:P.underlying tx=some (.int ki)) (hz:(P.info? e).map (fun i=>(i.zero,i.size,i.bytes))=some (some z,1,PF))
  (hb:(xs.length+m) * PF<=140737488355328) (hml:xs.length+m<=140737488355328)
  (k:∀v',QB l j (Sl e 1 en v' (xs++List.replicate m zx)) fun l'=>∀w',Sat g w' l'->K v' w'):Zb P (Builtin.append_ #[t,tx] ty #[v,.int .i64 m]) w K:=by
 have ho:=H.off j hj
 have BG:IntKind.i64.wrap (m:Int)=m:=by have:=Sa (show -9223372036854775808<=(m:Int)/\(m:Int)<=9223372036854775807 by omega);unfold ZM at this;exact this
 have fin:∀{v':Value} {w':World},RM 0 w' e 1 en v' (xs++List.replicate m zx)->Gr w w' v v'->K v' w':=fun {v' w'} hO G=>by
  have k:=k v'
  rw [V6] at k
  exact k w' (H.N2 hj hO G)
 have hfl:(List.replicate m zx).flatMap en=List.replicate m z:=by
  clear fin k BG hml hb
  induction m with
  | zero=>rfl
  | succ m ih=>rw [lEb,lOa,ih,hzx];rfl
 have h1:∀u∈List.replicate m z,u.oneCell'=true:=fun u hu=>by rw [List.eq_of_mem_replicate hu];exact Co
 cases hi:P.info? e with
 | none=>simp [hi] at hz
 | some i =>
  simp only [hi,Option.map_some,Option.some.injEq,Prod.mk.injEq] at hz
  obtain ⟨h2,h3,h4⟩:=hz
  subst h4
  have hneg:¬((m:Int)<0):=by omega
  have hmb:m * i.bytes<=140737488355328:=lEa (lBa _ (Nat.le_add_left _ _)) hb
  have EX:¬(281474976710656<(m:Int) * (i.bytes:Int)):=by omega
  have Di:Builtin.zeroCells z.cells m=(List.replicate m z).toArray:=GD z m AO
  by_cases hm0:m=0
  .subst hm0
   have hst:RM 0 w e 1 en v (xs++List.replicate 0 zx):=by rw [List.replicate_zero,lta];exact ho
   rcases ho.1 with ⟨rfl,rfl⟩|⟨gg,of,cap,cur,rfl,BN,JV,hfit,hnc,Qx,ht⟩
   .exact ⟨_,_,aaF (z:=z) hu hx hi h3 none 0 0 (loa _) (.inr rfl),fin hst (Gr.same w (.inl rfl))⟩
   .exact ⟨_,_,aaF (z:=z) hu hx hi h3 (some ⟨gg,of,none⟩) xs.length cap hnc (.inl rfl),fin hst (Gr.same w (.inl rfl))⟩
  have grow:∀(base:Option Addr) (cap:Nat) (olds:ym),v=.slice base xs.length cap->olds=xs.flatMap en->(Builtin.firstCells 1 xs.length (.slice base xs.length cap)).run P w.drew=.ok olds.toArray w.drew->cap<xs.length+m->Zb P (Builtin.append_ #[t,tx] ty #[v,.int .i64 m]) w K:=by
   intro base cap olds hv HZ hold hg
   subst hv
   have Dh:olds.length=xs.length:=by rw [HZ,Yp ho.2,Nat.mul_one]
   have hr:=aa0 (P:=P) (w:=w) (ty:=ty) AO hu hx hi h2 h3 BG EX base xs.length cap olds hold hm0 hg yQ (growslice_fits hg hb)
   have hge:=grownCap_ge w (xs.length+m) cap e
   have Qx:grownCap w (xs.length+m) cap e<=maxLen:=grownCap_le_maxLen w (xs.length+m) cap e (by grind [maxLen])
   refine ⟨_,_,hr,fin ⟨.inr ⟨w.heap.size,0,_,((olds++List.replicate m z).toArray++Builtin.zeroCells z.cells (grownCap w (xs.length+m) cap e-(xs.length+m))).toList,by rw [lca,lfa],lHa _,heap_alloc_new w.drew _,?_,?_,?_,?_⟩,ho.2⟩ ⟨⟨rfl,rfl,rfl,by simp,fun k hk _=>by first|exact heap_alloc_old w.drew _ k hk|exact heap_alloc_old w.drew _ hk⟩,.inr (.inr ⟨w.heap.size,rfl,loa _⟩)⟩⟩
   .grind [Array.toList_append,GD,yq7,List.length_replicate]
   .grind
   .grind [maxLen]
   .grind
  rcases ho.1 with ⟨rfl,rfl⟩|⟨gg,of,cap,cur,rfl,BN,JV,hfit,hnc,Qx,ht⟩
  .exact grow none 0 [] rfl rfl (by simp [Builtin.firstCells]) (show 0<0+m by omega)
  .by_cases hr:xs.length+m<=cap
   .have hst:=run_storeCells_at (P:=P) gg (of+xs.length * 1) e (List.replicate m z) 0 cur.toArray w JV (by grind) h1
    simp only [Nat.add_zero,Nat.mul_one] at hst
    obtain ⟨hU,hB⟩:=R8 (o:=of+xs.length * 1) (vs:=List.replicate m z) JV (by grind)
    refine ⟨.slice (some ⟨gg,of,none⟩) (xs.length+m) cap,_,?_,fin (w':=_) ⟨.inr ⟨gg,of,cap,_,by rw [lca,lfa],BN,hB,by rw [VG];exact hfit,by rw [lca,lfa];exact hr,Qx,?_⟩,ho.2⟩ ⟨⟨hU.os,hU.tape,hU.output,by rw [hU.size];exact loa _,fun k _ hk=>hU.block k (fun e=>hk (by rw [e];rfl))⟩,.inl rfl⟩⟩
    .simp [Builtin.append_,run_underlying hu,run_underlying hx,sizeOf,typeInfo,zeroValue,hi,h2,h3,asInt,asIntOf,BG,hneg,EX,hr,hm0,Di,Addr.add_lit,hst]
    .rw [lca,lfa,lQa,<-ht,hfl,Up _ _ _ (by grind),lfa,Nat.mul_one,Nat.mul_one,lja,
      lpb (by grind),<-lja,lNb,show of+xs.length-of=xs.length by omega,
      lAa (by grind),lua (by grind)]
   .refine grow (some ⟨gg,of,none⟩) cap (xs.flatMap en) rfl rfl ?_ yQ
    have DA:At w gg of (xs.flatMap en):=by
     have:=JV.at.sub of (xs.length * 1);rw [ht,lKb] at this;exact this
    exact run_firstCells_some (P:=P) w.drew 1 xs.length ⟨gg,of,none⟩ xs.length cap (xs.flatMap en) (Yp ho.2 xs) (fun q u hq=>by rw [Addr.add_lit];simpa using DA.cell hq)
end
end YY
namespace Zo
open Go YY Go.RowKit
open YV
section
variable {g:ZE} {w:World} {l:List As}
theorem match_ (H:Sat g w l) (v:Value) (xs:List Zm) (hx:Z0 g Sk (okV g) 4 v xs):yq 203 #[v] w (fun r w'=>∃(u1 u2:Value) (E L:yp) (e:Int),r=.tuple #[u1,u2,yL e]/\e=Yn (xs.map Zm.d)/\((e≠0/\E=[]/\L=[])\/(e=0/\∃op last,MK (xs.map Zm.d) xs.length ⟨op,last,true⟩ E L))/\Sat g w' (Sl 3 1 ZJ u1 E::Sl 3 1 ZJ u2 L::l)):=by
 refine Fc.of Tryz.func203 rfl k_d ?_
 have hml:(xs.map Zm.d).length=xs.length:=lea ..
 by_cases hc:Yn (xs.map Zm.d)=0
 .obtain ⟨hl,hF,RH⟩:=Y8 hc
  rw [hml] at hl hF RH
  refine Z8.mk (Fc.imp (Zo.check H _ _ hx) ?_)
  rintro _ w1 ⟨⟨e1,⟨rfl,h1⟩⟩,H⟩
  refine cF (WY yQ)<|M9 H [] (.op 0 .pure (.op 1 .pure (.op 3 .pure (.op 4 .pure (.fork (.op 2 .free (.op 6 .pure (.op 5 .free (.op 7 .pure .nil)))) (.op 5 .free (.op 2 .free (.op 6 .pure (.op 7 .pure .nil))))))))) mixed k_d<|fun w2 H=>tk (fun _ Z=>ZK hx rfl yM)<|tk (fun _ Z=>ZK hx rfl yM) ?_
  constructor
  focus
   refine Ud (en:=ZJ) (s:=1) H (0) ((xs.length)) ((xs.length)) 8 rfl rfl rfl (fun _=>rfl) yQ yQ yQ yQ yQ<|fun v1 w1 H=>Ud (en:=ZJ) (s:=1) H (0) ((xs.length)) ((xs.length)) 8 rfl rfl rfl (fun _=>rfl) yQ yQ yQ yQ yQ<|fun v2 w2 H=>?_
   refine Z8.mk (Fc.imp (Zo.WW _) ?_)
   rintro _ w1 ⟨p1,⟨Jb,⟨BI,⟨rfl,H'⟩⟩⟩⟩
   refine H.XX H' ?_
   clear H H'
   intro H
   refine ZK hx rfl ?_
  rotate_left 1
  focus
   refine Ud (en:=ZJ) (s:=1) H (0) ((xs.length)) ((xs.length)) 8 rfl rfl rfl (fun _=>rfl) yQ yQ yQ yQ yQ<|fun v1 w1 H=>Ud (en:=ZJ) (s:=1) H (0) ((xs.length)) ((xs.length)) 8 rfl rfl rfl (fun _=>rfl) yQ yQ yQ yQ yQ<|fun v2 w2 H=>?_
   refine Z8.mk (Fc.imp (Zo.WW _) ?_)
   rintro _ w1 ⟨p1,⟨Jb,⟨BI,⟨rfl,H'⟩⟩⟩⟩
   refine H.XX H' ?_
   clear H H'
   intro H
   refine ZK hx rfl ?_
  rotate_left 1
  focus
   generalize v1=ue at *
   generalize v2=ul at *
  rotate_left
  focus
   generalize v2=ue at *
   generalize v1=ul at *
  rotate_left
  .refine Y6.rule (α:=Nat × yp × yp × Bool × Value × Value × yp × yp) (0,NY.op,NY.last,NY.over,Jb,BI,List.replicate xs.length 0,List.replicate xs.length 0) (fun x_=>[(26,yL x_.1)]) (fun x_ w_=>(x_.1<=xs.length)/\(MK (xs.map Zm.d) x_.1 ⟨x_.2.1,x_.2.2.1,x_.2.2.2.1⟩ x_.2.2.2.2.2.2.1 x_.2.2.2.2.2.2.2)/\Sat g w_ ((Pt p1 [x_.2.2.2.2.1,x_.2.2.2.2.2.1,.bool x_.2.2.2.1] 324::Sl 3 1 ZJ x_.2.2.2.2.1 x_.2.1::Sl 5 1 YB x_.2.2.2.2.2.1 x_.2.2.1::Sl 3 1 ZJ ue x_.2.2.2.2.2.2.1::Sl 3 1 ZJ ul x_.2.2.2.2.2.2.2::l))) (fun x_=>xs.length-x_.1) ?_ ?_ ?_
   .exact k_a
   .try simp only
    refine ⟨yQ,?_⟩
    constructor
    .exact MK.zero yO yO
    exact H.Z7 [3,4,4,4,4]<|fun H=>H
   rintro ⟨k,op,last,ov,vo,vl,E,L⟩ f_ w_ ⟨hk,hM,H⟩
   try simp only at hk hM H ⊢
   have Dn:=hM.eL
   have BF:=hM.lL
   rw [hml] at Dn BF
   rcases lya k xs.length with hlt|hge
   .obtain ⟨x,EW⟩:∃x,xs[k]?=some x:=⟨_,laa hlt⟩
    have GS:=Ut EW
    have Ok:=(hF k _ hlt GS).2
    have hok:=XM (xs.map Zm.d) k
    rw [<-hM.cur] at Ok hok
    have RH:ov=false:=by
     cases ov
     .rfl
     .rw [Px rfl] at Ok;cases Ok
    subst RH
    change (Zn ⟨op,last,false⟩ x.op k).2.2=0 at Ok
    by_cases h5:x.op=5
    .refine cT (Zd yQ)<|bk ?_
     obtain ⟨b1,o1,E1,F1,ZH⟩:=Z0.Y1 hx EW
     have Wm:=ZH.op
     have Vi:=ZH.a
     have Vh:=ZH.b
     have Zg:=ZH.to
     refine ZG E1 rfl rfl rfl<|ZF (H.Yq F1) 0 rfl rfl rfl<|ZU H rfl<|fun p2 w3 H=>ZC H 0 rfl rfl rfl k_j<|fun w4 H=>?_
     obtain ⟨x1,hx1⟩:∃x,(E)[(k)]?=some x:=⟨_,laa yQ⟩
     obtain ⟨b2,o2,E2⟩:=H.Y1 4 rfl (k) yQ
     refine ZG E2 rfl rfl rfl<|Yg H 4 rfl E2 hx1 0 (-1) rfl rfl rfl rfl<|fun w3 H=>?_
     obtain ⟨x2,Wp⟩:∃x,(L)[(k)]?=some x:=⟨_,laa yQ⟩
     obtain ⟨b3,o3,E3⟩:=H.Y1 5 rfl (k) yQ
     refine ZG E3 rfl rfl rfl<|Yg H 5 rfl E3 Wp 0 (-1) rfl rfl rfl rfl<|fun w4 H=>ZF (H.at 0 rfl) 0 rfl rfl rfl<|H.Z7 [3,3,3]<|fun H=>?_
     refine Z8.mk (Fc.imp (Zo.next _ hok H _ _ _ _ _) ?_)
     rintro _ w3 ⟨XE,⟨VM,⟨Rm,⟨Xc,⟨TD,⟨Us,⟨e2,⟨rfl,⟨h2,H⟩⟩⟩⟩⟩⟩⟩⟩⟩
     rw [h2] at Ok
     simp only at Ok
     subst Ok
     obtain ⟨Dg,Sz,Qj⟩:=hM.TN GS h2 h5
     rw [hml] at Qj
     refine bk<|Z9 rfl<|yI H 3 0 yF<|cT (ZI yP)<|ZG E3 rfl rfl rfl ?_
     have IN:(L.set k (-1))[k]?=some _:=VF Wp
     refine Yg H 5 rfl E3 IN 0 (Us) rfl rfl rfl rfl<|fun w5 H=>?_
     obtain ⟨x3,Hw⟩:∃x,((L.set k (-1)).set k Us)[(Us).toNat]?=some x:=⟨_,laa (by grind)⟩
     obtain ⟨b4,o4,E4⟩:=H.Y1 5 rfl (Us).toNat (by grind)
     refine ZG E4 yQ rfl rfl<|Yg H 5 rfl E4 Hw 0 ((↑k:Int)) rfl rfl rfl rfl<|fun w3 H=>ZW yQ ?_
     refine Xs.mk ((k+1,XE,VM,Rm,Xc,TD,E.set k (-1),((L.set k (-1)).set k Us).set Us.toNat (↑k:Int))) (Zw rfl yQ (ZY)) ?_ ?_
     .refine ⟨yQ,?_⟩
      refine ⟨yQ,?_⟩
      exact H.Z7 [5,5,4,4,4]<|fun H=>H.drop 5<|fun H=>H
     omega
    by_cases h11:x.op=11
    .refine cT (Zd yQ)<|bk ?_
     obtain ⟨b1,o1,E1,F1,ZH⟩:=Z0.Y1 hx EW
     have Wm:=ZH.op
     have Vi:=ZH.a
     have Vh:=ZH.b
     have Zg:=ZH.to
     refine ZG E1 rfl rfl rfl<|ZF (H.Yq F1) 0 rfl rfl rfl<|ZU H rfl<|fun p2 w3 H=>ZC H 0 rfl rfl rfl k_j<|fun w4 H=>?_
     obtain ⟨x1,hx1⟩:∃x,(E)[(k)]?=some x:=⟨_,laa yQ⟩
     obtain ⟨b2,o2,E2⟩:=H.Y1 4 rfl (k) yQ
     refine ZG E2 rfl rfl rfl<|Yg H 4 rfl E2 hx1 0 (-1) rfl rfl rfl rfl<|fun w3 H=>?_
     obtain ⟨x2,Wp⟩:∃x,(L)[(k)]?=some x:=⟨_,laa yQ⟩
     obtain ⟨b3,o3,E3⟩:=H.Y1 5 rfl (k) yQ
     refine ZG E3 rfl rfl rfl<|Yg H 5 rfl E3 Wp 0 (-1) rfl rfl rfl rfl<|fun w4 H=>ZF (H.at 0 rfl) 0 rfl rfl rfl<|H.Z7 [3,3,3]<|fun H=>?_
     refine Z8.mk (Fc.imp (Zo.next _ hok H _ _ _ _ _) ?_)
     rintro _ w3 ⟨XE,⟨VM,⟨Rm,⟨Xc,⟨TD,⟨Us,⟨e2,⟨rfl,⟨h2,H⟩⟩⟩⟩⟩⟩⟩⟩⟩
     rw [h2] at Ok
     simp only at Ok
     subst Ok
     rcases hM.Sv GS h2 h11 with ⟨Sz,Dg⟩|⟨z,Sz,Qj,hz,Fx,Dg⟩|⟨z,Sz,Qj,hz,Fx,KN,Dg⟩
     refine bk<|Z9 rfl<|yI H 3 0 yF<|cF (Z5 yP)<|Z9 rfl<|yI H 3 0 yF<|cT (ZI yP)<|ZG E2 rfl rfl rfl ?_
     have IN:(E.set k (-1))[k]?=some _:=VF hx1
     refine Yg H 4 rfl E2 IN 0 (Us) rfl rfl rfl rfl<|fun w5 H=>cF (Yv yP)<|ZW yQ ?_
     refine Xs.mk ((k+1,XE,VM,Rm,Xc,TD,(E.set k (-1)).set k Us,L.set k (-1))) (Zw rfl yQ (ZY)) ?_ ?_
     .refine ⟨yQ,?_⟩
      refine ⟨yQ,?_⟩
      exact H.Z7 [5,5,4,4,4]<|fun H=>H.drop 5<|fun H=>H
     .omega
     .refine bk<|Z9 rfl<|yI H 3 0 yF<|cF (Z5 yP)<|Z9 rfl<|yI H 3 0 yF<|cT (ZI yP)<|ZG E2 rfl rfl rfl ?_
      have IN:(E.set k (-1))[k]?=some _:=VF hx1
      refine Yg H 4 rfl E2 IN 0 (Us) rfl rfl rfl rfl<|fun w5 H=>cT (Ya yP) ?_
      obtain ⟨x3,Hw⟩:∃x,((E.set k (-1)).set k Us)[(Us).toNat]?=some x:=⟨_,laa (by grind)⟩
      obtain ⟨b4,o4,E4⟩:=H.Y1 4 rfl (Us).toNat (by grind)
      refine ZG E4 yQ rfl rfl<|Yg H 4 rfl E4 Hw 0 ((↑k:Int)) rfl rfl rfl rfl<|fun w3 H=>?_
      obtain ⟨b5,o5,E5⟩:=H.Y1 5 rfl (Us).toNat (by grind)
      refine ZG E5 yQ rfl rfl<|yB (H.el 5 rfl E5 hz) 0 yA<|cF (Yv yP)<|ZW yQ ?_
      refine Xs.mk ((k+1,XE,VM,Rm,Xc,TD,((E.set k (-1)).set k Us).set Us.toNat (↑k:Int),L.set k (-1))) (Zw rfl yQ (ZY)) ?_ ?_
      .refine ⟨yQ,?_⟩
       refine ⟨yQ,?_⟩
       exact H.Z7 [5,5,4,4,4]<|fun H=>H.drop 5<|fun H=>H
      omega
     refine bk<|Z9 rfl<|yI H 3 0 yF<|cF (Z5 yP)<|Z9 rfl<|yI H 3 0 yF<|cT (ZI yP)<|ZG E2 rfl rfl rfl ?_
     have IN:(E.set k (-1))[k]?=some _:=VF hx1
     refine Yg H 4 rfl E2 IN 0 (Us) rfl rfl rfl rfl<|fun w5 H=>cT (Ya yP) ?_
     obtain ⟨x3,Hw⟩:∃x,((E.set k (-1)).set k Us)[(Us).toNat]?=some x:=⟨_,laa (by grind)⟩
     obtain ⟨b4,o4,E4⟩:=H.Y1 4 rfl (Us).toNat (by grind)
     refine ZG E4 yQ rfl rfl<|Yg H 4 rfl E4 Hw 0 ((↑k:Int)) rfl rfl rfl rfl<|fun w3 H=>?_
     obtain ⟨b5,o5,E5⟩:=H.Y1 5 rfl (Us).toNat (by grind)
     refine ZG E5 yQ rfl rfl<|yB (H.el 5 rfl E5 hz) 0 yA<|cT (Ya yP) ?_
     obtain ⟨x4,AN⟩:∃x,(((E.set k (-1)).set k Us).set Us.toNat (↑k:Int))[(z).toNat]?=some x:=⟨_,laa (by grind)⟩
     obtain ⟨b6,o6,E6⟩:=H.Y1 4 rfl (z).toNat (by grind)
     refine ZG E6 yQ rfl rfl<|Yg H 4 rfl E6 AN 0 ((↑k:Int)) rfl rfl rfl rfl<|fun w5 H=>ZW yQ ?_
     refine Xs.mk ((k+1,XE,VM,Rm,Xc,TD,(((E.set k (-1)).set k Us).set Us.toNat (↑k:Int)).set z.toNat (↑k:Int),L.set k (-1))) (Zw rfl yQ (ZY)) ?_ ?_
     .refine ⟨yQ,?_⟩
      refine ⟨yQ,?_⟩
      exact H.Z7 [5,5,4,4,4]<|fun H=>H.drop 5<|fun H=>H
     omega
    .refine cT (Zd yQ)<|bk ?_
     obtain ⟨b1,o1,E1,F1,ZH⟩:=Z0.Y1 hx EW
     have Wm:=ZH.op
     have Vi:=ZH.a
     have Vh:=ZH.b
     have Zg:=ZH.to
     refine ZG E1 rfl rfl rfl<|ZF (H.Yq F1) 0 rfl rfl rfl<|ZU H rfl<|fun p2 w3 H=>ZC H 0 rfl rfl rfl k_j<|fun w4 H=>?_
     obtain ⟨x1,hx1⟩:∃x,(E)[(k)]?=some x:=⟨_,laa yQ⟩
     obtain ⟨b2,o2,E2⟩:=H.Y1 4 rfl (k) yQ
     refine ZG E2 rfl rfl rfl<|Yg H 4 rfl E2 hx1 0 (-1) rfl rfl rfl rfl<|fun w3 H=>?_
     obtain ⟨x2,Wp⟩:∃x,(L)[(k)]?=some x:=⟨_,laa yQ⟩
     obtain ⟨b3,o3,E3⟩:=H.Y1 5 rfl (k) yQ
     refine ZG E3 rfl rfl rfl<|Yg H 5 rfl E3 Wp 0 (-1) rfl rfl rfl rfl<|fun w4 H=>ZF (H.at 0 rfl) 0 rfl rfl rfl<|H.Z7 [3,3,3]<|fun H=>?_
     refine Z8.mk (Fc.imp (Zo.next _ hok H _ _ _ _ _) ?_)
     rintro _ w3 ⟨XE,⟨VM,⟨Rm,⟨Xc,⟨TD,⟨Us,⟨e2,⟨rfl,⟨h2,H⟩⟩⟩⟩⟩⟩⟩⟩⟩
     rw [h2] at Ok
     simp only at Ok
     subst Ok
     refine bk<|Z9 rfl<|yI H 3 0 yF<|cF (Z5 yP)<|Z9 rfl<|yI H 3 0 yF<|cF (Z5 yP)<|ZW yQ ?_
     refine Xs.mk ((k+1,XE,VM,Rm,Xc,TD,E.set k (-1),L.set k (-1))) (Zw rfl yQ (ZY)) ?_ ?_
     .refine ⟨yQ,?_⟩
      constructor
      .exact hM.MY GS h2 h5 h11
      exact H.Z7 [5,5,4,4,4]<|fun H=>H.drop 5<|fun H=>H
     omega
   .obtain rfl:k=xs.length:=by omega
    rw [<-hM.cur] at RH
    have RH:ov=true:=RH
    subst RH
    refine cF (Zk yQ)<|Z6.mk ?_
    refine ⟨ue,ul,E,L,0,?_⟩
    refine ⟨rfl,?_⟩
    refine ⟨yQ,?_⟩
    constructor
    .grind
    exact H.Z7 [4,4]<|fun H=>yz H [4,3,2]<|fun H=>H
  .refine Y6.rule (α:=Nat × yp × yp × Bool × Value × Value × yp × yp) (0,NY.op,NY.last,NY.over,Jb,BI,List.replicate xs.length 0,List.replicate xs.length 0) (fun x_=>[(26,yL x_.1)]) (fun x_ w_=>(x_.1<=xs.length)/\(MK (xs.map Zm.d) x_.1 ⟨x_.2.1,x_.2.2.1,x_.2.2.2.1⟩ x_.2.2.2.2.2.2.1 x_.2.2.2.2.2.2.2)/\Sat g w_ ((Pt p1 [x_.2.2.2.2.1,x_.2.2.2.2.2.1,.bool x_.2.2.2.1] 324::Sl 3 1 ZJ x_.2.2.2.2.1 x_.2.1::Sl 5 1 YB x_.2.2.2.2.2.1 x_.2.2.1::Sl 3 1 ZJ ue x_.2.2.2.2.2.2.1::Sl 3 1 ZJ ul x_.2.2.2.2.2.2.2::l))) (fun x_=>xs.length-x_.1) ?_ ?_ ?_
   .exact k_a
   .try simp only
    refine ⟨yQ,?_⟩
    constructor
    .exact MK.zero yO yO
    exact H
   rintro ⟨k,op,last,ov,vo,vl,E,L⟩ f_ w_ ⟨hk,hM,H⟩
   try simp only at hk hM H ⊢
   have Dn:=hM.eL
   have BF:=hM.lL
   rw [hml] at Dn BF
   rcases lya k xs.length with hlt|hge
   .obtain ⟨x,EW⟩:∃x,xs[k]?=some x:=⟨_,laa hlt⟩
    have GS:=Ut EW
    have Ok:=(hF k _ hlt GS).2
    have hok:=XM (xs.map Zm.d) k
    rw [<-hM.cur] at Ok hok
    have RH:ov=false:=by
     cases ov
     .rfl
     .rw [Px rfl] at Ok;cases Ok
    subst RH
    change (Zn ⟨op,last,false⟩ x.op k).2.2=0 at Ok
    by_cases h5:x.op=5
    .refine cT (Zd yQ)<|bk ?_
     obtain ⟨b1,o1,E1,F1,ZH⟩:=Z0.Y1 hx EW
     have Wm:=ZH.op
     have Vi:=ZH.a
     have Vh:=ZH.b
     have Zg:=ZH.to
     refine ZG E1 rfl rfl rfl<|ZF (H.Yq F1) 0 rfl rfl rfl<|ZU H rfl<|fun p2 w3 H=>ZC H 0 rfl rfl rfl k_j<|fun w4 H=>?_
     obtain ⟨x1,hx1⟩:∃x,(E)[(k)]?=some x:=⟨_,laa yQ⟩
     obtain ⟨b2,o2,E2⟩:=H.Y1 4 rfl (k) yQ
     refine ZG E2 rfl rfl rfl<|Yg H 4 rfl E2 hx1 0 (-1) rfl rfl rfl rfl<|fun w3 H=>?_
     obtain ⟨x2,Wp⟩:∃x,(L)[(k)]?=some x:=⟨_,laa yQ⟩
     obtain ⟨b3,o3,E3⟩:=H.Y1 5 rfl (k) yQ
     refine ZG E3 rfl rfl rfl<|Yg H 5 rfl E3 Wp 0 (-1) rfl rfl rfl rfl<|fun w4 H=>ZF (H.at 0 rfl) 0 rfl rfl rfl<|H.Z7 [3,3,3]<|fun H=>?_
     refine Z8.mk (Fc.imp (Zo.next _ hok H _ _ _ _ _) ?_)
     rintro _ w3 ⟨XE,⟨VM,⟨Rm,⟨Xc,⟨TD,⟨Us,⟨e2,⟨rfl,⟨h2,H⟩⟩⟩⟩⟩⟩⟩⟩⟩
     rw [h2] at Ok
     simp only at Ok
     subst Ok
     obtain ⟨Dg,Sz,Qj⟩:=hM.TN GS h2 h5
     rw [hml] at Qj
     refine bk<|Z9 rfl<|yI H 3 0 yF<|cT (ZI yP)<|ZG E3 rfl rfl rfl ?_
     have IN:(L.set k (-1))[k]?=some _:=VF Wp
     refine Yg H 5 rfl E3 IN 0 (Us) rfl rfl rfl rfl<|fun w5 H=>?_
     obtain ⟨x3,Hw⟩:∃x,((L.set k (-1)).set k Us)[(Us).toNat]?=some x:=⟨_,laa (by grind)⟩
     obtain ⟨b4,o4,E4⟩:=H.Y1 5 rfl (Us).toNat (by grind)
     refine ZG E4 yQ rfl rfl<|Yg H 5 rfl E4 Hw 0 ((↑k:Int)) rfl rfl rfl rfl<|fun w3 H=>ZW yQ ?_
     refine Xs.mk ((k+1,XE,VM,Rm,Xc,TD,E.set k (-1),((L.set k (-1)).set k Us).set Us.toNat (↑k:Int))) (Zw rfl yQ (ZY)) ?_ ?_
     .refine ⟨yQ,?_⟩
      refine ⟨yQ,?_⟩
      exact H.Z7 [5,5,4,4,4]<|fun H=>H.drop 5<|fun H=>H
     omega
    by_cases h11:x.op=11
    .refine cT (Zd yQ)<|bk ?_
     obtain ⟨b1,o1,E1,F1,ZH⟩:=Z0.Y1 hx EW
     have Wm:=ZH.op
     have Vi:=ZH.a
     have Vh:=ZH.b
     have Zg:=ZH.to
     refine ZG E1 rfl rfl rfl<|ZF (H.Yq F1) 0 rfl rfl rfl<|ZU H rfl<|fun p2 w3 H=>ZC H 0 rfl rfl rfl k_j<|fun w4 H=>?_
     obtain ⟨x1,hx1⟩:∃x,(E)[(k)]?=some x:=⟨_,laa yQ⟩
     obtain ⟨b2,o2,E2⟩:=H.Y1 4 rfl (k) yQ
     refine ZG E2 rfl rfl rfl<|Yg H 4 rfl E2 hx1 0 (-1) rfl rfl rfl rfl<|fun w3 H=>?_
     obtain ⟨x2,Wp⟩:∃x,(L)[(k)]?=some x:=⟨_,laa yQ⟩
     obtain ⟨b3,o3,E3⟩:=H.Y1 5 rfl (k) yQ
     refine ZG E3 rfl rfl rfl<|Yg H 5 rfl E3 Wp 0 (-1) rfl rfl rfl rfl<|fun w4 H=>ZF (H.at 0 rfl) 0 rfl rfl rfl<|H.Z7 [3,3,3]<|fun H=>?_
     refine Z8.mk (Fc.imp (Zo.next _ hok H _ _ _ _ _) ?_)
     rintro _ w3 ⟨XE,⟨VM,⟨Rm,⟨Xc,⟨TD,⟨Us,⟨e2,⟨rfl,⟨h2,H⟩⟩⟩⟩⟩⟩⟩⟩⟩
     rw [h2] at Ok
     simp only at Ok
     subst Ok
     rcases hM.Sv GS h2 h11 with ⟨Sz,Dg⟩|⟨z,Sz,Qj,hz,Fx,Dg⟩|⟨z,Sz,Qj,hz,Fx,KN,Dg⟩
     refine bk<|Z9 rfl<|yI H 3 0 yF<|cF (Z5 yP)<|Z9 rfl<|yI H 3 0 yF<|cT (ZI yP)<|ZG E2 rfl rfl rfl ?_
     have IN:(E.set k (-1))[k]?=some _:=VF hx1
     refine Yg H 4 rfl E2 IN 0 (Us) rfl rfl rfl rfl<|fun w5 H=>cF (Yv yP)<|ZW yQ ?_
     refine Xs.mk ((k+1,XE,VM,Rm,Xc,TD,(E.set k (-1)).set k Us,L.set k (-1))) (Zw rfl yQ (ZY)) ?_ ?_
     .refine ⟨yQ,?_⟩
      refine ⟨yQ,?_⟩
      exact H.Z7 [5,5,4,4,4]<|fun H=>H.drop 5<|fun H=>H
     .omega
     .refine bk<|Z9 rfl<|yI H 3 0 yF<|cF (Z5 yP)<|Z9 rfl<|yI H 3 0 yF<|cT (ZI yP)<|ZG E2 rfl rfl rfl ?_
      have IN:(E.set k (-1))[k]?=some _:=VF hx1
      refine Yg H 4 rfl E2 IN 0 (Us) rfl rfl rfl rfl<|fun w5 H=>cT (Ya yP) ?_
      obtain ⟨x3,Hw⟩:∃x,((E.set k (-1)).set k Us)[(Us).toNat]?=some x:=⟨_,laa (by grind)⟩
      obtain ⟨b4,o4,E4⟩:=H.Y1 4 rfl (Us).toNat (by grind)
      refine ZG E4 yQ rfl rfl<|Yg H 4 rfl E4 Hw 0 ((↑k:Int)) rfl rfl rfl rfl<|fun w3 H=>?_
      obtain ⟨b5,o5,E5⟩:=H.Y1 5 rfl (Us).toNat (by grind)
      refine ZG E5 yQ rfl rfl<|yB (H.el 5 rfl E5 hz) 0 yA<|cF (Yv yP)<|ZW yQ ?_
      refine Xs.mk ((k+1,XE,VM,Rm,Xc,TD,((E.set k (-1)).set k Us).set Us.toNat (↑k:Int),L.set k (-1))) (Zw rfl yQ (ZY)) ?_ ?_
      .refine ⟨yQ,?_⟩
       refine ⟨yQ,?_⟩
       exact H.Z7 [5,5,4,4,4]<|fun H=>H.drop 5<|fun H=>H
      omega
     refine bk<|Z9 rfl<|yI H 3 0 yF<|cF (Z5 yP)<|Z9 rfl<|yI H 3 0 yF<|cT (ZI yP)<|ZG E2 rfl rfl rfl ?_
     have IN:(E.set k (-1))[k]?=some _:=VF hx1
     refine Yg H 4 rfl E2 IN 0 (Us) rfl rfl rfl rfl<|fun w5 H=>cT (Ya yP) ?_
     obtain ⟨x3,Hw⟩:∃x,((E.set k (-1)).set k Us)[(Us).toNat]?=some x:=⟨_,laa (by grind)⟩
     obtain ⟨b4,o4,E4⟩:=H.Y1 4 rfl (Us).toNat (by grind)
     refine ZG E4 yQ rfl rfl<|Yg H 4 rfl E4 Hw 0 ((↑k:Int)) rfl rfl rfl rfl<|fun w3 H=>?_
     obtain ⟨b5,o5,E5⟩:=H.Y1 5 rfl (Us).toNat (by grind)
     refine ZG E5 yQ rfl rfl<|yB (H.el 5 rfl E5 hz) 0 yA<|cT (Ya yP) ?_
     obtain ⟨x4,AN⟩:∃x,(((E.set k (-1)).set k Us).set Us.toNat (↑k:Int))[(z).toNat]?=some x:=⟨_,laa (by grind)⟩
     obtain ⟨b6,o6,E6⟩:=H.Y1 4 rfl (z).toNat (by grind)
     refine ZG E6 yQ rfl rfl<|Yg H 4 rfl E6 AN 0 ((↑k:Int)) rfl rfl rfl rfl<|fun w5 H=>ZW yQ ?_
     refine Xs.mk ((k+1,XE,VM,Rm,Xc,TD,(((E.set k (-1)).set k Us).set Us.toNat (↑k:Int)).set z.toNat (↑k:Int),L.set k (-1))) (Zw rfl yQ (ZY)) ?_ ?_
     .refine ⟨yQ,?_⟩
      refine ⟨yQ,?_⟩
      exact H.Z7 [5,5,4,4,4]<|fun H=>H.drop 5<|fun H=>H
     omega
    .refine cT (Zd yQ)<|bk ?_
     obtain ⟨b1,o1,E1,F1,ZH⟩:=Z0.Y1 hx EW
     have Wm:=ZH.op
     have Vi:=ZH.a
     have Vh:=ZH.b
     have Zg:=ZH.to
     refine ZG E1 rfl rfl rfl<|ZF (H.Yq F1) 0 rfl rfl rfl<|ZU H rfl<|fun p2 w3 H=>ZC H 0 rfl rfl rfl k_j<|fun w4 H=>?_
     obtain ⟨x1,hx1⟩:∃x,(E)[(k)]?=some x:=⟨_,laa yQ⟩
     obtain ⟨b2,o2,E2⟩:=H.Y1 4 rfl (k) yQ
     refine ZG E2 rfl rfl rfl<|Yg H 4 rfl E2 hx1 0 (-1) rfl rfl rfl rfl<|fun w3 H=>?_
     obtain ⟨x2,Wp⟩:∃x,(L)[(k)]?=some x:=⟨_,laa yQ⟩
     obtain ⟨b3,o3,E3⟩:=H.Y1 5 rfl (k) yQ
     refine ZG E3 rfl rfl rfl<|Yg H 5 rfl E3 Wp 0 (-1) rfl rfl rfl rfl<|fun w4 H=>ZF (H.at 0 rfl) 0 rfl rfl rfl<|H.Z7 [3,3,3]<|fun H=>?_
     refine Z8.mk (Fc.imp (Zo.next _ hok H _ _ _ _ _) ?_)
     rintro _ w3 ⟨XE,⟨VM,⟨Rm,⟨Xc,⟨TD,⟨Us,⟨e2,⟨rfl,⟨h2,H⟩⟩⟩⟩⟩⟩⟩⟩⟩
     rw [h2] at Ok
     simp only at Ok
     subst Ok
     refine bk<|Z9 rfl<|yI H 3 0 yF<|cF (Z5 yP)<|Z9 rfl<|yI H 3 0 yF<|cF (Z5 yP)<|ZW yQ ?_
     refine Xs.mk ((k+1,XE,VM,Rm,Xc,TD,E.set k (-1),L.set k (-1))) (Zw rfl yQ (ZY)) ?_ ?_
     .refine ⟨yQ,?_⟩
      constructor
      .exact hM.MY GS h2 h5 h11
      exact H.Z7 [5,5,4,4,4]<|fun H=>H.drop 5<|fun H=>H
     omega
   .obtain rfl:k=xs.length:=by omega
    rw [<-hM.cur] at RH
    have RH:ov=true:=RH
    subst RH
    refine cF (Zk yQ)<|Z6.mk ?_
    refine ⟨ue,ul,E,L,0,?_⟩
    refine ⟨rfl,?_⟩
    refine ⟨yQ,?_⟩
    constructor
    .grind
    exact H.Z7 [4,4]<|fun H=>yz H [4,3,2]<|fun H=>H
 .refine Z8.mk (Fc.imp (Zo.check H _ _ hx) ?_)
  rintro _ w1 ⟨⟨e1,⟨rfl,h1⟩⟩,H⟩
  exact cT (Vy yQ)<|Z6.mk<|⟨.slice none 0 0,.slice none 0 0,[],[],_,rfl,h1,.inl ⟨by rw [h1];exact hc,rfl,rfl⟩,(H.VS (en:=ZJ) (s:=1) 3 (fun _=>rfl)).VS (en:=ZJ) (s:=1) 3 (fun _=>rfl)⟩
end
end Zo
namespace YY
open Go
structure DX (P:Program) (f:FuncId) (args:Array Value) (w:World) (R:Value->World->Prop):Prop where
 NN:(callFunc f args).run P w=.ok (.enter f args) w
 calls:∀u,CallsD P f args u w fun e u' w'=>u'=u/\∃v,e=.returned v/\R v w'
theorem DX.imp {P:Program} {f:FuncId} {args:Array Value} {w:World} {R R':Value->World->Prop} (h:DX P f args w R) (hk:∀v w',R v w'->R' v w'):DX P f args w R' :=
 ⟨h.NN,fun u=>(h.calls u).mono fun _ _ _ ⟨a,v,b,c⟩=>⟨a,v,b,hk _ _ c⟩⟩
theorem DX.of {P:Program} {f:FuncId} {fn:Func} {c:Code} {args:Array Value} {w:World} {R:Value->World->Prop}
  (hf:P.funcs[f]?=some fn) (hb:fn.body=some c) (hn:(fn.name == "runtime.NumGoroutine")=false) (h:Fk P fn c args.toList w R):DX P f args w R:=by
 refine ⟨?_,fun u=>?_⟩
 .simp only [callFunc,Sem.run_bind,program,Sem.run,Result.andThen_ok,hf]
  rw [if_neg (by grind),if_neg (by grind)]
  rfl
 .refine callsD_of_wp hf hb ?_
  unfold Fk at h
  rw [Lg,Sc,lta] at h
  have:=UC (ds:=[]) c h
  have e:(args.toList++List.replicate (fn.ntmps-args.toList.length) undef).toArray=args++Array.replicate (fn.ntmps-args.size) undef:=by simp
  rw [e] at this
  exact wp_mono this fun e a w h=>Rv h
abbrev DL:=List (FuncId × ym)
abbrev akW:=(Exit->ym->DL->World->Prop)->ym->DL->World->Prop
inductive AM (P:Program) (f:FuncId) (args:Array Value) (w:World) (K:World->Prop):Prop
 | mk (h:DX P f args w fun _ w'=>K w')
def MV (P:Program) (ops:List Oper) (K:ym->DL->World->Prop) (l:List Oper):ym->DL->World->Prop :=
 List.rec (motive:=fun _=>ym->DL->World->Prop) K (fun o _ ih ρ dl w=>XY ops o.guard ρ fun b ρ=>match b with
  | true=>match o.op with
   | .defer c=>match c.callee with
    | .value f=>VH ρ f fun f=>TW ρ c.args.toList fun vs=>match f with
     | .func fn first captured=>match fn with
      | .func id=>OK vs captured.toList fun a=>OK first.toList a fun a=>Xt ρ o.dst undef fun ρ=>ih ρ ((id,a)::dl) w
      | _=>False
     | _=>False
    | _=>False
   | _=>Ll P o ρ w fun v w=>Xt ρ o.dst v fun ρ=>ih ρ dl w
  | false=>Xt ρ o.dst undef fun ρ=>ih ρ dl w) l
theorem adv (P:Program) (ops:List Oper) (K:ym->DL->World->Prop) (ρ:ym) (dl:DL) (w:World):MV P ops K [] ρ dl w=K ρ dl w:=rfl
theorem acr (P:Program) (ops:List Oper) (K:ym->DL->World->Prop) (o:Oper) (r:List Oper) (ρ:ym) (dl:DL) (w:World) :
  MV P ops K (o::r) ρ dl w=XY ops o.guard ρ fun b ρ=>match b with
  | true=>match o.op with
   | .defer c=>match c.callee with
    | .value f=>VH ρ f fun f=>TW ρ c.args.toList fun vs=>match f with
     | .func fn first captured=>match fn with
      | .func id=>OK vs captured.toList fun a=>OK first.toList a fun a=>Xt ρ o.dst undef fun ρ=>MV P ops K r ρ ((id,a)::dl) w
      | _=>False
     | _=>False
    | _=>False
   | _=>Ll P o ρ w fun v w=>Xt ρ o.dst v fun ρ=>MV P ops K r ρ dl w
  | false=>Xt ρ o.dst undef fun ρ=>MV P ops K r ρ dl w:=rfl
def akX (o:Oper):Bool:=match o.op with
 | .defer _=>true
 | _=>false
noncomputable def aeH (c:Code):Bool :=
 Code.rec (motive:=fun _=>Bool) false (fun _ ops _=>List.rec (motive:=fun _=>Bool) false (fun o _ ih=>match akX o with
   | true=>true
   | false=>ih) ops.toList)
  (fun _ _ a b=>match a with
   | true=>true
   | false=>b) (fun _ _ _ _ _=>false) (fun _ _ a=>a) (fun _ _=>false) (fun _ _ _ _ _ _=>false) (fun _=>false) (fun _ a=>a) (fun _=>false) (fun _=>false) false (fun _=>false) c
def IM (next:ym->DL->World->Prop) (Q:Exit->ym->DL->World->Prop) (e:Exit) (ρ:ym) (dl:DL) (w:World):Prop :=
 match e with
 | .normal=>next ρ dl w
 | e=>Q e ρ dl w
def BE (P:Program) (c:Code):akW :=
 Code.rec (motive:=fun _=>akW)
  (fun Q ρ dl w=>Q .normal ρ dl w)
  (fun id ops draw Q ρ dl w=>match draw with
   | false=>MV P ops.toList (Q .normal) ops.toList ρ dl w
   | true=>Qy P id ops (fun ρ w=>Q .normal ρ dl w) ρ w)
  (fun x _ Li LW Q ρ dl w=>match aeH x with
   | true=>Li (IM (LW Q) Q) ρ dl w
   | false=>OP P x (Vz (fun ρ w=>LW Q ρ dl w) (fun e ρ w=>Q e ρ dl w)) ρ w)
  (fun c x y _ _ Q ρ dl w=>OP P (.cond c x y) (fun e ρ w=>Q e ρ dl w) ρ w)
  (fun id c _ Q ρ dl w=>OP P (.block id c) (fun e ρ w=>Q e ρ dl w) ρ w)
  (fun c _ Q ρ dl w=>OP P (.loop c) (fun e ρ w=>Q e ρ dl w) ρ w)
  (fun _ _ _ _ _ _ _ _ _ _=>False)
  (fun id Q ρ dl w=>Q (.exit id) ρ dl w)
  (fun c _ Q ρ dl w=>OP P (.scope c) (fun e ρ w=>Q e ρ dl w) ρ w)
  (fun _ Q ρ dl w=>Q .normal ρ dl w)
  (fun l Q ρ dl w=>Q (.goto l) ρ dl w)
  (fun Q ρ dl w=>Q .ret ρ dl w)
  (fun _ _ _ _ _=>False) c
def KM (P:Program) (rs:List ResultVar) (R:Value->World->Prop) (ρ:ym) (dl:DL):World->Prop :=
 List.rec (motive:=fun _=>World->Prop) (fun w=>Mf P ρ w rs fun vs=>HG R w vs) (fun d _ ih w=>AM P d.1 d.2.toArray w ih) dl
def aeI (P:Program) (rs:List ResultVar) (R:Value->World->Prop) (e:Exit) (ρ:ym) (dl:DL) (w:World):Prop :=
 match e with
 | .normal=>KM P rs R ρ dl w
 | .ret=>KM P rs R ρ dl w
 | _=>False
def ahK (P:Program) (fn:Func) (c:Code) (args:ym) (w:World) (R:Value->World->Prop):Prop :=
 GR (fn.ntmps-args.length) [] fun us=>OK args us fun ρ=>BE P c (aeI P fn.results.toList R) ρ [] w
def Dm:List Deferred->DL->Prop
 | [],[]=>True
 | d::ds,x::dl=>(∃cap,d.target=.fn (.func x.1) cap/\d.args++cap=x.2.toArray)/\Dm ds dl
 | _,_=>False
def GC (Q:Exit->ym->DL->World->Prop) (e:Exit) (a:Act) (w:World):Prop:=∃dl,Dm a.defers dl/\Q e a.tmps.toList dl w
theorem RZ {ds:List Deferred} {dl:DL} (hd:Dm ds dl) {Q:Exit->ym->DL->World->Prop} {e:Exit} {a:Act} {w:World} (h:lift ds (fun e ρ w=>Q e ρ dl w) e a w):GC Q e a w:=by
 obtain ⟨rfl,h⟩:=h
 exact ⟨dl,hd,h⟩
theorem abv {P:Program} {ops:Array Oper} {Q:Exit->ym->DL->World->Prop} (l:List Oper) :
  ∀{ρ:ym} {w:World} {ds:List Deferred} {dl:DL},Dm ds dl->MV P ops.toList (Q .normal) l ρ dl w->wpList P ops (GC Q) l ⟨ρ.toArray,ds⟩ w:=by
 induction l with
 | nil=>exact fun hd h=>⟨_,hd,by simpa [adv] using h⟩
 | cons o r ih =>
  intro ρ w ds dl hd h
  simp only [acr,X3] at h
  obtain ⟨b,hb,h⟩:=XT h
  unfold wpList
  cases b
  .rw [if_neg (by simp [hb]),put_eq]
   exact ih hd h
  .rw [if_pos hb]
   refine .inl ?_
   simp only at h
   split at h
   .rename_i c ho
    split at h
    .rename_i f hf
     simp only [S5,NO] at h
     split at h
     .rename_i fn fst cap hv
      split at h
      .rename_i id
       simp only [Sc] at h
       have hx:(execOp (⟨ρ.toArray,ds⟩:Act).eval o).run P w=.ok (.defer ⟨.fn (.func id) cap,fst++c.args.map (ev ρ)⟩) w:=by
        rw [Yj];unfold execOp;rw [ho]
        simp only [resolve,hf,hv,Deferred.ofValue,Sem.run_bind,Sem.run_pure,Result.andThen_ok]
       simp only [Oper.wp,hx,Oper.upon]
       rw [put_eq]
       refine ih (dl:=(id,fst.toList++(List.map (ev ρ) c.args.toList++cap.toList))::dl) ⟨⟨cap,rfl,?_⟩,hd⟩ h
       apply Array.ext';simp
      .grind
     .grind
    .grind
   .exact UD h fun v w' h=>by rw [put_eq];exact ih hd h
theorem adw {P:Program} (c:Code):∀{Q:Exit->ym->DL->World->Prop} {ρ:ym} {w:World} {ds:List Deferred} {dl:DL},Dm ds dl->BE P c Q ρ dl w->c.wp P (GC Q) ⟨ρ.toArray,ds⟩ w:=by
 induction c with
 | skip=>exact fun hd h=>wp_skip ⟨_,hd,h⟩
 | label l=>exact fun hd h=>wp_label ⟨_,hd,h⟩
 | exit i=>exact fun hd h=>wp_exit ⟨_,hd,h⟩
 | ret=>exact fun hd h=>wp_ret ⟨_,hd,h⟩
 | goto=>exact fun hd h=>wp_goto ⟨_,hd,h⟩
 | refuse=>exact fun _ h=>h.elim
 | rangeFunc=>exact fun _ h=>h.elim
 | cond c x y _ _=>exact fun hd h=>wp_mono (UC (.cond c x y) h) fun _ _ _=>RZ hd
 | block id c _=>exact fun hd h=>wp_mono (UC (.block id c) h) fun _ _ _=>RZ hd
 | loop c _=>exact fun hd h=>wp_mono (UC (.loop c) h) fun _ _ _=>RZ hd
 | scope c _=>exact fun hd h=>wp_mono (UC (.scope c) h) fun _ _ _=>RZ hd
 | region id ops draw =>
  intro Q ρ w ds dl hd h
  cases draw
  .exact wp_region_list (abv _ hd h)
  .obtain ⟨h⟩:=h
   refine wp_mono (h ds) ?_
   rintro e a w ⟨rfl,rfl,-,h4⟩
   exact ⟨dl,hd,h4⟩
 | seq x y Li LW =>
  intro Q ρ w ds dl hd h
  have h:(match aeH x with
   | true=>BE P x (IM (BE P y Q) Q) ρ dl w
   | false=>OP P x (Vz (fun ρ w=>BE P y Q ρ dl w) (fun e ρ w=>Q e ρ dl w)) ρ w):=h
  split at h
  .refine wp_seq (wp_mono (Li hd h) ?_)
   rintro e a w ⟨dl,hd,he⟩
   cases e <;> simp only [IM] at he <;> simp only [Exit.then]
   .rw [QX (a:=a) rfl];exact LW hd he
   all_goals exact ⟨dl,hd,he⟩
  .refine wp_seq (wp_mono (UC x h) ?_)
   rintro e a w ⟨rfl,he⟩
   cases e <;> simp only [Vz] at he <;> simp only [Exit.then]
   .rw [QX (a:=a) rfl];exact LW hd he
   all_goals exact ⟨dl,hd,he⟩
theorem acs {P:Program} {fn:Func} {R:Value->World->Prop} {ρ:ym} {w:World} (h:Mf P ρ w fn.results.toList fun vs=>HG R w vs) :
  ∃v,(results fn ρ.toArray).run P w=.ok v w/\R v w:=by
 obtain ⟨_,v,h1,v',h2,h3⟩:=Rv (P:=P) (fn:=fn) (R:=R) (e:=.normal) (a:=⟨ρ.toArray,[]⟩) (w:=w) ⟨rfl,by simpa [GQ] using h⟩
 cases h2
 exact ⟨v,h1,h3⟩
theorem aah {P:Program} {fn:Func} {R:Value->World->Prop} {ρ:ym}:∀{ds:List Deferred} {dl:DL} {w:World},Dm ds dl->KM P fn.results.toList R ρ dl w ->
  Leaves P fn ρ.toArray (fun e w'=>∃v,e=.returned v/\R v w') ds .returning w:=by
 intro ds
 induction ds with
 | nil =>
  intro dl w hd h
  cases dl with
  | nil=>obtain ⟨v,h1,h2⟩:=acs h;exact ⟨v,h1,v,rfl,h2⟩
  | cons x dl=>exact hd.elim
 | cons d ds ih =>
  intro dl w hd h
  cases dl with
  | nil=>exact hd.elim
  | cons x dl =>
   obtain ⟨⟨cap,ht,ha⟩,hd⟩:=hd
   obtain ⟨h⟩:=(h:AM P x.1 x.2.toArray w (KM P fn.results.toList R ρ dl))
   refine ⟨by simp,.func x.1,cap,x.1,x.2.toArray,ht,?_,?_⟩
   .rw [ht];simp only [invoke,ha];exact h.NN
   .refine (h.calls .returning).mono ?_
    rintro e u' w' ⟨rfl,v,rfl,hr⟩
    exact ih hd hr
theorem Fc.ofD {P:Program} {f:FuncId} {fn:Func} {c:Code} {args:Array Value} {w:World} {R:Value->World->Prop}
  (hf:P.funcs[f]?=some fn) (hb:fn.body=some c) (hn:(fn.name == "runtime.NumGoroutine")=false) (h:ahK P fn c args.toList w R):Fc P f args w R:=by
 constructor
 .simp only [callFunc,Sem.run_bind,program,Sem.run,Result.andThen_ok,hf]
  rw [if_neg (by grind),if_neg (by grind)]
  rfl
 .refine calls_of_wp_defers hf hb ?_
  unfold ahK at h
  rw [Lg,Sc,lta] at h
  have:=adw (ds:=[]) (dl:=[]) c (by simp [Dm]) h
  have e:(args.toList++List.replicate (fn.ntmps-args.toList.length) undef).toArray=args++Array.replicate (fn.ntmps-args.size) undef:=by simp
  rw [e] at this
  refine wp_mono this ?_
  rintro e a w ⟨dl,hd,h⟩
  cases e <;> simp only [aeI] at h
  .have:=aah hd h;simpa [bodyPostD] using this
  .have:=aah hd h;simpa [bodyPostD] using this
end YY
namespace YY
open Go Go.RowKit
theorem abw {P:Program} {id:Nat} {ops:Array Oper} {K:ym->World->Prop} {ρ:ym} {w:World} {α:Type} (sl:α->List (Nat × Value)) (inv:α->World->Prop)
  (h:Qy P id ops (fun ρ' w'=>Jn sl inv ρ' w') ρ w)
  (hk:∀a (f:Nat->Value) w',inv a w'->DJ (Yt ops.toList) f ρ fun ρ=>DI (sl a) ρ fun ρ=>K ρ w'):Qy P id ops K ρ w:=by
 obtain ⟨h⟩:=h
 refine ⟨fun ds=>Code.wp_mono (fun e a w' ⟨h1,h2,h3,h4⟩=>⟨h1,h2,h3,?_⟩) (h ds)⟩
 obtain ⟨x,hm,hi⟩:=h4
 exact Nl _ hm (SF _ h3 (hk x (gt a.tmps.toList) w' hi))
end YY
end Go.Proofs.YtakpnepblgfknaaGreatDoor
