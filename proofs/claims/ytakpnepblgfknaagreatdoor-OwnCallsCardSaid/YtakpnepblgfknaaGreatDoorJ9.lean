import Derived.Test.YtakpnepblgfknaaGreatDoorJ8
set_option maxRecDepth 100000
set_option maxHeartbeats 4000000
set_option linter.unusedVariables false
set_option linter.unusedSimpArgs false
set_option linter.defProp false
namespace Go.Proofs.YtakpnepblgfknaaGreatDoor
namespace Xy
open Go YY Go.RowKit
open YV Zo X7 Y3 Valid
def ED (a:Int) (n:Nat) (all:Int):Int:=if 0<=a/\a+n<=all then 0 else 23
theorem Jw {a:Int} {n:Nat} {all:Int}:ED a n all=0↔0<=a/\a+n<=all:=by grind [ED]
theorem Kr {a:Int} {n:Nat} {all:Int} (h:¬(0<=a/\a+n<=all)):ED a n all=23:=if_neg h
def Iu (m:Zq):Int:=Yf (fun x:UH=>ED x.pl x.fs.length m.table) m.elems
def Lz (m:Zq):Int:=Yf (fun x:Int × yo=>ED x.1 x.2.length (m.pages * 256)) m.data
def DP (m:Zq):Int:=fst (WA m.d) (fst (Iu m) (Lz m))
def Ht (n:Nat) (xs:List (Int × yo)):yo:=xs.foldl (fun b x=>patch b x.1.toNat x.2) (List.replicate n 0)
def Jv (n:Nat) (xs:List UH):yp:=xs.foldl (fun b x=>patch b x.pl.toNat x.fs) (List.replicate n (-1))
structure LM (n:Nat) (xs:List (Int × yo)) (i:Nat) (cur:yo):Prop where
 eq:cur=Ht n (xs.take i)
 len:cur.length=n
structure LT (n:Nat) (xs:List UH) (i:Nat) (cur:yp):Prop where
 eq:cur=Jv n (xs.take i)
 len:cur.length=n
 ok:∀y∈cur,XC y
theorem LM.zero {n:Nat} {xs:List (Int × yo)}:LM n xs 0 (List.replicate n 0):=⟨rfl,lfa⟩
theorem LM.step {n i:Nat} {xs:List (Int × yo)} {cur:yo} {x:Int × yo} (h:LM n xs i cur) (hx:xs[i]?=some x) (hl:x.1.toNat+x.2.length<=n):LM n xs (i+1) (patch cur x.1.toNat x.2):=by
 refine ⟨?_,by rw [Uy (by rw [h.len];exact hl),h.len]⟩
 rw [lwb,hx,h.eq]
 unfold Ht
 rw [List.foldl_append];rfl
theorem LM.fin {n i:Nat} {xs:List (Int × yo)} {cur:yo} (h:LM n xs i cur) (hi:xs.length<=i):cur=Ht n xs:=by
 rw [h.eq,lua hi]
theorem LT.zero {n:Nat} {xs:List UH}:LT n xs 0 (List.replicate n (-1)):=⟨rfl,lfa,fun y hy=>by rw [List.eq_of_mem_replicate hy];decide⟩
theorem aaM {α:Type} {xs ys:List α} {a:Nat} {P:α->Prop} (h:∀x∈xs,P x) (hy:∀y∈ys,P y):∀y∈patch xs a ys,P y:=by
 intro y hm
 unfold patch at hm
 rcases lMa.1 hm with hm|hm
 .grind
 .grind
theorem LT.step {n i:Nat} {xs:List UH} {cur:yp} {x:UH} (h:LT n xs i cur) (hx:xs[i]?=some x) (hl:x.pl.toNat+x.fs.length<=n) (hf:∀y∈x.fs,XC y):LT n xs (i+1) (patch cur x.pl.toNat x.fs):=by
 refine ⟨?_,by rw [Uy (by rw [h.len];exact hl),h.len],aaM h.ok hf⟩
 rw [lwb,hx,h.eq]
 unfold Jv
 rw [List.foldl_append];rfl
theorem LT.fin {n i:Nat} {xs:List UH} {cur:yp} (h:LT n xs i cur) (hi:xs.length<=i):cur=Jv n xs:=by
 rw [h.eq,lua hi]
theorem afb {P:Int->Prop} {n:Nat} {xs:List UH} (h0:P (-1)) (h:∀x∈xs,∀y∈x.fs,P y):∀y∈Jv n xs,P y:=by
 have key:∀(xs:List UH) (b:yp),(∀y∈b,P y)->(∀x∈xs,∀y∈x.fs,P y)->∀y∈xs.foldl (fun b x=>patch b x.pl.toNat x.fs) b,P y:=by
  intro xs
  induction xs with
  | nil=>intro b hb _;exact hb
  | cons x r ih=>intro b hb hx;exact ih _ (aaM hb (hx x (.head _))) fun z hz=>hx z (.tail _ hz)
 exact key xs _ (fun y hy=>by rw [List.eq_of_mem_replicate hy];exact h0) h
theorem afc {n:Nat} {xs:List UH} (h:∀x∈xs,x.pl.toNat+x.fs.length<=n):(Jv n xs).length=n:=by
 have key:∀(xs:List UH) (b:yp),b.length=n->(∀x∈xs,x.pl.toNat+x.fs.length<=n)->(xs.foldl (fun b x=>patch b x.pl.toNat x.fs) b).length=n:=by
  intro xs
  induction xs with
  | nil=>intro b hb _;exact hb
  | cons x r ih=>intro b hb hx;exact ih _ (by grind [Uy,head]) fun z hz=>hx z (.tail _ hz)
 exact key xs _ lfa h
theorem afd {n:Nat} {xs:List (Int × yo)} (h:∀x∈xs,x.1.toNat+x.2.length<=n):(Ht n xs).length=n:=by
 have key:∀(xs:List (Int × yo)) (b:yo),b.length=n->(∀x∈xs,x.1.toNat+x.2.length<=n)->(xs.foldl (fun b x=>patch b x.1.toNat x.2) b).length=n:=by
  intro xs
  induction xs with
  | nil=>intro b hb _;exact hb
  | cons x r ih=>intro b hb hx;exact ih _ (by grind [Uy,head]) fun z hz=>hx z (.tail _ hz)
 exact key xs _ lfa h
structure EC (m:Zq) (mem:yo) (ts gs:yp) (e:Int):Prop where
 eq:e=DP m
 ok:e=0->mem=Ht (256 * m.pages.toNat) m.data/\ts=Jv m.table.toNat m.elems/\gs=m.globals.map (·.2.2)
 no:e≠0->mem=[]/\ts=[]/\gs=[]
theorem EC.bad {m:Zq} {e:Int} (h:e=DP m) (h0:e≠0):EC m [] [] [] e:=⟨h,fun h=>absurd h h0,fun _=>⟨rfl,rfl,rfl⟩⟩
theorem mk1 {m:Zq} {e:Int} (h:e=WA m.d) (h0:e≠0):EC m [] [] [] e:=.bad (by grind [DP,SS]) h0
theorem mk2 {m:Zq} {i:Nat} {x:UH} (h:0=WA m.d) (hA:AI (fun x:UH=>ED x.pl x.fs.length m.table) m.elems i) (hx:m.elems[i]?=some x) (hb:¬(0<=x.pl/\x.pl+x.fs.length<=m.table)):EC m [] [] [] 23:=by
 have h1:Iu m=23:=by
  unfold Iu;rw [hA.bad hx (by grind [Kr]),Kr hb]
 exact .bad (by unfold DP;rw [<-h,Wx,h1];rfl) (by decide)
theorem mk3 {m:Zq} {i:Nat} {x:Int × yo} (h:0=WA m.d) (h1:Iu m=0) (hA:AI (fun x:Int × yo=>ED x.1 x.2.length (m.pages * 256)) m.data i) (hx:m.data[i]?=some x) (hb:¬(0<=x.1/\x.1+x.2.length<=m.pages * 256)):EC m [] [] [] 23:=by
 have h2:Lz m=23:=by
  unfold Lz;rw [hA.bad hx (by grind [Kr]),Kr hb]
 exact .bad (by grind [DP,Wx]) (by decide)
theorem mk4 {m:Zq} {mem:yo} {ts gs:yp} (h:0=WA m.d) (h1:Iu m=0) (h2:Lz m=0) (q1:mem=Ht (256 * m.pages.toNat) m.data) (q2:ts=Jv m.table.toNat m.elems) (q3:gs=m.globals.map (·.2.2)):EC m mem ts gs 0 :=
 ⟨by unfold DP;rw [<-h,Wx,h1,Wx,h2],fun _=>⟨q1,q2,q3⟩,fun h=>absurd rfl h⟩
end Xy
namespace Xy
open Go YY Go.RowKit
open YV Zo X7 Y3 Valid
noncomputable def Sp (k a:Int):Int:=if k=127 then ZM .i64 (ZM .i32 a) else a
def tE (m:Zq) (n:Int):Int:=if n < -1\/((m.ZA.length:Int)+m.funcs.length)<=n then 1 else 0
noncomputable def gE (p:(Int × Bool × Int) × Int):Int:=if p.2≠Sp p.1.1 p.2\/(p.1.2.1=false/\p.2≠p.1.2.2) then 1 else 0
noncomputable def Uh (m:Zq) (n:Nat) (ts gs:yp):Int :=
 fst (WA m.d) (if n % 256≠0\/((n / 256:Nat):Int)<m.pages\/m.most<((n / 256:Nat):Int) then 1 else if (ts.length:Int)≠m.table\/gs.length≠m.globals.length then 1 else fst (Yf (tE m) ts) (Yf gE (m.globals.zip gs)))
section
variable {m:Zq} {n i:Nat} {ts gs:yp} {e:Int}
theorem ft0 (h:e=WA m.d) (h0:e≠0):e=Uh m n ts gs:=by
 unfold Uh;rw [SS _ (h ▸ h0)];exact h
theorem ft1 (h:WA m.d=0) (hc:n % 256≠0\/((n / 256:Nat):Int)<m.pages\/m.most<((n / 256:Nat):Int)):1=Uh m n ts gs:=by
 unfold Uh;rw [h,Wx,if_pos hc]
theorem ft2 (h:WA m.d=0) (hc:¬(n % 256≠0\/((n / 256:Nat):Int)<m.pages\/m.most<((n / 256:Nat):Int))) (hd:(ts.length:Int)≠m.table\/gs.length≠m.globals.length):1=Uh m n ts gs:=by
 unfold Uh;rw [h,Wx,if_neg hc,if_pos hd]
theorem ft3 (h:WA m.d=0) (hc:¬(n % 256≠0\/((n / 256:Nat):Int)<m.pages\/m.most<((n / 256:Nat):Int))) (hd:¬((ts.length:Int)≠m.table\/gs.length≠m.globals.length)):Uh m n ts gs=fst (Yf (tE m) ts) (Yf gE (m.globals.zip gs)):=by
 unfold Uh;rw [h,Wx,if_neg hc,if_neg hd]
theorem alR {x:Int} (hx:x < -1\/((m.ZA.length:Int)+m.funcs.length)<=x):tE m x=1:=if_pos hx
theorem CZ {x:Int} (hx:¬(x < -1\/((m.ZA.length:Int)+m.funcs.length)<=x)):tE m x=0:=if_neg hx
theorem ft4 {x:Int} (h:Uh m n ts gs=fst (Yf (tE m) ts) (Yf gE (m.globals.zip gs))) (hA:AI (tE m) ts i) (hx:ts[i]?=some x) (hb:x < -1\/((m.ZA.length:Int)+m.funcs.length)<=x):1=Uh m n ts gs:=by
 have h1:Yf (tE m) ts=1:=by rw [hA.bad hx (by rw [alR hb];decide),alR hb]
 rw [h,h1];rfl
theorem alS {p:(Int × Bool × Int) × Int} (hb:p.2≠Sp p.1.1 p.2\/(p.1.2.1=false/\p.2≠p.1.2.2)):gE p=1:=if_pos hb
theorem CY {p:(Int × Bool × Int) × Int} (h1:p.2=Sp p.1.1 p.2) (h2:p.1.2.1=true\/p.2=p.1.2.2):gE p=0:=if_neg (by
 rintro (h|⟨h3,h4⟩)
 .exact h h1
 .rcases h2 with h2|h2
  .rw [h2] at h3;cases h3
  .exact h4 h2)
theorem ft5 {p:(Int × Bool × Int) × Int} (h:Uh m n ts gs=fst (Yf (tE m) ts) (Yf gE (m.globals.zip gs))) (h1:Yf (tE m) ts=0) (hA:AI gE (m.globals.zip gs) i) (hx:(m.globals.zip gs)[i]?=some p) (hb:p.2≠Sp p.1.1 p.2\/(p.1.2.1=false/\p.2≠p.1.2.2)):1=Uh m n ts gs:=by
 have h2:Yf gE (m.globals.zip gs)=1:=by rw [hA.bad hx (by rw [alS hb];decide),alS hb]
 rw [h,h1,Wx,h2]
theorem ft6 (h:Uh m n ts gs=fst (Yf (tE m) ts) (Yf gE (m.globals.zip gs))) (h1:Yf (tE m) ts=0) (h2:Yf gE (m.globals.zip gs)=0):0=Uh m n ts gs:=by
 rw [h,h1,Wx,h2]
theorem agU {xs:List (Int × Bool × Int)} {ys:yp} {x:Int × Bool × Int} {y:Int} (hx:xs[i]?=some x) (hy:ys[i]?=some y):(xs.zip ys)[i]?=some (x,y):=by
 rw [List.getElem?_zip_eq_some];exact ⟨hx,hy⟩
theorem zip_map (f:Int × Bool × Int->Int):∀xs:List (Int × Bool × Int),xs.zip (xs.map f)=xs.map fun x=>(x,f x)
 | []=>rfl
 | x::r=>by rw [lfb,List.zip_cons_cons,zip_map f r];rfl
theorem agV {a:Int} (h:-2147483648<=a/\a<=2147483647):ZM .i64 (ZM .i32 a)=a:=by grind [anv,Sa]
theorem agW {k a:Int} (h:k≠127\/(-2147483648<=a/\a<=2147483647)):Sp k a=a:=by
 unfold Sp
 by_cases hk:k=127
 .rw [if_pos hk];exact agV (h.resolve_left (fun h=>h hk))
 .omega
theorem MD (h:DP m=0):WA m.d=0/\Iu m=0/\Lz m=0:=by
 unfold DP at h
 obtain ⟨h1,h⟩:=Zi.1 h
 exact ⟨h1,Zi.1 h⟩
theorem afe {x:Int} (h:Rc (ZB m.d) x=0):0<=x/\x<(m.ZA.length:Int)+m.funcs.length:=by
 unfold Rc at h
 cases hk:Valid.Xl (ZB m.d) x with
 | none=>rw [if_pos hk] at h;cases h
 | some d =>
  unfold Valid.Xl Valid.Qd at hk
  by_cases h0:x<0
  .grind
  .rw [if_neg h0] at hk
   have DU:(ZB m.d).ZA.length=m.ZA.length:=lea ..
   have hlf:(ZB m.d).JE.length=m.funcs.length:=by
    show ((m.funcs.map YS.d).map _).length=_
    rw [lea,lea]
   by_cases h1:x<(ZB m.d).ZA.length
   .omega
   .grind
theorem abM (h:WA m.d=0) (n:Nat):Yf (tE m) (Jv n m.elems)=0:=by
 rw [T8]
 have hh:=(Xw h).1
 unfold UF at hh
 obtain ⟨_,hh⟩:=Zi.1 hh
 obtain ⟨_,hh⟩:=Zi.1 hh
 obtain ⟨_,hh⟩:=Zi.1 hh
 obtain ⟨_,hh⟩:=Zi.1 hh
 obtain ⟨_,hh⟩:=Zi.1 hh
 unfold SO at hh
 obtain ⟨h6,_⟩:=Zi.1 hh
 refine afb (P:=fun x=>tE m x=0) (CZ yQ) fun x hx y hy=>?_
 have h7:=T8.1 h6 x.d (lWa.2 ⟨x,hx,rfl⟩)
 unfold Tb at h7
 split at h7
 .omega
 .have h8:=afe (T8.1 h7 y hy)
  exact CZ yQ
theorem aff (h:WA m.d=0):Yf gE (m.globals.zip (m.globals.map (·.2.2)))=0:=by
 rw [zip_map,T8]
 intro p hp
 obtain ⟨x,hx,rfl⟩:=lWa.1 hp
 have P:=Vf (UR (Xw h).1).1
 have hg:=P.MN x hx
 unfold L8 at hg
 obtain ⟨_,h2⟩:=Zi.1 hg
 unfold Oi at h2
 refine CY ?_ (.inr rfl)
 refine (agW ?_).symm
 by_cases hc:x.1≠127\/(-2147483648<=x.2.2/\x.2.2<=2147483647)
 .omega
 .omega
theorem acY {mem:yo} (h:EC m mem ts gs 0) (k:Nat):(Uh m (mem.length+256 * k) ts gs=0↔m.pages+k<=m.most)/\(mem.length:Int)=256 * m.pages/\(ts.length:Int)=m.table/\0<=m.pages/\m.pages<=m.most/\m.most<=8:=by
 obtain ⟨h1,h2,h3⟩:=MD h.eq.symm
 obtain ⟨q1,q2,q3⟩:=h.ok rfl
 have P:=Vf (UR (Xw h1).1).1
 have P1:=P.pages
 have P2:=P.most
 have P3:=P.table
 unfold Iu at h2
 unfold Lz at h3
 have hm:mem.length=256 * m.pages.toNat:=by
  rw [q1]
  refine afd fun x hx=>?_
  have:=Jw.1 (T8.1 h3 x hx)
  omega
 have ht:ts.length=m.table.toNat:=by
  rw [q2]
  refine afc fun x hx=>?_
  have:=Jw.1 (T8.1 h2 x hx)
  omega
 have hg:gs.length=m.globals.length:=by grind
 refine ⟨?_,by omega,by omega,P1.1,P1.2,P2⟩
 constructor
 .grind [ft1]
 .grind [ft3,abM,Wx,aff]
end
end Xy
namespace Rn
open Go YY Go.RowKit
open YV Zo X7 Y3 Valid
def Vk (k n:Int):Prop:=XC n/\(k=127->-2147483648<=n/\n<=2147483647)
theorem Vk.r {k n:Int} (h:Vk k n):XC n:=h.1
theorem Vk.wide {n:Int} (h:XC n):Vk 126 n:=⟨h,fun h=>absurd h (by decide)⟩
theorem Vk.low {n:Int} (h:-2147483648<=n/\n<=2147483647):Vk 127 n:=⟨by unfold XC;omega,fun _=>h⟩
def KV (ks vs:yp):Prop:=vs.length=ks.length/\∀(i:Nat) (k v:Int),ks[i]?=some k->vs[i]?=some v->Vk k v
section
variable {ks vs a b x y:yp} {k v:Int}
theorem KV.len (h:KV ks vs):vs.length=ks.length:=h.1
theorem KV.nil:KV [] []:=⟨rfl,fun i k v h=>by simp at h⟩
theorem KV.one (h:Vk k v):KV [k] [v]:=⟨rfl,fun i k' v' h1 h2=>by
 cases i with
 | zero=>obtain rfl:=yq6 h1;obtain rfl:=yq6 h2;exact h
 | succ i=>simp at h1⟩
theorem KV.app (h:KV a x) (h2:KV b y):KV (a++b) (x++y):=by
 refine ⟨by rw [lca,lca,h.1,h2.1],fun i k v h3 h4=>?_⟩
 rw [lKa] at h3 h4
 rw [h.1] at h4
 by_cases hi:i<a.length
 .rw [if_pos hi] at h3 h4;exact h.2 i k v h3 h4
 .rw [if_neg hi] at h3 h4;exact h2.2 _ k v h3 h4
theorem KV.snoc (h:KV a x) (h2:Vk k v):KV (a++[k]) (x++[v]):=h.app (.one h2)
theorem KV.take (h:KV ks vs) (n:Nat):KV (ks.take n) (vs.take n):=by
 refine ⟨by rw [lCa,lCa,h.1],fun i k v h3 h4=>?_⟩
 rw [lJa] at h3 h4
 by_cases hi:i<n
 .rw [if_pos hi] at h3 h4;exact h.2 i k v h3 h4
 .grind
theorem KV.drop (h:KV ks vs) (n:Nat):KV (ks.drop n) (vs.drop n):=by
 refine ⟨by rw [lIa,lIa,h.1],fun i k v h3 h4=>?_⟩
 rw [lUa] at h3 h4
 exact h.2 _ k v h3 h4
theorem KV.split (h:KV (a++b) vs):∃x y,vs=x++y/\KV a x/\KV b y:=by
 have h1:=h.take a.length
 have h2:=h.drop a.length
 rw [lBb] at h1
 rw [List.drop_left] at h2
 exact ⟨_,_,(leb _ _).symm,h1,h2⟩
theorem KV.alT (h:KV [k] vs):∃v,vs=[v]/\Vk k v:=by
 obtain ⟨h1,h2⟩:=h
 match vs,h1 with
 | [v],_=>exact ⟨v,rfl,h2 0 k v rfl rfl⟩
theorem KV.ahT (h:KV [] vs):vs=[]:=lma h.1
theorem KV.P5 (h:KV (a++[k]) vs):∃x v,vs=x++[v]/\KV a x/\Vk k v:=by
 obtain ⟨x,y,rfl,h1,h2⟩:=h.split
 obtain ⟨v,rfl,h3⟩:=h2.alT
 exact ⟨x,v,rfl,h1,h3⟩
theorem KV.i64 (h:KV ks vs):∀v∈vs,XC v:=fun v hv=>by
 obtain ⟨i,hi,rfl⟩:=lzb.1 hv
 exact (h.2 i _ _ (laa (by rw [<-h.1];exact hi)) (laa hi)).1
theorem KV.at_ (h:KV ks vs) {i:Nat} (hk:ks[i]?=some k):∃v,vs[i]?=some v/\Vk k v:=by
 have hi:i<vs.length:=by rw [h.1];exact (lba.1 hk).1
 exact ⟨_,laa hi,h.2 i _ _ hk (laa hi)⟩
theorem KV.set (h:KV ks vs) {i:Nat} (hk:ks[i]?=some k) (hv:Vk k v):KV ks (vs.set i v):=by
 refine ⟨by rw [lna];exact h.1,fun j k' v' h3 h4=>?_⟩
 rw [lNa] at h4
 by_cases e:i=j
 .grind
 .rw [if_neg e] at h4;exact h.2 j _ _ h3 h4
theorem KV.alU (ks:yp):KV ks (List.replicate ks.length 0):=⟨lfa,fun i k v _ h=>by
 obtain ⟨_,e⟩:=lba.1 h
 rw [List.getElem_replicate] at e
 subst e
 exact ⟨by unfold XC;omega,fun _=>by omega⟩⟩
end
structure WU where
 mem:yo
 Zt:yp
 Zh:yp
structure YJ where
 fn:Int
 at_:Int
 loc:yp
 stk:yp
structure MS where
 ins:WU
 calls:List YJ
 host:Int
structure Ve where
 e:Int
 vals:yp
 XF:Int
 host:Int
 left:Int
def top (s:yp) (k:Nat):Int:=s.getD (s.length-1-k) 0
def low (s:yp) (k:Nat):yp:=s.take (s.length-k)
theorem Wg {s:yp} {a:Int}:top (s++[a]) 0=a:=by grind [top]
theorem Gj {s:yp} {a:Int} {k:Nat} (h:k<s.length):top (s++[a]) (k+1)=top s k:=by grind [top]
theorem MC {s:yp} {a:Int} {k:Nat}:low (s++[a]) (k+1)=low s k:=by grind [low]
theorem Ju {s:yp}:low s 0=s:=by grind [low]
theorem O9 {s:yp} {k:Nat}:(low s k).length=s.length-k:=by grind [low]
theorem Oa {s:yp} (h:1<=s.length):∃t a,s=t++[a]:=by
 rcases ltb s with rfl|⟨t,a,rfl⟩
 .grind
 .simp
structure Bq where
 ins:WU
 loc:yp
 stk:yp
 e:Int
def ON (base off:Int):Int:=base % 4294967296+off
noncomputable def WE (most:Int) (x:ZV) (I:WU) (loc stk:yp):Bq :=
 if x.op=26 then ⟨I,loc,low stk 1,0⟩
 else if x.op=27 then ⟨I,loc,if top stk 0=0 then low stk 3++[top stk 1] else low stk 2,0⟩
 else if x.op=32 then ⟨I,loc,stk++[loc.getD x.a.toNat 0],0⟩
 else if x.op=33 then ⟨I,loc.set x.a.toNat (top stk 0),low stk 1,0⟩
 else if x.op=34 then ⟨I,loc.set x.a.toNat (top stk 0),stk,0⟩
 else if x.op=35 then ⟨I,loc,stk++[I.Zh.getD x.a.toNat 0],0⟩
 else if x.op=36 then ⟨{ I with Zh:=I.Zh.set x.a.toNat (top stk 0) },loc,low stk 1,0⟩
 else if x.op=65\/x.op=66 then ⟨I,loc,stk++[x.a],0⟩
 else if x.op=63 then ⟨I,loc,stk++[((I.mem.length / 256:Nat):Int)],0⟩
 else if x.op=64 then
  if most-((I.mem.length / 256:Nat):Int)<top stk 0 % 4294967296 then ⟨I,loc,low stk 1++[-1],0⟩
  else ⟨{ I with mem:=I.mem++List.replicate (256 * (top stk 0 % 4294967296).toNat) 0 },loc,low stk 1++[((I.mem.length / 256:Nat):Int)],0⟩
 else if 0<wid x.op then
  if 54<=x.op then
   if ON (top stk 1) x.b+wid x.op<=I.mem.length then ⟨{ I with mem:=Mem.ow I.mem (ON (top stk 1) x.b).toNat (Mem.IU (wid x.op).toNat (top stk 0)) },loc,low stk 2,0⟩
   else ⟨I,loc,low stk 2,23⟩
  else if ON (top stk 0) x.b+wid x.op<=I.mem.length then ⟨I,loc,low stk 1++[Mem.FA x.op (Mem.JJ ((I.mem.drop (ON (top stk 0) x.b).toNat).take (wid x.op).toNat))],0⟩
  else ⟨I,loc,low stk 1++[0],23⟩
 else if (Xf x.op).1.length=1 then ⟨I,loc,low stk 1++[(Xq.UO x.op (top stk 0)).1],(Xq.UO x.op (top stk 0)).2⟩
 else ⟨I,loc,low stk 2++[(Xq.UP x.op (top stk 1) (top stk 0)).1],(Xq.UP x.op (top stk 1) (top stk 0)).2⟩
def fz:Rk:=⟨0,[],[]⟩
def sz:Xz:=⟨[],[]⟩
def Y9 (m:Y4) (n:Int):Rk:=m.funcs.getD n.toNat fz
def UJ (m:Y4) (f:Rk):Xz:=m.types.getD f.ty.toNat sz
def XK (m:Y4) (f:Rk):yp:=(UJ m f).Zf++f.loc
def YG (m:Y4) (n:Int):Xz:=(Xl (ZB m) n).getD sz
def Jt (bd:List ZV) (i:Nat):Int:=match (List.range bd.length).find? (fun e=>decide (i<e) && decide ((bd.getD e EI).op=11) && decide (tp (Zr bd e)=i)) with
 | some e=>e
 | none=>-1
def Js (bd:List ZV) (i:Nat):Int:=match (List.range bd.length).find? (fun e=>decide (i<e) && decide ((bd.getD e EI).op=5) && decide (tp (Zr bd e)=i)) with
 | some e=>e
 | none=>-1
def Mh (bd:List ZV):yp:=(List.range bd.length).map (Jt bd)
def J3 (bd:List ZV):yp:=(List.range bd.length).map (Js bd)
def Ly (m:Y4) (f:Rk) (k:Nat):List Ye :=
 Jx (Mh f.body) (J3 f.body) f.body (Yx (ZB m) (XK m f) f.body (UJ m f)) (UJ m f).out.length k (f.body.getD k EI)
def Yk (m:Y4) (c:YJ):ZV:=(Y9 m c.fn).body.getD c.at_.toNat EI
def Ug (m:Y4) (c:YJ):List Ye:=Ly m (Y9 m c.fn) c.at_.toNat
inductive Ev where
 | free
 | over (vals:yp)
 | on
 | XF (e:Int)
 | host (f:Int) (vals:yp)
def VJ (c:YJ) (w:Ye):YJ:={ c with at_:=w.at_,stk:=c.stk.take w.height.toNat++c.stk.drop (c.stk.length-w.keep.toNat) }
def Tu (l:List Ye) (n:Nat):Ye:=l.getD n jz
def Y7 (m:Y4) (Zt:yp) (x:ZV) (stk:yp):Int × yp × Int :=
 if x.op=16 then (x.a,stk,0)
 else if (Zt.length:Int)<=top stk 0 % 4294967296\/Zt.getD (top stk 0 % 4294967296).toNat 0<0 then (0,low stk 1,24)
 else if (YG m (Zt.getD (top stk 0 % 4294967296).toNat 0)).Zf≠(m.types.getD x.a.toNat sz).Zf\/(YG m (Zt.getD (top stk 0 % 4294967296).toNat 0)).out≠(m.types.getD x.a.toNat sz).out then (0,low stk 1,25)
 else (Zt.getD (top stk 0 % 4294967296).toNat 0,low stk 1,0)
def YL (m:Y4):Int:=m.ZA.length
def Tt (m:Y4) (I:WU) (up:List YJ) (c:YJ) (x:ZV):MS × Ev :=
 let q:=Y7 m I.Zt x c.stk
 if q.2.2≠0 then (⟨I,[],0⟩,.XF q.2.2)
 else
  let n:=q.2.1.length-(YG m q.1).Zf.length
  if YL m<=q.1/\up.length+1=40 then (⟨I,[],0⟩,.XF 26)
  else if q.1<YL m then (⟨I,up++[{ c with stk:=q.2.1.take n }],q.1+1⟩,.host q.1 (q.2.1.drop n))
  else (⟨I,up++[{ c with stk:=q.2.1.take n }]++[⟨q.1-YL m,0,q.2.1.drop n++List.replicate (Y9 m (q.1-YL m)).loc.length 0,[]⟩],0⟩,.on)
def Tz (c:YJ):YJ:={ c with stk:=low c.stk 1 }
def XQ (c:YJ):YJ:={ c with at_:=c.at_+1 }
noncomputable def RQ (m:Y4) (I:WU) (up:List YJ) (c:YJ):MS × Ev :=
 let x:=Yk m c
 let ws:=Ug m c
 let c1:=XQ c
 if x.op=0 then (⟨I,[],0⟩,.XF 20)
 else if x.op=1\/x.op=2\/x.op=3 then (⟨I,up++[c1],0⟩,.on)
 else if x.op=4 then (⟨I,up++[if top c.stk 0=0 then VJ (Tz c1) (Tu ws 0) else Tz c1],0⟩,.on)
 else if x.op=12\/x.op=15 then (⟨I,up++[VJ c1 (Tu ws 0)],0⟩,.on)
 else if x.op=13 then (⟨I,up++[if top c.stk 0=0 then Tz c1 else VJ (Tz c1) (Tu ws 0)],0⟩,.on)
 else if x.op=14 then (⟨I,up++[VJ (Tz c1) (Tu ws (min (top c.stk 0 % 4294967296) (ws.length-1)).toNat)],0⟩,.on)
 else if x.op=16\/x.op=17 then Tt m I up c1 x
 else
  let d:=WE m.most x I c.loc c.stk
  if d.e≠0 then (⟨d.ins,[],0⟩,.XF d.e) else (⟨d.ins,up++[{ c1 with loc:=d.loc,stk:=d.stk }],0⟩,.on)
def addTop (up:List YJ) (vals:yp):List YJ:=match up.getLast? with
 | none=>[]
 | some u=>up.dropLast++[{ u with stk:=u.stk++vals }]
noncomputable def WG (m:Y4) (I:WU) (up:List YJ) (c:YJ):MS × Ev :=
 let x:=Yk m c
 if x.op=11 then
  if c.at_+1=(Y9 m c.fn).body.length then
   if up=[] then (⟨I,[],0⟩,.over c.stk) else (⟨I,addTop up c.stk,0⟩,.free)
  else (⟨I,up++[XQ c],0⟩,.free)
 else if x.op=5 then (⟨I,up++[VJ c (Tu (Ug m c) 0)],0⟩,.free)
 else RQ m I up c
def RD (m:Y4) (S S':MS) (ev:Ev):Prop:=∃up c,S.calls=up++[c]/\(S',ev)=WG m S.ins up c
theorem RD.RC {m:Y4} {S S1 S2:MS} {e1 e2:Ev} (h1:RD m S S1 e1) (h2:RD m S S2 e2):S1=S2/\e1=e2:=by
 obtain ⟨u1,c1,a1,b1⟩:=h1
 obtain ⟨u2,c2,a2,b2⟩:=h2
 obtain ⟨rfl,h⟩:=List.append_inj' (a1.symm.trans a2) rfl
 obtain rfl:=lyb.1 h
 have:=b1.trans b2.symm
 injection this with h1 h2
 exact ⟨h1,h2⟩
inductive OM (m:Y4):MS->Nat->MS->Ve->Prop
 | free {S S' T:MS} {n:Nat} {o:Ve}:RD m S S' .free->OM m S' n T o->OM m S n T o
 | over {S S':MS} {n:Nat} {vals:yp}:RD m S S' (.over vals)->OM m S n S' ⟨1,vals,0,0,n⟩
 | stop {S S':MS} {ev:Ev}:RD m S S' ev->(ev≠.free/\∀v,ev≠.over v)->OM m S 0 S ⟨3,[],0,0,0⟩
 | goes {S S' T:MS} {n:Nat} {o:Ve}:RD m S S' .on->OM m S' n T o->OM m S (n+1) T o
 | XF {S S':MS} {n:Nat} {e:Int}:RD m S S' (.XF e)->OM m S (n+1) S' ⟨2,[],e,0,n⟩
 | host {S S':MS} {n:Nat} {f:Int} {vals:yp}:RD m S S' (.host f vals)->OM m S (n+1) S' ⟨4,vals,0,f,n⟩
theorem OM.RC {m:Y4} {S T1:MS} {n:Nat} {o1:Ve} (h1:OM m S n T1 o1):∀{T2:MS} {o2:Ve},OM m S n T2 o2->T1=T2/\o1=o2:=by
 induction h1 with
 | free s1 _ ih =>
  intro T2 o2 h2
  cases h2 with
  | free s2 r2=>obtain ⟨rfl,_⟩:=s1.RC s2;exact ih r2
  | over s2=>exact absurd (s1.RC s2).2 yO
  | stop s2 hn=>exact absurd (s1.RC s2).2.symm hn.1
  | goes s2 _=>exact absurd (s1.RC s2).2 yO
  | XF s2=>exact absurd (s1.RC s2).2 yO
  | host s2=>exact absurd (s1.RC s2).2 yO
 | over s1 =>
  intro T2 o2 h2
  cases h2 with
  | free s2 r2=>exact absurd (s1.RC s2).2 yO
  | over s2=>obtain ⟨rfl,h⟩:=s1.RC s2;injection h with h;subst h;exact ⟨rfl,rfl⟩
  | stop s2 hn=>exact absurd (s1.RC s2).2.symm (hn.2 _)
  | goes s2 _=>exact absurd (s1.RC s2).2 yO
  | XF s2=>exact absurd (s1.RC s2).2 yO
  | host s2=>exact absurd (s1.RC s2).2 yO
 | stop s1 hn =>
  intro T2 o2 h2
  cases h2 with
  | free s2 r2=>exact absurd (s1.RC s2).2 hn.1
  | over s2=>exact absurd (s1.RC s2).2 (hn.2 _)
  | stop s2 _=>exact ⟨rfl,rfl⟩
 | goes s1 _ ih =>
  intro T2 o2 h2
  cases h2 with
  | free s2 r2=>exact absurd (s1.RC s2).2 yO
  | over s2=>exact absurd (s1.RC s2).2 yO
  | goes s2 r2=>obtain ⟨rfl,_⟩:=s1.RC s2;exact ih r2
  | XF s2=>exact absurd (s1.RC s2).2 yO
  | host s2=>exact absurd (s1.RC s2).2 yO
 | XF s1 =>
  intro T2 o2 h2
  cases h2 with
  | free s2 r2=>exact absurd (s1.RC s2).2 yO
  | over s2=>exact absurd (s1.RC s2).2 yO
  | goes s2 r2=>exact absurd (s1.RC s2).2 yO
  | XF s2=>obtain ⟨rfl,h⟩:=s1.RC s2;injection h with h;subst h;exact ⟨rfl,rfl⟩
  | host s2=>exact absurd (s1.RC s2).2 yO
 | host s1 =>
  intro T2 o2 h2
  cases h2 with
  | free s2 r2=>exact absurd (s1.RC s2).2 yO
  | over s2=>exact absurd (s1.RC s2).2 yO
  | goes s2 r2=>exact absurd (s1.RC s2).2 yO
  | XF s2=>exact absurd (s1.RC s2).2 yO
  | host s2=>obtain ⟨rfl,h⟩:=s1.RC s2;injection h with h1 h2;subst h1;subst h2;exact ⟨rfl,rfl⟩
theorem OM.cat {m:Y4} {S T:MS} {a:Nat} {o:Ve} (h1:OM m S a T o):o.e=3->∀{b:Nat} {T2:MS} {o2:Ve},OM m T b T2 o2->OM m S (a+b) T2 o2:=by
 induction h1 with
 | free s1 _ ih=>exact fun he b T2 o2 h2=>.free s1 (ih he h2)
 | over s1=>intro he;cases he
 | stop s1 hn=>intro he b T2 o2 h2;rw [lKb];exact h2
 | goes s1 _ ih=>intro he b T2 o2 h2;rw [show ∀n,n+1+b=n+b+1 by omega];exact .goes s1 (ih he h2)
 | XF s1=>intro he;cases he
 | host s1=>intro he;cases he
theorem OM.more {m:Y4} {S T:MS} {a:Nat} {o:Ve} (h1:OM m S a T o) (he:o.e≠3) (b:Nat):OM m S (a+b) T { o with left:=o.left+b }:=by
 induction h1 with
 | free s1 _ ih=>exact .free s1 (ih he)
 | over s1=>exact .over s1
 | stop s1 hn=>exact absurd rfl he
 | goes s1 _ ih=>rw [show ∀n,n+1+b=n+b+1 by omega];exact .goes s1 (ih he)
 | XF s1=>rw [show ∀n,n+1+b=n+b+1 by omega];exact .XF s1
 | host s1=>rw [show ∀n,n+1+b=n+b+1 by omega];exact .host s1
theorem OM.ends {m:Y4} {S T:MS} {a:Nat} {o:Ve} (h1:OM m S a T o):0<=o.left/\o.left<=a/\(o.e=1\/o.e=2\/o.e=3\/o.e=4)/\(o.e=3->o.left=0):=by
 induction h1 with
 | free s1 _ ih=>exact ih
 | over s1=>exact ⟨by simp only;omega,by simp only;omega,.inl rfl,fun h=>by cases h⟩
 | stop s1 hn=>exact ⟨by simp only;omega,by simp only;omega,.inr (.inr (.inl rfl)),fun h=>rfl⟩
 | goes s1 _ ih=>exact ⟨ih.1,by omega,ih.2.2⟩
 | XF s1=>exact ⟨by simp only;omega,by simp only;omega,.inr (.inl rfl),fun h=>by cases h⟩
 | host s1=>exact ⟨by simp only;omega,by simp only;omega,.inr (.inr (.inr rfl)),fun h=>by cases h⟩
noncomputable def O8 (ks:yp) (n:Int):yp:=ks.map fun k=>Xy.Sp k n
noncomputable def Ur (m:Y4) (S:MS) (n:Int):MS :=
 ⟨S.ins,addTop S.calls (O8 (YG m (S.host-1)).out n),0⟩
structure Wi where
 f:Int
 vals:yp
inductive Wv (m:Y4):MS->yp->Nat->MS->Ve->List Wi->Prop
 | host {S S1 T:MS} {Y0:yp} {n k:Nat} {o o2:Ve} {l:List Wi}:OM m S n S1 o->o.e=4->o.left=k->Wv m (Ur m S1 (Y0.headD 0)) Y0.tail k T o2 l->Wv m S Y0 n T o2 (⟨o.host,o.vals⟩::l)
 | fin {S T:MS} {Y0:yp} {n:Nat} {o:Ve}:OM m S n T o->o.e≠4->Wv m S Y0 n T o []
theorem Wv.RC {m:Y4} {S T1:MS} {Y0:yp} {n:Nat} {o1:Ve} {l1:List Wi} (h1:Wv m S Y0 n T1 o1 l1):∀{T2:MS} {o2:Ve} {l2:List Wi},Wv m S Y0 n T2 o2 l2->T1=T2/\o1=o2/\l1=l2:=by
 induction h1 with
 | host r1 e1 k1 _ ih =>
  intro T2 o2 l2 h2
  cases h2 with
  | host r2 e2 k2 p2 =>
   obtain ⟨rfl,rfl⟩:=r1.RC r2
   obtain rfl:_=_:=Int.ofNat_inj.1 (k1.symm.trans k2)
   obtain ⟨rfl,rfl,rfl⟩:=ih p2
   exact ⟨rfl,rfl,rfl⟩
  | fin r2 e2=>obtain ⟨rfl,rfl⟩:=r1.RC r2;exact absurd e1 e2
 | fin r1 e1 =>
  intro T2 o2 l2 h2
  cases h2 with
  | host r2 e2 k2 p2=>obtain ⟨rfl,rfl⟩:=r1.RC r2;exact absurd e2 e1
  | fin r2 e2=>obtain ⟨rfl,rfl⟩:=r1.RC r2;exact ⟨rfl,rfl,rfl⟩
theorem Wv.ahead {m:Y4} {S S1 T:MS} {Y0:yp} {a b:Nat} {o o2:Ve} {l:List Wi} (h:OM m S a S1 o) (he:o.e=3) (h2:Wv m S1 Y0 b T o2 l):Wv m S Y0 (a+b) T o2 l:=by
 cases h2 with
 | host r e k p=>exact .host (h.cat he r) e k p
 | fin r e=>exact .fin (h.cat he r) e
end Rn
namespace Rn
open Go YY Go.RowKit
open YV Zo X7 Y3 Valid
def kl (k:Int):yp:=if k=64 then [] else [k]
theorem afg (k:Int):((kl k).length:Int)=X9 k:=by grind [kl,X9]
section
variable {c:Ck} {o:List ZD} {p:ZD} {s u:yp} {E:X6} {L Es Ls:yp} {bd:List ZV} {k:Nat} {x:ZV} {t:Xz}
theorem Jr (S:SP c o p s u) {k:Int} (h0:k≠0) (hb:(Y5 c k).1.bad=0):∃u',SP (Y5 c k).1 o p s u'/\(Live p->u=u'++kl k):=by
 by_cases TS:k=64
 .grind [acW,kl]
 .obtain ⟨u',S1,_,h⟩:=S.pop TS hb
  refine ⟨u',S1,fun hl=>?_⟩
  obtain ⟨q1,_,q3⟩:=h hl
  rw [q1,q3 h0];unfold kl;rw [if_neg TS]
theorem MB (S:SP c o p s u) (h:(YE c).bad=0):SP (YE c) o p s []/\(Live p->u=kl p.kind):=by
 obtain ⟨h1,h2,h3⟩:=abD h
 rw [S.top] at h1 h2 h3
 obtain ⟨u',S1,hl⟩:=Jr S S.kind h1
 rw [h2]
 rw [S1.stk,S.base] at h3
 have:u'=[]:=lma (by grind)
 subst this
 exact ⟨S1,fun hh=>by rw [hl hh];rfl⟩
theorem SP.und {o1:List ZD} {q:ZD} (S:SP c (o1++[q]) p s u) (h:p.under=false):Live q:=by
 have hlv:=S.lv
 rw [h] at hlv
 generalize C3:o1++[q]=oo at hlv
 generalize hb:false=b at hlv
 cases hlv with
 | nil=>exact absurd C3 yO
 | snoc l1 l2 l3 l4 =>
  obtain ⟨rfl,h7⟩:=List.append_inj' C3 rfl
  obtain rfl:=lyb.1 h7
  exact Bool.or_eq_false_iff.1 hb.symm
theorem SP.ahU (S:SP c [] p s u):s=[]/\p.under=false:=by
 have hlv:=S.lv
 generalize C3:([]:List ZD)=oo at hlv
 generalize hb:p.under=b at hlv
 cases hlv with
 | nil=>exact ⟨rfl,rfl⟩
 | snoc l1 l2 l3 l4=>exact absurd C3 yO
structure Rz (E:X6) (L:yp) (bd:List ZV) (t:Xz) (k:Nat) (vals:yp):Prop where
 lt:k<bd.length
 ex:∃o p s u,SP (Zx E L bd (ZX t) k) o p s u/\p.under=false/\((p.dead=false/\KV (s++u) vals)\/(∃x,bd[k]?=some x/\x.op=11/\KV (s++kl p.kind) vals))
theorem Rz.It {vals:yp} (A:At E L bd (ZX t) k) (hc:Yn bd=0) (hk:k<bd.length) (h1:(Yx E L bd t k).1=false) (hv:KV (Yx E L bd t k).2 vals):Rz E L bd t k vals:=by
 obtain ⟨o,p,s,u,S⟩:=A.sx (A.ne hc hk)
 have hL:=(Xe S).1.1 h1
 refine ⟨hk,o,p,s,u,S,hL.2,.inl ⟨hL.1,?_⟩⟩
 have e:=(Xe S).2 h1
 unfold Yx at hv
 rw [e,S.stk] at hv;exact hv
theorem Rz.live {vals:yp} (h:Rz E L bd t k vals) (hx:bd[k]?=some x) (h11:x.op≠11):(Yx E L bd t k).1=false/\KV (Yx E L bd t k).2 vals/\∃o p s u,SP (Zx E L bd (ZX t) k) o p s u/\Live p/\KV (s++u) vals:=by
 obtain ⟨o,p,s,u,S,hu,h⟩:=h.ex
 rcases h with ⟨h1,h2⟩|⟨y,h1,h2,_⟩
 .have hL:Live p:=⟨h1,hu⟩
  have e:=(Xe S).1.2 hL
  have e2:=(Xe S).2 e
  refine ⟨e,?_,o,p,s,u,S,hL,h2⟩
  unfold Yx
  rw [e2,S.stk];exact h2
 .grind
theorem SP.keep (S:SP c o p s u) (K:HQ E L) (hx:WB x=0) (h:(YK E L c x).bad=0) (h2:x.op≠2) (h3:x.op≠3) (h4:x.op≠4) (h5:x.op≠5) (h11:x.op≠11):∃p' u',SP (YK E L c x) o p' s u'/\p'={ p with dead:=p'.dead }:=by
 have ok:∀{c':Ck} {u':yp},SP c' o p s u'->∃p' u',SP c' o p' s u'/\p'={ p with dead:=p'.dead }:=fun h=>⟨p,_,h,rfl⟩
 have zE:∀{c':Ck} {u':yp},SP c' o p s u'->∃p' u',SP (Uw c') o p' s u'/\p'={ p with dead:=p'.dead }:=fun h=>⟨_,_,h.die,rfl⟩
 have LN:YU (Yw x.op) x.a x.b:=(Ui hx).1
 unfold YK at *
 by_cases h1:x.op=1
 .grind
 .rw [if_neg h1] at h ⊢
  by_cases JB:x.op<=15
  .rw [if_pos JB] at h ⊢
   unfold Zz at *
   by_cases a0:x.op=0
   .grind
   .rw [if_neg a0,if_neg yQ,if_neg h4,if_neg h5,if_neg h11] at h ⊢
    by_cases a12:x.op=12
    .rw [if_pos a12] at h ⊢
     obtain ⟨u1,S1⟩:=S.T5 (a:=x.a) h
     exact zE S1
    .rw [if_neg a12] at h ⊢
     by_cases J7:x.op=13
     .rw [if_pos J7] at h ⊢
      obtain ⟨u1,S1⟩:=S.VK h
      exact ok S1
     .rw [if_neg J7] at h ⊢
      by_cases DR:x.op=15
      .rw [if_pos DR] at h ⊢
       obtain ⟨u1,S1⟩:=S.Ra (k:=(c.Zj.getD 0 pz).kind) h
       exact zE S1
      .rw [if_neg DR] at h ⊢
       by_cases Jy:x.op=14
       .rw [if_pos Jy] at h ⊢
        obtain ⟨u1,S1⟩:=S.XG (a:=x.a) (l:=x.to) h
        exact zE S1
       .grind
  .rw [if_neg JB] at h ⊢
   by_cases I7:x.op<=17
   .rw [if_pos I7] at h ⊢
    obtain ⟨u',S1⟩:=S.Wh K h (LJ hx yQ)
    exact ok S1
   .rw [if_neg I7] at h ⊢
    by_cases LL:x.op=26
    .rw [if_pos LL] at h ⊢
     obtain ⟨u1,S1⟩:=S.Ra (k:=0) h
     exact ok S1
    .rw [if_neg LL] at h ⊢
     by_cases Ku:x.op=27
     .rw [if_pos Ku] at h ⊢
      obtain ⟨u1,S1⟩:=S.Xa h
      exact ok S1
     .rw [if_neg Ku] at h ⊢
      by_cases L5:x.op<=36
      .rw [if_pos L5] at h ⊢
       by_cases Iw:32<=x.op
       .obtain ⟨u1,S1⟩:=S.XW K h (LJ hx yQ)
        exact ok S1
       .exfalso
        have hb:Yw x.op≠0:=by
         intro hz
         unfold WB at hx
         rw [if_pos hz] at hx;cases hx
        refine hb ?_
        have hw:wid x.op=0:=by grind [wid]
        have hnm:(XS x.op).2.2=false:=by grind [XS]
        unfold Yw
        rw [hw,hnm]
        rw [if_neg yQ,if_neg yQ,if_neg yQ,if_neg yQ,if_neg (by decide),if_neg yQ,if_neg yQ,if_neg yQ,if_neg yQ,if_neg (by decide)]
      .rw [if_neg L5] at h ⊢
       obtain ⟨u1,S1,_⟩:=S.WL h
       exact ok S1
structure Pf (E:X6) (L:yp) (bd:List ZV) (t:Xz) (k:Nat):Prop where
 all:∀(j:Nat) (p:ZD) (i:Nat),(Zx E L bd (ZX t) k).Zj[j]?=some p->(Zr bd k).op[j]?=some (i:Int) ->
  (Zx E L bd (ZX t) k).stack.take p.base=(Zx E L bd (ZX t) i).stack.take p.base/\(p.under=false↔(Yx E L bd t i).1=false)
theorem Pf.zero:Pf E L bd t 0:=⟨fun j p i h1 h2=>by
 have h2:([-1]:yp)[j]?=some (i:Int):=h2
 cases j with
 | zero=>have:=yq6 h2;omega
 | succ j=>simp at h2⟩
theorem acZ {α:Type} {a b:List α} {n k:Nat} (h:a.take n=b.take n) (hk:k<=n):a.take k=b.take k:=by
 have:=yq5 (List.take k) h
 rwa [lUb,lUb,lnb hk] at this
theorem Pf.step (h:Pf E L bd t k) (A:At E L bd (ZX t) k) (hc:Yn bd=0) (hr:(Vu E L bd (ZX t)).bad=0) (K:HQ E L) (hx:bd[k]?=some x):Pf E L bd t (k+1):=by
 have hlt:=(lba.1 hx).1
 obtain ⟨h1,h2,A2⟩:=A.step hc hr K hx
 obtain ⟨_,hS,_⟩:=Y8 hc
 have Ph:=(hS k x hlt hx).1
 have hn:=(hS k x hlt hx).2
 have ho:=W7 hc hlt
 obtain ⟨o,p,s,u,S⟩:=A.sx (A.ne hc hlt)
 have hB:=Yb hx
 have hlen:=A.len
 have Mj:Zn (Zr bd k) x.op k=((Zr bd (k+1)),(Zn (Zr bd k) x.op k).2.1,0):=by grind
 have hst:Zr bd k=⟨(Zr bd k).op,(Zr bd k).last,false⟩:=by
  cases hq:Zr bd k with
  | mk a b c=>rw [hq] at ho;rw [show c=false from ho]
 have hall:=h.all
 have QA:∀q∈(Zx E L bd (ZX t) k).Zj,q.base<=s.length:=fun q hq=>(S.below q hq).1
 have Kq:=S.stk
 have Dr:=S.Zj
 generalize hop:(Zr bd k).op=op at *
 generalize hla:(Zr bd k).last=last at *
 rw [hst] at Mj
 have old:∀{n:Nat},(Zx E L bd (ZX t) (k+1)).stack.take n=(Zx E L bd (ZX t) k).stack.take n->∀{j:Nat} {q q0:ZD} {i:Nat},(Zx E L bd (ZX t) k).Zj[j]?=some q0->q={ q0 with dead:=q.dead }->op[j]?=some (i:Int)->q0.base<=n ->
   (Zx E L bd (ZX t) (k+1)).stack.take q.base=(Zx E L bd (ZX t) i).stack.take q.base/\(q.under=false↔(Yx E L bd t i).1=false):=by
  intro n hn2 j q q0 i hj he hi hle
  obtain ⟨a1,a2⟩:=hall j q0 i hj hi
  rw [he]
  exact ⟨(acZ hn2 hle).trans a1,a2⟩
 rcases Ym Mj with ⟨Qq,e⟩|⟨Qq,h4,e,_⟩|⟨Qq,e,_⟩|⟨Qq,e⟩
 ·
  have alV:∃(s2:yp),(Zx E L bd (ZX t) (k+1)).Zj=(Zx E L bd (ZX t) k).Zj++[⟨x.op,x.a,s2.length,false,p.dead || p.under⟩]/\(Zx E L bd (ZX t) (k+1)).stack=s2/\s2.take s2.length=(Zx E L bd (ZX t) k).stack.take s2.length/\s.length<=s2.length:=by
   rw [h2]
   have hun:∀c':Ck,c'.Zj=(Zx E L bd (ZX t) k).Zj->TB c'=(p.dead || p.under):=fun c' Cv=>by
    have ht:Ww c'=p:=QG (Cv.trans S.Zj)
    unfold TB;rw [if_neg (by grind),ht]
   unfold YK at h1 ⊢
   rw [if_neg yQ,if_pos yQ] at h1 ⊢
   unfold Zz at h1 ⊢
   rw [if_neg yQ] at h1 ⊢
   by_cases h23:x.op=2\/x.op=3
   .rw [if_pos h23]
    refine ⟨(Zx E L bd (ZX t) k).stack,by show _++[_]=_;rw [hun _ rfl],rfl,rfl,by rw [Kq,lca];omega⟩
   .rw [if_neg h23,if_pos yQ] at h1 ⊢
    obtain ⟨u1,S1,OO,_⟩:=S.pop (k:=127) (by decide) h1
    refine ⟨s++u1,?_,S1.stk,?_,by rw [lca];omega⟩
    .show _++[_]=_
     rw [XR,hun _ (XR _ _),S1.stk]
    .grind
  obtain ⟨s2,e2,e3,e4,e5⟩:=alV
  refine ⟨fun j q i hj hi=>?_⟩
  rw [e] at hi
  rw [e2,lKa] at hj
  split at hj
  .rename_i hjl
   have hi:op[j]?=some (i:Int):=by grind
   refine old (n:=s2.length) (by grind) hj rfl hi ?_
   have:=QA q (lda hj)
   omega
  .rename_i hjl
   have hj0:j-(Zx E L bd (ZX t) k).Zj.length=0:=by grind
   rw [hj0] at hj
   obtain rfl:=yq6 hj
   have hik:(i:Int)=k:=by grind
   obtain rfl:i=k:=by omega
   refine ⟨by rw [e3];exact e4,?_⟩
   show (p.dead || p.under)=false↔_
   rw [Bool.or_eq_false_iff]
   exact (Xe S).1.symm
 ·
  have e2:SP (Zx E L bd (ZX t) (k+1)) o ⟨5,p.kind,p.base,false,p.under⟩ s []:=by
   rw [h2]
   unfold YK at h1 ⊢
   rw [if_neg yQ,if_pos yQ] at h1 ⊢
   unfold Zz at h1 ⊢
   rw [if_neg yQ,if_neg yQ,if_neg yQ,if_pos Qq] at h1 ⊢
   exact (S.Qt h1).1
  have hn2:(Zx E L bd (ZX t) (k+1)).stack.take s.length=(Zx E L bd (ZX t) k).stack.take s.length:=by rw [e2.stk,Kq,lBb,lBb]
  refine ⟨fun j q i hj hi=>?_⟩
  have hi:op[j]?=some (i:Int):=by grind
  rw [e2.Zj,lKa] at hj
  split at hj
  .rename_i hjl
   have hj2:(Zx E L bd (ZX t) k).Zj[j]?=some q:=by grind
   exact old hn2 hj2 rfl hi (QA q (lda hj2))
  .rename_i hjl
   have hj0:j-o.length=0:=by grind
   rw [hj0] at hj
   obtain rfl:=yq6 hj
   obtain rfl:j=o.length:=by omega
   have hj2:(Zx E L bd (ZX t) k).Zj[o.length]?=some p:=by grind
   obtain ⟨b1,b2⟩:=hall _ _ i hj2 hi
   exact ⟨(acZ hn2 (QA p (lda hj2))).trans b1,b2⟩
 ·
  have h3:(SQ (Zx E L bd (ZX t) k)).bad=0/\YK E L (Zx E L bd (ZX t) k) x=SQ (Zx E L bd (ZX t) k):=by
   unfold YK at h1 ⊢
   rw [if_neg yQ,if_pos yQ] at h1 ⊢
   unfold Zz at h1 ⊢
   rw [if_neg yQ,if_neg yQ,if_neg yQ,if_neg yQ,if_pos Qq] at h1 ⊢
   exact ⟨h1,rfl⟩
  rw [h3.2] at h2
  obtain ⟨_,_,q1,q2⟩:=S.end_ h3.1
  refine ⟨fun j q i hj hi=>?_⟩
  have hj:o[j]?=some q:=by grind
  rw [e] at hi
  obtain ⟨_,hi⟩:=MJ hi
  rcases ltb o with rfl|⟨o1,z,rfl⟩
  .grind
  .rw [lMb] at *
   obtain ⟨s1,u1,rfl,S2⟩:=q2 o1 z rfl
   have hn2:(Zx E L bd (ZX t) (k+1)).stack.take s1.length=(Zx E L bd (ZX t) k).stack.take s1.length:=by rw [h2,S2.stk,Kq,lBb,lja,lBb]
   have hj2:(Zx E L bd (ZX t) k).Zj[j]?=some q:=by grind
   exact old hn2 hj2 rfl hi<|(S2.below q (by grind)).1
 .obtain ⟨p',u',S1,hp⟩:=SP.keep S K Ph h1 Qq.1 Qq.2.1 Qq.2.2.1 Qq.2.2.2.1 Qq.2.2.2.2
  rw [<-h2] at S1
  have hn2:(Zx E L bd (ZX t) (k+1)).stack.take s.length=(Zx E L bd (ZX t) k).stack.take s.length:=by rw [S1.stk,Kq,lBb,lBb]
  refine ⟨fun j q i hj hi=>?_⟩
  have hi:op[j]?=some (i:Int):=by grind
  rw [S1.Zj,lKa] at hj
  split at hj
  .rename_i hjl
   have hj2:(Zx E L bd (ZX t) k).Zj[j]?=some q:=by grind
   exact old hn2 hj2 rfl hi (QA q (lda hj2))
  .rename_i hjl
   have hj0:j-o.length=0:=by grind
   rw [hj0] at hj
   obtain rfl:=yq6 hj
   obtain rfl:j=o.length:=by omega
   have hj2:(Zx E L bd (ZX t) k).Zj[o.length]?=some p:=by grind
   exact old hn2 hj2 hp hi (QA p (lda hj2))
theorem Pf.every (S:U2 E L bd t Es Ls):∀k,k<=bd.length->Pf E L bd t k
 | 0,_=>.zero
 | k+1,hk=>(Pf.every S k yQ).step (S.at_ yQ) S.hc S.hr S.K (laa hk)
end
end Rn
namespace Rn
open Go YY Go.RowKit
open YV Zo X7 Y3 Valid
section
variable {c:Ck} {o:List ZD} {p:ZD} {s u:yp} {E:X6} {L Es Ls Es' Ls':yp} {bd:List ZV} {k:Nat} {x:ZV} {t:Xz}
theorem Kp {k:Nat} (hc:Yn bd=0) (hk:k<bd.length):Zr bd k=⟨(Zr bd k).op,(Zr bd k).last,false⟩:=by
 have ho:=W7 hc hk
 cases hq:Zr bd k with
 | mk a b c=>rw [hq] at ho;rw [show c=false from ho]
theorem UN (hc:Yn bd=0) (hx:bd[k]?=some x):∃is,Zn ⟨(Zr bd k).op,(Zr bd k).last,false⟩ x.op k=(Zr bd (k+1),is,0):=by
 have hlt:=(lba.1 hx).1
 obtain ⟨_,hS,_⟩:=Y8 hc
 have hn:=(hS k x hlt hx).2
 refine ⟨(Zn (Zr bd k) x.op k).2.1,?_⟩
 rw [<-Kp hc hlt,Yb hx,<-hn]
theorem MA (hc:Yn bd=0):∀k,k<=bd.length->∃Es Ls,MK bd k (Zr bd k) Es Ls
 | 0,_=>⟨List.replicate bd.length 0,List.replicate bd.length 0,MK.zero lfa lfa⟩
 | k+1,hk=>by
  obtain ⟨Es,Ls,h⟩:=MA hc k yQ
  have hx:bd[k]?=some bd[k]:=laa yQ
  obtain ⟨is,hn⟩:=UN hc hx
  rw [Kp hc (show k<bd.length by omega)] at h
  by_cases h5:bd[k].op=5
  .exact ⟨_,_,(h.TN hx hn h5).1⟩
  .by_cases h11:bd[k].op=11
   .rcases h.Sv hx hn h11 with ⟨_,h⟩|⟨_,_,_,_,_,h⟩|⟨_,_,_,_,_,_,h⟩
    .grind
    .grind
    .grind
   .exact ⟨_,_,h.MY hx hn h5 h11⟩
theorem snd_mk (hc:Yn bd=0) (hr:(Vu E L bd (ZX t)).bad=0) (K:HQ E L) (tk:∀k∈t.out,Kd k) (tl:t.out.length<=1):∃Es Ls,U2 E L bd t Es Ls:=by
 obtain ⟨Es,Ls,h⟩:=MA hc bd.length (loa _)
 refine ⟨Es,Ls,hc,hr,K,tk,tl,(Zr bd bd.length).op,(Zr bd bd.length).last,?_⟩
 have ho:=(Y8 hc).2.2
 have:Zr bd bd.length=⟨(Zr bd bd.length).op,(Zr bd bd.length).last,true⟩:=by
  cases hq:Zr bd bd.length with
  | mk a b c=>rw [hq] at ho;rw [show c=true from ho]
 rw [<-this];exact h
theorem Ir (hc:Yn bd=0) (hk:k<=bd.length) {m:Int} (hm:m∈(Zr bd k).op):m=-1\/∃i:Nat,m=i/\i<k/\Zj bd i:=by
 obtain ⟨_,_,h⟩:=MA hc k hk
 exact h.mi.mem m hm
theorem Ko (hc:Yn bd=0) (hk:k<=bd.length):(Zr bd k).op.Pairwise (·<·):=by
 obtain ⟨_,_,h⟩:=MA hc k hk
 exact h.mi.inc
theorem Mz (hc:Yn bd=0) (hk:k<bd.length):(Zr bd k).op[0]?=some (-1)/\(Zr bd k).last[0]?=some 2:=by
 obtain ⟨_,_,h⟩:=MA hc k yQ
 exact h.mi.root (W7 hc hk)
theorem gone (hc:Yn bd=0) {i:Nat}:∀(d k:Nat),k+d<=bd.length->i<k->(i:Int)∉(Zr bd k).op->(i:Int)∉(Zr bd (k+d)).op
 | 0,k,_,_,h=>h
 | d+1,k,hk,hi,h=>by
  have ih:=gone hc d k yQ hi h
  have hx:bd[k+d]?=some bd[k+d]:=laa yQ
  obtain ⟨is,hn⟩:=UN hc hx
  rw [<-lRb]
  rcases Ym hn with ⟨_,e⟩|⟨_,_,e,_⟩|⟨_,e,_⟩|⟨_,e⟩
  .grind
  .grind
  .grind
  .grind
theorem Km (hc:Yn bd=0) (hk:k<bd.length):tp (Zr bd k)∈(Zr bd k).op:=by
 have:=(XM bd k).pos (W7 hc hk)
 unfold tp
 rw [lka,laa yQ]
 exact lob _
theorem O7 (hc:Yn bd=0) (hx:bd[k]?=some x) (h11:x.op=11):tp (Zr bd k)∉(Zr bd (k+1)).op:=by
 have hlt:=(lba.1 hx).1
 obtain ⟨is,hn⟩:=UN hc hx
 have hp:=(XM bd k).pos (W7 hc hlt)
 rcases Ym hn with ⟨h,_⟩|⟨h,_⟩|⟨_,e,_⟩|⟨h,_⟩
 .omega
 .omega
 .rw [e]
  intro hm
  obtain ⟨j,hj,e2⟩:=lzb.1 hm
  have hj2:((Zr bd k).op.take ((Zr bd k).op.length-1))[j]?=some (tp (Zr bd k)):=by grind
  obtain ⟨hjl,hj3⟩:=MJ hj2
  have hl:(Zr bd k).op[(Zr bd k).op.length-1]?=some (tp (Zr bd k)):=by grind [tp]
  have:=Qg (Ko hc (lab0 hlt)) hj3 hl
  omega
 .omega
theorem abN (hc:Yn bd=0) {i e1 e2:Nat} {y1 y2:ZV} (h1:bd[e1]?=some y1) (h2:bd[e2]?=some y2) (o1:y1.op=11) (o2:y2.op=11) (t1:tp (Zr bd e1)=i) (t2:tp (Zr bd e2)=i) (i1:i<e1) (i2:i<e2):e1=e2:=by
 have key:∀{a b:Nat} {x y:ZV},bd[a]?=some x->bd[b]?=some y->x.op=11->tp (Zr bd a)=i->tp (Zr bd b)=i->i<a->a<b->False:=by
  intro a b x y hx hy aoN ta tb ia hab
  have hb:=(lba.1 hy).1
  have g:=O7 hc hx aoN
  rw [ta] at g
  have g2:=gone hc (b-(a+1)) (a+1) yQ yQ g
  rw [show a+1+(b-(a+1))=b by omega] at g2
  exact g2 (tb ▸ Km hc hb)
 rcases Nat.lt_trichotomy e1 e2 with h|h|h
 .grind
 .exact h
 .grind
theorem N9 (hc:Yn bd=0) {i:Nat}:∀(d k j:Nat),k+d<=bd.length->(Zr bd k).op[j]?=some (i:Int)->(Zr bd k).last[j]?=some 5->(Zr bd (k+d)).op[j]?=some (i:Int)->(Zr bd (k+d)).last[j]?=some 5
 | 0,k,j,_,_,h,_=>h
 | d+1,k,j,hk,hi,h,h2=>by
  have hx:bd[k+d]?=some bd[k+d]:=laa yQ
  obtain ⟨is,hn⟩:=UN hc hx
  have hik:i<k:=by
   rcases Ir hc (show k<=bd.length by omega) (lda hi) with h|⟨i',h,h3,_⟩ <;> omega
  rw [<-lRb] at h2 ⊢
  have hlen:=(XM bd (k+d)).len
  rcases Ym hn with ⟨_,e⟩|⟨_,h4,e,_⟩|⟨_,e,_⟩|⟨_,e⟩
  .rw [e] at h2 ⊢
   have h2:((Zr bd (k+d)).op++[((k+d:Nat):Int)])[j]?=some (i:Int):=h2
   rw [lKa] at h2
   split at h2
   .rename_i hjl
    have ih:=N9 hc d k j yQ hi h h2
    show (_++_)[j]?=_
    rw [lSa yQ];exact ih
   .grind
  .rw [e] at h2 ⊢
   have ih:=N9 hc d k j yQ hi h h2
   show (List.set _ _ _)[j]?=_
   rw [lNa]
   split
   .grind
   .omega
  .rw [e] at h2 ⊢
   obtain ⟨hjl,h3⟩:=MJ h2
   exact MH yQ (N9 hc d k j yQ hi h h3)
  .rw [e] at h2 ⊢
   exact N9 hc d k j yQ hi h h2
theorem abO (hc:Yn bd=0) {i e1 e2:Nat} {y1 y2:ZV} (h1:bd[e1]?=some y1) (h2:bd[e2]?=some y2) (o1:y1.op=5) (o2:y2.op=5) (t1:tp (Zr bd e1)=i) (t2:tp (Zr bd e2)=i) (i1:i<e1) (i2:i<e2):e1=e2:=by
 have key:∀{a b:Nat} {x y:ZV},bd[a]?=some x->bd[b]?=some y->x.op=5->y.op=5->tp (Zr bd a)=i->tp (Zr bd b)=i->i<a->a<b->False:=by
  intro a b x y hx hy AN zD ta tb ia hab
  have ha:=(lba.1 hx).1
  have hb:=(lba.1 hy).1
  obtain ⟨is,hn⟩:=UN hc hx
  obtain ⟨is2,hn2⟩:=UN hc hy
  have pa:=(XM bd a).pos (W7 hc ha)
  have pb:=(XM bd b).pos (W7 hc hb)
  have hla:=(XM bd a).len
  have top:∀{q:Nat},0<(Zr bd q).op.length->(Zr bd q).op[(Zr bd q).op.length-1]?=some (tp (Zr bd q)):=fun {q} hq=>by grind [tp]
  have h4:(Zr bd b).last.getD ((Zr bd b).op.length-1) 0=4:=by
   rcases Ym hn2 with ⟨h,_⟩|⟨_,h4,_⟩|⟨h,_⟩|⟨h,_⟩
   .omega
   .omega
   .omega
   .omega
  have hA:(Zr bd (a+1)).op[(Zr bd a).op.length-1]?=some (i:Int)/\(Zr bd (a+1)).last[(Zr bd a).op.length-1]?=some 5:=by
   rcases Ym hn with ⟨h,_⟩|⟨_,_,e,_⟩|⟨h,_⟩|⟨h,_⟩
   .omega
   .grind
   .omega
   .omega
  have EB:=top pb
  rw [tb] at EB
  have stay:∀d,a+1+d<=b->(Zr bd (a+1+d)).op[(Zr bd a).op.length-1]?=some (i:Int):=by
   intro d
   induction d with
   | zero=>intro _;exact hA.1
   | succ d ih =>
    intro hd
    have ih:=ih yQ
    have hz:bd[a+1+d]?=some bd[a+1+d]:=laa yQ
    obtain ⟨is3,J2⟩:=UN hc hz
    rw [<-lRb]
    rcases Ym J2 with ⟨_,e⟩|⟨_,_,e,_⟩|⟨h11,e,_⟩|⟨_,e⟩
    .grind
    .grind
    .rw [e]
     have hl:=(lba.1 ih).1
     by_cases hj:(Zr bd a).op.length-1<(Zr bd (a+1+d)).op.length-1
     .grind
     .exfalso
      have:(Zr bd a).op.length-1=(Zr bd (a+1+d)).op.length-1:=by omega
      rw [this,top yQ] at ih
      have g:=O7 hc hz h11
      rw [yq6 ih] at g
      have g2:=gone hc (b-(a+1+d+1)) (a+1+d+1) yQ yQ g
      rw [show a+1+d+1+(b-(a+1+d+1))=b by omega] at g2
      exact g2 (tb ▸ Km hc hb)
    .grind
  have hst:=stay (b-(a+1)) yQ
  rw [show a+1+(b-(a+1))=b by omega] at hst
  have CX:=N9 hc (b-(a+1)) (a+1) _ yQ hA.1 hA.2 (by grind)
  rw [show a+1+(b-(a+1))=b by omega] at CX
  have zC:=Qg (Ko hc (lab0 hb)) hst EB
  rw [zC] at CX
  rw [lka,CX] at h4
  cases h4
 rcases Nat.lt_trichotomy e1 e2 with h|h|h
 .grind
 .exact h
 .grind
theorem Nx {n:Nat} {P:Nat->Bool} {e:Nat} (he:e<n) (hP:P e=true) (hu:∀e',e'<n->P e'=true->e'=e):(List.range n).find? P=some e:=by
 cases h:(List.range n).find? P with
 | none =>
  have:=List.find?_eq_none.1 h e (List.mem_range.2 he)
  exact absurd hP this
 | some e' =>
  rw [hu e' (List.mem_range.1 (List.mem_of_find?_eq_some h)) (List.find?_some h)]
theorem agX {n:Nat} {P:Nat->Bool} (hu:∀e',e'<n->P e'=true->False):(List.range n).find? P=none :=
 List.find?_eq_none.2 fun e' he hp=>hu e' (List.mem_range.1 he) hp
theorem Nw {i:Nat} (hi:i<bd.length):gd (Mh bd) i=Jt bd i/\gd (J3 bd) i=Js bd i:=by grind [gd,Mh,J3]
theorem HP (S:U2 E L bd t Es Ls) {i:Nat} (hx:bd[i]?=some x) (ho:x.op=2\/x.op=3\/x.op=4):gd Es i=gd (Mh bd) i/\gd Ls i=gd (J3 bd) i:=by
 have hlt:=(lba.1 hx).1
 obtain ⟨e,y,a1,a2,a3,a4,a5,a6⟩:=S.closed hx ho
 have hel:=(lba.1 a3).1
 rw [(Nw hlt).1,(Nw hlt).2,a1]
 have hend:Jt bd i=e:=by
  unfold Jt
  rw [Nx (e:=e) hel ?_ ?_]
  .grind
  .intro e' he' hp
   simp only [yq4,decide_eq_true_eq] at hp
   obtain ⟨⟨p1,p2⟩,p3⟩:=hp
   have hx':bd[e']?=some bd[e']:=laa he'
   rw [VZ hx'] at p2
   exact abN S.hc hx' a3 p2 a4 p3 a5 p1 a2
 refine ⟨hend.symm,?_⟩
 rcases a6 with ⟨b1,b2⟩|⟨h,y2,b1,b2,b3,b4,b5,b6⟩
 .rw [b1]
  unfold Js
  rw [agX]
  intro e' he' hp
  simp only [yq4,decide_eq_true_eq] at hp
  obtain ⟨⟨p1,p2⟩,p3⟩:=hp
  have hx':bd[e']?=some bd[e']:=laa he'
  rw [VZ hx'] at p2
  obtain ⟨op,last,M⟩:=S.mtc
  have hg:gd Ls e'=i:=by rw [M.h e' he' (by grind [Sw])];exact p3
  have hle:e'<e:=by
   rcases Nat.lt_trichotomy e' e with h|h|h
   .exact h
   .grind
   .exfalso
    have g:=O7 S.hc a3 a4
    rw [a5] at g
    have g2:=gone S.hc (e'-(e+1)) (e+1) yQ yQ g
    rw [show e+1+(e'-(e+1))=e' by omega] at g2
    exact g2 (p3 ▸ Km S.hc he')
  refine b2 ?_
  obtain ⟨is,hn⟩:=UN S.hc hx'
  have pa:=(XM bd e').pos (W7 S.hc he')
  have pe:=(XM bd e).pos (W7 S.hc hel)
  have hla:=(XM bd e').len
  have top:∀{q:Nat},0<(Zr bd q).op.length->(Zr bd q).op[(Zr bd q).op.length-1]?=some (tp (Zr bd q)):=fun {q} hq=>by grind [tp]
  have hA:(Zr bd (e'+1)).op[(Zr bd e').op.length-1]?=some (i:Int)/\(Zr bd (e'+1)).last[(Zr bd e').op.length-1]?=some 5:=by
   rcases Ym hn with ⟨h,_⟩|⟨_,_,e0,_⟩|⟨h,_⟩|⟨h,_⟩
   .omega
   .grind
   .omega
   .omega
  have stay:∀d,e'+1+d<=e->(Zr bd (e'+1+d)).op[(Zr bd e').op.length-1]?=some (i:Int):=by
   intro d
   induction d with
   | zero=>intro _;exact hA.1
   | succ d ih =>
    intro hd
    have ih:=ih yQ
    have hz:bd[e'+1+d]?=some bd[e'+1+d]:=laa yQ
    obtain ⟨is3,J2⟩:=UN S.hc hz
    rw [<-lRb]
    rcases Ym J2 with ⟨_,e0⟩|⟨_,_,e0,_⟩|⟨h11,e0,_⟩|⟨_,e0⟩
    .grind
    .grind
    .rw [e0]
     have hl:=(lba.1 ih).1
     by_cases hj:(Zr bd e').op.length-1<(Zr bd (e'+1+d)).op.length-1
     .grind
     .exfalso
      have:(Zr bd e').op.length-1=(Zr bd (e'+1+d)).op.length-1:=by omega
      rw [this,top yQ] at ih
      have g:=O7 S.hc hz h11
      rw [yq6 ih] at g
      have g2:=gone S.hc (e-(e'+1+d+1)) (e'+1+d+1) yQ yQ g
      rw [show e'+1+d+1+(e-(e'+1+d+1))=e by omega] at g2
      exact g2 (a5 ▸ Km S.hc hel)
    .grind
  have hst:=stay (e-(e'+1)) yQ
  rw [show e'+1+(e-(e'+1))=e by omega] at hst
  have CX:=N9 S.hc (e-(e'+1)) (e'+1) _ yQ hA.1 hA.2 (by grind)
  rw [show e'+1+(e-(e'+1))=e by omega] at CX
  have EB:=top pe
  rw [a5] at EB
  have zC:=Qg (Ko S.hc (lab0 hel)) hst EB
  rw [zC] at CX
  unfold Zo.tl
  rw [lka,CX];rfl
 .rw [b1]
  unfold Js
  have hhl:=(lba.1 b4).1
  rw [Nx (e:=h) hhl ?_ ?_]
  .grind
  .intro e' he' hp
   simp only [yq4,decide_eq_true_eq] at hp
   obtain ⟨⟨p1,p2⟩,p3⟩:=hp
   have hx':bd[e']?=some bd[e']:=laa he'
   rw [VZ hx'] at p2
   exact abO S.hc hx' b4 p2 b5 p3 b6 p1 b2
theorem ajc (S:U2 E L bd t Es Ls) {sh:Nat->Bool × yp} {K0 m:Int} (hm:m=-1\/∃i:Nat,m=i/\i<bd.length/\Zj bd i):jmp Es bd sh K0 m=jmp (Mh bd) bd sh K0 m:=by
 unfold jmp
 rcases hm with rfl|⟨i,rfl,hi,ho⟩
 .simp
 .have hn:¬(i:Int)<0:=by omega
  rw [if_neg hn,if_neg hn,lga]
  have hx:bd[i]?=some bd[i]:=laa hi
  rw [VZ hx]
  unfold Zj at ho
  rw [Sw hx] at ho
  rw [(HP S hx ho).1]
theorem afh (S:U2 E L bd t Es Ls) {sh:Nat->Bool × yp} {K0:Int} (hk:k<=bd.length):Vs Es bd sh K0 k=Vs (Mh bd) bd sh K0 k:=by
 unfold Vs
 refine List.map_congr_left fun m hm=>ajc S ?_
 rcases Ir S.hc hk hm with h|⟨i,h,h2,h3⟩
 .omega
 .grind
theorem ac0 (S:U2 E L bd t Es Ls) {sh:Nat->Bool × yp} {K0:Int} (hx:bd[k]?=some x):Jx Es Ls bd sh K0 k x=Jx (Mh bd) (J3 bd) bd sh K0 k x:=by
 have hlt:=(lba.1 hx).1
 unfold Jx
 rw [afh S (lab0 hlt)]
 unfold XU
 by_cases h4:x.op=4
 .rw [(HP S hx (.inr (.inr h4))).1,(HP S hx (.inr (.inr h4))).2]
 .grind
end
end Rn
namespace Rn
open Go YY Go.RowKit
open YV Zo X7 Y3 Valid
section
variable {c:Ck} {o:List ZD} {p q:ZD} {s u:yp} {E:X6} {L Es Ls Es' Ls' vals:yp} {bd:List ZV} {k:Nat} {x:ZV} {t:Xz} {w:Ye}
structure EA (E:X6) (L:yp) (bd:List ZV) (t:Xz) (k:Nat) (q:ZD) (w:Ye):Prop where
 zB:0<=w.at_
 h:w.height=q.base
 kp:w.keep=(kl (Zc q)).length
 ty:∀x y,KV ((Zx E L bd (ZX t) k).stack.take q.base) x->KV (kl (Zc q)) y->Rz E L bd t w.at_.toNat (x++y)
theorem SL {c:Ck} (S:SP c o p s u):c.Zj[o.length]?=some p:=by
 rw [S.Zj,lvb (loa _),Nat.sub_self];rfl
theorem U2.goto (S:U2 E L bd t Es Ls) (hk:k<bd.length) {j:Nat} (hj:(Zx E L bd (ZX t) k).Zj[j]?=some q) (hu:q.under=false) :
  ∃m,(Zr bd k).op[j]?=some m/\EA E L bd t k q (jmp Es bd (Yx E L bd t) t.out.length m):=by
 obtain ⟨m,z,q1,q2,q3⟩:=(S.lk (k:=k) yQ).all j q hj
 refine ⟨m,q1,?_⟩
 rcases Ir S.hc (lab0 hk) (lda q1) with rfl|⟨i,rfl,hik,hio⟩
 .obtain ⟨r1,r2⟩:=q3.root rfl
  have hj0:j=0:=Qg (Ko S.hc (lab0 hk)) q1 (Mz S.hc hk).1
  subst hj0
  have hop:q.op=2:=by
   rw [(Mz S.hc hk).2] at q2
   rw [<-q3.op];exact (yq6 q2).symm
  have hal:Zc q=t.out.getD 0 64:=by grind [Zc]
  have zA:jmp Es bd (Yx E L bd t) t.out.length (-1)=⟨bd.length-1,t.out.length,0⟩:=if_pos (by decide)
  rw [zA]
  obtain ⟨n,hn⟩:∃n,bd.length=n+1:=⟨bd.length-1,by omega⟩
  have hx:bd[n]?=some bd[n]:=laa yQ
  obtain ⟨is,Mj⟩:=UN S.hc hx
  have RH:=(Y8 S.hc).2.2
  rw [hn] at RH
  have h11:bd[n].op=11/\(Zr bd n).op.length-1=0:=by
   rcases Ym Mj with ⟨_,e⟩|⟨_,_,e,_⟩|⟨h,e,_⟩|⟨_,e⟩
   .grind
   .grind
   .grind
   .grind
  have A:=S.at_ (k:=n) yQ
  obtain ⟨o',p',s',u',P⟩:=A.sx (A.ne S.hc yQ)
  have hl:=A.len
  have hp:=(XM bd n).pos (W7 S.hc yQ)
  rw [P.Zj,lca,lpa] at hl
  have ho':o'=[]:=lma yQ
  subst ho'
  obtain ⟨hs',G2⟩:=SP.ahU P
  subst hs'
  have RJ:p'.kind=t.out.getD 0 64:=by
   obtain ⟨m',z',r3,r4,r5⟩:=(S.lk (k:=n) yQ).all 0 p' (SL P)
   rw [(Mz S.hc (show n<bd.length by omega)).1] at r3
   obtain rfl:=yq6 r3
   exact (r5.root rfl).1
  refine ⟨by simp only;omega,by simp only;omega,?_,fun x y hx1 hy1=>?_⟩
  .rw [hal,afg,S.k0]
  .have e:((bd.length:Int)-1).toNat=n:=by omega
   simp only [e]
   rw [r2,List.take_zero] at hx1
   rw [hx1.ahT]
   exact ⟨by omega,[],p',[],u',P,G2,.inr ⟨_,hx,h11.1,by rw [RJ,<-hal];exact hy1⟩⟩
 .obtain ⟨a1,x,a2,a3,a4,a5,a6⟩:=q3.at_ i rfl
  obtain ⟨b1,b2⟩:=a6 hu
  have hil:i<bd.length:=by omega
  obtain ⟨c1,c2⟩:=(Pf.every S k (lab0 hk)).all j q i hj q1
  have Ai:=S.at_ (k:=i) yQ
  obtain ⟨oi,pi,si,ui,Pi⟩:=Ai.sx (Ai.ne S.hc hil)
  have hsi:(Yx E L bd t i).2=(Zx E L bd (ZX t) i).stack:=(Xe Pi).2 b1
  unfold hgt at b2
  have zA:jmp Es bd (Yx E L bd t) t.out.length i=if x.op=3 then ⟨i,0,(Yx E L bd t i).2.length⟩ else ⟨gd Es i,X9 x.a,(Yx E L bd t i).2.length-(if x.op=4 then 1 else 0)⟩:=by grind [jmp]
  rw [zA]
  by_cases h3:x.op=3
  .rw [if_pos h3]
   rw [if_neg yQ] at b2
   have Gx:q.op=3:=by omega
   have hal:kl (Zc q)=[]:=by unfold Zc;rw [if_pos Gx];rfl
   have hb:q.base=(Zx E L bd (ZX t) i).stack.length:=by omega
   refine ⟨by simp only;omega,by simp only;rw [hsi];omega,by rw [hal];rfl,fun x1 y1 hx1 hy1=>?_⟩
   rw [hal] at hy1
   rw [hy1.ahT,lta]
   simp only [Int.toNat_natCast]
   rw [c1,hb,lub0] at hx1
   exact Rz.It Ai S.hc hil b1 (by grind)
  .rw [if_neg h3]
   have Gx:q.op≠3:=by omega
   have hal:Zc q=x.a:=by grind [Zc]
   obtain ⟨e,y,d1,d2,d3,d4,d5,_⟩:=S.closed a2 a4
   have hel:=(lba.1 d3).1
   have Ae:=S.at_ (k:=e) yQ
   obtain ⟨o',p',s',u',P⟩:=Ae.sx (Ae.ne S.hc hel)
   have hl:=Ae.len
   rw [P.Zj,lca,lpa] at hl
   have Hs:(Zr bd e).op[o'.length]?=some (i:Int):=by grind [tp]
   obtain ⟨f1,f2⟩:=(Pf.every S e (lab0 hel)).all _ p' i (SL P) Hs
   have G2:=f2.2 b1
   obtain ⟨m',z',g1,g2,g3⟩:=(S.lk (k:=e) yQ).all _ p' (SL P)
   rw [Hs] at g1
   obtain rfl:=yq6 g1
   obtain ⟨_,x',k1,k2,_,_,k3⟩:=g3.at_ i rfl
   obtain rfl:x=x':=by grind
   have k4:=(k3 G2).2
   unfold hgt at k4
   have hbb:p'.base=q.base:=by omega
   refine ⟨by simp only;omega,by simp only;rw [hsi];omega,by rw [hal,afg],fun x1 y1 hx1 hy1=>?_⟩
   simp only [d1,Int.toNat_natCast]
   refine ⟨hel,o',p',s',u',P,G2,.inr ⟨y,d3,d4,?_⟩⟩
   rw [hal,<-k2] at hy1
   refine KV.app ?_ hy1
   have:s'=(Zx E L bd (ZX t) k).stack.take q.base:=by
    rw [c1,<-hbb,<-f1,P.base,P.stk,lBb]
   rw [this];exact hx1
structure Gi (E:X6) (L:yp) (bd:List ZV) (t:Xz) (w:Ye) (vals:yp):Prop where
 zB:0<=w.at_
 h0:0<=w.height
 k0:0<=w.keep
 k1:w.keep<=1
 fit:w.height+w.keep<=vals.length
 ty:Rz E L bd t w.at_.toNat (vals.take w.height.toNat++vals.drop (vals.length-w.keep.toNat))
theorem ahV (k:Int):(kl k).length<=1:=by grind [kl]
theorem EA.B8 (G:EA E L bd t k q w) {a r:yp} (hst:∃r',(Zx E L bd (ZX t) k).stack=a++r') (hb:q.base<=a.length) (hv:KV (a++(r++kl (Zc q))) vals):Gi E L bd t w vals:=by
 rw [<-lja] at hv
 obtain ⟨x,y,rfl,h1,h2⟩:=hv.split
 have hy:=h2.len
 have hx:=h1.len
 rw [lca] at hx
 have Qo:=ahV (Zc q)
 have eh:w.height.toNat=q.base:=by have:=G.h;omega
 have ek:w.keep.toNat=y.length:=by have:=G.kp;omega
 have G_h:=G.h
 have apM:=G.kp
 refine ⟨G.zB,by omega,by omega,by omega,by rw [lca];omega,?_⟩
 rw [eh,ek,lca,lxb,List.drop_left,lAa yQ]
 refine G.ty _ _ ?_ h2
 obtain ⟨r',hr'⟩:=hst
 have h3:=h1.take q.base
 rw [lAa hb] at h3
 rw [hr',lAa hb];exact h3
theorem Kl {Es:yp} {sh:Nat->Bool × yp} {K0 m:Int} {j:Nat} (h:(Zr bd k).op[j]?=some m):(Vs Es bd sh K0 k).getD j jz=jmp Es bd sh K0 m:=by grind [Vs]
theorem O6 (S:U2 E L bd t Es Ls) (P:SP (Zx E L bd (ZX t) k) o p s u) (hL:Live p) (hk:k<bd.length) {n:Int} (hn:(YD (Zx E L bd (ZX t) k) n).1.bad=0) :
  EA E L bd t k (YD (Zx E L bd (ZX t) k) n).2 (X5 (Vs Es bd (Yx E L bd t) t.out.length k) n)/\(YD (Zx E L bd (ZX t) k) n).2.base<=s.length/\Zc (YD (Zx E L bd (ZX t) k) n).2≠0:=by
 have hal:=P.along hn
 obtain ⟨_,b2,b3⟩:=SN hn
 have hlen:=(S.at_ (k:=k) yQ).len
 have hne:0<(Zx E L bd (ZX t) k).Zj.length:=by rw [P.Zj];simp
 have hi:(Zx E L bd (ZX t) k).Zj.length-1-n.toNat<(Zx E L bd (ZX t) k).Zj.length:=by omega
 have hq:=laa hi
 obtain ⟨c1,c2⟩:=P.below _ (lob hi)
 obtain ⟨m,d1,d2⟩:=U2.goto S hk hq (c2 hL)
 rw [b3] at hal ⊢
 simp only at hal ⊢
 have e:(Zx E L bd (ZX t) k).Zj.getD ((Zx E L bd (ZX t) k).Zj.length-1-n.toNat) pz=(Zx E L bd (ZX t) k).Zj[(Zx E L bd (ZX t) k).Zj.length-1-n.toNat]:=by grind
 rw [e] at hal ⊢
 refine ⟨?_,c1,hal⟩
 unfold X5
 rw [Pb,<-hlen,Kl d1]
 exact d2
theorem ajd (h:x.op=12):Valid.YK E L c x=Uw (T5 c x.a):=by grind [Valid.YK,Zz]
theorem aje (h:x.op=13):Valid.YK E L c x=VK c x.a:=by grind [Valid.YK,Zz]
theorem ajf (h:x.op=14):Valid.YK E L c x=Uw (XG c x.a x.to):=by grind [Valid.YK,Zz]
theorem ajg (h:x.op=15):Valid.YK E L c x=Uw (Y5 c (c.Zj.getD 0 pz).kind).1:=by grind [Valid.YK,Zz]
theorem afi (h:x.op=11):Valid.YK E L c x=SQ c:=by grind [Valid.YK,Zz]
theorem Gg (h:x.op=5):Valid.YK E L c x=U6 c:=by grind [Valid.YK,Zz]
theorem alW (h:x.op=4):Valid.YK E L c x=VL (Y5 c 127).1 4 x.a:=by grind [Valid.YK,Zz]
theorem ajh (h:x.op=2\/x.op=3):Valid.YK E L c x=VL c x.op x.a:=by grind [Valid.YK,Zz]
theorem alX (h:x.op=1):Valid.YK E L c x=c:=by grind [Valid.YK]
theorem afj (h:x.op=16\/x.op=17):Valid.YK E L c x=Wh E c x:=by grind [Valid.YK]
theorem afk (h:x.op=26):Valid.YK E L c x=(Y5 c 0).1:=by grind [Valid.YK]
theorem afl (h:x.op=27):Valid.YK E L c x=Xa c:=by grind [Valid.YK]
theorem ac1 (h:32<=x.op/\x.op<=36):Valid.YK E L c x=XW E L c x:=by grind [Valid.YK]
theorem ac2 (h:36<x.op):Valid.YK E L c x=WL E c x:=by grind [Valid.YK]
abbrev G1 (E:X6) (L Es Ls:yp) (bd:List ZV) (t:Xz) (k:Nat) (x:ZV):List Ye:=Jx Es Ls bd (Yx E L bd t) t.out.length k x
theorem Ts {sh:Nat->Bool × yp} {K0:Int} (h:(sh k).1=false):Jx Es Ls bd sh K0 k x=XU Es Ls (Vs Es bd sh K0 k) sh k x:=by grind [Jx]
theorem Gf (S:U2 E L bd t Es Ls) (hx:bd[k]?=some x) (ho:x.op=12) (hT:Rz E L bd t k vals):∃w,G1 E L Es Ls bd t k x=[w]/\Gi E L bd t w vals:=by
 have hlt:=(lba.1 hx).1
 obtain ⟨h1,_,_⟩:=(S.at_ (k:=k) yQ).step S.hc S.hr S.K hx
 obtain ⟨hl,_,o,p,s,u,P,hL,hv⟩:=hT.live hx yQ
 rw [ajd ho] at h1
 have h3:(T5 (Zx E L bd (ZX t) k) x.a).bad=0:=h1
 have h0:=Kw h3
 obtain ⟨g1,g2,g3⟩:=O6 S P hL hlt h0
 unfold T5 at h3
 rw [if_pos h0,P.out h0] at h3
 obtain ⟨u',_,hu⟩:=Jr P g3 h3
 refine ⟨X5 (Vs Es bd (Yx E L bd t) t.out.length k) x.a,?_,?_⟩
 .show Jx _ _ _ _ _ _ _=_
  rw [Ts hl];unfold XU;rw [if_pos (.inl ho)]
 .rw [hu hL] at hv
  exact g1.B8 ⟨u,P.stk⟩ g2 hv
theorem Iq (S:U2 E L bd t Es Ls) (hx:bd[k]?=some x) (ho:x.op=15) (hT:Rz E L bd t k vals):∃w,G1 E L Es Ls bd t k x=[w]/\Gi E L bd t w vals:=by
 have hlt:=(lba.1 hx).1
 obtain ⟨h1,_,_⟩:=(S.at_ (k:=k) yQ).step S.hc S.hr S.K hx
 obtain ⟨hl,_,o,p,s,u,P,hL,hv⟩:=hT.live hx yQ
 rw [ajg ho] at h1
 have h3:(Y5 (Zx E L bd (ZX t) k) ((Zx E L bd (ZX t) k).Zj.getD 0 pz).kind).1.bad=0:=h1
 have hne:0<(Zx E L bd (ZX t) k).Zj.length:=by rw [P.Zj];simp
 have hq:=laa hne
 obtain ⟨c1,c2⟩:=P.below _ (lob hne)
 obtain ⟨m,d1,d2⟩:=U2.goto S hlt hq (c2 hL)
 have e:(Zx E L bd (ZX t) k).Zj.getD 0 pz=(Zx E L bd (ZX t) k).Zj[0]:=by grind
 rw [e] at h3
 have RJ:=P.kinds _ (lob hne)
 obtain ⟨u',_,hu⟩:=Jr P RJ h3
 obtain ⟨m',z,q1,q2,q3⟩:=(S.lk (k:=k) yQ).all 0 _ hq
 have hop:(Zx E L bd (ZX t) k).Zj[0].op=2:=by
  rw [(Mz S.hc hlt).2] at q2
  rw [<-q3.op];exact (yq6 q2).symm
 have hal:Zc (Zx E L bd (ZX t) k).Zj[0]=(Zx E L bd (ZX t) k).Zj[0].kind:=by grind [Zc]
 refine ⟨(Vs Es bd (Yx E L bd t) t.out.length k).getD 0 jz,?_,?_⟩
 .show Jx _ _ _ _ _ _ _=_
  rw [Ts hl];unfold XU;rw [if_neg yQ,if_neg yQ,if_pos ho]
 .rw [Kl d1]
  rw [hu hL,<-hal] at hv
  exact d2.B8 ⟨u,P.stk⟩ c1 hv
theorem Kk (S:U2 E L bd t Es Ls) (hx:bd[k]?=some x) (ho:x.op=13) (hT:Rz E L bd t k vals):∃w v0 v,G1 E L Es Ls bd t k x=[w]/\vals=v0++[v]/\Gi E L bd t w v0/\(k+1<bd.length->Rz E L bd t (k+1) v0):=by
 have hlt:=(lba.1 hx).1
 obtain ⟨h1,h2,A2⟩:=(S.at_ (k:=k) yQ).step S.hc S.hr S.K hx
 obtain ⟨hl,_,o,p,s,u,P,hL,hv⟩:=hT.live hx yQ
 rw [aje ho] at h1 h2
 have h0:(YD (Zx E L bd (ZX t) k) x.a).1.bad=0:=by
  unfold VK at h1
  simp only at h1
  by_cases h0:(YD (Zx E L bd (ZX t) k) x.a).1.bad=0
  .omega
  .grind
 obtain ⟨g1,g2,g3⟩:=O6 S P hL hlt h0
 unfold VK at h1 h2
 simp only at h1 h2
 rw [if_pos h0,P.out h0] at h1 h2
 rw [U5] at h1
 obtain ⟨u1,P1,_,OO⟩:=P.pop (k:=127) (by decide) (WD h1)
 obtain ⟨u2,P2,Bp⟩:=Jr P1 g3 h1
 obtain ⟨u3,P3,hu3⟩:=P2.push fun _=>g3
 have e1:=(OO hL).1
 have e2:=Bp hL
 rw [e1,<-lja] at hv
 obtain ⟨v0,v,rfl,SH,L4⟩:=hv.P5
 rw [e2] at SH
 refine ⟨X5 (Vs Es bd (Yx E L bd t) t.out.length k) x.a,v0,v,?_,rfl,g1.B8 ⟨u,P.stk⟩ g2 SH,fun Qo=>?_⟩
 .show Jx _ _ _ _ _ _ _=_
  rw [Ts hl];unfold XU;rw [if_pos (.inr ho)]
 .rw [<-h2] at P3
  refine ⟨Qo,o,p,s,u3,P3,hL.2,.inl ⟨hL.1,?_⟩⟩
  have:u3=u2++kl (Zc (YD (Zx E L bd (ZX t) k) x.a).2):=by grind [kl]
  rw [this];exact SH
theorem Ip (S:U2 E L bd t Es Ls) (hx:bd[k]?=some x) (ho:x.op=14) (hT:Rz E L bd t k vals):∃v0 v,vals=v0++[v]/\(G1 E L Es Ls bd t k x).length=x.to.length+1/\∀w∈G1 E L Es Ls bd t k x,Gi E L bd t w v0:=by
 have hlt:=(lba.1 hx).1
 obtain ⟨h1,h2,A2⟩:=(S.at_ (k:=k) yQ).step S.hc S.hr S.K hx
 obtain ⟨hl,_,o,p,s,u,P,hL,hv⟩:=hT.live hx yQ
 rw [ajf ho] at h1
 have h3:(XG (Zx E L bd (ZX t) k) x.a x.to).bad=0:=h1
 have key:∀(kk:Int) (l:yp) (b:Bool),(Xn kk l (Zx E L bd (ZX t) k,b)).1.bad=0->(Xn kk l (Zx E L bd (ZX t) k,b)).2=true->b=true/\∀n∈l,(YD (Zx E L bd (ZX t) k) n).1.bad=0/\Zc (YD (Zx E L bd (ZX t) k) n).2=kk:=by
  intro kk l
  induction l with
  | nil=>intro b _ h;exact ⟨h,nofun⟩
  | cons n r ih =>
   intro b hb ht
   rw [Xn] at hb ht
   have h0:=RR kk r _ hb
   simp only at h0 hb ht
   rw [P.out h0] at hb ht
   obtain ⟨i1,i2⟩:=ih _ hb ht
   simp only [yq4,decide_eq_true_eq] at i1
   refine ⟨i1.2,fun y hy=>?_⟩
   rcases List.mem_cons.1 hy with rfl|hy
   .omega
   .grind
 unfold XG at h3
 simp only at h3
 by_cases h0:(Xn (Zc (YD (Zx E L bd (ZX t) k) x.a).2) x.to ((YD (Zx E L bd (ZX t) k) x.a).1,true)).1.bad≠0
 .grind
 .rw [if_neg h0] at h3
  have Gy:=Decidable.of_not_not h0
  have e:=NC _ x.to _ Gy
  simp only at e
  have ha:(YD (Zx E L bd (ZX t) k) x.a).1.bad=0:=by grind
  rw [P.out ha] at h3 Gy e
  rw [e] at h3
  by_cases hs:(Xn (Zc (YD (Zx E L bd (ZX t) k) x.a).2) x.to (Zx E L bd (ZX t) k,true)).2=true
  .rw [if_pos hs] at h3
   have hall:=(key _ _ _ Gy hs).2
   obtain ⟨g1,g2,g3⟩:=O6 S P hL hlt ha
   obtain ⟨u1,P1,_,OO⟩:=P.pop (k:=127) (by decide) (WD h3)
   obtain ⟨u2,P2,Bp⟩:=Jr P1 g3 h3
   have e1:=(OO hL).1
   have e2:=Bp hL
   rw [e1,<-lja] at hv
   obtain ⟨v0,v,rfl,SH,L4⟩:=hv.P5
   rw [e2] at SH
   have ew:G1 E L Es Ls bd t k x=x.to.map (X5 (Vs Es bd (Yx E L bd t) t.out.length k))++[X5 (Vs Es bd (Yx E L bd t) t.out.length k) x.a]:=by
    show Jx _ _ _ _ _ _ _=_
    rw [Ts hl];unfold XU;rw [if_neg yQ,if_pos ho]
   refine ⟨v0,v,rfl,by rw [ew];simp,fun w hw=>?_⟩
   rw [ew] at hw
   rcases lMa.1 hw with hw|hw
   .obtain ⟨n,hn,rfl⟩:=lWa.1 hw
    obtain ⟨n1,n2⟩:=hall n hn
    obtain ⟨j1,j2,j3⟩:=O6 S P hL hlt n1
    exact j1.B8 ⟨u,P.stk⟩ j2 (by rw [n2];exact SH)
   .rw [lqa.1 hw];exact g1.B8 ⟨u,P.stk⟩ g2 SH
  .rw [if_neg hs] at h3
   exact (XV (by decide) (WD (WD h3))).elim
theorem agY (S:U2 E L bd t Es Ls) (hx:bd[k]?=some x) (ho:x.op=5) (hT:Rz E L bd t k vals):∃w,G1 E L Es Ls bd t k x=[w]/\Gi E L bd t w vals:=by
 have hlt:=(lba.1 hx).1
 obtain ⟨h1,h2,A2⟩:=(S.at_ (k:=k) yQ).step S.hc S.hr S.K hx
 obtain ⟨hl,_,o,p,s,u,P,hL,hv⟩:=hT.live hx yQ
 rw [Gg ho] at h1
 obtain ⟨m,d1,d2⟩:=U2.goto S hlt (SL P) hL.2
 have hlen:=(S.at_ (k:=k) yQ).len
 obtain ⟨p',z,q1,hp4,_⟩:=S.Kt hx ho
 have hop:p.op=4:=by
  obtain ⟨is,hn⟩:=UN S.hc hx
  obtain ⟨m',z',r1,r2,r3⟩:=(S.lk (k:=k) yQ).all _ p (SL P)
  rcases Ym hn with ⟨h,_⟩|⟨_,h4,_⟩|⟨h,_⟩|⟨h,_⟩
  .omega
  .have Cs:(Zr bd k).op.length-1=o.length:=by rw [<-hlen,P.Zj];simp
   rw [Cs,lka,r2] at h4
   rw [<-r3.op];exact h4
  .omega
  .omega
 have hc:(YE (Zx E L bd (ZX t) k)).bad=0:=by
  unfold U6 at h1
  simp only at h1
  split at h1 <;> exact h1
 have hu:=(MB P hc).2 hL
 have hal:Zc p=p.kind:=by grind [Zc]
 have hw0:X5 (Vs Es bd (Yx E L bd t) t.out.length k) 0=jmp Es bd (Yx E L bd t) t.out.length m:=by
  unfold X5
  rw [Pb,<-hlen,P.Zj,lca,show o.length+[p].length-1-(0:Int).toNat=o.length by simp]
  exact Kl d1
 refine ⟨X5 (Vs Es bd (Yx E L bd t) t.out.length k) 0,?_,?_⟩
 .show Jx _ _ _ _ _ _ _=_
  rw [Ts hl];unfold XU;rw [if_neg yQ,if_neg yQ,if_neg yQ,if_pos ho]
 .rw [hw0]
  refine d2.B8 (r:=[]) ⟨u,P.stk⟩ (by rw [P.base];exact loa _) ?_
  rw [lLa,hal,<-hu];exact hv
theorem Ge (S:U2 E L bd t Es Ls) (hx:bd[k]?=some x) (ho:x.op=4) (hT:Rz E L bd t k vals):∃w v0 v,G1 E L Es Ls bd t k x=[w]/\vals=v0++[v]/\Gi E L bd t w v0/\(k+1<bd.length->Rz E L bd t (k+1) v0):=by
 have hlt:=(lba.1 hx).1
 obtain ⟨h1,h2,A2⟩:=(S.at_ (k:=k) yQ).step S.hc S.hr S.K hx
 obtain ⟨hl,_,o,p,s,u,P,hL,hv⟩:=hT.live hx yQ
 rw [alW ho] at h1 h2
 have h3:(Y5 (Zx E L bd (ZX t) k) 127).1.bad=0:=h1
 obtain ⟨u1,P1,_,OO⟩:=P.pop (k:=127) (by decide) h3
 have e1:=(OO hL).1
 rw [e1,<-lja] at hv
 obtain ⟨v0,v,rfl,SH,L4⟩:=hv.P5
 have hst:(Yx E L bd t k).2=(s++u1)++[127]:=by
  show (LI _).2=_
  rw [(Xe P).2 hl,P.stk,e1,(OO hL).2.2 (by decide),lja]
 have zY:((Yx E L bd t k).2.length:Int)-1=v0.length:=by
  rw [hst,SH.len,lca,lpa];omega
 have hki:x.a≠0:=by
  have hb:Yw x.op=2:=if_pos (.inr (.inr ho))
  have:=(Ui ((Y8 S.hc).2.1 k x hlt hx).1).1
  rw [hb] at this
  unfold YU at this
  rw [if_neg (by decide),if_pos rfl] at this
  omega
 obtain ⟨e,y,c1,c2,c3,c4,c5,c6⟩:=S.closed hx (.inr (.inr ho))
 have hel:=(lba.1 c3).1
 have hg:hgt E L bd t k x=(v0.length:Int):=by
  unfold hgt
  rw [if_pos ho,P.stk,e1,SH.len]
  simp only [yq7,List.length_singleton];omega
 have hsk:(Zx E L bd (ZX t) k).stack=(s++u1)++[127]:=by rw [P.stk,e1,(OO hL).2.2 (by decide),lja]
 refine ⟨⟨if 0<=gd Ls k then gd Ls k+1 else gd Es k,0,((Yx E L bd t k).2.length:Int)-1⟩,v0,v,?_,rfl,?_,fun Qo=>?_⟩
 .show Jx _ _ _ _ _ _ _=_
  rw [Ts hl];unfold XU;rw [if_neg yQ,if_neg yQ,if_neg yQ,if_neg yQ,if_pos ho]
 .rw [zY]
  have ahW:∀(n:Nat),(∃y',bd[n]?=some y')->tp (Zr bd n)=k->k<n->∃o' p' s' u',SP (Zx E L bd (ZX t) n) o' p' s' u'/\p'.under=false/\s'=s++u1/\Lk E L bd t n k (Zo.tl (Zr bd n)) p':=by
   rintro n ⟨y',hy'⟩ AP hkn
   have He:=(lba.1 hy').1
   have Ae:=S.at_ (k:=n) yQ
   obtain ⟨o',p',s',u',P'⟩:=Ae.sx (Ae.ne S.hc He)
   have hl':=Ae.len
   rw [P'.Zj,lca,lpa] at hl'
   have Hs:(Zr bd n).op[o'.length]?=some (k:Int):=by grind [tp]
   obtain ⟨f1,f2⟩:=(Pf.every S n (lab0 He)).all _ p' k (SL P') Hs
   have G2:=f2.2 hl
   obtain ⟨m',z',g1,g2,g3⟩:=(S.lk (k:=n) yQ).all _ p' (SL P')
   rw [Hs] at g1
   obtain rfl:=yq6 g1
   obtain ⟨_,x',k1,k2,_,_,k3⟩:=g3.at_ k rfl
   obtain rfl:x=x':=by grind
   have k4:=(k3 G2).2
   rw [hg] at k4
   have hz:z'=Zo.tl (Zr bd n):=by grind [Zo.tl]
   refine ⟨o',p',s',u',P',G2,?_,hz ▸ g3⟩
   have e2:s'=(Zx E L bd (ZX t) n).stack.take p'.base:=by rw [P'.base,P'.stk,lBb]
   rw [e2,f1,hsk,lAa (by grind),lua (by grind)]
  have fin:∀(a:Nat),Rz E L bd t a v0->Gi E L bd t ⟨a,0,v0.length⟩ v0:=fun a h=>by
   refine ⟨by simp only;omega,by simp only;omega,by simp only;omega,by simp only;omega,by simp only;omega,?_⟩
   simp only [Int.toNat_natCast]
   rw [lub0,show (0:Int).toNat=0 from rfl,Nat.sub_zero,List.drop_length,lta];exact h
  rcases c6 with ⟨n1,n2⟩|⟨h,y2,n1,n2,n3,n4,n5,n6⟩
  .rw [n1,if_neg (by decide),c1]
   refine fin e ?_
   obtain ⟨o',p',s',u',P',G2,hs',hlk⟩:=ahW e ⟨y,c3⟩ c5 c2
   refine ⟨hel,o',p',s',u',P',G2,.inr ⟨y,c3,c4,?_⟩⟩
   have hop:p'.op=4:=by
    obtain ⟨_,x',k1,_,_,k5,_⟩:=hlk.at_ k rfl
    obtain rfl:x=x':=by grind
    rcases k5 with r|r
    .omega
    .exact absurd (hlk.op.trans r.1) n2
   obtain ⟨q1,_,_⟩:=(S.at_ (k:=e) yQ).step S.hc S.hr S.K c3
   rw [afi c4] at q1
   have aoO:=(P'.end_ q1).2.1 hop
   rw [aoO,hs',show kl 64=[] from rfl,lta];exact SH
  .rw [n1,if_pos yQ]
   have hh1:h+1<bd.length:=by omega
   have:=fin (h+1) ?_
   .grind
   .obtain ⟨o',p',s',u',P',G2,hs',hlk⟩:=ahW h ⟨y2,n4⟩ n6 n2
    obtain ⟨q1,q2,_⟩:=(S.at_ (k:=h) yQ).step S.hc S.hr S.K n4
    rw [Gg n5] at q1 q2
    obtain ⟨P2,_⟩:=P'.Qt q1
    rw [<-q2] at P2
    exact ⟨hh1,o',_,s',[],P2,G2,.inl ⟨rfl,by rw [lta,hs'];exact SH⟩⟩
 .have P2:=P1.WW 4 hki
  rw [<-h2] at P2
  refine ⟨Qo,_,_,_,_,P2,?_,.inl ⟨rfl,by rw [lta];exact SH⟩⟩
  show (p.dead || p.under)=false
  rw [hL.1,hL.2];rfl
theorem aji (S:U2 E L bd t Es Ls) (hx:bd[k]?=some x) (ho:x.op=2\/x.op=3) (Qo:k+1<bd.length) (hT:Rz E L bd t k vals):Rz E L bd t (k+1) vals:=by
 have hlt:=(lba.1 hx).1
 obtain ⟨h1,h2,A2⟩:=(S.at_ (k:=k) yQ).step S.hc S.hr S.K hx
 obtain ⟨hl,_,o,p,s,u,P,hL,hv⟩:=hT.live hx yQ
 rw [ajh ho] at h1 h2
 have hki:x.a≠0:=by
  have hb:Yw x.op=2:=if_pos yQ
  have:=(Ui ((Y8 S.hc).2.1 k x hlt hx).1).1
  rw [hb] at this
  unfold YU at this
  rw [if_neg (by decide),if_pos rfl] at this
  omega
 have P2:=P.WW x.op hki
 rw [<-h2] at P2
 refine ⟨Qo,_,_,_,_,P2,?_,.inl ⟨rfl,by rw [lta];exact hv⟩⟩
 show (p.dead || p.under)=false
 rw [hL.1,hL.2];rfl
theorem ajj (S:U2 E L bd t Es Ls) (hx:bd[k]?=some x) (ho:x.op=1) (Qo:k+1<bd.length) (hT:Rz E L bd t k vals):Rz E L bd t (k+1) vals:=by
 have hlt:=(lba.1 hx).1
 obtain ⟨h1,h2,A2⟩:=(S.at_ (k:=k) yQ).step S.hc S.hr S.K hx
 obtain ⟨hl,_,o,p,s,u,P,hL,hv⟩:=hT.live hx yQ
 rw [alX ho] at h2
 rw [<-h2] at P
 exact ⟨Qo,o,p,s,u,P,hL.2,.inl ⟨hL.1,hv⟩⟩
theorem Io (S:U2 E L bd t Es Ls) (hx:bd[k]?=some x) (ho:x.op=11) (hT:Rz E L bd t k vals):(k+1=bd.length->KV t.out vals)/\(k+1<bd.length->Rz E L bd t (k+1) vals):=by
 have hlt:=(lba.1 hx).1
 have A:=S.at_ (k:=k) yQ
 obtain ⟨h1,h2,A2⟩:=A.step S.hc S.hr S.K hx
 rw [afi ho] at h1 h2
 obtain ⟨_,o,p,s,u,P,hu,hv⟩:=hT
 have hv:KV (s++kl p.kind) vals:=by
  rcases hv with ⟨h3,h4⟩|⟨_,_,_,h4⟩
  .have hc:(YE (Zx E L bd (ZX t) k)).bad=0:=by
    unfold SQ at h1
    simp only at h1
    by_cases hq:(if (Ww (Zx E L bd (ZX t) k)).op=4/\(Ww (Zx E L bd (ZX t) k)).kind≠64 then Yr (YE (Zx E L bd (ZX t) k)) 10 else YE (Zx E L bd (ZX t) k)).bad=0
    .split at hq
     .exact (XV (by decide) hq).elim
     .omega
    .grind
   rw [<-(MB P hc).2 ⟨h3,hu⟩];exact h4
  .omega
 obtain ⟨_,_,q1,q2⟩:=P.end_ h1
 have hlen:=A.len
 have hp:=(XM bd k).pos (W7 S.hc hlt)
 obtain ⟨is,hn⟩:=UN S.hc hx
 have hB:Zr bd (k+1)=⟨(Zr bd k).op.take ((Zr bd k).op.length-1),(Zr bd k).last.take ((Zr bd k).op.length-1),decide ((Zr bd k).op.length-1=0)⟩:=by
  rcases Ym hn with ⟨h,_⟩|⟨h,_⟩|⟨_,e,_⟩|⟨h,_⟩
  .omega
  .omega
  .exact e
  .omega
 rw [P.Zj,lca,lpa] at hlen
 refine ⟨fun Qo=>?_,fun Qo=>?_⟩
 .have RH:=(Y8 S.hc).2.2
  rw [<-Qo,hB] at RH
  have BA:o=[]:=lma (by grind)
  subst BA
  obtain ⟨rfl,_⟩:=SP.ahU P
  obtain ⟨m',z',r3,r4,r5⟩:=(S.lk (k:=k) yQ).all 0 p (SL P)
  rw [(Mz S.hc hlt).1] at r3
  obtain rfl:=yq6 r3
  have RJ:=(r5.root rfl).1
  rw [lLa,RJ] at hv
  have:kl (t.out.getD 0 64)=t.out:=by
   have h1:=S.tl
   cases h:t.out with
   | nil=>rfl
   | cons a r =>
    rw [h] at h1
    have:r=[]:=lma (by grind)
    subst this
    exact if_neg (S.tk a (by grind)).n64
  rw [<-this];exact hv
 .have RH:=W7 S.hc Qo
  rw [hB] at RH
  have BA:o≠[]:=fun h=>by grind
  rcases ltb o with rfl|⟨o1,z,rfl⟩
  .grind
  .rw [lMb] at *
   obtain ⟨s1,u1,rfl,S2⟩:=q2 o1 z rfl
   rw [<-h2] at S2
   have hlz:=SP.und P hu
   refine ⟨Qo,o1,z,s1,_,S2,hlz.2,.inl ⟨hlz.1,?_⟩⟩
   rw [<-lja];exact hv
theorem My (hc:Yn bd=0) (hx:bd[k]?=some x) (h11:x.op≠11):k+1<bd.length:=by
 have hlt:=(lba.1 hx).1
 refine Decidable.by_contra fun hn=>?_
 have e:k+1=bd.length:=by omega
 have RH:=(Y8 hc).2.2
 rw [<-e] at RH
 obtain ⟨is,hn⟩:=UN hc hx
 rcases Ym hn with ⟨_,e⟩|⟨_,_,e,_⟩|⟨h,_⟩|⟨_,e⟩
 .grind
 .grind
 .omega
 .grind
end
end Rn
namespace Rn
open Go YY Go.RowKit
open YV Zo X7 Y3 Valid
structure KS (c:Ck):Prop where
 st:∀k∈c.stack,k=0\/Kd k
 op:∀p∈c.Zj,p.kind=64\/p.kind=0\/Kd p.kind
section
variable {c:Ck} {E:X6} {L:yp} {x:ZV}
theorem U4 {α:Type} {l:List α} {i:Nat} {z:α} {P:α->Prop} (h:∀y∈l,P y) (hz:P z):P (l.getD i z):=by grind
theorem KS.fail (h:KS c) (e:Int):KS (Yr c e):=by unfold Yr;split <;> exact ⟨h.st,h.op⟩
theorem KS.push (h:KS c) {k:Int} (hk:k=64\/k=0\/Kd k):KS (Xg c k):=by
 unfold Xg
 split
 .rename_i TS
  refine ⟨fun y hy=>?_,h.op⟩
  rcases lMa.1 hy with hy|hy
  .exact h.st y hy
  .grind
 .exact h
theorem KS.top (h:KS c):(Ww c).kind=64\/(Ww c).kind=0\/Kd (Ww c).kind:=by
 unfold Ww;exact U4 (P:=fun p:ZD=>p.kind=64\/p.kind=0\/Kd p.kind) h.op (.inr (.inl rfl))
theorem KS.take (h:KS c) (n:Nat):KS { c with stack:=c.stack.take n }:=⟨fun y hy=>h.st y (lOb hy),h.op⟩
theorem KS.pop (h:KS c) (k:Int):KS (Y5 c k).1/\((Y5 c k).2=k\/(Y5 c k).2=0\/Kd (Y5 c k).2):=by
 unfold Y5
 split
 .grind
 .split
  .simp only
   split
   .grind
   .exact ⟨h.fail 10,.inl (by first|rfl|trivial)⟩
  .have hk:c.stack.getD (c.stack.length-1) 0=0\/Kd (c.stack.getD (c.stack.length-1) 0):=U4 (P:=fun k=>k=0\/Kd k) h.st (.inl rfl)
   simp only
   split
   .exact ⟨h.take _,.inl (by first|rfl|trivial)⟩
   .split
    .exact ⟨(h.take _).fail 10,.inr hk⟩
    .exact ⟨h.take _,.inr hk⟩
theorem KS.V7:∀(l:yp) {c:Ck},KS c->KS (Xk c l)
 | [],_,h=>h
 | k::r,c,h=>((KS.V7 r h).pop k).1
theorem KS.Tc:∀(l:yp) {c:Ck},KS c->(∀k∈l,Kd k)->KS (WM c l)
 | [],_,h,_=>h
 | k::r,c,h,hk=>KS.Tc r (h.push (.inr (.inr (hk k (.head _))))) fun y hy=>hk y (.tail _ hy)
theorem KS.die (h:KS c):KS (Uw c):=by
 refine ⟨fun y hy=>h.st y (lOb hy),fun p hp=>?_⟩
 rcases List.mem_or_eq_of_mem_set hp with hp|rfl
 .exact h.op p hp
 .exact h.top
theorem KS.out (h:KS c) (n:Int):KS (YD c n).1/\((YD c n).2.kind=64\/(YD c n).2.kind=0\/Kd (YD c n).2.kind):=by
 unfold YD
 split
 .exact ⟨h.fail 8,.inr (.inl rfl)⟩
 .exact ⟨h,U4 (P:=fun p:ZD=>p.kind=64\/p.kind=0\/Kd p.kind) h.op (.inr (.inl rfl))⟩
theorem afm {p:ZD} (h:p.kind=64\/p.kind=0\/Kd p.kind):Zc p=64\/Zc p=0\/Kd (Zc p):=by grind [Zc]
theorem KS.WW (h:KS c) (o:Int) {k:Int} (hk:k=64\/k=0\/Kd k):KS (VL c o k):=by
 refine ⟨h.st,fun p hp=>?_⟩
 rcases lMa.1 hp with hp|hp
 .exact h.op p hp
 .grind
theorem KS.close (h:KS c):KS (YE c):=by
 unfold YE
 have:=(h.pop (Ww c).kind).1
 split
 .exact this.fail 10
 .omega
theorem KS.sub {o:List ZD} (h:KS c) (ho:∀p∈o,p∈c.Zj):KS { c with Zj:=o }:=⟨h.st,fun p hp=>h.op p (ho p hp)⟩
theorem KS.Qt (h:KS c):KS (U6 c):=by
 unfold U6
 simp only
 split
 .refine ⟨h.close.st,fun p hp=>?_⟩
  rcases lMa.1 hp with hp|hp
  .exact h.close.op p (lOb hp)
  .rw [lqa.1 hp];exact h.top
 .exact h.close
theorem KS.end_ (h:KS c):KS (SQ c):=by
 have h2:KS (if (Ww c).op=4/\(Ww c).kind≠64 then Yr (YE c) 10 else YE c):=by
  split
  .exact h.close.fail 10
  .exact h.close
 have key:∀(c2:Ck) (k:Int),KS c2->(k=64\/k=0\/Kd k)->KS (if c2.bad=0 then Xg { c2 with Zj:=c2.Zj.take (c2.Zj.length-1) } k else c2):=fun c2 k h2 hk=>by
  split
  .exact (h2.sub fun p hp=>lOb hp).push hk
  .omega
 exact key _ _ h2 h.top
theorem KS.ways (k:Int):∀(l:yp) (s:Ck × Bool),KS s.1->KS (Xn k l s).1
 | [],_,h=>h
 | n::r,s,h=>KS.ways k r _ (h.out n).1
theorem KS.table (h:KS c) (a:Int) (l:yp):KS (XG c a l):=by
 unfold XG
 have h1:=KS.ways (Zc (YD c a).2) l ((YD c a).1,true) (h.out a).1
 simp only
 split
 .omega
 .refine (KS.pop (KS.pop ?_ _).1 _).1
  split
  .omega
  .exact h1.fail 10
theorem KS.aoP (h:KS c) (a:Int):KS (VK c a):=by
 unfold VK
 simp only
 split
 .exact (((h.out a).1.pop 127).1.pop _).1.push (afm (h.out a).2)
 .exact (h.out a).1
theorem KS.choose (h:KS c):KS (Xa c):=by
 unfold Xa
 simp only
 have h1:=(h.pop 127).1
 obtain ⟨h2,k2⟩:=h1.pop 0
 have k2:(Y5 (Y5 c 127).1 0).2=64\/(Y5 (Y5 c 127).1 0).2=0\/Kd (Y5 (Y5 c 127).1 0).2:=by grind
 obtain ⟨h3,k3⟩:=h2.pop (Y5 (Y5 c 127).1 0).2
 refine h3.push ?_
 rcases k3 with h|h
 .grind
 .grind
theorem KS.one (h:KS c) (K:HQ E L) (hx:WB x=0):KS (Valid.YK E L c x):=by
 unfold Valid.YK
 by_cases h1:x.op=1
 .grind
 .rw [if_neg h1]
  by_cases JB:x.op<=15
  .rw [if_pos JB]
   have hk:x.op=2\/x.op=3\/x.op=4->x.a=64\/x.a=0\/Kd x.a:=fun ho=>by
    have hb:Yw x.op=2:=if_pos ho
    have:=(Ui hx).1
    rw [hb] at this
    unfold YU at this
    rw [if_neg (by decide),if_pos rfl] at this
    rcases this with h|h|h
    .omega
    .exact .inr (.inr (.inl h))
    .exact .inr (.inr (.inr h))
   unfold Zz
   repeat' split
   .exact h.die
   .exact h.WW _ (hk yQ)
   .exact (h.pop 127).1.WW _ (hk yQ)
   .exact h.Qt
   .exact h.end_
   .refine KS.die ?_
    unfold T5
    split
    .exact ((h.out _).1.pop _).1
    .exact (h.out _).1
   .exact h.aoP _
   .exact (h.pop _).1.die
   .exact (h.table _ _).die
   .exact h
  .rw [if_neg JB]
   repeat' split
   .unfold Wh
    split
    .split
     .exact h.fail 8
     .rename_i t ht
      refine KS.Tc _ (KS.V7 _ h) (K.out t ?_)
      unfold Xl at ht
      obtain ⟨k,_,hk⟩:=lVa.1 ht
      exact lda hk
    .split
     .exact h.fail 8
     .simp only
      exact KS.Tc _ (KS.V7 _ (h.pop 127).1)<|U4 (P:=fun t:Xz=>∀k∈t.out,Kd k) K.out (nofun)
   .exact (h.pop 0).1
   .exact h.choose
   .unfold XW
    have hl:∀i,L.getD i 0=64\/L.getD i 0=0\/Kd (L.getD i 0):=fun i=>U4 (P:=fun k=>k=64\/k=0\/Kd k) (fun k hk=>.inr (.inr (K.loc k hk))) (.inr (.inl rfl))
    split
    .split
     .exact h.fail 8
     .simp only
      have h2:KS (if x.op≠32 then (Y5 c (L.getD x.a.toNat 0)).1 else c):=by
       split
       .exact (h.pop _).1
       .exact h
      split
      .exact h2.push (hl _)
      .omega
    .split
     .exact h.fail 8
     .simp only
      split
      .exact h.push<|U4 (P:=fun g:Int × Bool × Int=>g.1=64\/g.1=0\/Kd g.1) (fun g hg=>.inr (.inr (K.Zh g hg))) (.inr (.inl rfl))
      .refine (KS.pop ?_ _).1
       split
       .exact h
       .exact h.fail 10
   .unfold WL
    repeat' split
    .exact h.fail 8
    .exact h.fail 9
    .exact KS.Tc _ (KS.V7 _ h) (Kv x.op).2
end
section
variable {o:List ZD} {p:ZD} {s u:yp} {E:X6} {L Es Ls vals:yp} {bd:List ZV} {k:Nat} {x:ZV} {t:Xz}
theorem afn (S:U2 E L bd t Es Ls):∀k,k<=bd.length->KS (Zx E L bd (ZX t) k)
 | 0,_=>by
  refine ⟨fun y hy=>(by cases hy),fun p hp=>?_⟩
  rw [lqa.1 (show p∈[(⟨2,t.out.getD 0 64,0,false,false⟩:ZD)] from hp)]
  exact U4 (P:=fun k=>k=64\/k=0\/Kd k) (fun k hk=>.inr (.inr (S.tk k hk))) (.inl rfl)
 | k+1,hk=>by
  have hx:bd[k]?=some bd[k]:=laa yQ
  rw [QF hx (S.at_ (k:=k) yQ).bad]
  exact (afn S k yQ).one S.K ((Y8 S.hc).2.1 k _ yQ hx).1
theorem agZ (S:U2 E L bd t Es Ls) (hk:k<=bd.length) (P:SP (Zx E L bd (ZX t) k) o p s u) (hL:Live p):∀y∈s++u,Kd y:=by
 intro y hy
 have h0:y≠0:=fun h=>by
  subst h
  rcases lMa.1 hy with h|h
  .exact P.lv.zero hL.2 h
  .exact P.z hL.1 hL.2 h
 exact ((afn S k hk).st y (by rw [P.stk];exact hy)).resolve_left h0
end
theorem B7 {P:Int->Prop} (h:∃r,P r/\(-1000<=r/\r<=1000)):-1000<=Classical.choose h/\Classical.choose h<=1000:=(Classical.choose_spec h).2
theorem ajk (n:Int):-1000<=Xq.LG n/\Xq.LG n<=1000:=by unfold Xq.LG;split <;> first|exact B7 _|omega
theorem ajl (n:Int):-1000<=Xq.LF n/\Xq.LF n<=1000:=by unfold Xq.LF;split <;> first|exact B7 _|omega
theorem ajm (n:Int):-1000<=Xq.LD n/\Xq.LD n<=1000:=by unfold Xq.LD;split <;> first|exact B7 _|omega
theorem ajn (n:Int):-1000<=Xq.LC n/\Xq.LC n<=1000:=by unfold Xq.LC;split <;> first|exact B7 _|omega
theorem ajo (n:Int):-1000<=Xq.LB n/\Xq.LB n<=1000:=by unfold Xq.LB;split <;> first|exact B7 _|omega
theorem ajp (n:Int):-1000<=Xq.LA n/\Xq.LA n<=1000:=by unfold Xq.LA;split <;> first|exact B7 _|omega
theorem ag0 {op a:Int} (ho:(XS op).2.2=true) (h1:(XS op).1.length=1):(Xq.UO op a).2=0/\Vk (XS op).2.1 (Xq.UO op a).1:=by
 have b32:=ajk (a % 4294967296)
 have b64:=ajl (a % 18446744073709551616)
 have c32:=ajm (a % 4294967296)
 have c64:=ajn (a % 18446744073709551616)
 have p32:=ajo (a % 4294967296)
 have p64:=ajp (a % 18446744073709551616)
 have w8:=Xx .i8 a
 have w16:=Xx .i16 a
 have Bo:=Xx .i32 a
 rw [show IntKind.min .i8=-128 from rfl,show IntKind.max .i8=127 from rfl] at w8
 rw [show IntKind.min .i16=-32768 from rfl,show IntKind.max .i16=32767 from rfl] at w16
 rw [show IntKind.min .i32=-2147483648 from rfl,show IntKind.max .i32=2147483647 from rfl] at Bo
 have Fv:∀b:Bool,0<=Xq.JI b/\Xq.JI b<=1:=fun b=>by cases b <;> decide
 have fin:∀{k n:Int},-2147483648<=n/\n<=2147483647->Vk k n:=fun {k n} h=>⟨by unfold XC;omega,fun _=>h⟩
 unfold XS at *
 unfold Xq.UO
 by_cases g1:op=69\/op=80
 .grind
 rw [if_neg g1] at ho h1 ⊢
 rw [if_neg yQ,if_neg yQ]
 by_cases g2:69<op/\op<=90
 .grind
 rw [if_neg g2] at ho h1 ⊢
 by_cases g3:(103<=op/\op<=105)\/(121<=op/\op<=123)
 .rw [if_pos g3]
  repeat' split
  all_goals first|exact ⟨rfl,fin yQ⟩|(exfalso;omega)
 rw [if_neg g3] at ho h1 ⊢
 rw [if_neg yQ,if_neg yQ,if_neg yQ,if_neg yQ,if_neg yQ,if_neg yQ]
 by_cases g4:106<=op/\op<=138
 .grind
 rw [if_neg g4] at ho h1 ⊢
 by_cases g5:op=167
 .rw [if_pos g5,if_neg yQ,if_neg yQ,if_pos yQ]
  refine ⟨rfl,fin ?_⟩
  simp only
  rw [Sa yQ];exact Bo
 rw [if_neg g5] at ho h1 ⊢
 by_cases g6:op=172\/op=173
 .rw [if_pos g6,if_neg yQ,if_neg yQ]
  rcases g6 with g|g
  .rw [if_pos yQ]
   simp only
   rw [Sa yQ]
   exact ⟨by first|rfl|trivial,fin Bo⟩
  .rw [if_neg yQ,if_pos g]
   exact ⟨rfl,.wide (by unfold XC;simp only;omega)⟩
 rw [if_neg g6] at ho h1 ⊢
 by_cases g7:192<=op/\op<=196
 .rw [if_pos g7]
  by_cases g8:op=192\/op=194
  .rw [if_pos g8]
   simp only
   rw [Sa yQ]
   exact ⟨by first|rfl|trivial,fin yQ⟩
  .rw [if_neg g8]
   by_cases g9:op=193\/op=195
   .rw [if_pos g9]
    simp only
    rw [Sa yQ]
    exact ⟨by first|rfl|trivial,fin yQ⟩
   .rw [if_neg g9,if_pos yQ]
    simp only
    rw [Sa yQ]
    exact ⟨by first|rfl|trivial,fin Bo⟩
 .grind
theorem alY {w:IntKind} {k a b c d:Int}:(Xq.VD w k a b c d).2=0\/(Xq.VD w k a b c d).2=21\/(Xq.VD w k a b c d).2=22:=by grind [Xq.VD]
theorem alZ (w:IntKind) (k a b c d:Int):XC (Xq.VD w k a b c d).1:=by
 have h0:XC 0:=⟨by omega,by omega⟩
 unfold Xq.VD
 repeat' split
 all_goals first|exact h0|exact Xx .i64 _
theorem ahX (k a b c d:Int):0<=Xq.Vg k a b c d/\Xq.Vg k a b c d<=1:=by
 have Fv:∀b:Bool,0<=Xq.JI b/\Xq.JI b<=1:=fun b=>by cases b <;> decide
 unfold Xq.Vg
 repeat' split
 all_goals exact Fv _
theorem ac3 {op a b:Int} (ho:(XS op).2.2=true) (h1:(XS op).1.length≠1):((Xq.UP op a b).2=0\/(Xq.UP op a b).2=21\/(Xq.UP op a b).2=22)/\Vk (XS op).2.1 (Xq.UP op a b).1/\(70<=op/\op<=79\/81<=op/\op<=90\/106<=op/\op<=138/\¬(121<=op/\op<=123))/\(XS op).1.length=2:=by
 have fin:∀{k n:Int},-2147483648<=n/\n<=2147483647->Vk k n:=fun {k n} h=>⟨by unfold XC;omega,fun _=>h⟩
 have Bo:∀z,-2147483648<=ZM .i64 (ZM .i32 z)/\ZM .i64 (ZM .i32 z)<=2147483647:=fun z=>by
  have:=Xx .i32 z
  rw [show IntKind.min .i32=-2147483648 from rfl,show IntKind.max .i32=2147483647 from rfl] at this
  rw [Sa yQ];exact this
 have hn:70<=op/\op<=79\/81<=op/\op<=90\/106<=op/\op<=138/\¬(121<=op/\op<=123):=by
  unfold XS at ho h1
  by_cases g1:op=69\/op=80
  .grind
  rw [if_neg g1] at ho h1
  by_cases g2:69<op/\op<=90
  .omega
  rw [if_neg g2] at ho h1
  by_cases g3:(103<=op/\op<=105)\/(121<=op/\op<=123)
  .grind
  rw [if_neg g3] at ho h1
  by_cases g4:106<=op/\op<=138
  .omega
  rw [if_neg g4] at ho h1
  by_cases g5:op=167
  .grind
  rw [if_neg g5] at ho h1
  by_cases g6:op=172\/op=173
  .grind
  rw [if_neg g6] at ho h1
  by_cases g7:192<=op/\op<=196
  .grind
  .grind
 have hk:(XS op).2.1=(if op<=90 then 127 else kd op 121)/\(XS op).1.length=2:=by grind [XS]
 refine ⟨?_,?_,?_,hk.2⟩
 .unfold Xq.UP
  repeat' split
  all_goals first|exact .inl rfl|exact alY|(exfalso;omega)
 .rw [hk.1]
  unfold Xq.UP
  by_cases q1:70<=op/\op<=79
  .rw [if_pos q1];exact fin (by have:=ahX (op-70) (ZM .i32 a) (ZM .i32 b) (a % 4294967296) (b % 4294967296);simp only;omega)
  rw [if_neg q1]
  by_cases q2:81<=op/\op<=90
  .rw [if_pos q2];exact fin (by have:=ahX (op-81) a b (a % 18446744073709551616) (b % 18446744073709551616);simp only;omega)
  rw [if_neg q2]
  by_cases q3:109<=op/\op<=112
  .grind
  rw [if_neg q3]
  by_cases q4:127<=op/\op<=130
  .rw [if_pos q4,if_neg yQ]
   unfold kd
   rw [if_neg yQ]
   exact .wide (alZ ..)
  rw [if_neg q4]
  by_cases q5:106<=op/\op<=120
  .grind
  rw [if_neg q5]
  by_cases q6:124<=op/\op<=138
  .rw [if_pos q6,if_neg yQ]
   unfold kd
   rw [if_neg yQ]
   exact .wide (Xx .i64 _)
  .omega
 .omega
end Rn
namespace Rn
open Go YY Go.RowKit
open YV Zo X7 Y3 Valid
structure VX (m:Y4) (I:WU):Prop where
 mod:I.mem.length % 256=0
 lo:m.pages<=((I.mem.length / 256:Nat):Int)
 hi:((I.mem.length / 256:Nat):Int)<=m.most
 most:m.most<=8
 tl:(I.Zt.length:Int)=m.table
 Zt:∀n∈I.Zt,-1<=n/\n<(m.ZA.length:Int)+m.funcs.length
 gl:I.Zh.length=m.globals.length
 Zh:∀(i:Nat) (g:Int × Bool × Int) (v:Int),m.globals[i]?=some g->I.Zh[i]?=some v->Vk g.1 v/\(g.2.1=false->v=g.2.2)
def UE (o:Int):Nat:=if o=26\/o=33\/o=34\/o=36 then 1 else if o=27 then 3 else if 36<o then (Xf o).1.length else 0
structure Gd (x:ZV) (I:WU) (loc stk:yp):Prop where
 G0:∀v∈stk,XC v
 Ez:∀v∈loc,XC v
 GZ:∀v∈I.Zh,XC v
 need:UE x.op<=stk.length
 op:x.op=26\/x.op=27\/(32<=x.op/\x.op<=36)\/(36<x.op/\(Xf x.op).2.2=true)
 loc:32<=x.op->x.op<=34->0<=x.a/\x.a<loc.length
 Zh:x.op=35\/x.op=36->0<=x.a/\x.a<I.Zh.length
 off:0<wid x.op->0<=x.b/\x.b<=4294967295
theorem Q8 (o:Int):YV.wd o=wid o:=by grind [YV.wd,wid]
theorem HO {z:Int} (hz:XC z) {n:Nat}:XC (W0 .i64 z (n:Int))/\(32<=n->n<=63->-2147483648<=W0 .i64 z (n:Int)/\W0 .i64 z (n:Int)<=2147483647):=by
 unfold XC at *
 have e:W0 .i64 z (n:Int)=z / 2 ^ (min n 64):=by
  unfold W0
  rw [lga]
  exact Int.fdiv_eq_ediv_of_nonneg _ (Int.le_of_lt (Int.pow_pos (by decide)))
 rw [e]
 have hp:(0:Int)<2 ^ (min n 64):=Int.pow_pos (by decide)
 have h1:=Int.emod_add_mul_ediv z (2 ^ (min n 64))
 have h2:=Int.emod_nonneg z (Int.ne_of_gt hp)
 have h3:=Int.emod_lt_of_pos z hp
 have hb:∀B:Int,0<B->-B<=z->z<B->-B<=z / 2 ^ (min n 64)/\z / 2 ^ (min n 64)<B:=fun B hB l1 l2=>by
  constructor
  .refine (Int.le_ediv_iff_mul_le hp).2 ?_
   have:-B * 2 ^ (min n 64)<=-B * 1:=by
    rw [Int.neg_mul,Int.neg_mul]
    refine Int.neg_le_neg (lTb yQ yQ)
   omega
  .refine (Int.ediv_lt_iff_lt_mul hp).2 ?_
   have:B * 1<=B * 2 ^ (min n 64):=lTb yQ yQ
   omega
 refine ⟨?_,fun hn hn2=>?_⟩
 .have:=hb 9223372036854775808 (by decide) yQ yQ;omega
 .have hm:(4294967296:Int)<=2 ^ (min n 64):=by
   have:(2:Int) ^ 32<=2 ^ (min n 64):=by
    have h:=lRa (n:=2) (by decide) (show 32<=min n 64 by omega)
    have h':((2 ^ 32:Nat):Int)<=((2 ^ (min n 64):Nat):Int):=by omega
    simpa using h'
   simpa using this
  constructor
  .refine (Int.le_ediv_iff_mul_le hp).2 ?_
   have:(2147483648:Int) * 4294967296<=2147483648 * 2 ^ (min n 64):=lTb hm (by decide)
   omega
  .have:z / 2 ^ (min n 64)<2147483648:=by
    refine (Int.ediv_lt_iff_lt_mul hp).2 ?_
    have:(2147483648:Int) * 4294967296<=2147483648 * 2 ^ (min n 64):=lTb hm (by decide)
    omega
   omega
theorem ajq {op:Int} (hw:0<wid op) (hop:op<54) (l:yo) (hl:l.length<=(wid op).toNat):Vk (TA op) (Mem.FA op (Mem.JJ l)):=by
 have hlt:=Mem.KO l
 have hle:256 ^ l.length<=256 ^ (wid op).toNat:=lRa (by decide) hl
 unfold Mem.FA
 by_cases hs:Mem.DY op
 .rw [if_pos hs,Q8]
  unfold Mem.Dl
  have TS:XC (ZM .i64 (Wb .u64 (Mem.JJ l:Nat) (64-8 * wid op))):=Xx .i64 _
  have BB:wid op=1\/wid op=2\/wid op=4\/(wid op=8/\op=41):=by
   unfold Mem.DY at hs
   unfold wid
   rcases hs with h|h|h|h|h|h|h <;> subst h <;> decide
  rcases BB with h|h|h|⟨h,h41⟩
  .rw [h];obtain ⟨a,b⟩:=HO TS (n:=56);rw [h] at a b;exact ⟨a,fun _=>b (by decide) (by decide)⟩
  .rw [h];obtain ⟨a,b⟩:=HO TS (n:=48);rw [h] at a b;exact ⟨a,fun _=>b (by decide) (by decide)⟩
  .rw [h];obtain ⟨a,b⟩:=HO TS (n:=32);rw [h] at a b;exact ⟨a,fun _=>b (by decide) (by decide)⟩
  .rw [h];obtain ⟨a,b⟩:=HO TS (n:=0);rw [h] at a
   refine ⟨a,fun hk=>?_⟩
   subst h41
   exact absurd hk (by decide)
 .rw [if_neg hs]
  refine ⟨Xx .i64 _,fun hk=>?_⟩
  unfold TA at hk
  unfold Mem.DY at hs
  split at hk
  .grind [wid,Sa]
  .omega
section
variable {m:Y4} {I:WU} {E:X6} {L Es Ls vals loc:yp} {bd:List ZV} {k:Nat} {x:ZV} {t:Xz}
theorem VX.GZ (h:VX m I):∀v∈I.Zh,XC v:=fun v hv=>by
 obtain ⟨i,hi,rfl⟩:=lzb.1 hv
 exact (h.Zh i _ _ (laa (by rw [<-h.gl];exact hi)) (laa hi)).1.1
theorem afo {l:yp} {i:Nat} {v:Int} (h:l[i]?=some v):l.getD i 0=v:=by grind
theorem VX.set (h:VX m I) {i:Nat} {g:Int × Bool × Int} {v:Int} (hg:m.globals[i]?=some g) (hm:g.2.1=true) (hv:Vk g.1 v):VX m { I with Zh:=I.Zh.set i v }:=by
 refine ⟨h.mod,h.lo,h.hi,h.most,h.tl,h.Zt,by simp only [List.length_set];exact h.gl,fun j g' v' h1 h2=>?_⟩
 simp only [List.getElem?_set] at h2
 by_cases e:i=j
 .grind
 .rw [if_neg e] at h2;exact h.Zh j g' v' h1 h2
theorem VX.mem' (h:VX m I) {mm:yo} (hl:mm.length=I.mem.length):VX m { I with mem:=mm } :=
 ⟨by simp only [hl];exact h.mod,by simp only [hl];exact h.lo,by simp only [hl];exact h.hi,h.most,h.tl,h.Zt,h.gl,h.Zh⟩
structure ajr (m:Y4) (E:X6) (L:yp) (bd:List ZV) (t:Xz) (k:Nat) (d:Bq):Prop where
 ins:VX m d.ins
 loc:KV L d.loc
 e:d.e=0\/(21<=d.e/\d.e<=23)
 stk:d.e=0->Rz E L bd t (k+1) d.stk
theorem ac4 {o:Int} (h:(Xf o).2.2=true) (hw:¬0<wid o) (h3:o≠63) (h4:o≠64) (h5:o≠65) (h6:o≠66):(XS o).2.2=true/\(Xf o).1=(XS o).1/\(Xf o).2.1=[(XS o).2.1]:=by
 by_cases hn:(XS o).2.2=true
 .grind [Xf]
 .unfold Xf at h
  rw [if_neg hn,if_neg yQ,if_neg hw,if_neg h3,if_neg h4,if_neg h5,if_neg h6] at h;cases h
theorem Mx {o:Int} (h:(XS o).2.2=true):69<=o:=by
 refine Decidable.by_contra fun hn=>?_
 unfold XS at h
 rw [if_neg yQ,if_neg yQ,if_neg yQ,if_neg yQ,if_neg yQ,if_neg yQ,if_neg yQ] at h
 cases h
theorem RP {o:Int} (h:0<wid o):40<=o/\o<=62:=by
 refine Decidable.by_contra fun hn=>?_
 unfold wid at h
 rw [if_neg yQ,if_neg yQ,if_neg yQ,if_neg yQ] at h
 omega
theorem ac5 {o:Int} (hw:0<wid o):Xf o=if o<54 then ([127],[TA o],true) else ([127,TA o],[],true):=by
 have:=RP hw
 unfold Xf
 rw [if_neg (fun h=>by have:=Mx h;omega)]
 by_cases h:o<54
 .grind
 .grind
theorem ag4 {o:Int} (ho:36<o) (h:Yw o≠0):(Xf o).2.2=true:=by
 unfold Xf
 by_cases hn:(XS o).2.2=true
 .grind
 .rw [if_neg hn]
  by_cases hw:0<wid o
  .grind
  .rw [if_neg yQ,if_neg hw]
   unfold Yw at h
   rw [if_neg yQ,if_neg yQ,if_neg yQ,if_neg yQ,if_neg hw] at h
   by_cases h3:o=63
   .grind
   .grind
theorem N8 {s u:yp} {a b:Int} (h:KV (s++(u++[a,b])) vals):∃v0 v1 v2,vals=v0++[v1]++[v2]/\KV (s++u) v0/\Vk a v1/\Vk b v2:=by
 rw [show s++(u++[a,b])=(s++u++[a])++[b] by simp] at h
 obtain ⟨x,v2,rfl,h1,h2⟩:=h.P5
 obtain ⟨v0,v1,rfl,h3,h4⟩:=h1.P5
 exact ⟨v0,v1,v2,rfl,h3,h4,h2⟩
theorem U3 {s u:yp} {a:Int} (h:KV (s++(u++[a])) vals):∃v0 v1,vals=v0++[v1]/\KV (s++u) v0/\Vk a v1:=by
 rw [<-lja] at h
 obtain ⟨v0,v1,rfl,h1,h2⟩:=h.P5
 exact ⟨v0,v1,rfl,h1,h2⟩
theorem Tq {v0:yp} {a:Int}:low (v0++[a]) 1=v0:=by rw [MC,Ju]
theorem CW {v0:yp} {a b:Int}:low (v0++[a]++[b]) 2=v0:=by grind [MC,Ju]
theorem al0 {v0:yp} {a b c:Int}:low (v0++[a]++[b]++[c]) 3=v0:=by grind [MC,Ju]
theorem al1 {v0:yp} {a b:Int}:top (v0++[a]++[b]) 1=a:=by grind [Gj,Wg]
theorem Gc (S:U2 E L bd t Es Ls) (hE:E=ZB m) (hx:bd[k]?=some x) (ho:18<=x.op) (hT:Rz E L bd t k vals) (hL:KV L loc) (hI:VX m I) (hA:XC x.a):Gd x I loc vals/\ajr m E L bd t k (WE m.most x I loc vals):=by
 have hlt:=(lba.1 hx).1
 have Qo:=My S.hc hx yQ
 obtain ⟨h1,h2,A2⟩:=(S.at_ (k:=k) yQ).step S.hc S.hr S.K hx
 obtain ⟨hl,_,o,p,s,u,P,Gb,hv⟩:=hT.live hx yQ
 have Ph:=((Y8 S.hc).2.1 k x hlt hx).1
 have LN:=(Ui Ph).1
 have hb0:Yw x.op≠0:=fun hz=>by
  unfold WB at Ph
  rw [if_pos hz] at Ph;cases Ph
 have RJ:=agZ S (lab0 hlt) P Gb
 have ty:∀{u' vs:yp},SP (Valid.YK E L (Zx E L bd (ZX t) k) x) o p s u'->KV (s++u') vs->Rz E L bd t (k+1) vs:=fun {u' vs} h hv=>by
  rw [<-h2] at h
  exact ⟨Qo,o,p,s,u',h,Gb.2,.inl ⟨Gb.1,hv⟩⟩
 have GZ:=hI.GZ
 have Ez:=hL.i64
 have G0:=hv.i64
 by_cases LL:x.op=26
 .rw [afk LL] at h1
  have ty:=@ty
  rw [afk LL] at ty
  obtain ⟨u1,P1,_,OO⟩:=P.pop (k:=0) (by decide) h1
  rw [(OO Gb).1] at hv
  obtain ⟨v0,v1,rfl,SH,L4⟩:=U3 hv
  refine ⟨⟨G0,Ez,GZ,by rw [LL];simp [UE],.inl LL,by omega,by omega,fun h=>by rw [LL] at h;exact absurd h (by decide)⟩,?_⟩
  have hd:WE m.most x I loc (v0++[v1])=⟨I,loc,v0,0⟩:=by unfold WE;rw [if_pos LL,Tq]
  rw [hd]
  exact ⟨hI,hL,.inl rfl,fun _=>ty P1 SH⟩
 by_cases Ku:x.op=27
 .rw [afl Ku] at h1
  have ty:=@ty
  rw [afl Ku] at ty
  unfold Xa at h1 ty
  simp only at h1 ty
  rw [U5] at h1
  have b1:=WD h1
  have b2:=WD b1
  obtain ⟨u1,P1,_,OO⟩:=P.pop (by decide) b2
  obtain ⟨u2,P2,_,Bp⟩:=P1.pop (by decide) b1
  obtain ⟨e1,_,e1'⟩:=OO Gb
  obtain ⟨e2,e2',_⟩:=Bp Gb
  have hk2:Kd (Y5 (Y5 (Zx E L bd (ZX t) k) 127).1 0).2:=RJ _ (by grind)
  obtain ⟨u3,P3,_,hu3⟩:=P2.pop hk2.n64 h1
  obtain ⟨e3,e3',aoQ⟩:=hu3 Gb
  obtain ⟨u4,P4,Ga⟩:=P3.push fun _=>e3'
  have e5:=aoQ hk2.n0
  rw [e5] at Ga e3
  rw [if_neg hk2.n64] at Ga
  rw [e1,e2,e3] at hv
  generalize (Y5 (Y5 (Zx E L bd (ZX t) k) 127).1 0).2=k2 at *
  rw [show s++(u3++[k2]++[k2]++[(Y5 (Zx E L bd (ZX t) k) 127).2])=(s++(u3++[k2,k2]))++[(Y5 (Zx E L bd (ZX t) k) 127).2] by simp] at hv
  obtain ⟨vx,v3,rfl,AA,hv3⟩:=hv.P5
  obtain ⟨v0,v1,v2,rfl,SH,L4,GJ⟩:=N8 AA
  refine ⟨⟨G0,Ez,GZ,by rw [Ku];simp [UE],.inr (.inl Ku),by omega,by omega,fun h=>by rw [Ku] at h;exact absurd h (by decide)⟩,?_⟩
  have hd:WE m.most x I loc (v0++[v1]++[v2]++[v3])=⟨I,loc,if v3=0 then v0++[v2] else v0++[v1],0⟩:=by
   unfold WE;rw [if_neg LL,if_pos Ku,Wg,al0,Gj yO,Wg,MC,MC,Ju]
  rw [hd]
  refine ⟨hI,hL,.inl rfl,fun _=>ty P4 ?_⟩
  rw [Ga,<-lja]
  simp only
  split
  .exact SH.snoc GJ
  .exact SH.snoc L4
 by_cases L5:x.op<=36
 .have Iw:32<=x.op:=by
   refine Decidable.by_contra fun hn=>hb0 ?_
   have hw:¬0<wid x.op:=fun h=>by have:=RP h;omega
   have hnm:¬(XS x.op).2.2=true:=fun h=>by have:=Mx h;omega
   unfold Yw
   rw [if_neg yQ,if_neg yQ,if_neg yQ,if_neg yQ,if_neg hw,if_neg yQ,if_neg yQ,if_neg yQ,if_neg yQ,if_neg hnm]
  have ha:=LJ Ph (.inr (.inr ⟨Iw,L5⟩))
  have hw:¬0<wid x.op:=fun h=>by have:=RP h;omega
  rw [ac1 ⟨Iw,L5⟩] at h1
  have ty:=@ty
  rw [ac1 ⟨Iw,L5⟩] at ty
  unfold XW at h1 ty
  by_cases DV:x.op<35
  .rw [if_pos DV] at h1 ty
   by_cases hn:(L.length:Int)<=x.a
   .rw [if_pos hn] at h1;exact (XV (by decide) h1).elim
   .rw [if_neg hn] at h1 ty
    simp only at h1 ty
    have Cs:=hL.len
    have hi:x.a.toNat<L.length:=by omega
    have hkk:L[x.a.toNat]?=some (L.getD x.a.toNat 0):=by grind
    have hk:=S.K.loc _ (Uj (z:=0) hi)
    obtain ⟨lv,hlv,hlk⟩:=hL.at_ hkk
    generalize L.getD x.a.toNat 0=kk at *
    by_cases Ey:x.op=32
    .rw [if_neg (show ¬x.op≠32 by omega),if_pos (show x.op≠33 by omega)] at h1 ty
     obtain ⟨u4,P4,Ga⟩:=P.push (k:=kk) fun _=>hk.n0
     rw [if_neg hk.n64] at Ga
     refine ⟨⟨G0,Ez,GZ,by rw [Ey];simp [UE],.inr (.inr (.inl ⟨Iw,L5⟩)),fun _ _=>⟨ha,by omega⟩,by omega,fun h=>absurd h hw⟩,?_⟩
     have hd:WE m.most x I loc vals=⟨I,loc,vals++[lv],0⟩:=by grind [WE]
     rw [hd]
     refine ⟨hI,hL,.inl rfl,fun _=>ty P4 ?_⟩
     rw [Ga,<-lja];exact hv.snoc hlk
    .rw [if_pos (show x.op≠32 from Ey)] at h1 ty
     by_cases Az:x.op=33
     .rw [if_neg (show ¬x.op≠33 by omega)] at h1 ty
      obtain ⟨u1,P1,_,OO⟩:=P.pop hk.n64 h1
      obtain ⟨e1,_,e2⟩:=OO Gb
      rw [e1,e2 hk.n0] at hv
      obtain ⟨v0,v1,rfl,SH,L4⟩:=U3 hv
      refine ⟨⟨G0,Ez,GZ,by rw [Az];simp [UE],.inr (.inr (.inl ⟨Iw,L5⟩)),fun _ _=>⟨ha,by omega⟩,by omega,fun h=>absurd h hw⟩,?_⟩
      have hd:WE m.most x I loc (v0++[v1])=⟨I,loc.set x.a.toNat v1,v0,0⟩:=by unfold WE;rw [if_neg LL,if_neg Ku,if_neg Ey,if_pos Az,Wg,Tq]
      rw [hd]
      exact ⟨hI,hL.set hkk L4,.inl rfl,fun _=>ty P1 SH⟩
     .have h34:x.op=34:=by omega
      rw [if_pos (show x.op≠33 from Az)] at h1 ty
      rw [U5] at h1
      obtain ⟨u1,P1,_,OO⟩:=P.pop hk.n64 h1
      obtain ⟨e1,_,e2⟩:=OO Gb
      obtain ⟨u4,P4,Ga⟩:=P1.push (k:=kk) fun _=>hk.n0
      rw [if_neg hk.n64] at Ga
      rw [e1,e2 hk.n0] at hv
      have hv':=hv
      obtain ⟨v0,v1,rfl,SH,L4⟩:=U3 hv
      refine ⟨⟨G0,Ez,GZ,by rw [h34];simp [UE],.inr (.inr (.inl ⟨Iw,L5⟩)),fun _ _=>⟨ha,by omega⟩,by omega,fun h=>absurd h hw⟩,?_⟩
      have hd:WE m.most x I loc (v0++[v1])=⟨I,loc.set x.a.toNat v1,v0++[v1],0⟩:=by unfold WE;rw [if_neg LL,if_neg Ku,if_neg Ey,if_neg Az,if_pos h34,Wg]
      rw [hd]
      exact ⟨hI,hL.set hkk L4,.inl rfl,fun _=>ty P4 (by grind)⟩
  .rw [if_neg DV] at h1 ty
   by_cases hn:(E.globals.length:Int)<=x.a
   .rw [if_pos hn] at h1;exact (XV (by decide) h1).elim
   .rw [if_neg hn] at h1 ty
    simp only at h1 ty
    have zz:=hI.gl
    have hge:E.globals=m.globals:=by rw [hE];rfl
    have hi:x.a.toNat<E.globals.length:=by omega
    have hkk:m.globals[x.a.toNat]?=some (E.globals.getD x.a.toNat (0,false,0)):=by grind
    have hk:=S.K.Zh _ (Uj (z:=(0,false,0)) hi)
    have hgi:x.a.toNat<I.Zh.length:=by grind
    have hgv:I.Zh[x.a.toNat]?=some I.Zh[x.a.toNat]:=laa hgi
    have aoR:=(hI.Zh _ _ _ hkk hgv).1
    generalize E.globals.getD x.a.toNat (0,false,0)=gg at *
    by_cases Ex:x.op=35
    .rw [if_pos Ex] at h1 ty
     obtain ⟨u4,P4,Ga⟩:=P.push (k:=gg.1) fun _=>hk.n0
     rw [if_neg hk.n64] at Ga
     refine ⟨⟨G0,Ez,GZ,by rw [Ex];simp [UE],.inr (.inr (.inl ⟨Iw,L5⟩)),by omega,fun _=>⟨ha,by omega⟩,fun h=>absurd h hw⟩,?_⟩
     have hd:WE m.most x I loc vals=⟨I,loc,vals++[I.Zh[x.a.toNat]],0⟩:=by grind [WE]
     rw [hd]
     refine ⟨hI,hL,.inl rfl,fun _=>ty P4 ?_⟩
     rw [Ga,<-lja];exact hv.snoc aoR
    .have al2:x.op=36:=by omega
     rw [if_neg Ex] at h1 ty
     by_cases hm:gg.2.1=true
     .rw [if_pos hm] at h1 ty
      obtain ⟨u1,P1,_,OO⟩:=P.pop hk.n64 h1
      obtain ⟨e1,_,e2⟩:=OO Gb
      rw [e1,e2 hk.n0] at hv
      obtain ⟨v0,v1,rfl,SH,L4⟩:=U3 hv
      refine ⟨⟨G0,Ez,GZ,by rw [al2];simp [UE],.inr (.inr (.inl ⟨Iw,L5⟩)),by omega,fun _=>⟨ha,by omega⟩,fun h=>absurd h hw⟩,?_⟩
      have hd:WE m.most x I loc (v0++[v1])=⟨{ I with Zh:=I.Zh.set x.a.toNat v1 },loc,v0,0⟩:=by
       unfold WE;rw [if_neg LL,if_neg Ku,if_neg yQ,if_neg yQ,if_neg yQ,if_neg Ex,if_pos al2,Wg,Tq]
      rw [hd]
      exact ⟨hI.set hkk hm L4,hL,.inl rfl,fun _=>ty P1 SH⟩
     .rw [if_neg hm] at h1
      exact (XV (by decide) (WD h1)).elim
 have Om:=ag4 yQ hb0
 rw [ac2 yQ] at h1
 have ty:=@ty
 rw [ac2 yQ] at ty
 obtain ⟨u1,P1,OO⟩:=P.WL h1
 rw [OO Gb] at hv
 have hoff:0<wid x.op->0<=x.b/\x.b<=4294967295:=fun hw=>by
  have B6:=RP hw
  have hb6:Yw x.op=6:=by grind [Yw]
  rw [hb6] at LN
  unfold YU at LN
  rw [if_neg (by decide),if_neg (by decide),if_neg (by decide),if_pos rfl] at LN
  exact LN.2
 have al3:UE x.op<=vals.length:=by
  unfold UE
  rw [if_neg yQ,if_neg yQ,if_pos yQ,hv.len]
  simp only [yq7];omega
 refine ⟨⟨G0,Ez,GZ,al3,.inr (.inr (.inr ⟨by omega,Om⟩)),by omega,by omega,hoff⟩,?_⟩
 have hd0:WE m.most x I loc vals=if x.op=65\/x.op=66 then ⟨I,loc,vals++[x.a],0⟩ else if x.op=63 then ⟨I,loc,vals++[((I.mem.length / 256:Nat):Int)],0⟩
  else if x.op=64 then
   if m.most-((I.mem.length / 256:Nat):Int)<top vals 0 % 4294967296 then ⟨I,loc,low vals 1++[-1],0⟩
   else ⟨{ I with mem:=I.mem++List.replicate (256 * (top vals 0 % 4294967296).toNat) 0 },loc,low vals 1++[((I.mem.length / 256:Nat):Int)],0⟩
  else if 0<wid x.op then
   if 54<=x.op then
    if ON (top vals 1) x.b+wid x.op<=I.mem.length then ⟨{ I with mem:=Mem.ow I.mem (ON (top vals 1) x.b).toNat (Mem.IU (wid x.op).toNat (top vals 0)) },loc,low vals 2,0⟩
    else ⟨I,loc,low vals 2,23⟩
   else if ON (top vals 0) x.b+wid x.op<=I.mem.length then ⟨I,loc,low vals 1++[Mem.FA x.op (Mem.JJ ((I.mem.drop (ON (top vals 0) x.b).toNat).take (wid x.op).toNat))],0⟩
   else ⟨I,loc,low vals 1++[0],23⟩
  else if (Xf x.op).1.length=1 then ⟨I,loc,low vals 1++[(Xq.UO x.op (top vals 0)).1],(Xq.UO x.op (top vals 0)).2⟩
  else ⟨I,loc,low vals 2++[(Xq.UP x.op (top vals 1) (top vals 0)).1],(Xq.UP x.op (top vals 1) (top vals 0)).2⟩:=by
  unfold WE
  rw [if_neg LL,if_neg Ku,if_neg yQ,if_neg yQ,if_neg yQ,if_neg yQ,if_neg yQ]
 rw [hd0]
 clear hd0
 have pages:=hI.most
 have hhi:=hI.hi
 by_cases c1:x.op=65\/x.op=66
 .rw [if_pos c1]
  have hp:Xf x.op=([],[if x.op=65 then 127 else 126],true)/\Vk (if x.op=65 then 127 else 126) x.a:=by
   rcases c1 with h|h
   .rw [h]
    refine ⟨by decide,?_⟩
    have Fu:Yw x.op=8:=by rw [h];decide
    rw [Fu] at LN
    unfold YU at LN
    rw [if_neg (by decide),if_neg (by decide),if_pos rfl] at LN
    rw [if_pos rfl];exact .low LN
   .rw [h]
    refine ⟨by decide,?_⟩
    rw [if_neg (by decide)];exact .wide hA
  rw [hp.1] at hv P1
  rw [lta] at hv
  refine ⟨hI,hL,.inl rfl,fun _=>ty P1 ?_⟩
  rw [<-lja]
  exact hv.snoc hp.2
 rw [if_neg c1]
 by_cases c2:x.op=63
 .rw [if_pos c2]
  rw [c2,show Xf 63=([],[127],true) by decide,lta] at hv
  refine ⟨hI,hL,.inl rfl,fun _=>ty P1 ?_⟩
  rw [c2,show Xf 63=([],[127],true) by decide,<-lja]
  exact hv.snoc (.low yQ)
 rw [if_neg c2]
 by_cases c3:x.op=64
 .rw [if_pos c3]
  rw [c3,show Xf 64=([127],[127],true) by decide] at hv
  obtain ⟨v0,v1,rfl,SH,L4⟩:=U3 hv
  rw [Wg,Tq]
  have Ay:∀n,-2147483648<=n/\n<=2147483647->Rz E L bd t (k+1) (v0++[n]):=fun n hn=>by
   refine ty P1 ?_
   rw [c3,show Xf 64=([127],[127],true) by decide,<-lja]
   exact SH.snoc (.low hn)
  by_cases c4:m.most-((I.mem.length / 256:Nat):Int)<v1 % 4294967296
  .rw [if_pos c4];exact ⟨hI,hL,.inl rfl,fun _=>Ay _ yQ⟩
  .rw [if_neg c4]
   refine ⟨⟨?_,?_,?_,hI.most,hI.tl,hI.Zt,hI.gl,hI.Zh⟩,hL,.inl rfl,fun _=>Ay _ yQ⟩
   .simp only [yq7,List.length_replicate];have:=hI.mod;omega
   .simp only [yq7,List.length_replicate];have:=hI.lo;omega
   .simp only [yq7,List.length_replicate];have:=hI.mod;omega
 rw [if_neg c3]
 by_cases c4:0<wid x.op
 .rw [if_pos c4]
  have hp:=ac5 c4
  by_cases c5:54<=x.op
  .rw [if_pos c5]
   rw [if_neg yQ] at hp
   rw [hp] at hv
   obtain ⟨v0,v1,v2,rfl,SH,L4,GJ⟩:=N8 hv
   rw [Wg,al1,CW]
   have Ay:Rz E L bd t (k+1) v0:=ty P1 (by grind)
   by_cases c6:ON v1 x.b+wid x.op<=I.mem.length
   .rw [if_pos c6]
    have ho:=hoff c4
    have apN:0<=ON v1 x.b:=by grind [ON]
    exact ⟨hI.mem' (Mem.IV (by grind [Mem.KP])),hL,.inl rfl,fun _=>Ay⟩
   .rw [if_neg c6];exact ⟨hI,hL,.inr ⟨show (21:Int)<=23 by decide,show (23:Int)<=23 by decide⟩,fun h=>by cases h⟩
  .rw [if_neg c5]
   rw [if_pos yQ] at hp
   rw [hp] at hv
   obtain ⟨v0,v1,rfl,SH,L4⟩:=U3 hv
   rw [Wg,Tq]
   by_cases c6:ON v1 x.b+wid x.op<=I.mem.length
   .rw [if_pos c6]
    refine ⟨hI,hL,.inl rfl,fun _=>ty P1 ?_⟩
    rw [hp,<-lja]
    exact SH.snoc (ajq c4 yQ _ (by grind))
   .rw [if_neg c6];exact ⟨hI,hL,.inr ⟨show (21:Int)<=23 by decide,show (23:Int)<=23 by decide⟩,fun h=>by cases h⟩
 rw [if_neg c4]
 obtain ⟨n1,n2,n3⟩:=ac4 Om c4 c2 c3 yQ yQ
 by_cases c5:(Xf x.op).1.length=1
 .rw [if_pos c5]
  rw [n2] at c5 hv
  obtain ⟨a,ha⟩:∃a,(XS x.op).1=[a]:=by
   match h:(XS x.op).1,c5 with
   | [a],_=>exact ⟨a,rfl⟩
  rw [ha] at hv
  obtain ⟨v0,v1,rfl,SH,L4⟩:=U3 hv
  rw [Wg,Tq]
  obtain ⟨r1,r2⟩:=ag0 (a:=v1) n1 c5
  refine ⟨hI,hL,.inl r1,fun _=>ty P1 ?_⟩
  rw [n3,<-lja]
  exact SH.snoc r2
 .rw [if_neg c5]
  rw [n2] at c5 hv
  obtain ⟨r1,r2,r3,r4⟩:=ac3 (a:=top vals 1) (b:=top vals 0) n1 c5
  obtain ⟨a,b,ha⟩:∃a b,(XS x.op).1=[a,b]:=by
   match h:(XS x.op).1,r4 with
   | [a,b],_=>exact ⟨a,b,rfl⟩
  rw [ha] at hv
  obtain ⟨v0,v1,v2,rfl,SH,L4,GJ⟩:=N8 hv
  rw [Wg,al1] at r1 r2 ⊢
  rw [CW]
  refine ⟨hI,hL,?_,fun _=>ty P1 ?_⟩
  .grind
  .rw [n3,<-lja]
   exact SH.snoc r2
end
end Rn
namespace Rn
open Go YY Go.RowKit
open YV Zo X7 Y3 Valid
structure FOk (m:Y4) (f:Rk):Prop where
 ty:0<=f.ty/\f.ty<m.types.length
 snd:∃Es Ls,U2 (ZB m) (XK m f) f.body (UJ m f) Es Ls
 a64:∀x∈f.body,0<=x.op/\XC x.a
 loc:f.loc.length<=16
structure U0 (m:Y4):Prop where
 fn:∀f∈m.funcs,FOk m f
 imp:∀x∈m.ZA,0<=x.2/\x.2<m.types.length
 sig:∀t∈m.types,t.Zf.length<=4/\t.out.length<=1
 most:m.most<=8
 nf:m.funcs.length<=16
 ni:m.ZA.length<=16
 Zt:m.table<=16
structure Hr (m:Y4) (c:YJ):Prop where
 f0:0<=c.fn
 f1:c.fn<m.funcs.length
 a0:0<=c.at_
 loc:KV (XK m (Y9 m c.fn)) c.loc
abbrev F9 (m:Y4) (c:YJ) (k:Nat):Bool × yp:=Yx (ZB m) (XK m (Y9 m c.fn)) (Y9 m c.fn).body (UJ m (Y9 m c.fn)) k
structure W5 (m:Y4) (c:YJ):Prop where
 fr:Hr m c
 ty:Rz (ZB m) (XK m (Y9 m c.fn)) (Y9 m c.fn).body (UJ m (Y9 m c.fn)) c.at_.toNat c.stk
structure Jq (m:Y4) (c:YJ) (n:Int):Prop where
 fr:Hr m c
 lt:c.at_.toNat<(Y9 m c.fn).body.length
 ex:∃(k:Nat) (x:ZV),c.at_=(k:Int)+1/\(Y9 m c.fn).body[k]?=some x/\((x.op=16/\x.a=n)\/(x.op=17/\(YG m n).Zf=(m.types.getD x.a.toNat sz).Zf/\(YG m n).out=(m.types.getD x.a.toNat sz).out))
 live:(F9 m c c.at_.toNat).1=false
 stk:∃r,(F9 m c c.at_.toNat).2=r++(YG m n).out/\KV r c.stk
def Lx (m:Y4) (l:List YJ) (i:Nat) (n:Int):Int:=match l[i+1]? with
 | some v=>YL m+v.fn
 | none=>n
def WR (m:Y4) (l:List YJ) (n:Int):Prop:=∀(i:Nat) (c:YJ),l[i]?=some c->Jq m c (Lx m l i n)
theorem WR.nil {m:Y4} {n:Int}:WR m [] n:=fun i c h=>by simp at h
theorem WR.snoc {m:Y4} {l:List YJ} {c:YJ} {n:Int}:WR m (l++[c]) n↔WR m l (YL m+c.fn)/\Jq m c n:=by
 have e1:∀i,i<l.length->Lx m (l++[c]) i n=Lx m l i (YL m+c.fn):=fun i hi=>by grind [Lx]
 have e2:Lx m (l++[c]) l.length n=n:=by grind [Lx]
 constructor
 .intro h
  refine ⟨fun i d hi=>?_,?_⟩
  .have hl:=(lba.1 hi).1
   have:=h i d (by grind)
   rw [e1 i hl] at this;exact this
  .have:=h l.length c yO
   rw [e2] at this;exact this
 .rintro ⟨h1,h2⟩ i d hi
  rw [lKa] at hi
  split at hi
  .rename_i hl;rw [e1 i hl];exact h1 i d hi
  .grind
structure Ty (m:Y4) (S:MS):Prop where
 ins:VX m S.ins
 le:S.calls.length<=40
 h0:0<=S.host/\S.host<=YL m
 cs:(S.host=0/\S.calls=[])\/(S.host=0/\∃up c,S.calls=up++[c]/\WR m up (YL m+c.fn)/\W5 m c)\/(0<S.host/\S.calls≠[]/\WR m S.calls (S.host-1))
section
variable {m:Y4} {S S' T:MS} {I:WU} {Es Ls:yp} {c c':YJ} {up:List YJ} {ev:Ev} {n:Int}
theorem P0 (h0:0<=n) (h1:n<m.funcs.length):Y9 m n∈m.funcs:=by grind [Y9]
theorem Kj (P:U0 m) {f:Rk} (hf:f∈m.funcs):UJ m f∈m.types/\m.types[f.ty.toNat]?=some (UJ m f):=by
 have:=(P.fn f hf).ty
 have hi:f.ty.toNat<m.types.length:=by omega
 unfold UJ
 rw [lka,laa hi]
 exact ⟨lob hi,rfl⟩
theorem O5 (P:U0 m) (h0:0<=n) (h1:n<m.funcs.length):Xl (ZB m) (YL m+n)=some (UJ m (Y9 m n))/\YG m (YL m+n)=UJ m (Y9 m n):=by
 have e:Xl (ZB m) (YL m+n)=some (UJ m (Y9 m n)):=by
  unfold Xl Qd
  have DU:(ZB m).ZA.length=m.ZA.length:=lea ..
  unfold YL
  rw [if_neg yQ,DU,if_neg yQ]
  have e2:(ZB m).JE[((m.ZA.length:Int)+n).toNat-m.ZA.length]?=some (Y9 m n).ty:=by
   show (m.funcs.map (·.ty))[_]?=_
   rw [lwa,show ((m.ZA.length:Int)+n).toNat-m.ZA.length=n.toNat by omega,laa yQ]
   unfold Y9
   rw [lka,laa yQ];rfl
  rw [e2]
  exact (Kj P (P0 h0 h1)).2
 exact ⟨e,by unfold YG;rw [e];rfl⟩
theorem NF (P:U0 m) (h0:0<=n) (h1:n<YL m):∃t,Xl (ZB m) n=some t/\YG m n=t/\t∈m.types:=by
 unfold YL at h1
 have DU:(ZB m).ZA.length=m.ZA.length:=lea ..
 have hi:n.toNat<m.ZA.length:=by omega
 have hm:=P.imp _ (lob hi)
 have e:Xl (ZB m) n=some m.types[m.ZA[n.toNat].2.toNat]:=by
  unfold Xl Qd
  rw [if_neg yQ,DU,if_pos h1]
  have:(ZB m).ZA[n.toNat]?=some m.ZA[n.toNat].2:=by
   show (m.ZA.map (·.2))[_]?=_
   rw [lwa,laa hi];rfl
  rw [this]
  exact laa (show m.ZA[n.toNat].2.toNat<m.types.length by omega)
 exact ⟨_,e,by unfold YG;rw [e];rfl,lob _⟩
theorem ac6 (P:U0 m) (h0:0<=n) (h1:n<YL m+m.funcs.length):∃t,Xl (ZB m) n=some t/\YG m n=t/\t∈m.types:=by
 by_cases h:n<YL m
 .exact NF P h0 h
 .obtain ⟨e1,e2⟩:=O5 P (n:=n-YL m) yQ yQ
  rw [show YL m+(n-YL m)=n by omega] at e1 e2
  exact ⟨_,e1,e2,(Kj P (P0 yQ yQ)).1⟩
theorem Hr.f (h:Hr m c) (P:U0 m):FOk m (Y9 m c.fn):=P.fn _ (P0 h.f0 h.f1)
theorem Vx {k:Nat} (hk:c.at_=k) {x:ZV} (hx:(Y9 m c.fn).body[k]?=some x):Yk m c=x:=by grind [Yk]
theorem W5.at_ (h:W5 m c):∃k:Nat,c.at_=k/\k<(Y9 m c.fn).body.length/\(Y9 m c.fn).body[k]?=some (Yk m c):=by
 have h0:=h.fr.a0
 obtain ⟨k,hk⟩:=lsa h0
 have hl:=h.ty.lt
 rw [hk,lga] at hl
 refine ⟨k,hk,hl,?_⟩
 rw [Vx hk (laa hl)]
 exact laa hl
theorem F8 {k:Nat} (hk:c.at_=k) (S:U2 (ZB m) (XK m (Y9 m c.fn)) (Y9 m c.fn).body (UJ m (Y9 m c.fn)) Es Ls) (hx:(Y9 m c.fn).body[k]?=some (Yk m c)) :
  G1 (ZB m) (XK m (Y9 m c.fn)) Es Ls (Y9 m c.fn).body (UJ m (Y9 m c.fn)) k (Yk m c)=Ug m c:=by
 unfold Ug Ly
 rw [hk,lga,VZ hx]
 exact ac0 S hx
theorem O4 (F:Hr m c) {w:Ye} {vals:yp} (hs:c.stk=vals) (h:Gi (ZB m) (XK m (Y9 m c.fn)) (Y9 m c.fn).body (UJ m (Y9 m c.fn)) w vals):W5 m (VJ c w) :=
 ⟨⟨F.f0,F.f1,h.zB,F.loc⟩,by subst hs;exact h.ty⟩
theorem O3 (F:Hr m c) {k:Nat} (hk:c.at_=k) {vals loc:yp} (hl:KV (XK m (Y9 m c.fn)) loc) (h:Rz (ZB m) (XK m (Y9 m c.fn)) (Y9 m c.fn).body (UJ m (Y9 m c.fn)) (k+1) vals):W5 m ⟨c.fn,c.at_+1,loc,vals⟩ :=
 ⟨⟨F.f0,F.f1,by have:=F.a0;simp only;omega,hl⟩,by
  have e:(c.at_+1).toNat=k+1:=by rw [hk];omega
  simp only [e];exact h⟩
def HN (m:Y4) (S':MS):Ev->Prop
 | .free=>Ty m S'/\S'.host=0/\S'.calls≠[]
 | .on=>Ty m S'/\S'.host=0/\S'.calls≠[]
 | .over vals=>Ty m S'/\S'.host=0/\S'.calls=[]/\(∀v∈vals,XC v)/\vals.length<=1
 | .XF e=>Ty m S'/\S'.host=0/\S'.calls=[]/\20<=e/\e<=26
 | .host f vals=>Ty m S'/\S'.calls≠[]/\S'.host=f+1/\0<=f/\f<YL m/\(∀v∈vals,XC v)/\vals.length<=4
theorem T4 (hI:VX m I) (hn:up.length<=39) (hW:WR m up (YL m+c.fn)) (hT:W5 m c):Ty m ⟨I,up++[c],0⟩/\(0:Int)=0/\up++[c]≠[] :=
 ⟨⟨hI,by simp only [yq7,List.length_singleton];omega,⟨Int.le_refl _,by unfold YL;simp only;omega⟩,.inr (.inl ⟨rfl,up,c,rfl,hW,hT⟩)⟩,rfl,by simp⟩
theorem ac7 (hI:VX m I):Ty m ⟨I,[],0⟩/\(0:Int)=0/\([]:List YJ)=[] :=
 ⟨⟨hI,by simp,⟨Int.le_refl _,by unfold YL;simp only;omega⟩,.inl ⟨rfl,rfl⟩⟩,rfl,rfl⟩
theorem O1 (hI:VX m I) {e:Int} (he:20<=e/\e<=26):HN m ⟨I,[],0⟩ (.XF e):=⟨(ac7 hI).1,rfl,rfl,he.1,he.2⟩
theorem afp (P:U0 m) {f:Int} (h0:0<=f) (h1:f<m.funcs.length) {args:yp} (ha:KV (UJ m (Y9 m f)).Zf args):W5 m ⟨f,0,args++List.replicate (Y9 m f).loc.length 0,[]⟩:=by
 obtain ⟨Es,Ls,S⟩:=(P.fn _ (P0 h0 h1)).snd
 refine ⟨⟨h0,h1,Int.le_refl _,?_⟩,?_⟩
 .exact ha.app (.alU _)
 .have hpos:0<(Y9 m f).body.length:=lFb.2 (NI S.hc)
  refine Rz.It (S.at_ (k:=0) yQ) S.hc hpos ?_ ?_
  .unfold Yx;rw [show (0:Int).toNat=0 from rfl,abF]
  .unfold Yx;rw [show (0:Int).toNat=0 from rfl,abF];exact .nil
theorem Ki (P:U0 m) (hI:VX m I) (hn:up.length<=39) (hW:WR m up (YL m+c.fn)) (hT:W5 m c) (ho:(Yk m c).op=16\/(Yk m c).op=17) :
  HN m (Tt m I up (XQ c) (Yk m c)).1 (Tt m I up (XQ c) (Yk m c)).2/\((Yk m c).op=17->(∃v0 v,c.stk=v0++[v])/\0<=(Yk m c).a/\(Yk m c).a<m.types.length) /\
  ((Y7 m I.Zt (Yk m c) c.stk).2.2=0->0<=(Y7 m I.Zt (Yk m c) c.stk).1/\(Y7 m I.Zt (Yk m c) c.stk).1<YL m+m.funcs.length/\(YG m (Y7 m I.Zt (Yk m c) c.stk).1).Zf.length<=(Y7 m I.Zt (Yk m c) c.stk).2.1.length):=by
 obtain ⟨k,hk,hlt,hx⟩:=hT.at_
 obtain ⟨Es,Ls,S⟩:=(hT.fr.f P).snd
 have hty:=hT.ty
 rw [hk,lga] at hty
 have Qo:=My S.hc hx yQ
 obtain ⟨h1,h2,A2⟩:=(S.at_ (k:=k) yQ).step S.hc S.hr S.K hx
 obtain ⟨hl,_,o,p,s,u,Q,hL,hv⟩:=hty.live hx yQ
 rw [afj ho] at h1 h2
 have Ph:=((Y8 S.hc).2.1 k _ hlt hx).1
 have ha:=LJ Ph yQ
 have go:∀(f:Int) (t:Xz) (u1 v0 args:yp),0<=f->f<YL m+m.funcs.length->YG m f=t->t∈m.types->SP (Zx (ZB m) (XK m (Y9 m c.fn)) (Y9 m c.fn).body (ZX (UJ m (Y9 m c.fn))) (k+1)) o p s (u1++t.out) ->
   KV (s++u1) v0->KV t.Zf args->(((Yk m c).op=16/\(Yk m c).a=f)\/((Yk m c).op=17/\(YG m f).Zf=(m.types.getD (Yk m c).a.toNat sz).Zf/\(YG m f).out=(m.types.getD (Yk m c).a.toNat sz).out)) ->
   Y7 m I.Zt (Yk m c) c.stk=(f,v0++args,0)->HN m (Tt m I up (XQ c) (Yk m c)).1 (Tt m I up (XQ c) (Yk m c)).2:=by
  intro f t u1 v0 args hf0 Bn Jz LQ hS SH H6 al4 LY
  have hcs:(XQ c).stk=c.stk:=rfl
  unfold Tt
  simp only [hcs,LY]
  rw [if_neg (by decide)]
  have He:(v0++args).length-(YG m f).Zf.length=v0.length:=by rw [Jz,lca,H6.len];omega
  rw [He,lBb,List.drop_left]
  by_cases c1:YL m<=f/\up.length+1=40
  .rw [if_pos c1];exact O1 hI ⟨by decide,by decide⟩
  rw [if_neg c1]
  have hsh:F9 m { XQ c with stk:=v0 } (c.at_+1).toNat=(false,s++(u1++t.out)):=by
   have e:(c.at_+1).toNat=k+1:=by omega
   rw [e]
   show LI (Zx (ZB m) (XK m (Y9 m c.fn)) (Y9 m c.fn).body (ZX (UJ m (Y9 m c.fn))) (k+1))=_
   unfold LI
   rw [hS.top,if_neg (by rw [hL.1,hL.2];decide),hS.stk]
  have hWc:Jq m { XQ c with stk:=v0 } f:=by
   refine ⟨⟨hT.fr.f0,hT.fr.f1,by have:=hT.fr.a0;show 0<=c.at_+1;omega,hT.fr.loc⟩,?_,⟨k,Yk m c,(by show c.at_+1=_;rw [hk]),hx,al4⟩,?_,?_⟩
   .show (c.at_+1).toNat<_
    rw [hk];have:(Y9 m ({ XQ c with stk:=v0 }:YJ).fn).body=(Y9 m c.fn).body:=rfl
    rw [this];omega
   .show (F9 m { XQ c with stk:=v0 } (c.at_+1).toNat).1=false
    rw [hsh]
   .show ∃r,(F9 m { XQ c with stk:=v0 } (c.at_+1).toNat).2=_/\_
    rw [hsh,Jz]
    exact ⟨s++u1,by simp,SH⟩
  have zy:WR m up (YL m+({ XQ c with stk:=v0 }:YJ).fn):=hW
  by_cases c2:f<YL m
  .rw [if_pos c2]
   refine ⟨⟨hI,by simp only [yq7,List.length_singleton];omega,⟨by simp only;omega,by simp only;omega⟩,.inr (.inr ⟨by simp only;omega,by simp,?_⟩)⟩,by simp,rfl,hf0,c2,H6.i64,by rw [H6.len];exact (P.sig t LQ).1⟩
   simp only
   rw [show f+1-1=f by omega]
   exact WR.snoc.2 ⟨zy,hWc⟩
  .rw [if_neg c2]
   have hown:UJ m (Y9 m (f-YL m))=t:=by
    rw [<-Jz]
    have:=(O5 P (n:=f-YL m) yQ yQ).2
    rw [show YL m+(f-YL m)=f by omega] at this
    exact this.symm
   have hle:up.length+1<=39:=by omega
   refine T4 hI (by grind) ?_ (afp P yQ yQ (by grind))
   rw [show YL m+(⟨f-YL m,0,args++List.replicate (Y9 m (f-YL m)).loc.length 0,[]⟩:YJ).fn=f by simp only;omega]
   exact WR.snoc.2 ⟨zy,hWc⟩
 by_cases Cn:(Yk m c).op=16
 .have LY:Y7 m I.Zt (Yk m c) c.stk=((Yk m c).a,c.stk,0):=by grind [Y7]
  unfold Wh at h1 h2
  rw [if_pos Cn] at h1 h2
  cases ht:Xl (ZB m) (Yk m c).a with
  | none=>rw [ht] at h1;exact (XV (c:=Zx (ZB m) (XK m (Y9 m c.fn)) (Y9 m c.fn).body (ZX (UJ m (Y9 m c.fn))) k) (e:=8) (by decide) h1).elim
  | some t =>
   rw [ht] at h1 h2
   simp only at h1 h2
   rw [Tv] at h1
   have LQ:t∈m.types:=by
    unfold Xl at ht
    obtain ⟨k,_,hk⟩:=lVa.1 ht
    exact lda hk
   have Bn:(Yk m c).a<YL m+m.funcs.length:=by
    unfold Xl Qd at ht
    rw [if_neg yQ] at ht
    have DU:(ZB m).ZA.length=m.ZA.length:=lea ..
    have hlf:(ZB m).JE.length=m.funcs.length:=lea ..
    unfold YL
    by_cases hq:(Yk m c).a<(ZB m).ZA.length
    .omega
    .grind
   have Jz:YG m (Yk m c).a=t:=by grind [YG]
   obtain ⟨u1,Q1,OO⟩:=Q.V7 t.Zf (S.K.Zf t LQ) h1
   have Q2:=SP.Tc t.out Q1 (S.K.out t LQ)
   rw [<-h2] at Q2
   rw [OO hL,<-lja] at hv
   obtain ⟨v0,args,Kq,SH,H6⟩:=hv.split
   refine ⟨go (Yk m c).a t u1 v0 args ha Bn Jz LQ Q2 SH H6 (.inl ⟨Cn,rfl⟩) (by grind),fun h=>by omega,fun _=>?_⟩
   rw [LY]
   refine ⟨ha,Bn,?_⟩
   simp only
   rw [Jz,Kq,lca,H6.len];omega
 .have I7:(Yk m c).op=17:=by omega
  unfold Wh at h1 h2
  rw [if_neg Cn] at h1 h2
  by_cases hc:(ZB m).table=0\/((ZB m).types.length:Int)<=(Yk m c).a
  .rw [if_pos hc] at h1;exact (XV (by decide) h1).elim
  .rw [if_neg hc] at h1 h2
   simp only at h1 h2
   rw [Tv] at h1
   obtain ⟨u0,Q0,_,hu0⟩:=Q.pop (k:=127) (by decide) (abB h1)
   have LQ:(ZB m).types.getD (Yk m c).a.toNat ⟨[],[]⟩∈m.types:=Uj (show (Yk m c).a.toNat<m.types.length by
    have:(ZB m).types.length=m.types.length:=rfl
    omega)
   have het:(ZB m).types.getD (Yk m c).a.toNat ⟨[],[]⟩=m.types.getD (Yk m c).a.toNat sz:=rfl
   rw [het] at h1 h2 LQ
   obtain ⟨u1,Q1,OO⟩:=Q0.V7 _ (S.K.Zf _ LQ) h1
   have Q2:=SP.Tc _ Q1 (S.K.out _ LQ)
   rw [<-h2] at Q2
   rw [(hu0 hL).1] at hv
   obtain ⟨w0,wv,Kq,hw0,hwv⟩:=U3 hv
   rw [OO hL,<-lja] at hw0
   obtain ⟨v0,args,rfl,SH,H6⟩:=hw0.split
   refine ⟨?_,fun _=>⟨⟨_,_,Kq⟩,ha,by
    have:(ZB m).types.length=m.types.length:=rfl
    omega⟩,?_⟩
   .by_cases c1:(I.Zt.length:Int)<=top c.stk 0 % 4294967296\/I.Zt.getD (top c.stk 0 % 4294967296).toNat 0<0
    .have LY:Y7 m I.Zt (Yk m c) c.stk=(0,low c.stk 1,24):=by grind [Y7]
     have hcs:(XQ c).stk=c.stk:=rfl
     unfold Tt
     simp only [hcs,LY]
     rw [if_pos (by decide)]
     exact O1 hI ⟨by decide,by decide⟩
    .by_cases c2:(YG m (I.Zt.getD (top c.stk 0 % 4294967296).toNat 0)).Zf≠(m.types.getD (Yk m c).a.toNat sz).Zf\/(YG m (I.Zt.getD (top c.stk 0 % 4294967296).toNat 0)).out≠(m.types.getD (Yk m c).a.toNat sz).out
     .have LY:Y7 m I.Zt (Yk m c) c.stk=(0,low c.stk 1,25):=by grind [Y7]
      have hcs:(XQ c).stk=c.stk:=rfl
      unfold Tt
      simp only [hcs,LY]
      rw [if_pos (by decide)]
      exact O1 hI ⟨by decide,by decide⟩
     .have LY:Y7 m I.Zt (Yk m c) c.stk=(I.Zt.getD (top c.stk 0 % 4294967296).toNat 0,low c.stk 1,0):=by grind [Y7]
      have QA:low c.stk 1=v0++args:=by grind [Tq]
      rw [QA] at LY
      have Hs:0<=top c.stk 0 % 4294967296:=by omega
      have hmem:I.Zt.getD (top c.stk 0 % 4294967296).toNat 0∈I.Zt:=Uj yQ
      have hb:=(hI.Zt _ hmem).2
      have e1:(YG m (I.Zt.getD (top c.stk 0 % 4294967296).toNat 0)).Zf=(m.types.getD (Yk m c).a.toNat sz).Zf:=Decidable.by_contra fun h=>c2 (.inl h)
      have e2:(YG m (I.Zt.getD (top c.stk 0 % 4294967296).toNat 0)).out=(m.types.getD (Yk m c).a.toNat sz).out:=Decidable.by_contra fun h=>c2 (.inr h)
      generalize I.Zt.getD (top c.stk 0 % 4294967296).toNat 0=f at *
      obtain ⟨t,_,Jz,_⟩:=ac6 P (n:=f) yQ (by grind [YL])
      have:YG m f=m.types.getD (Yk m c).a.toNat sz:=by
       cases h3:YG m f with
       | mk a b =>
        rw [h3] at e1 e2
        cases h4:m.types.getD (Yk m c).a.toNat sz with
        | mk a' b'=>rw [h4] at e1 e2;rw [show a=a' from e1,show b=b' from e2]
      exact go f _ u1 v0 args yQ (by grind [YL]) this LQ Q2 SH H6 (.inr ⟨I7,e1,e2⟩) LY
   .intro he
    unfold Y7 at he ⊢
    rw [if_neg Cn] at he ⊢
    by_cases c1:(I.Zt.length:Int)<=top c.stk 0 % 4294967296\/I.Zt.getD (top c.stk 0 % 4294967296).toNat 0<0
    .grind
    .rw [if_neg c1] at he ⊢
     by_cases c2:(YG m (I.Zt.getD (top c.stk 0 % 4294967296).toNat 0)).Zf≠(m.types.getD (Yk m c).a.toNat sz).Zf\/(YG m (I.Zt.getD (top c.stk 0 % 4294967296).toNat 0)).out≠(m.types.getD (Yk m c).a.toNat sz).out
     .grind
     .rw [if_neg c2]
      have hmem:I.Zt.getD (top c.stk 0 % 4294967296).toNat 0∈I.Zt:=Uj yQ
      have hb:=(hI.Zt _ hmem).2
      have e1:(YG m (I.Zt.getD (top c.stk 0 % 4294967296).toNat 0)).Zf=(m.types.getD (Yk m c).a.toNat sz).Zf:=Decidable.by_contra fun h=>c2 (.inl h)
      refine ⟨by simp only;omega,by simp only;unfold YL;omega,?_⟩
      simp only
      rw [e1,Kq,Tq,lca,H6.len];omega
theorem Q7 {u:YJ} {vals:yp}:addTop (up++[u]) vals=up++[{ u with stk:=u.stk++vals }]:=by grind [addTop]
theorem ac8 (P:U0 m) (h:Jq m c n) {vals:yp} (hv:KV (YG m n).out vals):W5 m { c with stk:=c.stk++vals }:=by
 obtain ⟨Es,Ls,S⟩:=(h.fr.f P).snd
 obtain ⟨r,h1,h2⟩:=h.stk
 refine ⟨⟨h.fr.f0,h.fr.f1,h.fr.a0,h.fr.loc⟩,Rz.It (S.at_ (lab0 h.lt)) S.hc h.lt h.live ?_⟩
 show KV (F9 m c c.at_.toNat).2 _
 rw [h1];exact h2.app hv
theorem UM (P:U0 m) (T:Ty m S) (h0:S.host=0) (h:RD m S S' ev):HN m S' ev:=by
 obtain ⟨up,c,hc,he⟩:=h
 have hI:=T.ins
 have hle:=T.le
 rw [hc,lca,lpa] at hle
 have hcs:WR m up (YL m+c.fn)/\W5 m c:=by
  rcases T.cs with ⟨_,h2⟩|⟨_,up',c',h2,h3⟩|⟨h2,_⟩
  .rw [hc] at h2;simp at h2
  .obtain ⟨rfl,h4⟩:=List.append_inj' (hc.symm.trans h2) rfl
   obtain rfl:=lyb.1 h4
   exact h3
  .omega
 obtain ⟨hW,hT⟩:=hcs
 have e1:S'=(WG m S.ins up c).1:=yq5 Prod.fst he
 have e2:ev=(WG m S.ins up c).2:=yq5 Prod.snd he
 rw [e1,e2]
 clear e1 e2 he
 obtain ⟨k,hk,hlt,hx⟩:=hT.at_
 obtain ⟨Es,Ls,Q⟩:=(hT.fr.f P).snd
 have hty:=hT.ty
 rw [hk,lga] at hty
 have hto:=F8 hk Q hx
 have hF:=hT.fr
 have LX:=hF.loc
 unfold WG
 by_cases h11:(Yk m c).op=11
 .simp only [h11,if_true]
  obtain ⟨g1,g2⟩:=Io Q hx h11 hty
  by_cases hl:c.at_+1=(Y9 m c.fn).body.length
  .rw [if_pos hl]
   have hv:=g1 yQ
   by_cases hu:up=[]
   .rw [if_pos hu]
    exact ⟨(ac7 hI).1,rfl,rfl,hv.i64,by rw [hv.len];exact (P.sig _ (Kj P (P0 hF.f0 hF.f1)).1).2⟩
   .rw [if_neg hu]
    rcases ltb up with rfl|⟨up',u,rfl⟩
    .grind
    .rw [lMb] at *
     rw [Q7]
     obtain ⟨w1,w2⟩:=WR.snoc.1 hW
     simp only [yq7,List.length_singleton] at hle
     have ht:=ac8 P w2 (vals:=c.stk) (by rw [(O5 P hF.f0 hF.f1).2];exact hv)
     exact T4 hI yQ w1 ht
  .rw [if_neg hl]
   exact T4 hI yQ hW (O3 hF hk LX (g2 yQ))
 simp only [h11,if_false]
 by_cases h5:(Yk m c).op=5
 .simp only [h5,if_true]
  obtain ⟨w,g1,g2⟩:=agY Q hx h5 hty
  rw [hto] at g1
  rw [g1]
  exact T4 hI yQ hW (O4 hF rfl g2)
 simp only [h5,if_false]
 have Qo:=My Q.hc hx h11
 unfold RQ
 simp only
 by_cases a0:(Yk m c).op=0
 .rw [if_pos a0];exact O1 hI ⟨by decide,by decide⟩
 rw [if_neg a0]
 by_cases a1:(Yk m c).op=1\/(Yk m c).op=2\/(Yk m c).op=3
 .rw [if_pos a1]
  have:Rz (ZB m) (XK m (Y9 m c.fn)) (Y9 m c.fn).body (UJ m (Y9 m c.fn)) (k+1) c.stk:=by
   rcases a1 with h|h
   .exact ajj Q hx h Qo hty
   .exact aji Q hx h Qo hty
  exact T4 hI yQ hW (O3 hF hk LX this)
 rw [if_neg a1]
 by_cases a4:(Yk m c).op=4
 .rw [if_pos a4]
  obtain ⟨w,v0,v,g1,g2,g3,g4⟩:=Ge Q hx a4 hty
  rw [hto] at g1
  rw [g1,g2,Wg]
  have hp:Tz (XQ c)=⟨c.fn,c.at_+1,c.loc,v0⟩:=by grind [Tz,XQ,Tq]
  rw [hp]
  split
  .exact T4 hI yQ hW (O4 (c:=⟨c.fn,c.at_+1,c.loc,v0⟩) ⟨hF.f0,hF.f1,by have:=hF.a0;simp only;omega,LX⟩ rfl g3)
  .exact T4 hI yQ hW (O3 hF hk LX (g4 Qo))
 rw [if_neg a4]
 by_cases a12:(Yk m c).op=12\/(Yk m c).op=15
 .rw [if_pos a12]
  have:∃w,G1 (ZB m) (XK m (Y9 m c.fn)) Es Ls (Y9 m c.fn).body (UJ m (Y9 m c.fn)) k (Yk m c)=[w]/\Gi (ZB m) (XK m (Y9 m c.fn)) (Y9 m c.fn).body (UJ m (Y9 m c.fn)) w c.stk:=by
   rcases a12 with h|h
   .exact Gf Q hx h hty
   .exact Iq Q hx h hty
  obtain ⟨w,g1,g2⟩:=this
  rw [hto] at g1
  rw [g1]
  exact T4 hI yQ hW (O4 (c:=XQ c) ⟨hF.f0,hF.f1,by have:=hF.a0;show 0<=c.at_+1;omega,LX⟩ rfl g2)
 rw [if_neg a12]
 by_cases J7:(Yk m c).op=13
 .rw [if_pos J7]
  obtain ⟨w,v0,v,g1,g2,g3,g4⟩:=Kk Q hx J7 hty
  rw [hto] at g1
  rw [g1,g2,Wg]
  have hp:Tz (XQ c)=⟨c.fn,c.at_+1,c.loc,v0⟩:=by grind [Tz,XQ,Tq]
  rw [hp]
  split
  .exact T4 hI yQ hW (O3 hF hk LX (g4 Qo))
  .exact T4 hI yQ hW (O4 (c:=⟨c.fn,c.at_+1,c.loc,v0⟩) ⟨hF.f0,hF.f1,by have:=hF.a0;simp only;omega,LX⟩ rfl g3)
 rw [if_neg J7]
 by_cases Jy:(Yk m c).op=14
 .rw [if_pos Jy]
  obtain ⟨v0,v,g1,g2,g3⟩:=Ip Q hx Jy hty
  rw [hto] at g2 g3
  rw [g1,Wg]
  have hp:Tz (XQ c)=⟨c.fn,c.at_+1,c.loc,v0⟩:=by grind [Tz,XQ,Tq]
  rw [hp]
  have hi:(min (v % 4294967296) ((Ug m c).length-1)).toNat<(Ug m c).length:=by omega
  have hw:Tu (Ug m c) (min (v % 4294967296) ((Ug m c).length-1)).toNat∈Ug m c:=Uj hi
  exact T4 hI yQ hW (O4 (c:=⟨c.fn,c.at_+1,c.loc,v0⟩) ⟨hF.f0,hF.f1,by have:=hF.a0;simp only;omega,LX⟩ rfl (g3 _ hw))
 rw [if_neg Jy]
 by_cases F7:(Yk m c).op=16\/(Yk m c).op=17
 .rw [if_pos F7];exact (Ki P hI yQ hW hT F7).1
 rw [if_neg F7]
 have hb:=((Y8 Q.hc).2.1 k _ hlt hx).1
 have CU:18<=(Yk m c).op:=by
  have h0:Yw (Yk m c).op≠0:=fun hz=>by
   unfold WB at hb
   rw [if_pos hz] at hb;cases hb
  refine Decidable.by_contra fun hn=>h0 ?_
  have hw:¬0<wid (Yk m c).op:=fun h=>by have:=RP h;omega
  have hnm:¬(XS (Yk m c).op).2.2=true:=fun h=>by have:=Mx h;omega
  have hneg:=((hF.f P).a64 _ (lda hx)).1
  unfold Yw
  rw [if_neg yQ,if_neg yQ,if_neg yQ,if_neg yQ,if_neg hw,if_neg yQ,if_neg yQ,if_neg yQ,if_neg yQ,if_neg hnm]
 obtain ⟨d1,d2⟩:=Gc Q rfl hx CU hty LX hI ((hF.f P).a64 _ (lda hx)).2
 by_cases he:(WE m.most (Yk m c) S.ins c.loc c.stk).e≠0
 .rw [if_pos he]
  exact O1 d2.ins (by have:=d2.e;omega)
 .rw [if_neg he]
  exact T4 d2.ins yQ hW (O3 hF hk d2.loc (d2.stk (Decidable.of_not_not he)))
end
end Rn
namespace Fold
open X7 Fb YV Zo
def hi:List ZV->Int->Int->Int
 | [],_,m=>m
 | x::l,o,m=>hi l (o+dd x) (max m (o+dd x))
def cn:List ZV->Nat
 | []=>0
 | x::l=>(if Ue x then 1 else 0)+cn l
theorem RO:∀(a b:List ZV) (o m:Int),hi (a++b) o m=hi b (o+TM a) (hi a o m)
 | [],b,o,m=>by simp [hi,TM]
 | x::a,b,o,m=>by rw [lGa,hi,hi,TM,RO a b,Int.add_assoc]
theorem Lw:∀(l:List ZV) (o m:Int),m<=hi l o m
 | [],_,_=>Int.le_refl _
 | x::l,o,m=>Int.le_trans (Int.le_max_left _ _) (Lw l _ _)
theorem Kh:∀(l:List ZV) (o m m':Int),m<=m'->hi l o m<=hi l o m'
 | [],_,_,_,h=>h
 | x::l,o,m,m',h=>Kh l _ _ _ yQ
theorem RN:∀a b:List ZV,cn (a++b)=cn a+cn b
 | [],b=>by simp [cn]
 | x::a,b=>by rw [lGa,cn,cn,RN a b];omega
theorem TQ {x:ZV} (h:Wo x):dd x=0:=by unfold dd;rw [if_neg h.no.1,if_neg h.no.2.2]
theorem N7:∀{P:List ZV},(∀x∈P,Wo x)->TM P=0
 | [],_=>rfl
 | x::P,h=>by rw [TM,TQ (h x (.head _)),N7 fun y hy=>h y (.tail _ hy)];rfl
theorem O0:∀{P:List ZV} (o m:Int),(∀x∈P,Wo x)->o<=m->hi P o m=m
 | [],_,_,_,_=>rfl
 | x::P,o,m,h,hm=>by
  rw [hi,TQ (h x (.head _)),Int.add_zero,show max m o=m by omega]
  exact O0 o m (fun y hy=>h y (.tail _ hy)) hm
theorem abP:∀{P:List ZV},(∀x∈P,Wo x)->cn P=0
 | [],_=>rfl
 | x::P,h=>by rw [cn,if_neg (h x (.head _)).no.1,abP fun y hy=>h y (.tail _ hy)]
theorem aaN:∀{P:List ZV} {R:List ZV} {z:Int} {s:yp},(∀x∈P,Wo x)->run (P++R) (z::s)=run R (z::s)
 | [],_,_,_,_=>rfl
 | x::P,R,z,s,h=>by
  rw [lGa,MW (h x (.head _)) yO]
  exact aaN fun y hy=>h y (.tail _ hy)
structure Bl (z:Int) (s:yp) (a b:List ZV):Prop where
 run:run b (z::s)=some []
 len:b.length<a.length
 hi:∀o m,o<=m->hi b o m<=hi a o m
 cn:cn b<=cn a
section
variable {z:Int} {s:yp} {R:List ZV}
theorem OZ {a b:List ZV} (ha:TM a=0) (hb:TM b=0) (hr:run (b++R) (z::s)=some []) (hl:b.length<a.length) (hh:∀o m,o<=m->Fold.hi b o m<=Fold.hi a o m) (hc:cn b<=cn a):Bl z s (a++R) (b++R) :=
 ⟨hr,by rw [lca,lca];omega,fun o m h=>by rw [RO,RO,ha,hb];exact Kh _ _ _ _ (hh o m h),by rw [RN,RN];omega⟩
theorem Wc {P N:List ZV} (hP:∀x∈P,Wo x) (hN:∀x∈N,Wo x) (hl:N.length<P.length) (hr:run (P++R) (z::s)=some []):Bl z s (P++R) (N++R):=by
 refine OZ (N7 hP) (N7 hN) ?_ hl (fun o m h=>?_) ?_
 .grind [aaN]
 .grind [O0]
 .grind [abP]
theorem JM {x:ZV} (h:WB x=0):Yw x.op≠0/\x.to.length<=16/\YU (Yw x.op) x.a x.b/\(Yw x.op≠4->x.to=[]):=by
 unfold WB at h
 by_cases h1:Yw x.op=0
 .omega
 .rw [if_neg h1] at h
  by_cases h2:16<x.to.length
  .omega
  .rw [if_neg h2] at h
   by_cases h3:(Yw x.op≠4/\0<x.to.length)\/(Yw x.op≠6/\x.b≠0)
   .omega
   .grind
theorem Kg {o a:Int} (h1:Yw o≠0) (h2:YU (Yw o) a 0):WB ⟨o,a,0,[]⟩=0:=by grind [WB]
theorem Mw {x:ZV} {o:Int} (h:WB x=0) (hb:Yw x.op=3) (ho:Yw o=3):WB ⟨o,x.a,0,[]⟩=0:=by
 refine Kg yQ ?_
 have:=(JM h).2.2.1
 rw [hb] at this
 rw [ho]
 unfold YU at this ⊢
 rw [if_neg (by decide),if_neg (by decide),if_neg (by decide),if_neg (by decide),if_pos (by decide)] at this ⊢
 exact this
theorem ag6 {x:ZV} (h:WB x=0) (h2:¬Ue x) (h5:x.op≠5) (h11:x.op≠11):Wo x:=⟨h,h2,h5,h11⟩
theorem ajs {x:ZV} {l:List ZV} {t w:yp} (h:run (x::l) t=some w):WB x=0:=by
 obtain ⟨_,h1,_⟩:=UT h
 exact (UU h1).1
theorem WT {x:ZV} {l:List ZV} (hf:Wo x) (h:run (x::l) (z::s)=some []):run l (z::s)=some []:=by grind [MW]
theorem aaO {y:ZV} {r:List ZV} (x:ZV) (hx:Wo x) (ho:Ue y) (h:run (y::r) (z::s)=some []):Ma 1 r+1<=(y::r).length/\Bl z s (x::y::r) (x::(y::r).drop (Ma 1 r+1)):=by
 have hxr:∀l,run (x::l) (z::s)=run l (z::s):=fun l=>MW hx yO
 rcases Pu ho h with ⟨A,e,R,rfl,hA,h11,_,_,hR,hs,_⟩|⟨A,q,B,e,R,h4,rfl,hA,h5,hB,h11,_,_,_,hR,hs,_⟩
 .rw [hs]
  have e1:(y::(A++e::R)).drop (A.length+1+1)=R:=by simp
  rw [e1]
  refine ⟨by simp only [List.length_cons,yq7];omega,?_⟩
  have hn:TM (x::y::(A++[e]))=0:=by
   have hny:dd y=1:=if_pos ho
   have hne:dd e=-1:=by grind [dd,Ue]
   rw [TM,TM,Te,US hA,TM,TM,TQ hx,hny,hne];rfl
  have:=OZ (z:=z) (s:=s) (R:=R) (a:=x::y::(A++[e])) (b:=[x]) hn (by grind [TM,TQ]) (by grind) yO (fun o m h=>?_) (by simp [cn])
  .grind
  .rw [O0 (P:=[x]) o m (fun y hy=>by rw [lqa.1 hy];exact hx) h]
   exact Lw _ _ _
 .rw [hs]
  have e1:(y::(A++q::(B++e::R))).drop (A.length+1+B.length+1+1)=R:=by
   rw [lgb,lIb,lza yQ,show A.length+1+B.length+1-A.length=(B.length+1)+1 by omega,lgb,lIb,lza yQ,show B.length+1-B.length=1 by omega];rfl
  rw [e1]
  refine ⟨by simp only [List.length_cons,yq7];omega,?_⟩
  have hn:TM (x::y::(A++q::(B++[e])))=0:=by
   have hny:dd y=1:=if_pos ho
   have hne:dd e=-1:=by grind [dd,Ue]
   have B5:dd q=0:=by grind [dd,Ue]
   rw [TM,TM,Te,US hA,TM,Te,US hB,TM,TM,TQ hx,hny,hne,B5];rfl
  have:=OZ (z:=z) (s:=s) (R:=R) (a:=x::y::(A++q::(B++[e]))) (b:=[x]) hn (by grind [TM,TQ]) (by grind) yO (fun o m h=>?_) (by simp [cn])
  .grind
  .rw [O0 (P:=[x]) o m (fun y hy=>by rw [lqa.1 hy];exact hx) h]
   exact Lw _ _ _
theorem Mv {c y b e:ZV} {A C:List ZV} (hc:Wo c) (hy:y.op=4) (hb:b.op=2) (hcb:WB b=0) (he:e.op=11) (hce:WB e=0) (q:Int) (hA:T9 A []=some []) (hr:run A (q::z::s)=some (q::z::s)) (hd:s.length<12) (hR:run R (z::s)=some [])
  (hn:TM C=0) (hin:∀o m,o+1<=m->Fold.hi A (o+1) m<=Fold.hi C (o+1) m) (hlen:A.length<=C.length) (zw:cn A<=cn C):Bl z s (c::y::(C++e::R)) (b::(A++e::R)):=by
 have zv:Ue b:=.inl hb
 have Ax:Ue y:=.inr (.inr hy)
 have hdb:dd b=1:=if_pos zv
 have zu:dd y=1:=if_pos Ax
 have Bk:dd e=-1:=by grind [dd,Ue]
 have h1:TM (b::(A++[e]))=0:=by rw [TM,Te,US hA,TM,TM,hdb,Bk];rfl
 have h2:TM (c::y::(C++[e]))=0:=by rw [TM,TM,Te,hn,TM,TM,TQ hc,zu,Bk];rfl
 have hrun:run ((b::(A++[e]))++R) (z::s)=some []:=by
  rw [lGa,lja,run]
  have s1:Fy b (z::s)=some (b.op::z::s):=by
   rw [Ul,if_neg yQ,if_pos zv,if_neg yQ]
  rw [s1]
  show run (A++([e]++R)) (b.op::z::s)=_
  rw [QK]
  have:=(Pv A [] [] q (z::s) _ hA hr b.op).2
  simp only [List.nil_append] at this
  rw [this]
  show run (e::R) (b.op::z::s)=_
  rw [run]
  have s2:Fy e (b.op::z::s)=some (z::s):=by
   rw [Ul,if_neg yQ,if_neg (by grind [Ue]),if_neg yQ,if_pos he]
  rw [s2];exact hR
 have:=OZ (z:=z) (s:=s) (R:=R) (a:=c::y::(C++[e])) (b:=b::(A++[e])) h2 h1 hrun (by simp;omega) (fun o m h=>?_) ?_
 .grind
 .have hle:∀o m,Fold.hi [e] o m=max m (o+-1):=fun o m=>by show max m (o+dd e)=_;rw [Bk]
  rw [hi,hi,hi,hdb,zu,TQ hc,RO,RO,US hA,hn,hle,hle]
  rw [show o+0+1=o+1 by omega,show max m (o+0)=m by omega]
  have:=hin o (max m (o+1)) yQ
  omega
 .rw [cn,cn,cn,RN,RN,if_pos zv,if_pos Ax,if_neg hc.no.1];omega
end
def GY (x:ZV):Prop:=x.op=65\/x.op=66
instance (x:ZV):Decidable (GY x):=by unfold GY;infer_instance
def nz:ZV:=⟨0,0,0,[]⟩
def Aw (x:ZV):Int:=if x.op=65 then 127 else 126
def cOp (k:Int):Int:=if k=127 then 65 else 66
def F6 (o:Int):Prop:=o=69\/o=80\/(103<=o/\o<=105)\/(121<=o/\o<=123)\/(192<=o/\o<=196)\/o=167\/o=172\/o=173
inductive Tn (C:Int->Int->Prop):List ZV->Nat->List ZV->Prop
 | idle {x r}:x.op=1->Tn C (x::r) 1 []
 | one {x y r k n i o}:GY x->36<y.op->Valid.Xf y.op=([i],[o],true)->i=Aw x->k=cOp o->C k n->Tn C (x::y::r) 2 [⟨k,n,0,[]⟩]
 | two {x y v r k n i o}:GY x->GY y->36<v.op->y.op=x.op->Valid.Xf v.op=([i,i],[o],true)->i=Aw x->k=cOp o->C k n->Tn C (x::y::v::r) 3 [⟨k,n,0,[]⟩]
 | unused {x y r}:(GY x\/x.op=32\/x.op=35)->y.op=26->Tn C (x::y::r) 2 []
 | al5 {x y r}:x.op=65->y.op=13->Tn C (x::y::r) 2 []
 | al6 {x y r}:x.op=65->y.op=13->Tn C (x::y::r) 2 [⟨12,y.a,0,[]⟩]
 | al7 {x y r}:(x.op=12\/x.op=14\/x.op=15\/x.op=0)->y.op≠11->y.op≠5->¬Ue y->Tn C (x::y::r) 2 [x]
 | dead {x y r}:(x.op=12\/x.op=14\/x.op=15\/x.op=0)->Ue y->Tn C (x::y::r) (2+Ma 1 r) [x]
 | kept {x y r}:x.op=33->y.op=32->x.a=y.a->Tn C (x::y::r) 2 [⟨34,x.a,0,[]⟩]
 | KH {x y r}:x.op=65->y.op=4->Tn C (x::y::r) (2+Ma 1 r) (⟨2,y.a,0,[]⟩::(r.take (G7 1 r)++[r.getD (Ma 1 r-1) nz]))
 | ag7 {x y r}:x.op=65->y.op=4->(r.getD (G7 1 r) nz).op=5->Tn C (x::y::r) (2+Ma 1 r) (⟨2,y.a,0,[]⟩::((r.take (Ma 1 r)).drop (G7 1 r+1)))
 | ag8 {x y r}:x.op=65->y.op=4->(r.getD (G7 1 r) nz).op≠5->Tn C (x::y::r) (2+Ma 1 r) []
 | empty {x y r}:(x.op=2\/x.op=3)->x.a=64->y.op=11->Tn C (x::y::r) 2 []
 | lost {x y r}:x.op=34->y.op=26->Tn C (x::y::r) 2 [⟨33,x.a,0,[]⟩]
 | ajt {x y r}:x.op=65->y.op=27->Tn C (x::y::r) 2 [⟨26,0,0,[]⟩]
def CK (k n:Int):Prop:=(k=65∧-2147483648<=n/\n<=2147483647)\/k=66
theorem aaP {k n:Int} (h:CK k n):Wo ⟨k,n,0,[]⟩:=by
 refine ag6 (Kg ?_ ?_) ?_ ?_ ?_
 .rcases h with ⟨rfl,_⟩|rfl <;> decide
 .rcases h with ⟨rfl,h⟩|rfl
  .show YU 8 n 0
   unfold YU
   rw [if_neg (by decide),if_neg (by decide),if_pos (by decide)];exact h
  .show YU 9 n 0
   unfold YU
   rw [if_neg (by decide),if_neg (by decide),if_neg (by decide),if_neg (by decide),if_neg (by decide)];trivial
 all_goals (rcases h with ⟨rfl,_⟩|rfl <;> simp [Ue])
theorem Q6 {x:ZV} (h:Wo x):∀y∈[x],Wo y:=fun y hy=>by rw [lqa.1 hy];exact h
theorem Q5 {x y:ZV} (h:Wo x) (h2:Wo y):∀u∈[x,y],Wo u:=fun u hu=>by grind
theorem aju {x y v:ZV} (h:Wo x) (h2:Wo y) (h3:Wo v):∀u∈[x,y,v],Wo u:=fun u hu=>by grind
theorem CT {o:Int} (h:o=12\/o=13\/o=16\/(32<=o/\o<=36)):Yw o=3:=by grind [Yw]
theorem Tn.bet {z:Int} {s:yp} {ls new:List ZV} {gone:Nat} (h:Tn CK ls gone new) (hr:run ls (z::s)=some []):gone<=ls.length/\Bl z s ls (new++ls.drop gone):=by
 have c0:=fun {x:ZV} {l:List ZV} (h:run (x::l) (z::s)=some [])=>ajs h
 have nof:∀{x:ZV},(GY x\/x.op=0\/x.op=1\/x.op=12\/x.op=13\/x.op=14\/x.op=15\/16<=x.op)->¬Ue x/\x.op≠5/\x.op≠11:=fun {x} h=>by unfold GY at h;unfold Ue;omega
 have fl:∀{x:ZV},WB x=0->(GY x\/x.op=0\/x.op=1\/x.op=12\/x.op=13\/x.op=14\/x.op=15\/16<=x.op)->Wo x:=fun {x} h1 h2=>⟨h1,nof h2⟩
 cases h with
 | idle h1 =>
  have f:=fl (c0 hr) yQ
  exact ⟨by simp,Wc (N:=[]) (Q6 f) nofun yO hr⟩
 | one h1 h2 _ _ _ h3 =>
  have f:=fl (c0 hr) (.inl h1)
  have f2:=fl (c0 (WT f hr)) yQ
  exact ⟨by simp,Wc (Q5 f f2) (Q6 (aaP h3)) yO hr⟩
 | two h1 h2 h3 _ _ _ _ h4 =>
  have f:=fl (c0 hr) (.inl h1)
  have r2:=WT f hr
  have f2:=fl (c0 r2) (.inl h2)
  have f3:=fl (c0 (WT f2 r2)) yQ
  exact ⟨by simp,Wc (aju f f2 f3) (Q6 (aaP h4)) yO hr⟩
 | unused h1 h2 =>
  have f:=fl (c0 hr) (h1.elim .inl fun h=>.inr yQ)
  have f2:=fl (c0 (WT f hr)) yQ
  exact ⟨by simp,Wc (N:=[]) (Q5 f f2) nofun yO hr⟩
 | al5 h1 h2 =>
  have f:=fl (c0 hr) yQ
  have f2:=fl (c0 (WT f hr)) yQ
  exact ⟨by simp,Wc (N:=[]) (Q5 f f2) nofun yO hr⟩
 | al6 h1 h2 =>
  have f:=fl (c0 hr) yQ
  have f2:=fl (c0 (WT f hr)) yQ
  exact ⟨by simp,Wc (Q5 f f2) (Q6 (fl (Mw f2.WB (CT yQ) (by decide)) yO)) yO hr⟩
 | al7 h1 h2 h3 h4 =>
  have f:=fl (c0 hr) yQ
  have f2:Wo _:=⟨c0 (WT f hr),h4,h3,h2⟩
  exact ⟨by simp,Wc (Q5 f f2) (Q6 f) yO hr⟩
 | @dead x y r h1 h2 =>
  have f:=fl (c0 hr) yQ
  have r2:=WT f hr
  obtain ⟨q1,q2⟩:=aaO x f h2 r2
  rw [show 2+Ma 1 r=Ma 1 r+1+1 by omega]
  exact ⟨by simp at q1 ⊢;omega,q2⟩
 | kept h1 h2 _ =>
  have f:=fl (c0 hr) yQ
  have f2:=fl (c0 (WT f hr)) yQ
  exact ⟨by simp,Wc (Q5 f f2) (Q6 (fl (Mw f.WB (CT yQ) (by decide)) yO)) yO hr⟩
 | lost h1 h2 =>
  have f:=fl (c0 hr) yQ
  have f2:=fl (c0 (WT f hr)) yQ
  exact ⟨by simp,Wc (Q5 f f2) (Q6 (fl (Mw f.WB (CT yQ) (by decide)) yO)) yO hr⟩
 | ajt h1 h2 =>
  have f:=fl (c0 hr) yQ
  have f2:=fl (c0 (WT f hr)) yQ
  exact ⟨by simp,Wc (Q5 f f2) (Q6 (fl (by decide) yO)) yO hr⟩
 | @empty x y r h1 _ h2 =>
  have ho:Ue x:=by grind [Ue]
  refine ⟨by simp,?_⟩
  have hR:run r (z::s)=some []:=by
   rcases Pu ho hr with ⟨A,e,R,e1,hA,h11,_,_,hR,_⟩|⟨_,_,_,_,_,h4,_⟩
   .cases A with
    | nil=>injection e1 with _ e1;rw [e1];exact hR
    | cons a A =>
     injection e1 with e2 _
     subst e2
     rw [T9,HU,if_neg (by grind [Ue]),if_neg yQ,if_pos h2] at hA
     cases hA
   .omega
  have hdx:dd x=1:=if_pos ho
  have zu:dd y=-1:=by grind [dd,Ue]
  exact OZ (a:=[x,y]) (b:=[]) (by grind [TM]) rfl hR yO (fun o m h=>Lw _ _ _) (by simp [cn])
 | @KH x y r h1 h2 =>
  have f:=fl (c0 hr) yQ
  have r2:=WT f hr
  have hy:Ue y:=.inr (.inr h2)
  have zq:=c0 r2
  have hcb:WB ⟨2,y.a,0,[]⟩=0:=by
   refine Kg (by decide) ?_
   have:=(JM zq).2.2.1
   have hb:Yw y.op=2:=if_pos (.inr (.inr h2))
   rw [hb] at this
   unfold YU at this
   rw [if_neg (by decide),if_pos (by decide)] at this
   show YU 2 y.a 0
   unfold YU
   rw [if_neg (by decide),if_pos (by decide)];exact this
  have hd:s.length<12:=by
   obtain ⟨t,a1,_⟩:=UT r2
   obtain ⟨_,z',r',e,hw⟩:=UU a1
   injection e with _ e
   subst e
   rcases hw with ⟨_,h,_⟩|⟨h,_⟩|⟨h,_⟩|⟨h,_⟩
   .exact h
   .omega
   .omega
   .exact absurd hy h.no.1
  rcases Pu hy r2 with ⟨A,e,R,rfl,hA,h11,hce,Bj,hR,hs,B4⟩|⟨A,q,B,e,R,h4,rfl,hA,h5,hB,h11,hce,Bj,hrb,hR,hs,B4⟩
  .rw [hs,B4]
   have e1:(A++e::R).take A.length=A:=by simp
   have e2:(A++e::R).getD (A.length+1-1) nz=e:=by simp
   have e3:(x::y::(A++e::R)).drop (2+(A.length+1))=R:=by
    rw [show 2+(A.length+1)=A.length+1+1+1 by omega,lgb,lgb,lIb,lza yQ,show A.length+1-A.length=1 by omega];rfl
   rw [e1,e2,e3]
   refine ⟨by simp;omega,?_⟩
   have:=Mv (b:=⟨2,y.a,0,[]⟩) (C:=A) f h2 rfl hcb h11 hce y.op hA Bj hd hR (US hA) (fun _ _ _=>Int.le_refl _) (loa _) (loa _)
   simpa using this
  .rw [hs,B4]
   have e1:(A++q::(B++e::R)).take A.length=A:=by simp
   have e2:(A++q::(B++e::R)).getD (A.length+1+B.length+1-1) nz=e:=by grind
   have e3:(x::y::(A++q::(B++e::R))).drop (2+(A.length+1+B.length+1))=R:=by
    rw [show 2+(A.length+1+B.length+1)=A.length+1+B.length+1+1+1 by omega,lgb,lgb,lIb,lza yQ,show A.length+1+B.length+1-A.length=(B.length+1)+1 by omega,lgb,lIb,lza yQ,show B.length+1-B.length=1 by omega];rfl
   rw [e1,e2,e3]
   refine ⟨by simp;omega,?_⟩
   have B5:dd q=0:=by grind [dd,Ue]
   have:=Mv (b:=⟨2,y.a,0,[]⟩) (C:=A++q::B) f h2 rfl hcb h11 hce 4 hA Bj hd hR (by rw [Te,TM,US hA,US hB,B5];rfl) (fun o m hm=>by rw [RO];exact Lw _ _ _) (by grind) (by grind [RN])
   simpa using this
 | @ag7 x y r h1 h2 h3 =>
  have f:=fl (c0 hr) yQ
  have r2:=WT f hr
  have hy:Ue y:=.inr (.inr h2)
  have zq:=c0 r2
  have hcb:WB ⟨2,y.a,0,[]⟩=0:=by
   refine Kg (by decide) ?_
   have:=(JM zq).2.2.1
   have hb:Yw y.op=2:=if_pos (.inr (.inr h2))
   rw [hb] at this
   unfold YU at this
   rw [if_neg (by decide),if_pos (by decide)] at this
   show YU 2 y.a 0
   unfold YU
   rw [if_neg (by decide),if_pos (by decide)];exact this
  have hd:s.length<12:=by
   obtain ⟨t,a1,_⟩:=UT r2
   obtain ⟨_,z',r',e,hw⟩:=UU a1
   injection e with _ e
   subst e
   rcases hw with ⟨_,h,_⟩|⟨h,_⟩|⟨h,_⟩|⟨h,_⟩
   .exact h
   .omega
   .omega
   .exact absurd hy h.no.1
  rcases Pu hy r2 with ⟨A,e,R,rfl,hA,h11,hce,Bj,hR,hs,B4⟩|⟨A,q,B,e,R,h4,rfl,hA,h5,hB,h11,hce,Bj,hrb,hR,hs,B4⟩
  .grind
  .rw [hs,B4]
   have e1:((A++q::(B++e::R)).take (A.length+1+B.length+1)).drop (A.length+1)=B++[e]:=by
    have:A++q::(B++e::R)=(A++q::(B++[e]))++R:=by simp
    rw [this,lAa (by simp;omega),lua (by simp;omega),lIb,lza yQ,show A.length+1-A.length=1 by omega];rfl
   have e3:(x::y::(A++q::(B++e::R))).drop (2+(A.length+1+B.length+1))=R:=by
    rw [show 2+(A.length+1+B.length+1)=A.length+1+B.length+1+1+1 by omega,lgb,lgb,lIb,lza yQ,show A.length+1+B.length+1-A.length=(B.length+1)+1 by omega,lgb,lIb,lza yQ,show B.length+1-B.length=1 by omega];rfl
   rw [e1,e3]
   refine ⟨by simp;omega,?_⟩
   have B5:dd q=0:=by grind [dd,Ue]
   have:=Mv (b:=⟨2,y.a,0,[]⟩) (C:=A++q::B) f h2 rfl hcb h11 hce 5 hB hrb hd hR (by rw [Te,TM,US hA,US hB,B5];rfl) (fun o m hm=>by
    rw [RO,US hA,hi,B5,Int.add_zero,Int.add_zero]
    exact Kh _ _ _ _ (Int.le_trans (Lw A _ _) (Int.le_max_left _ _))) (by grind) (by grind [RN,cn])
   simpa using this
 | @ag8 x y r h1 h2 _ =>
  have f:=fl (c0 hr) yQ
  have r2:=WT f hr
  have hy:Ue y:=.inr (.inr h2)
  obtain ⟨q1,q2⟩:=aaO x f hy r2
  rw [show 2+Ma 1 r=Ma 1 r+1+1 by omega]
  refine ⟨by simp at q1 ⊢;omega,?_⟩
  have hD:=WT f q2.run
  refine ⟨hD,?_,fun o m hm=>?_,?_⟩
  .grind
  .have h:=q2.hi o m hm
   rw [hi,TQ f,Int.add_zero,show max m o=m by omega] at h
   exact h
  .have h:=q2.cn
   rw [cn,if_neg f.no.1] at h
   simp only [List.nil_append,List.drop_succ_cons] at h ⊢
   omega
end Fold
namespace Fold
open Go Go.RowKit YY
open X7 Fb YV Zo Valid
def i0 (ls:List ZV):ZV:=ls.getD 0 nz
def i1 (ls:List ZV):ZV:=ls.getD 1 nz
def i2 (ls:List ZV):ZV:=ls.getD 2 nz
def ahY (o k:Int):Prop:=(Xf o).2.2=true/\(Xf o).1.getD 0 0=k
def App:Nat->List ZV->Prop
 | 0,ls=>(i0 ls).op=1
 | 1,ls=>2<=ls.length/\GY (i0 ls)/\F6 (i1 ls).op/\ahY (i1 ls).op (Aw (i0 ls))
 | 2,ls=>3<=ls.length/\GY (i0 ls)/\(i1 ls).op=(i0 ls).op/\(Xq.anS (i2 ls).op (i0 ls).a (i1 ls).a).2=0/\ahY (i2 ls).op (Aw (i0 ls))
 | 3,ls=>(GY (i0 ls)\/(i0 ls).op=32\/(i0 ls).op=35)/\2<=ls.length/\(i1 ls).op=26
 | 4,ls=>2<=ls.length/\(i0 ls).op=65/\(i1 ls).op=13
 | 5,ls=>((i0 ls).op=12\/(i0 ls).op=14\/(i0 ls).op=15\/(i0 ls).op=0)/\(i1 ls).op≠11/\(i1 ls).op≠5
 | 6,ls=>(i0 ls).op=33/\(i1 ls).op=32/\(i0 ls).a=(i1 ls).a
 | 7,ls=>2<=ls.length/\(i0 ls).op=65/\(i1 ls).op=4
 | 8,ls=>((i0 ls).op=2\/(i0 ls).op=3)/\(i0 ls).a=64/\(i1 ls).op=11
 | 9,ls=>(i0 ls).op=34/\(i1 ls).op=26
 | 10,ls=>(i0 ls).op=65/\(i0 ls).a≠0/\2<=ls.length/\(i1 ls).op=27
 | _,_=>False
structure Jp (a b:List ZV):Prop where
 WB:Yn b=0
 len:b.length<=a.length
 hi:hi b 0 0<=hi a 0 0
 cn:cn b<=cn a
theorem Jp.zero {a:List ZV} (h:Yn a=0):Jp a a:=⟨h,loa _,Int.le_refl _,loa _⟩
theorem ag9:∀(p q:List ZV) (s:yp),run (p++q) s=some []->q≠[]->∃z t,run p s=some (z::t)/\run q (z::t)=some []:=by
 intro p q s h hq
 rw [QK] at h
 obtain ⟨t,h1,h2⟩:=lVa.1 h
 cases t with
 | nil =>
  cases q with
  | nil=>exact absurd rfl hq
  | cons x q=>rw [run] at h2;cases h2
 | cons z t=>exact ⟨z,t,h1,h2⟩
theorem ahZ:∀(p:List ZV) (o m:Int),o<=m->o+TM p<=hi p o m
 | [],o,m,h=>by simp [TM,hi];exact h
 | x::p,o,m,h=>by
  rw [TM,hi]
  have:=ahZ p (o+dd x) (max m (o+dd x)) yQ
  omega
theorem Jp.apO {a b new:List ZV} {i gone:Nat} (S:Jp a b) (hi':i<b.length) (h:Tn CK (b.drop i) gone new):Jp a (b.take i++new++(b.drop i).drop gone)/\(b.take i++new++(b.drop i).drop gone).length<b.length/\i+gone<=b.length:=by
 obtain ⟨hl,hr⟩:=acL.1 S.WB
 have e:b=b.take i++b.drop i:=(leb i b).symm
 have hne:b.drop i≠[]:=fun e=>by grind
 rw [e] at hr
 obtain ⟨z,t,h1,h2⟩:=ag9 _ _ _ hr hne
 obtain ⟨hg,B⟩:=h.bet h2
 rw [lja]
 have hlen:(b.take i++(new++(b.drop i).drop gone)).length<b.length:=by
  have h3:=B.len
  rw [lca]
  rw [lIa] at h3
  rw [lCa]
  omega
 rw [lIa] at hg
 refine ⟨⟨acL.2 ⟨by omega,?_⟩,by have:=S.len;omega,?_,?_⟩,hlen,by omega⟩
 .rw [QK,h1];exact B.run
 .have h5:Fold.hi b 0 0 =Fold.hi (b.take i++b.drop i) 0 0:=by simp
  rw [RO (b.take i) (b.drop i)] at h5
  have h6:=B.hi (0+TM (b.take i)) ( Fold.hi (b.take i) 0 0) (ahZ _ _ _ (Int.le_refl _))
  rw [RO (b.take i) (new++(b.drop i).drop gone)]
  have h7:=S.hi
  rw [h5] at h7
  exact Int.le_trans h6 h7
 .have h5:Fold.cn b=Fold.cn (b.take i++b.drop i):=by simp
  rw [RN (b.take i) (b.drop i)] at h5
  have h6:=B.cn
  have h7:=S.cn
  rw [RN (b.take i) (new++(b.drop i).drop gone)]
  omega
structure Step (a b:List ZV):Prop where
 ex:∃i k gone new,i<a.length/\App k (a.drop i)/\Tn CK (a.drop i) gone new/\b=a.take i++new++(a.drop i).drop gone
inductive Reach (a:List ZV):List ZV->Prop
 | refl:Reach a a
 | tail {b c}:Reach a b->Yn b=0->Step b c->Reach a c
end Fold
namespace Fold
open Go YY Go.RowKit
open Xq
open Bm (On Qs Qr)
structure I6 (g:ZE):Prop where
 t32:Un g 2 0 (On Qs)
 t64:Un g 3 0 (On Qr)
theorem I6.ext {g g':ZE} (h:I6 g) (E:Ext g g'):I6 g':=⟨Un.ext h.t32 E,Un.ext h.t64 E⟩
instance (o:Int):Decidable (F6 o):=by unfold F6;infer_instance
theorem aja (a:Int):0<=a % 4294967296/\a % 4294967296<=4294967295:=by omega
theorem ajb (a:Int):0<=a % 18446744073709551616/\a % 18446744073709551616<=18446744073709551615:=by omega
section
variable {g:ZE} {w:World} {l:List As}
end
end Fold
namespace Rn
open Go YY Go.RowKit
open YV Zo X7 Y3 Valid Mem
section
variable {g:ZE} {w:World} {l:List As} {vs:Value} {stk:yp}
structure NP (d:Bq) (e:Int) (mem:yo) (Zh loc stk:yp):Prop where
 e1:e=d.e
 e2:mem=d.ins.mem
 e3:Zh=d.ins.Zh
 e4:loc=d.loc
 e5:e=0->stk=d.stk
theorem Ew {s:yp} (h:1<=s.length):∃a,s[s.length-1]?=some a/\top s 0=a/\a∈s:=by grind [top]
theorem bt1 {s:yp} (h:2<=s.length):∃a,s[s.length-1-1]?=some a/\top s 1=a/\a∈s:=by grind [top]
theorem Nv {s:yp} {a:Int} (h:1<=s.length):s.set (s.length-1) a=low s 1++[a]:=by
 obtain ⟨t,b,rfl⟩:=Oa h
 rw [Tq,lca,lpa,lxb,List.set_append_right _ _ (loa _),Nat.sub_self];rfl
theorem afq {s:yp} {a:Int} (h:2<=s.length):(s.set (s.length-1-1) a).take (s.length-1)=low s 2++[a]:=by
 obtain ⟨t,b,rfl⟩:=Oa (show 1<=s.length by omega)
 rw [lca,lpa] at h
 obtain ⟨t,c,rfl⟩:=Oa (show 1<=t.length by omega)
 rw [CW]
 have e1:(t++[c]++[b]).length-1-1=t.length:=by simp
 have e2:(t++[c]++[b]).length-1=t.length+1:=by simp
 rw [e1,e2,lja,List.set_append_right _ _ (loa _),Nat.sub_self]
 show (t++([a]++[b])).take _=_
 rw [<-lja,lAa yO,lua yO]
theorem aha (H:Sat g w (Sl 2 1 ZJ vs stk::l)) (hT:Fold.I6 g) (op:Int) (hop:0<=op/\op<=255) (hlen:stk.length<=100000) (TS:∀v∈stk,XC v) (hn:(Xf op).1.length<=stk.length) (h1:1<=(Xf op).1.length/\(Xf op).1.length<=2) :
  yq 202 #[.int .u8 op,vs] w (fun r w'=>∃vs' YP e,r=.tuple #[vs',yL e]/\(YP,e)=(if (Xf op).1.length=1 then (low stk 1++[(Xq.UO op (top stk 0)).1],(Xq.UO op (top stk 0)).2) else (low stk 2++[(Xq.UP op (top stk 1) (top stk 0)).1],(Xq.UP op (top stk 1) (top stk 0)).2))/\Sat g w' (Sl 2 1 ZJ vs' YP::l)):=by
 refine Fc.of Tryz.func202 rfl k_d ?_
 have aoL:=hT.t32
 have aoM:=hT.t64
 obtain ⟨a,ha,Im,Hq⟩:=Ew (s:=stk) yQ
 have Eu:=TS a Hq
 rw [Im]
 have hq:(Xf op).1.length=1\/(Xf op).1.length=2:=by omega
 rcases hq with hq|hq
 .rw [if_pos hq]
  refine YA H 0 rfl rfl<|ZW yQ ?_
  refine Z8.mk (Fc.imp (Valid.MT _ _) ?_)
  rintro _ w1 ⟨u1,⟨y1,⟨JN,⟨Hu,⟨q1,⟨rfl,⟨h2,H'⟩⟩⟩⟩⟩⟩⟩
  refine H.XX H' ?_
  clear H H'
  intro H
  refine YA H 1 rfl rfl ?_
  have hq1:JN.length=1:=by grind
  refine cT (ZI yQ) ?_
  obtain ⟨b1,o1,E1⟩:=H.Y1 2 rfl ((stk.length)-1) yQ
  refine ZG E1 yQ rfl rfl<|yB (H.el 2 rfl E1 ha) 0 yA ?_
  refine Z8.mk (Fc.imp (Xq.aoK H yQ yQ _ _ yQ yQ) ?_)
  rintro _ w2 ⟨r1,⟨e1,⟨rfl,⟨h3,H⟩⟩⟩⟩
  refine ZG E1 yQ rfl rfl<|Yg H 2 rfl E1 ha 0 (r1) rfl rfl rfl rfl<|fun w3 H=>Z6.mk ?_
  refine ⟨vs,stk.set (stk.length-1) r1,e1,?_⟩
  refine ⟨rfl,?_⟩
  constructor
  .grind [Nv]
  exact H.Z7 [2]<|fun H=>yz H [2,1]<|fun H=>H
 .rw [if_neg yQ]
  obtain ⟨b,hb,htb,EB⟩:=bt1 (s:=stk) yQ
  have aoS:=TS b EB
  rw [htb]
  refine YA H 0 rfl rfl<|ZW yQ ?_
  refine Z8.mk (Fc.imp (Valid.MT _ _) ?_)
  rintro _ w1 ⟨u1,⟨y1,⟨JN,⟨Hu,⟨q1,⟨rfl,⟨h2,H'⟩⟩⟩⟩⟩⟩⟩
  refine H.XX H' ?_
  clear H H'
  intro H
  refine YA H 1 rfl rfl ?_
  have hq1:JN.length=2:=by grind
  refine cF (Z5 yQ)<|ZL H [] [yJp0,yJp1,yJp2,yJp3,yJp4,yJh5,yJp6,yJp7,yJp8,yJh9,yJfr10,yJp11,yJp12,yJp13,yJp14,yJp15] mixed k_d k_d<|fun w2 H=>ZW yQ ?_
  obtain ⟨b1,o1,E1⟩:=H.Y1 2 rfl (((stk.length)-1)-1) yQ
  refine tk (fun _ Z=>ZG E1 yQ rfl rfl yM)<|tk (fun _ Z=>yB (Z.el 2 rfl E1 hb) 0 yA yM) ?_
  obtain ⟨b2,o2,E2⟩:=H.Y1 2 rfl ((stk.length)-1) yQ
  refine tk (fun _ Z=>ZG E2 yQ rfl rfl yM)<|tk (fun _ Z=>yB (Z.el 2 rfl E2 ha) 0 yA yM) ?_
  refine Z8.mk (Fc.imp (Xq.aoJ H _ _ _ yQ yQ yQ) ?_)
  rintro _ w1 ⟨r1,⟨e1,⟨rfl,⟨h3,H⟩⟩⟩⟩
  refine ZW yQ<|ZG E1 yQ rfl rfl<|Yg H 2 rfl E1 hb 0 (r1) rfl rfl rfl rfl<|fun w3 H=>NT H 2 rfl 0 ((stk.length)-1) rfl rfl yO yO (.inl ⟨rfl,rfl⟩) (.inr ⟨_,by first|rfl|(congr 2;(first|omega|(simp only [yq7,List.length_set,List.length_cons,List.length_nil];omega)|(simp;omega)|(simp;done)))⟩)<|fun v1 H=>Z6.mk ?_
  refine ⟨v1,List.drop 0 (List.take (stk.length-1) (stk.set (stk.length-1-1) r1)),e1,?_⟩
  refine ⟨rfl,?_⟩
  constructor
  .grind [afq]
  exact H.Z7 [2]<|fun H=>yz H [2,1]<|fun H=>H
end
end Rn
namespace Rn
open Go YY Go.RowKit
open YV Zo X7 Y3 Valid Mem
section
variable {g:ZE} {w:World} {l:List As} {m:Zq} {cp mp:Nat} {vp vt vg vl vs Sj:Value} {ps:List WV} {Zt Zh loc stk:yp} {x:ZV}
theorem Tp {ps:List WV}:(flat ps).length / 256=ps.length:=by grind [X0]
theorem al8 {s:yp}:List.drop 0 (List.take (s.length-1-1) s)=low s 2:=by rw [lYa,Nat.sub_sub];rfl
theorem Jo {s:yp}:List.drop 0 (List.take (s.length-1) s)=low s 1:=by rw [lYa];rfl
section
variable {a b e off n:Int} {wd:Int} {mem:yo} {d0 d1:Bq} {ps':List WV}
theorem aoT (h1:e=23) (h2:ps'=ps) (h3:¬(b % 4294967296+x.b+YV.wd x.op<=256 * ps.length)):NP (if ON b x.b+wid x.op<=(flat ps).length then ⟨⟨Mem.ow (flat ps) (ON b x.b).toNat (Mem.IU (wid x.op).toNat a),Zt,Zh⟩,loc,low stk 2,0⟩ else ⟨⟨flat ps,Zt,Zh⟩,loc,low stk 2,23⟩) e (flat ps') Zh loc (List.drop 0 (List.take (stk.length-1-1) stk)):=by
 rw [Q8] at h3
 rw [if_neg (by grind [ON,X0]),h1,h2]
 exact ⟨rfl,rfl,rfl,rfl,fun h=>by cases h⟩
theorem aoU (h1:e=0) (h3:b % 4294967296+x.b+YV.wd x.op<=256 * ps.length) (h2:flat ps'=ow (flat ps) (b % 4294967296+x.b).toNat (IU (YV.wd x.op).toNat a)):NP (if ON b x.b+wid x.op<=(flat ps).length then ⟨⟨Mem.ow (flat ps) (ON b x.b).toNat (Mem.IU (wid x.op).toNat a),Zt,Zh⟩,loc,low stk 2,0⟩ else ⟨⟨flat ps,Zt,Zh⟩,loc,low stk 2,23⟩) e (flat ps') Zh loc (List.drop 0 (List.take (stk.length-1-1) stk)):=by
 rw [Q8] at h3 h2
 rw [if_pos (by grind [ON,X0]),h1,h2]
 exact ⟨rfl,rfl,rfl,rfl,fun _=>al8⟩
theorem aoV (h1:e=23) (h3:¬(a % 4294967296+x.b+YV.wd x.op<=256 * ps.length)):NP (if ON a x.b+wid x.op<=(flat ps).length then ⟨⟨flat ps,Zt,Zh⟩,loc,low stk 1++[Mem.FA x.op (Mem.JJ (((flat ps).drop (ON a x.b).toNat).take (wid x.op).toNat))],0⟩ else ⟨⟨flat ps,Zt,Zh⟩,loc,low stk 1++[0],23⟩) e (flat ps) Zh loc (stk.set (stk.length-1) n):=by
 rw [Q8] at h3
 rw [if_neg (by grind [ON,X0]),h1]
 exact ⟨rfl,rfl,rfl,rfl,fun h=>by cases h⟩
theorem aoW (hs:1<=stk.length) (h1:e=0) (h3:a % 4294967296+x.b+YV.wd x.op<=256 * ps.length) (h2:n=FA x.op (JJ (((flat ps).drop (a % 4294967296+x.b).toNat).take (YV.wd x.op).toNat))):NP (if ON a x.b+wid x.op<=(flat ps).length then ⟨⟨flat ps,Zt,Zh⟩,loc,low stk 1++[Mem.FA x.op (Mem.JJ (((flat ps).drop (ON a x.b).toNat).take (wid x.op).toNat))],0⟩ else ⟨⟨flat ps,Zt,Zh⟩,loc,low stk 1++[0],23⟩) e (flat ps) Zh loc (stk.set (stk.length-1) n):=by
 rw [Q8] at h3 h2
 rw [if_pos (by grind [ON,X0]),h1,h2]
 exact ⟨rfl,rfl,rfl,rfl,fun _=>Nv hs⟩
end
theorem al9 (H:Sat g w (Pt cp (yN m [yK mp,vt,vg]) 158::Pt mp [vp,yL m.most] 221::Sl 223 256 Xh vp ps::Sl 3 1 ZJ vt Zt::Sl 2 1 ZJ vg Zh::Sl 2 1 ZJ vs stk::l)) (hw:0<wid x.op) (hop:0<=x.op/\x.op<=255) (hlen:stk.length<=100000) (TS:∀v∈stk,XC v) (hn:UE x.op<=stk.length) (hb:0<=x.b/\x.b<=4294967295) (hp:ps.length<=8) :
  yq 201 #[yK cp,.agg #[.int .u8 x.op,yL x.a,yL x.b,Sj],vs] w (fun r w'=>∃e vs' ps' YP,r=.tuple #[vs',yL e]/\(∀loc,NP (WE m.most x ⟨flat ps,Zt,Zh⟩ loc stk) e (flat ps') Zh loc YP)/\ps'.length=ps.length/\Sat g w' (Pt cp (yN m [yK mp,vt,vg]) 158::Pt mp [vp,yL m.most] 221::Sl 223 256 Xh vp ps'::Sl 3 1 ZJ vt Zt::Sl 2 1 ZJ vg Zh::Sl 2 1 ZJ vs' YP::l)):=by
 refine Fc.of Tryz.func201 rfl k_d ?_
 have B6:=RP hw
 have BB:=Q8 x.op
 have Om:=ac5 hw
 have hd:∀loc,WE m.most x ⟨flat ps,Zt,Zh⟩ loc stk=if 54<=x.op then
    if ON (top stk 1) x.b+wid x.op<=(flat ps).length then ⟨⟨Mem.ow (flat ps) (ON (top stk 1) x.b).toNat (Mem.IU (wid x.op).toNat (top stk 0)),Zt,Zh⟩,loc,low stk 2,0⟩
    else ⟨⟨flat ps,Zt,Zh⟩,loc,low stk 2,23⟩
   else if ON (top stk 0) x.b+wid x.op<=(flat ps).length then ⟨⟨flat ps,Zt,Zh⟩,loc,low stk 1++[Mem.FA x.op (Mem.JJ (((flat ps).drop (ON (top stk 0) x.b).toNat).take (wid x.op).toNat))],0⟩
   else ⟨⟨flat ps,Zt,Zh⟩,loc,low stk 1++[0],23⟩:=by
  intro loc
  unfold WE
  rw [if_neg yQ,if_neg yQ,if_neg yQ,if_neg yQ,if_neg yQ,if_neg yQ,if_neg yQ,if_neg yQ,if_neg yQ,if_neg yQ,if_pos hw]
 simp only [hd]
 clear hd
 unfold UE at hn
 rw [if_neg yQ,if_neg yQ,if_pos yQ,Om] at hn
 have hfl:=X0 ps
 by_cases h54:54<=x.op
 .rw [if_neg yQ] at hn
  have hn:2<=stk.length:=hn
  obtain ⟨a,ha,Im,Hq⟩:=Ew (s:=stk) yQ
  obtain ⟨b,hb',htb,EB⟩:=bt1 (s:=stk) yQ
  have Eu:=TS a Hq
  have aoS:=TS b EB
  simp only [Im,htb,if_pos h54]
  refine ZN H<|fun p1 w1 H=>YA H 6 rfl rfl<|ZW yQ<|Z9 rfl<|yI H 0 0 yF<|cT (Ya yP)<|ZL H [] [yJp0,yJp1,yJp2,yJh3,yJp4,yJh5,yJp6,yJp7,yJp8,yJp9,yJh10,yJp11,yJh12,yJp13,yJp14,yJp15,yJh16,yJfr17,yJp18] mixed k_d k_d<|fun w2 H=>yG rfl rfl<|yH 1 11 yF rfl<|yG rfl rfl<|yH 0 0 yF rfl<|ZW yQ ?_
  obtain ⟨b1,o1,E1⟩:=H.Y1 6 rfl (((stk.length)-1)-1) yQ
  refine tk (fun _ Z=>ZG E1 yQ rfl rfl yM)<|tk (fun _ Z=>yB (Z.el 6 rfl E1 hb') 0 yA yM)<|yG rfl rfl<|yH 0 2 yF rfl ?_
  obtain ⟨b2,o2,E2⟩:=H.Y1 6 rfl ((stk.length)-1) yQ
  refine tk (fun _ Z=>ZG E2 yQ rfl rfl yM)<|tk (fun _ Z=>yB (Z.el 6 rfl E2 ha) 0 yA yM)<|H.Z7 [3,3]<|fun H=>?_
  refine Z8.mk (Fc.imp (Mem.store H _ _ _ _ yQ yQ yQ yQ yQ) ?_)
  rintro _ w1 ⟨e1,⟨Qf,⟨rfl,⟨(⟨h1,⟨h2,h3⟩⟩|⟨h4,⟨h5,h6⟩⟩),⟨h7,H⟩⟩⟩⟩⟩
  .refine ZW yQ<|NT H 6 rfl 0 (((stk.length)-1)-1) rfl rfl yQ yQ (.inl ⟨rfl,rfl⟩) (.inr ⟨_,by first|rfl|(congr 2;omega)⟩)<|fun v1 H=>Z6.mk ?_
   refine ⟨e1,v1,Qf,List.drop 0 (List.take (stk.length-1-1) stk),?_⟩
   refine ⟨rfl,?_⟩
   constructor
   .exact fun loc=>aoT yP yP yP
   refine ⟨yQ,?_⟩
   exact H.Z7 [6,6,6,4,4,6]<|fun H=>H.drop 6<|fun H=>H
  refine ZW yQ<|NT H 6 rfl 0 (((stk.length)-1)-1) rfl rfl yQ yQ (.inl ⟨rfl,rfl⟩) (.inr ⟨_,by first|rfl|(congr 2;omega)⟩)<|fun v1 H=>Z6.mk ?_
  refine ⟨e1,v1,Qf,List.drop 0 (List.take (stk.length-1-1) stk),?_⟩
  refine ⟨rfl,?_⟩
  constructor
  .exact fun loc=>aoU yP yP yP
  refine ⟨yQ,?_⟩
  exact H.Z7 [6,6,6,4,4,6]<|fun H=>H.drop 6<|fun H=>H
 .rw [if_pos yQ] at hn
  have hn:1<=stk.length:=hn
  obtain ⟨a,ha,Im,Hq⟩:=Ew (s:=stk) yQ
  have Eu:=TS a Hq
  simp only [Im,if_neg h54]
  refine ZN H<|fun p1 w1 H=>YA H 6 rfl rfl<|ZW yQ<|Z9 rfl<|yI H 0 0 yF<|cF (Yv yQ)<|ZL H [] [yJp0,yJp1,yJp2,yJh3,yJp4,yJh5,yJp6,yJp7,yJp8,yJh9,yJp10,yJh11,yJfr12,yJp13,yJp14,yJp15,yJp16,yJp17] mixed k_d k_d<|fun w2 H=>yG rfl rfl<|yH 1 11 yF rfl<|yG rfl rfl<|yH 0 0 yF rfl ?_
  obtain ⟨b1,o1,E1⟩:=H.Y1 6 rfl ((stk.length)-1) yQ
  refine tk (fun _ Z=>ZG E1 yQ rfl rfl yM)<|tk (fun _ Z=>yB (Z.el 6 rfl E1 ha) 0 yA yM)<|yG rfl rfl<|yH 0 2 yF rfl<|H.Z7 [3,3]<|fun H=>?_
  refine Z8.mk (Fc.imp (Mem.load H _ _ _ yQ yQ yQ yQ) ?_)
  rintro _ w1 ⟨n1,⟨e1,⟨rfl,⟨(⟨h1,h2⟩|⟨h3,⟨h4,h5⟩⟩),H⟩⟩⟩⟩
  .refine ZG E1 yQ rfl rfl<|Yg H 6 rfl E1 ha 0 (n1) rfl rfl rfl rfl<|fun w3 H=>Z6.mk ?_
   refine ⟨e1,vs,ps,stk.set (stk.length-1) n1,?_⟩
   refine ⟨rfl,?_⟩
   constructor
   .exact fun loc=>aoV yP yP
   refine ⟨yQ,?_⟩
   exact H.Z7 [6,6,6,4,4,6]<|fun H=>H.drop 6<|fun H=>H
  refine ZG E1 yQ rfl rfl<|Yg H 6 rfl E1 ha 0 (n1) rfl rfl rfl rfl<|fun w3 H=>Z6.mk ?_
  refine ⟨e1,vs,ps,stk.set (stk.length-1) n1,?_⟩
  refine ⟨rfl,?_⟩
  constructor
  .exact fun loc=>aoW hn yP yP yP
  refine ⟨yQ,?_⟩
  exact H.Z7 [6,6,6,4,4,6]<|fun H=>H.drop 6<|fun H=>H
end
end Rn
end Go.Proofs.YtakpnepblgfknaaGreatDoor
