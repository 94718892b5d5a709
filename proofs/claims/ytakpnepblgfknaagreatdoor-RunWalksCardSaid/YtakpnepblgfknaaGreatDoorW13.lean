import Derived.Test.YtakpnepblgfknaaGreatDoorW12
import Derived.Lib.LaidTab
import Derived.Test.YtakpnepblgfknaaGreatDoorTie
import Derived.SevenTiedAt
import Derived.Lib.LaidU8T
import Derived.LaidMore
import Derived.Lay
import Derived.Stop.LaidErr
set_option maxRecDepth 100000
set_option maxHeartbeats 4000000
set_option linter.unusedVariables false
set_option linter.unusedSimpArgs false
set_option linter.defProp false
namespace Go.Proofs.YtakpnepblgfknaaGreatDoor
namespace Wk
open Go YY Go.RowKit
open YT Zl X6 YP Valid Mem Rn
section
variable {g:Zz} {w:World} {l:List As} {m:Zj} {xt xg va vn:Value} {f:Int} {args Zb:xO}
def ao9:Value:=.agg #[.int .i64 0,.slice none 0 0,.int .i64 0,.int .i64 0,.int .i64 0]
def apa:Value:=.agg #[.string (bs []),.slice none 0 0,.slice none 0 0]
theorem amU (H:Sat g w l) (hT:X6.NR g) (hB:Fold.JI g) (hm:XE g m) (h0:Wm m.d=0) (I:WR) (hI:VK (Yw m.d) I) (JM:XR.Tl m I.mem.length I.Zx I.Zp=0) (ho:KB I.mem m.most) (ht:Z0 g ZJ WD 1 xt I.Zx) (hg:Z0 g ZJ WD 1 xg I.Zp) (hf:XB f) (ha:Z0 g ZJ WD 1 va args) (hn:Z0 g ZJ WD 1 vn Zb) (n:Nat) (EU:n<=100000) :
  xP 17 #[.agg (yl m []).toArray,.agg #[.string (bs I.mem),xt,xg],yh f,va,vn,yh n] w (fun r w'=>∃(e:Int) (S1:MS),SK (Yw m.d) ⟨I,[],0⟩ f args e S1 /\
   ((e≠0/\r=.tuple #[ao9,apa,.slice none 0 0,yh e]/\Sat g w' l) \/
   (e=0/\∃(g':Zz) (o:Wb) (S':MS) (vv vt vg vq:Value) (qs:List Xr),r=.tuple #[.agg #[yh o.e,vv,yh o.X7,yh o.host,yh o.left],.agg #[.string (bs S'.ins.mem),vt,vg],vq,yh 0]/\Ext g g'/\Xt (Yw m.d) S1 Zb n S' o (qs.map Xr.d)/\(o.e=1\/o.e=2\/o.e=3)/\((o.e=3->o.left=0)/\0<=o.left/\o.left<=n)/\((∀v∈S'.ins.Zx,XB v)/\∀v∈S'.ins.Zp,XB v)/\Z0 g' ZJ WD 1 vv o.vals/\Z0 g' JH (Qj g') 2 vq qs/\Sat g' w' (Sl 3 1 ZJ vt S'.ins.Zx::Sl 2 1 ZJ vg S'.ins.Zp::l)))):=by
 obtain ⟨mem,ts,gs⟩:=I
 have P:=afN hm h0
 have hnf:=P.nf
 have hni:=P.ni
 have amg:m.d.ZA.length=m.ZA.length:=rfl
 have FR:Y8 (Yw m.d)=m.ZA.length:=rfl
 have amh:m.d.funcs.length=m.funcs.length:=lea ..
 have amV:(Yw m.d).funcs.length=m.funcs.length:=lea ..
 obtain ⟨z1,z2,z3,z4,z5,z6,z7,z8⟩:=No h0
 have hml:mem.length<=100000:=by obtain ⟨_,o2,o3,o4⟩:=ho;simp only at o2 o3 o4;omega
 have apV:mem.length<=1000000:=by omega
 have ZP:=hm.types
 have Zu:=hm.ZA
 have ZT:=hm.funcs
 have Ff:=hf.1
 have JP:=hf.2
 simp only at JM ht hg
 refine Fc.of Tryz.func17 rfl k_d ?_
 by_cases hr:f<Y8 (Yw m.d)\/Y8 (Yw m.d)+(Yw m.d).funcs.length<=f
 .rw [FR,amV] at hr
  rcases hr with hr|hr
  .by_cases hz:f<0
   .refine ZL H<|fun p1 w1 H=>ZL H<|fun p2 w2 H=>ZV H rfl<|fun p3 w1 H=>ZV H rfl<|fun p4 w2 H=>ZC (H.at 3 rfl) 0 rfl rfl rfl<|ZC (H.at 2 rfl) 0 rfl rfl rfl ?_
    refine Z7.mk (Fc.imp (XR.fits H yp yp _ _ _ _ _ yp ht hg) ?_)
    clear H
    rintro _ w1 ⟨e1,⟨rfl,⟨h1,H⟩⟩⟩
    have CN:=(by assumption:_=XR.Tl m mem.length ts gs).trans JM
    exact Z9 rfl<|ye H 3 1 x9<|ZF Zu rfl<|WK.keep<|bk<|cF (XL yo)<|Vt (Y9 yo)<|cT rfl<|cT (WE yp)<|Zn rfl rfl rfl<|Zn rfl rfl rfl<|ZG H 1 rfl rfl rfl rfl<|fun w3 H=>ZG H 0 rfl rfl rfl rfl<|fun w1 H=>XM (H.at 1 rfl) 0 rfl rfl rfl<|XM (H.at 0 rfl) 0 rfl rfl rfl<|Z6.mk ⟨8,_,.inl ⟨rfl,.inl yp,rfl⟩,.inl ⟨by decide,rfl,(((H.del 0).del 0).del 0).del 0⟩⟩
   .refine ZL H<|fun p1 w1 H=>ZL H<|fun p2 w2 H=>ZV H rfl<|fun p3 w1 H=>ZV H rfl<|fun p4 w2 H=>ZC (H.at 3 rfl) 0 rfl rfl rfl<|ZC (H.at 2 rfl) 0 rfl rfl rfl ?_
    refine Z7.mk (Fc.imp (XR.fits H yp yp _ _ _ _ _ yp ht hg) ?_)
    clear H
    rintro _ w1 ⟨e1,⟨rfl,⟨h1,H⟩⟩⟩
    have CN:=(by assumption:_=XR.Tl m mem.length ts gs).trans JM
    exact Z9 rfl<|ye H 3 1 x9<|ZF Zu rfl<|ZX yp<|bk<|cF (XL yo)<|XP (Zs yp)<|Vt (Y9 yp)<|cT rfl<|cT (WE yp)<|Zn rfl rfl rfl<|Zn rfl rfl rfl<|ZG H 1 rfl rfl rfl rfl<|fun w3 H=>ZG H 0 rfl rfl rfl rfl<|fun w1 H=>XM (H.at 1 rfl) 0 rfl rfl rfl<|XM (H.at 0 rfl) 0 rfl rfl rfl<|Z6.mk ⟨8,_,.inl ⟨rfl,.inl yp,rfl⟩,.inl ⟨by decide,rfl,(((H.del 0).del 0).del 0).del 0⟩⟩
  .refine ZL H<|fun p1 w1 H=>ZL H<|fun p2 w2 H=>ZV H rfl<|fun p3 w1 H=>ZV H rfl<|fun p4 w2 H=>ZC (H.at 3 rfl) 0 rfl rfl rfl<|ZC (H.at 2 rfl) 0 rfl rfl rfl ?_
   refine Z7.mk (Fc.imp (XR.fits H yp yp _ _ _ _ _ yp ht hg) ?_)
   clear H
   rintro _ w1 ⟨e1,⟨rfl,⟨h1,H⟩⟩⟩
   have CN:=(by assumption:_=XR.Tl m mem.length ts gs).trans JM
   exact Z9 rfl<|ye H 3 1 x9<|ZF Zu rfl<|ZX yp<|bk<|cF (XL yo)<|XP (Zs yp)<|XP (Zs yp)<|Z9 rfl<|ye H 3 2 x9<|ZF ZT rfl<|cT (Yc yp)<|cT (WE yp)<|Zn rfl rfl rfl<|Zn rfl rfl rfl<|ZG H 1 rfl rfl rfl rfl<|fun w3 H=>ZG H 0 rfl rfl rfl rfl<|fun w1 H=>XM (H.at 1 rfl) 0 rfl rfl rfl<|XM (H.at 0 rfl) 0 rfl rfl rfl<|Z6.mk ⟨8,_,.inl ⟨rfl,.inr yp,rfl⟩,.inl ⟨by decide,rfl,(((H.del 0).del 0).del 0).del 0⟩⟩
 have hlt:f<(m.ZA.length:Int)+m.funcs.length:=by omega
 have hge:(m.ZA.length:Int)<=f:=by omega
 obtain ⟨q,hq⟩:=lqa (show 0<=f-m.ZA.length by omega)
 obtain ⟨F,Ct⟩:∃F,m.funcs[q]?=some F:=⟨_,laa yp⟩
 have BN:Zg (Yw m.d) (f-Y8 (Yw m.d))=F.d:=by
  rw [FR,hq]
  unfold Zg
  show (m.funcs.map Yr.d).getD ((q:Int)).toNat _=_
  rw [lia0,lha,lva,Ct];rfl
 have yN:F.d∈m.d.funcs:=lbb.2 ⟨F,lda Ct,rfl⟩
 have amW:=(P.fn F.d yN).ty
 have amX:0<=F.ty:=amW.1
 obtain ⟨ty,hty⟩:=lqa amX
 have NC:m.d.types.length=m.types.length:=lea ..
 have apx:F.ty<m.types.length:=by have:=amW.2;rw [NC] at this;exact this
 obtain ⟨t,zO⟩:∃t,m.types[ty]?=some t:=⟨_,laa yp⟩
 have Fj:UN (Yw m.d) F.d=t.d:=by
  unfold UN
  show (m.types.map Xx.d).getD (F.ty).toNat _=_
  rw [hty,lia0,lha,lva,zO];rfl
 have hsi:(UN (Yw m.d) (Zg (Yw m.d) (f-Y8 (Yw m.d)))).Zh=t.Zh:=by rw [BN,Fj];rfl
 have Cs:m.types[F.ty.toNat]?=some t:=by grind
 have apb:ts.length<=1000:=by have h1:=hI.tl;have h2:=P.Zx;have h3:(Yw m.d).table=m.d.table:=rfl;simp only at h1;omega
 have apc:gs.length<=1000:=by have h1:=hI.gl;have h2:(Yw m.d).globals=m.globals:=rfl;simp only at h1;rw [h2] at h1;omega
 have apd:WI g t:=ZP.all t (lda zO)
 have J3:=apd.Zh
 have Cx:t.Zh.length<=4:=(P.sig t.d (lbb.2 ⟨t,lda zO,rfl⟩)).1
 refine ZL H<|fun p1 w1 H=>ZL H<|fun p2 w2 H=>ZV H rfl<|fun p3 w1 H=>ZV H rfl<|fun p4 w2 H=>ZC (H.at 3 rfl) 0 rfl rfl rfl<|ZC (H.at 2 rfl) 0 rfl rfl rfl ?_
 refine Z7.mk (Fc.imp (XR.fits H yp yp _ _ _ _ _ yp ht hg) ?_)
 clear H
 rintro _ w1 ⟨e1,⟨rfl,⟨h1,H⟩⟩⟩
 have CN:=(by assumption:_=XR.Tl m mem.length ts gs).trans JM
 refine Z9 rfl<|ye H 3 1 x9<|ZF Zu rfl ?_
 refine ⟨(q:Int),by rw [R9 yp];omega,?_⟩
 by_cases hal:args.length=t.Zh.length
 rotate_left
 .refine bk<|cF (XL yo)<|XP (Zs yp)<|XP (Zs yp)<|Z9 rfl<|ye H 3 2 x9<|ZF ZT rfl<|cF (Yy yp)<|ZN H [] [yfp0,yfp1,yfp2,yfh3,yfp4,yfh5,yfp6,yfp7,yfp8,yfh9,yfp10,yfp11,yfh12,yfp13,yfp14,yfp15] mixed k_d k_d<|fun w3 H=>tk (fun _ Z=>ZF ha rfl yj)<|yc rfl rfl<|yd 3 0 x9 rfl<|yc rfl rfl<|yd 3 2 x9 rfl ?_
  obtain ⟨b1,o1,E1,F1,ZH⟩:=Z0.Y5 ZT Ct
  have XS:=ZH.ty
  have Zv:=ZH.loc
  have ZE:=ZH.body
  refine tk (fun _ Z=>ZI E1 rfl rfl rfl yj)<|yc rfl rfl<|tk (fun _ Z=>xW (Z.Yt F1) 0 xV yj) ?_
  obtain ⟨b2,o2,E2,F2,YB⟩:=Z0.Y5 ZP Cs
  have Yz:=YB.Zh
  have YK:=YB.out
  exact tk (fun _ Z=>ZI E2 yp rfl rfl yj)<|yc rfl rfl<|tk (fun _ Z=>xW (Z.Yt F2) 0 xV yj)<|tk (fun _ Z=>ZF Yz rfl yj)<|cT (WE yp)<|cT (WE yp)<|cT (WE yp)<|Zn rfl rfl rfl<|Zn rfl rfl rfl<|ZG H 1 rfl rfl rfl rfl<|fun w1 H=>ZG H 0 rfl rfl rfl rfl<|fun w3 H=>XM (H.at 1 rfl) 0 rfl rfl rfl<|XM (H.at 0 rfl) 0 rfl rfl rfl<|Z6.mk ⟨1,_,.inr ⟨hr,.inl ⟨rfl,by rw [hsi];exact hal,rfl⟩⟩,.inl ⟨by decide,rfl,(((H.del 0).del 0).del 0).del 0⟩⟩
 refine bk<|cF (XL yo)<|XP (Zs yp)<|XP (Zs yp)<|Z9 rfl<|ye H 3 2 x9<|ZF ZT rfl<|cF (Yy yp)<|ZN H [] [yfp0,yfp1,yfp2,yfh3,yfp4,yfh5,yfp6,yfp7,yfp8,yfh9,yfp10,yfp11,yfh12,yfp13,yfp14,yfp15] mixed k_d k_d<|fun w3 H=>tk (fun _ Z=>ZF ha rfl yj)<|yc rfl rfl<|yd 3 0 x9 rfl<|yc rfl rfl<|yd 3 2 x9 rfl ?_
 obtain ⟨b1,o1,E1,F1,ZH⟩:=Z0.Y5 ZT Ct
 have XS:=ZH.ty
 have Zv:=ZH.loc
 have ZE:=ZH.body
 refine tk (fun _ Z=>ZI E1 rfl rfl rfl yj)<|yc rfl rfl<|tk (fun _ Z=>xW (Z.Yt F1) 0 xV yj) ?_
 obtain ⟨b2,o2,E2,F2,YB⟩:=Z0.Y5 ZP Cs
 have Yz:=YB.Zh
 have YK:=YB.out
 refine tk (fun _ Z=>ZI E2 yp rfl rfl yj)<|yc rfl rfl<|tk (fun _ Z=>xW (Z.Yt F2) 0 xV yj)<|tk (fun _ Z=>ZF Yz rfl yj)<|cF (XL yp)<|cF (Zs yp)<|cF (Zs yp)<|cF (XL yo)<|ZC (H.at 3 rfl) 0 rfl rfl rfl<|ZC (H.at 2 rfl) 0 rfl rfl rfl ?_
 refine Z7.mk (Fc.imp (adb H hm h0 ho ht hg apb apc) ?_)
 clear H
 rintro _ w4 ⟨g2,K,cp,mp,vt,vg,vp,ps,rfl,E2,hk,Uf,hfl,To,H⟩
 have hmo:K.most=m.most:=yq5 Y3.most Uf
 have hm2:=hm.ext E2
 have Ft:=hB.ext E2
 have IZ:=hm2.funcs
 have PK:VJ K.d:=by rw [Uf];exact JV P
 obtain ⟨a1,c1,rfl⟩:=Z0.form hn
 refine Zn rfl rfl rfl<|ZL H<|fun p5 w1 H=>Z9 rfl<|ye H 9 2 x9<|ZF IZ rfl ?_
 replace H:=H.Ve 115 (en:=IK) (s:=1) (fun _=>rfl)
 refine YV.rule (α:=Nat × Zz × Value × xM) (0,g2,.slice none 0 0,[]) (fun x_=>[(89,yh x_.1)]) (fun x_ w_=>(Ext g2 x_.2.1)/\(∀(k:Nat) (v:Value),x_.2.2.2[k]?=some v->Sk K x_.2.1 v 0 (k:Int) 0 ((Zg K.d k).body.length-1))/\(x_.2.2.2.length=x_.1)/\(x_.1<=m.funcs.length)/\Sat x_.2.1 w_ ((Sl 115 1 IK x_.2.2.1 x_.2.2.2::Pt p5 [yg cp,x_.2.2.1,.slice a1 Zb.length c1,.slice none 0 0,yh n,yh 0,yh 0] 113::Pt cp (yl K [yg mp,vt,vg]) 158::Pt mp [vp,yh m.most] 221::Sl 223 256 Xm vp ps::Sl 3 1 ZJ vt ts::Sl 2 1 ZJ vg gs::Pt p4 [.string (bs []),.slice none 0 0,.slice none 0 0] 34::Pt p3 [yh 0,.slice none 0 0,yh 0,yh 0,yh 0] 41::Pt p2 [.string (bs mem),xt,xg] 34::Pt p1 (yl m []) 30::l))) (fun x_=>m.funcs.length-x_.1) ?_ ?_ ?_
 .exact k_a
 .try simp only
  constructor
  .exact Ext.refl _
  constructor
  .simp
  refine ⟨rfl,?_⟩
  refine ⟨yp,?_⟩
  exact H
 clear H
 rintro ⟨i,g3,vb,Q5⟩ f_ w_ ⟨hE,zN,BL,hi,H⟩
 try simp only at hE zN BL hi H ⊢
 have yz:=hk.ext hE
 have Bv:=Ft.ext hE
 have hm3:=hm2.ext hE
 have K7:=hm3.funcs
 have hone:∀v∈Q5,v.oneCell'=true:=fun v hv=>by
  obtain ⟨k,hk,rfl⟩:=lnb.1 hv
  exact (zN k _ (laa hk)).one
 by_cases hil:i<m.funcs.length
 .obtain ⟨Fi,yy⟩:∃F,m.funcs[i]?=some F:=⟨_,laa hil⟩
  have AV:Zg K.d i=Fi.d:=by
   rw [Uf]
   unfold Zg
   show (m.funcs.map Yr.d).getD ((i:Int)).toNat _=_
   rw [lia0,lha,lva,yy];rfl
  have ape:Zg K.d i∈K.d.funcs:=RP yp (by grind)
  obtain ⟨Es,Ls,Q⟩:=(PK.fn _ ape).snd
  obtain ⟨kk,xe,hkk,Cv,h11,sg⟩:=abS Q.hc
  have apf:=K7.all Fi (lda yy)
  have yx:=apf.body
  refine cT (Y9 yp)<|bk ?_
  obtain ⟨b3,o3,E3,F3,W5⟩:=Z0.Y5 K7 yy
  have ana:=W5.ty
  have abT:=W5.loc
  have aaQ:=W5.body
  refine ZI E3 rfl rfl rfl<|ZC (H.Yt F3) 0 rfl rfl rfl<|ZV H rfl<|fun p6 w4 H=>ZG H 0 rfl rfl rfl (by simp only [yq9,yq8,H.one 1 rfl,H.one 5 rfl,H.one 6 rfl,H.one 7 rfl,Z0.one aaQ,Z0.one abT,Z0.one yx,Z0.one K7,Z0.one hn,Z0.one IZ,Z0.one YK,Z0.one Yz,Z0.one ZE,Z0.one Zv,Z0.one J3,Z0.one ZT,Z0.one Zu,Z0.one ZP,Z0.one hg,Z0.one ht,Z0.one ha];rfl)<|fun w5 H=>Z9 rfl<|ye H 0 2 x9 ?_
  refine Z7.mk (Fc.imp (aj3 (m:=K) (fn:=i) (xs:=Fi.body) PK (by rw [AV];rfl) Q Fi.body.length (k:=0) (j:=kk) yp H yz Bv yx sg) ?_)
  clear H
  rintro _ w5 ⟨g4,vc,v4,rfl,E4,Cw,D3,H⟩
  obtain ⟨cf,cc,rfl⟩:=Cw.form
  refine Z9 rfl<|ye H 2 1 x9<|ZZ H rfl rfl rfl rfl<|fun p7 w4 H=>WO (ys:=[_]) 8 H 2 rfl (H.at 0 rfl) rfl (fun y hy=>by rw [lpa.1 hy];simp only [Wk.IK,yq9,yq8,H.one 2 rfl,H.one 6 rfl,H.one 7 rfl,H.one 8 rfl,Z0.one D3,Z0.one aaQ,Z0.one abT,Z0.one yx,Z0.one K7,Z0.one hn,Z0.one IZ,Z0.one YK,Z0.one Yz,Z0.one ZE,Z0.one Zv,Z0.one J3,Z0.one ZT,Z0.one Zu,Z0.one ZP,Z0.one hg,Z0.one ht,Z0.one ha];rfl) rfl rfl rfl yp yp<|fun v1 w6 H=>Z9 rfl<|Yo H 3 rfl rfl rfl (H.one 2 rfl)<|fun w4 H=>ZX yp ?_
  refine W0.mk (i+1,g4,_,Q5++[Value.func (Fn.func cf) #[] cc]) (Zr rfl yp ZW) ⟨hE.trans E4,fun k v hv=>?_,by simp only [yq7,List.length_singleton];omega,by simp only;omega,(H.del 0).del 0⟩ yp
  by_cases hki:k<Q5.length
  .rw [lRa hki] at hv
   exact (zN k v hv).ext E4
  .grind
 obtain rfl:i=m.funcs.length:=by omega
 refine H.Vj 0 (fun _=>True) rfl (fun _ _=>trivial)<|fun g4 E4 yu H=>?_
 have BI:=(E2.trans hE).trans E4
 replace F1:=Uo.ext F1 BI
 replace F2:=Uo.ext F2 BI
 replace ha:=Z0.ext ha BI
 replace hn:=Z0.ext hn BI
 replace J3:=Z0.ext J3 BI
 have hk4:=yz.ext E4
 have hm4:=hm3.ext E4
 have hB4:=Bv.ext E4
 have Cr:=hm4.types
 have amY:=hm4.funcs
 have ao5:args.length=t.Zh.length:=hal
 have hfa:(fitAll t.Zh args).length=t.Zh.length:=by grind [fitAll]
 refine cF (Zs yp)<|ZN H [] [yfp0,yfh1,yfp2,yfh3,yfp4,yfp5,yfp6,yfh7,yfp8,yfp9,yfh10,yfp11,yfp12] mixed k_d k_d<|fun w4 H=>yc rfl rfl<|yd 9 0 x9 rfl<|yc rfl rfl<|yd 9 2 x9 rfl<|tk (fun _ Z=>ZI E1 rfl rfl rfl yj)<|yc rfl rfl<|tk (fun _ Z=>xW (Z.Yt F1) 0 xV yj) ?_
 obtain ⟨b3,o3,E3,F3,W5⟩:=Z0.Y5 Cr Cs
 have ON:=W5.Zh
 have abU:=W5.out
 refine tk (fun _ Z=>ZI E3 yp rfl rfl yj)<|yc rfl rfl<|tk (fun _ Z=>xW (Z.Yt F3) 0 xV yj)<|tk (fun _ Z=>ZF ON rfl yj) ?_
 replace H:=H.Ve (en:=ZJ) (s:=1) 2 (fun _=>rfl)
 refine YV.rule (α:=Nat × Value) (0,.slice none 0 0) (fun x_=>[(122,yh x_.1),(23,x_.2)]) (fun x_ w_=>(x_.1<=t.Zh.length)/\Sat g4 w_ ((Sl 2 1 ZJ x_.2 ((fitAll t.Zh args).take x_.1)::Pt p5 [yg cp,vb,.slice a1 Zb.length c1,.slice none 0 0,yh n,yh 0,yh 0] 113::Pt cp (yl K [yg mp,vt,vg]) 158::Pt mp [vp,yh m.most] 221::Sl 223 256 Xm vp ps::Sl 3 1 ZJ vt ts::Sl 2 1 ZJ vg gs::Pt p4 [.string (bs []),.slice none 0 0,.slice none 0 0] 34::Pt p3 [yh 0,.slice none 0 0,yh 0,yh 0,yh 0] 41::Pt p2 [.string (bs mem),xt,xg] 34::Pt p1 (yl m []) 30::l))) (fun x_=>t.Zh.length-x_.1) ?_ ?_ ?_
 .exact k_a
 .grind
 clear H
 rintro ⟨k,v9⟩ f_ w_ ⟨hkt,H⟩
 try simp only at hkt H ⊢
 have Gv:((fitAll t.Zh args).take k).length=k:=by grind
 by_cases Jq:k<t.Zh.length
 .obtain ⟨y1,hy1⟩:∃y,t.Zh[k]?=some y:=⟨_,laa Jq⟩
  obtain ⟨y2,Ag⟩:∃y,args[k]?=some y:=⟨_,laa yp⟩
  have e0:(fitAll t.Zh args)[k]?=some (XR.Tm y1 y2):=by grind [fitAll]
  have e1:(fitAll t.Zh args).take (k+1)=(fitAll t.Zh args).take k++[XR.Tm y1 y2]:=by grind [List.take_add_one]
  refine cT (Y9 yp)<|bk ?_
  obtain ⟨b4,o4,E5,F4,TB⟩:=Z0.Y5 ON hy1
  refine ZI E5 rfl rfl rfl<|xW (H.Yt F4) 0 xV ?_
  obtain ⟨b5,o5,E6,F5,aoK⟩:=Z0.Y5 ha Ag
  refine ZI E6 rfl rfl rfl<|xW (H.Yt F5) 0 xV ?_
  refine Z7.mk (Fc.imp (XR.G5 H _ _) ?_)
  clear H
  rintro _ w5 ⟨r1,⟨rfl,⟨h2,H⟩⟩⟩
  refine ZZ H rfl rfl rfl rfl<|fun p6 w6 H=>WO (ys:=[_]) 8 H 1 rfl (H.at 0 rfl) rfl (fun y _=>rfl) rfl rfl rfl yp yp<|fun v1 w5 H=>ZX yp ?_
  have hr1:r1=XR.Tm y1 y2:=by omega
  rw [hr1,<-e1] at H
  exact W0.mk (k+1,v1) (Zr rfl yp (ZO rfl ZW)) ⟨by simp only;omega,H.del 0⟩ yp
 obtain rfl:k=t.Zh.length:=by omega
 rw [lta yp] at H
 have hfq:f-Y8 (Yw m.d)=q:=by omega
 have CE:Rn.ZY (Yw m.d) ⟨⟨mem,ts,gs⟩,[],0⟩ f args=⟨⟨mem,ts,gs⟩,[⟨(q:Int),0,fitAll t.Zh args++List.replicate (Zg K.d q).loc.length 0,[]⟩],0⟩:=by grind [Rn.ZY]
 have TY:=abM (S:=⟨⟨mem,ts,gs⟩,[],0⟩) (JV P) hI (f:=f) yp yp (args:=args) (by grind) (fun v hv=>ha.all v hv)
 rw [CE,<-Uf] at TY
 have zR:SK (Yw m.d) ⟨⟨mem,ts,gs⟩,[],0⟩ f args 0 (Rn.ZY (Yw m.d) ⟨⟨mem,ts,gs⟩,[],0⟩ f args):=.inr ⟨hr,.inr ⟨rfl,by rw [hsi];exact hal,rfl⟩⟩
 refine cF (Zs yp) ?_
 rw [<-hmo] at H
 replace H:=IL (I:=⟨mem,ts,gs⟩) (by rw [hfl]) To ((H.Ve 47 (en:=JH) (s:=2) (fun _=>rfl)).Z8 [11,11,11,11,5,5,11,11,11,11,11,11] fun H=>H)
 refine Z7.mk (Fc.imp (ao8 hk4 PK yu (by rw [BL,<-amV,<-Uf];exact lea ..) (fun k v hv=>(zN k v hv).ext E4) n g4 _ _ p5 _ v9 ⟨mem,ts,gs⟩ Zb (fitAll t.Zh args) [] (q:Int) [] (Ext.refl g4) H ⟨hn,fun a h=>hn.all a h,fun a h=>absurd h lUb,(by grind)⟩ TY) ?_)
 clear H
 rintro _ w6 ⟨g5,Wu,vv,ov,I',YQ,n2,lq,tr,vals,Qh,rfl,E5,En,HG,K2,H⟩
 replace H:=JU H
 obtain ⟨yB,yA,AH,AG,CL,BK,ps2,G0,J2,BJ,h82,H⟩:=H
 have D2:∀v∈Zb,XB v:=fun v hv=>hn.all v hv
 have AF:=Ends.ins PK TY rfl D2 En
 rw [BJ] at AF
 have Qo:G0.length<=1000:=by have h1:=AF.tl;have h2:=PK.Zx;simp only at h1;omega
 have DT:J2.length<=1000:=by
  have h1:=AF.gl
  have h2:K.d.globals=m.globals:=by rw [Uf];rfl
  simp only at h1
  rw [h2] at h1
  omega
 have apg:∀v∈G0,XB v:=fun v hv=>by
  have h1:=AF.Zx v hv
  rw [Uf] at h1
  have h2:(Yw m.d).ZA.length=m.ZA.length:=rfl
  unfold XB
  omega
 have yK:(∀v∈G0,XB v)/\∀v∈J2,XB v:=⟨apg,AF.GU⟩
 have PW:∀{S9:MS} {o:Wb},Xt K.d ⟨⟨mem,ts,gs⟩,[]++[⟨(q:Int),0,fitAll t.Zh args++List.replicate (Zg K.d q).loc.length 0,[]⟩],0⟩ Zb n S9 o (lq++[])->Xt (Yw m.d) (Rn.ZY (Yw m.d) ⟨⟨mem,ts,gs⟩,[],0⟩ f args) Zb n S9 o (Qh.map Xr.d):=fun h=>by
  rw [CE,<-Uf,show Qh.map Xr.d=lq from HG]
  rwa [lna] at h
 refine Z9 rfl<|ye H 0 4 x9<|Zn rfl rfl rfl<|ZV H rfl<|fun p6 w5 H=>ZG H 0 rfl rfl rfl rfl<|fun w6 H=>?_
 refine Qf (α:=Int × Int × Value × xO) (fun x_=>[]) (fun x_ w_=>(∃S9,Xt (Yw m.d) (Rn.ZY (Yw m.d) ⟨⟨mem,ts,gs⟩,[],0⟩ f args) Zb n S9 ⟨x_.1,x_.2.2.2,x_.2.1,0,n2⟩ (Qh.map Xr.d)/\S9.ins=⟨flat ps2,G0,J2⟩)/\(x_.1=1\/x_.1=2\/x_.1=3)/\((x_.1=3->(n2:Int)=0)/\n2<=n)/\(∀v∈x_.2.2.2,XB v)/\Sat g5 w_ ((Sl 2 1 ZJ x_.2.2.1 x_.2.2.2::Pt p6 [yh x_.1,x_.2.2.1,yh x_.2.1,yh 0,yh n2] 41::Pt p5 [yg yB,vb,Wu,BK,yh n2,yh 0,yh tr] 113::Pt yB (yl K [yg yA,AH,AG]) 158::Pt yA [CL,yh K.most] 221::Sl 223 256 Xm CL ps2::Sl 3 1 ZJ AH G0::Sl 2 1 ZJ AG J2::Sl 47 2 JH BK Qh::Pt p4 [.string (bs []),.slice none 0 0,.slice none 0 0] 34::Pt p3 [yh 0,.slice none 0 0,yh 0,yh 0,yh 0] 41::l))) ?_ ?_
 .cases En with
  | @over _ _ _ _ HO _ kk2 z2 amZ Eg am0 R =>
   have CR:=(Vb (R.ty PK TY rfl D2).1).1
   have hvl:=UM PK CR
   obtain ⟨Es,Ls,Q⟩:=(CR.fr.f PK).snd
   have hkv:=(HW Q Eg am0 (Tq CR)).1 amZ
   have hnn:=R.fuel
   have Pl:=R.CC (adI (ajQ Eg am0 amZ))
   rw [BJ] at Pl
   refine cT rfl<|H.Z8 [8]<|fun H=>?_
   refine Z7.mk (Fc.imp (Rn.QC H yp) ?_)
   clear H
   rintro v' w5 H
   exact Z9 rfl<|Yo H 2 rfl rfl rfl rfl<|fun w7 H=>Z9 rfl<|Yo H 2 rfl rfl rfl (H.one 0 rfl)<|fun w5 H=>Jn.mk (1,0,v',vals) ZW ⟨⟨_,PW Pl,rfl⟩,.inl rfl,⟨fun h=>by simp at h,hnn⟩,hkv.i64,((H.del 1).del 12).del 11⟩
  | no O =>
   have hnn:=O.fuel
   cases O with
   | way a=>omega
   | @X7 S9 S8 _ _ _ _ _ _ R st =>
    have A:=Ws PK (R.ty PK TY rfl D2).1 (R.ty PK TY rfl D2).2.1 st
    have htr:tr≠0:=by have:=A.2.2.2.1;omega
    exact cF rfl<|Z9 rfl<|ye H 1 6 x9<|cT (WE yo)<|ZN H [0] [yfp0,yfp1,yfp2,yfh3,yfp4,yff5,yfp6,yffr7] mixed k_d k_d<|fun w5 H=>yc rfl rfl<|yd 0 6 x9 rfl<|yc rfl rfl<|Yo H 0 rfl rfl rfl rfl<|fun w6 H=>Y2.mk (H.drop 0 (fun H=>H))<|yc rfl rfl<|Yo H 0 rfl rfl rfl rfl<|fun w5 H=>Jn.mk (2,tr,.slice none 0 0,[]) ZW ⟨⟨S8,PW (R.CC (adJ st)),BJ⟩,.inr (.inl rfl),⟨fun h=>by simp at h,hnn⟩,fun v hv=>by simp at hv,(((H.del 12).del 11).del 8).Ve 2 (en:=ZJ) (s:=1) (fun _=>rfl)⟩
   | @stop S9 S8 ev _ _ _ _ R st hev =>
    exact cF rfl<|Z9 rfl<|ye H 1 6 x9<|cF (XL yp)<|Z9 rfl<|Yo H 0 rfl rfl rfl rfl<|fun w5 H=>Jn.mk (3,0,.slice none 0 0,[]) ZW ⟨⟨S9,PW (R.CC (adK st hev)),BJ⟩,.inr (.inr rfl),⟨fun _=>rfl,lJa _⟩,fun v hv=>by simp at hv,(((H.del 12).del 11).del 8).Ve 2 (en:=ZJ) (s:=1) (fun _=>rfl)⟩
 clear H
 rintro ⟨oe,ot,v8,x8⟩ f_ w_ ⟨hP,AR,hn2,hx8,H⟩
 try simp only at hP AR hn2 hx8 H ⊢
 refine ZN H [10,9] [yfh0,yfp1,yfp2,yfp3,yfh4,yfp6,yfp7,yfp8,yfh9,yff5,yff10,yff11,yfp12,yfp13] mixed k_d k_d<|fun w5 H=>tk (fun _ Z=>ZC (Z.at 1 rfl) 0 rfl rfl rfl yj)<|yc rfl rfl<|yd 2 0 x9 rfl<|yc rfl rfl<|yd 2 3 x9 rfl<|H.Z8 [7,7,7,7,7]<|fun H=>?_
 refine Z7.mk (Fc.imp (Rn.ade H yp yp yp) ?_)
 clear H
 rintro _ w7 ⟨zQ,⟨zP,⟨rfl,H⟩⟩⟩
 refine H.Z8 [10,7,7,7,7,7,10,10,10]<|fun H=>?_
 refine Y2.mk (H.drop 12 (fun H=>H.drop 11 (fun H=>H.drop 10 (fun H=>H.drop 9 (fun H=>H))))) ?_
 refine ZG H 12 rfl rfl rfl (by simp only [yq9,yq8,H.one 0 rfl,H.one 5 rfl,H.one 6 rfl,H.one 7 rfl,H.one 8 rfl,H.one 9 rfl,H.one 10 rfl,Z0.one abU,Z0.one ON,Z0.one amY,Z0.one Cr,Z0.one J3,Z0.one hn,Z0.one ha,Z0.one yu,Z0.one K7,Z0.one IZ,Z0.one YK,Z0.one Yz,Z0.one ZE,Z0.one Zv,Z0.one ZT,Z0.one Zu,Z0.one ZP,Z0.one hg,Z0.one ht];rfl)<|fun w8 H=>?_
 refine Y2.mk (H.drop 12 (fun H=>H.drop 11 (fun H=>H.drop 10 (fun H=>H.drop 9 (fun H=>H))))) ?_
 refine ZG H 11 rfl rfl rfl (by simp only [yq9,yq8,H.one 0 rfl,H.one 5 rfl,H.one 6 rfl,H.one 7 rfl,H.one 8 rfl,H.one 9 rfl,H.one 10 rfl,Z0.one abU,Z0.one ON,Z0.one amY,Z0.one Cr,Z0.one J3,Z0.one hn,Z0.one ha,Z0.one yu,Z0.one K7,Z0.one IZ,Z0.one YK,Z0.one Yz,Z0.one ZE,Z0.one Zv,Z0.one ZT,Z0.one Zu,Z0.one ZP,Z0.one hg,Z0.one ht];rfl)<|fun w7 H=>?_
 refine Y2.mk (H.drop 12 (fun H=>H.drop 11 (fun H=>H.drop 10 (fun H=>H.drop 9 (fun H=>H))))) ?_
 refine XM (H.at 12 rfl) 0 rfl rfl rfl<|XM (H.at 11 rfl) 0 rfl rfl rfl ?_
 obtain ⟨S9,Pl,CF⟩:=hP
 refine H.Vj 0 WD rfl hx8<|fun g6 E6 DB H=>H.Vj 7 (Qj g6) rfl (fun a ha=>(K2.qo a ha).ext E6)<|fun g7 E7 D7 H=>?_
 have aph:Z0 g7 JH (Qj g7) 2 BK Qh:=Z0.GD D7 fun a _ h=>h.ext E7
 exact Z6.mk ⟨0,_,zR,.inr ⟨rfl,g7,⟨oe,x8,ot,0,n2⟩,S9,v8,zQ,zP,BK,Qh,by rw [CF],BI.trans ((E5.trans E6).trans E7),Pl,AR,⟨hn2.1,by simp only;omega,by have:=hn2.2;simp only;omega⟩,by rw [CF];exact yK,DB.ext E7,aph,by rw [CF];exact ((((((((((H.Z8 [7,8] fun H=>H).del 2).del 2).del 2).del 2).del 2).del 2).del 2).del 2).del 2)⟩⟩
end
end Wk
namespace Rn
open Go YY Go.RowKit
open YT Zl X6 YP Valid Mem
theorem Xt.host' {m:Y3} {S S1 T:MS} {Zb:xO} {n a k:Nat} {o o2:Wb} {l:List Wj} (ha:a<=n) (r:Tb m S a S1 o) (he:o.e=4) (hk:o.left+(n-a:Nat)=k) (p:Xt m (Wd m S1 (Zb.headD 0)) Zb.tail k T o2 l):Xt m S Zb n T o2 (⟨o.host,o.vals⟩::l):=by
 have r2:=r.more yp (n-a)
 rw [show a+(n-a)=n by omega] at r2
 exact Xt.host (o:={ o with left:=o.left+(n-a:Nat) }) r2 he hk p
theorem Xt.fin' {m:Y3} {S T:MS} {Zb:xO} {n a:Nat} {o:Wb} (ha:a<=n) (r:Tb m S a T o) (he:o.e≠4) (h3:o.e=3->a=n):Xt m S Zb n T { o with left:=o.left+(n-a:Nat) } []:=by
 by_cases h:o.e=3
 .obtain rfl:=h3 h
  have e:({ o with left:=o.left+(a-a:Nat) }:Wb)=o:=by simp
  rw [e]
  exact .fin r he
 .have r2:=r.more h (n-a)
  rw [show a+(n-a)=n by omega] at r2
  exact .fin r2 he
theorem Xt.ahead' {m:Y3} {S S1 T:MS} {Zb:xO} {a n:Nat} {o o2:Wb} {l:List Wj} (ha:a<=n) (h:Tb m S a S1 o) (he:o.e=3) (h2:Xt m S1 Zb (n-a) T o2 l):Xt m S Zb n T o2 l:=by
 have:=Xt.ahead h he h2
 rwa [show a+(n-a)=n by omega] at this
def DA (f:Int) (v:Value) (vals:xO):Xr:=⟨f,v,vals⟩
def JS (m:Y3) (S0:MS) (Zb:xO) (n0:Nat) (S:MS) (n:Nat) (qs:List Xr):Prop:=∀T o l,Xt m S (Zb.drop qs.length) n T o l->Xt m S0 Zb n0 T o (qs.map Xr.d++l)
theorem JS.zero {m:Y3} {S0:MS} {Zb:xO} {n0:Nat}:JS m S0 Zb n0 S0 n0 []:=fun T o l h=>h
theorem JS.ask {m:Y3} {S0 S S1:MS} {Zb:xO} {n0 n a k:Nat} {o:Wb} {qs:List Xr} {v:Value} (h:JS m S0 Zb n0 S n qs) (ha:a<=n) (r:Tb m S a S1 o) (he:o.e=4) (hk:o.left+(n-a:Nat)=k):JS m S0 Zb n0 (Wd m S1 (Zb.getD qs.length 0)) k (qs++[DA o.host v o.vals]):=fun T o2 l p=>by
 have e1:(Zb.drop qs.length).headD 0=Zb.getD qs.length 0:=by simp
 have e2:(Zb.drop qs.length).tail=Zb.drop (qs++[DA o.host v o.vals]).length:=by simp
 rw [<-e1] at p
 rw [<-e2] at p
 have:=h T o2 _ (Xt.host' ha r he hk p)
 rwa [lUa,lka]
theorem JS.cut {m:Y3} {S0 S S1:MS} {Zb:xO} {n0 n a:Nat} {o:Wb} {qs:List Xr} (h:JS m S0 Zb n0 S n qs) (ha:a<=n) (r:Tb m S a S1 o) (he:o.e=3):JS m S0 Zb n0 S1 (n-a) qs:=fun T o2 l p=>h T o2 l (Xt.ahead' ha r he p)
theorem acz {m:Y3} {t:xO} {x:ZU} {s:xO}:∀y∈(Zd m t x s).2.1,y∈s:=by
 have hl:∀y∈low s 1,y∈s:=fun y hy=>lBb hy
 unfold Zd
 repeat' split
 .simp
 .omega
 .omega
 .omega
theorem aj4 {m:Y3} {I:WR} {up:List Y4} {c:Y4} {v:xO} {ev:Ev} (h:(XA m I up c).2=ev) (he:ev=.over v\/∃f,ev=.host f v):∀x∈v,x∈c.stk:=by
 have hc:∀{z:ZU},(UH m I up (XZ c) z).2=ev->∀x∈v,x∈c.stk:=fun {z} h=>by
  unfold UH at h
  dsimp only at h
  repeat' split at h
  all_goals subst h
  all_goals rcases he with he|⟨f,he⟩ <;> cases he
  exact fun x hx=>acz _ (List.mem_of_mem_drop hx)
 unfold XA TA at h
 dsimp only at h
 repeat' split at h
 all_goals first|exact hc h|(subst h;rcases he with he|⟨f,he⟩ <;> cases he)|skip
 all_goals exact fun x hx=>hx
theorem Tb.i64 {m:Y3} {S S':MS} {n:Nat} {o:Wb} (P:VJ m) (r:Tb m S n S' o):Ty m S->S.host=0->∀x∈o.vals,XB x:=by
 have ht:∀{S S':MS} {ev:Ev} {v:xO},SL m S S' ev->Ty m S->S.host=0->(ev=.over v\/∃f,ev=.host f v)->∀x∈v,XB x:=fun {S S' ev v} s T h0 he x hx=>by
  obtain ⟨up,c,hc,hs⟩:=s
  have h1:=aj4 (yq5 Prod.snd hs).symm he x hx
  rcases T.cs with ⟨_,h⟩|⟨_,up2,c2,h,_,h2⟩|⟨h,_⟩
  .rw [h] at hc;simp at hc
  .obtain ⟨rfl,hcc⟩:=lLb (h.symm.trans hc) rfl
   obtain rfl:=lfb.1 hcc
   obtain ⟨_,_,_,_,_,_,h3⟩:=h2.ty.ex
   rcases h3 with ⟨_,h3⟩|⟨_,_,_,h3⟩ <;> exact h3.i64 x h1
  .omega
 induction r with
 | free s _ ih=>intro T h0;have A:=Ws P T h0 s;exact ih A.1 A.2.1
 | over s=>intro T h0;exact ht s T h0 (.inl rfl)
 | stop s hn=>intro _ _ x hx;cases hx
 | goes s _ ih=>intro T h0;have A:=Ws P T h0 s;exact ih A.1 A.2.1
 | X7 s=>intro _ _ x hx;cases hx
 | host s=>intro T h0;exact ht s T h0 (.inr ⟨_,rfl⟩)
theorem Left.rest {m:Y3} {S':MS} {o:Wb} {a n n0:Nat} (h:Left m a S' o) (ha:a<=n) (hn:n<=n0) (he:o.e≠4) (h3:o.e=3->a=n):Left m n0 S' { o with left:=o.left+(n-a:Nat) } :=
 ⟨h.ty,⟨by have:=h.left.1;simp only;omega,by have:=h.left.2;simp only;omega⟩,h.e,h.done,fun e=>let ⟨a,b,c,d,e,f,g⟩:=h.X7 e;⟨a,b,c,d,e,f,by simp only;omega⟩,fun e=>let ⟨a,b,c,d,k,f⟩:=h.fuel e;⟨a,b,c,d,k,by have:=h3 e;simp only;omega⟩,fun e=>absurd e he,h.vals⟩
section
variable {g:Zz} {w:World} {l:List As} {m:Zj} {pr:Nat} {vw va vp:Value} {S0:MS} {GQ:List Mj} {Zb BH:xO}
theorem ahE (H:Sat g w (J1 m vw pr S0::l)) (hk:AO g m vw GQ) (hB:Fold.JI g) (T0:Ty m.d S0) (h0:S0.host=0) (hc0:S0.calls≠[]) (n0:Nat) (hn0:n0<=3000) (ha:Z0 g ZJ WD 1 va Zb) (hp:Z0 g ZJ WD 1 vp BH) (To:BH.length<=100000000000000):xP 30 #[yg pr,va,yh n0,vp] w (fun r w'=>∃(g':Zz) (S':MS) (o:Wb) (vv vl:Value) (qs:List Xr),r=.tuple #[.agg #[yh o.e,vv,yh o.X7,yh o.host,yh o.left],vl,.bool true]/\Ext g g'/\Xt m.d S0 Zb n0 S' o (qs.map Xr.d)/\Left m.d n0 S' o/\o.e≠4/\Z0 g' ZJ WD 1 vv o.vals/\Z0 g' JH (Qj g') 2 vl qs/\Sat g' w' (J1 m vw pr S'::l)):=by
 refine Fc.of Tryz.func30 rfl k_d<|ZV H rfl<|fun p1 w1 H=>?_
 refine YV.rule (α:=Nat × Nat × MS × Zz × Value × List Xr) (0,n0,S0,g,.slice none 0 0,[]) (fun x_=>[(2,yh x_.2.1),(11,x_.2.2.2.2.1),(12,yh x_.1)]) (fun x_ w_=>(Ext g x_.2.2.2.1)/\(Ty m.d x_.2.2.1)/\(x_.2.2.1.host=0)/\(x_.2.2.1.calls≠[])/\(x_.2.1<=n0)/\(x_.2.2.2.2.2.length+x_.2.1<=n0)/\(x_.1+x_.2.1<=BH.length+n0)/\(JS m.d S0 Zb n0 x_.2.2.1 x_.2.1 x_.2.2.2.2.2)/\(∀a∈x_.2.2.2.2.2,Qj x_.2.2.2.1 a)/\Sat x_.2.2.2.1 w_ ((Sl 47 2 JH x_.2.2.2.2.1 x_.2.2.2.2.2::J1 m vw pr x_.2.2.1::Pt p1 [yh 0,.slice none 0 0,yh 0,yh 0,yh 0] 41::l))) (fun x_=>x_.2.1+(BH.length-x_.1)) ?_ ?_ ?_
 .exact k_a
 .try simp only
  constructor
  .exact Ext.refl _
  refine ⟨yo,?_⟩
  refine ⟨yo,?_⟩
  refine ⟨yo,?_⟩
  refine ⟨yp,?_⟩
  constructor
  .simp
  refine ⟨yp,?_⟩
  constructor
  .intro x1
   intro x2
   intro x3
   intro x4
   assumption
  constructor
  .simp
  replace H:=H.Ve (en:=JH) (s:=2) (47) (fun _=>rfl)
  exact H.Z8 [1,2,2]<|fun H=>H
 rintro ⟨i,n,S,g1,vas,qs⟩ f_ w_ ⟨hE,hT,hh,hc,hn,hl,hi,hG,hA,H⟩
 try simp only at hE hT hh hc hn hl hi hG hA H ⊢
 have Tk:=hk.ext hE
 have Fa:=ha.ext hE
 have AQ:=hp.ext hE
 have Au:=hB.ext hE
 refine bk<|ZF AQ rfl ?_
 refine QW (α:=Nat) (fun x_=>[(13,yh x_)]) (fun x_ w_=>(x_<=n)/\(x_=n\/i<BH.length)/\Sat g1 w_ ((Sl 47 2 JH vas qs::J1 m vw pr S::Pt p1 [yh 0,.slice none 0 0,yh 0,yh 0,yh 0] 41::l))) (fun hb=>?_) (fun hb=>?_) ?_
 .replace hb:=YI hb
  obtain ⟨x1,hx1⟩:∃x,(BH)[(i)]?=some x:=⟨_,laa yp⟩
  obtain ⟨b1,o1,E1,F1,ZH⟩:=Z0.Y5 AQ hx1
  refine ZI E1 rfl rfl rfl<|xW (H.Yt F1) 0 xV ?_
  refine Z7.mk (Fc.imp (Ref.rest _ _ yo yp _) ?_)
  rintro _ _ ⟨rfl,rfl⟩
  refine akd<|Jn.mk ((min (↑n:Int) (x1 % 200)).toNat) (Zr rfl yp (ZW)) ?_
  refine ⟨yp,?_⟩
  refine ⟨yp,?_⟩
  exact H
 .replace hb:=YH hb
  refine Jn.mk (n) (ZO rfl (ZW)) ?_
  refine ⟨yp,?_⟩
  refine ⟨yp,?_⟩
  exact H
 rintro a f_ w_ ⟨NU,AB,H⟩
 try simp only at NU AB H ⊢
 have H:=(H.front (j:=1) rfl)
 refine Z7.mk (Fc.imp (go_ (n:=a) H Tk.md Tk.po Au Tk.fs Tk.ways hT hh hc yp) ?_)
 rintro _ w' ⟨S1,o,vv,rfl,hR,A,H⟩
 obtain ⟨av,cv,rfl⟩:=H.form 1 rfl
 refine H.Vj 1 WD rfl (hR.i64 Tk.po hT hh)<|fun g2 E2 DB H=>?_
 have hk2:=Tk.ext E2
 have Cq:=Fa.ext E2
 have Bz:=AQ.ext E2
 have BG:=hE.trans E2
 have Jm:∀a∈qs,Qj g2 a:=fun a h=>(hA a h).ext E2
 have FK:=A.ty
 obtain ⟨api,hle⟩:=A.left
 obtain ⟨q,hq⟩:∃q:Nat,o.left=q:=lqa api
 rcases A.e with h9|h9|h9|h9
 .refine ZV H rfl<|fun p2 w2 H=>?_
  refine ZG H 0 rfl rfl rfl rfl<|fun w3 H=>XP (XL yp)<|Z9 rfl<|ye H 0 4 x9<|XP (Zs yo)<|Z9 rfl<|ye H 0 4 x9<|cF (Zs yo)<|Z9 rfl<|ye H 0 4 x9<|ZX yp<|ZX yp<|bk<|Z9 rfl<|ye H 0 0 x9<|cF (Z5 yp)<|Z9 rfl<|ye H 0 0 x9<|Vt (WE yp)<|cT rfl<|Z9 rfl<|Yo H 0 rfl rfl rfl rfl<|fun w2 H=>ZC (H.at 0 rfl) 0 rfl rfl rfl<|ZG H 3 rfl rfl rfl rfl<|fun w3 H=>XM (H.at 3 rfl) 0 rfl rfl rfl ?_
  have FH:o.e≠4:=by omega
  have Dz:o.e=3->a=n:=fun h=>by omega
  exact (H.del 0).Vj 1 (Qj g2) rfl Jm<|fun g3 E3 D7 H=>Z6.mk ⟨g3,S1,{ o with left:=o.left+(n-a:Nat) },_,_,qs,by rw [show ((n:Int)-(a-o.left))=o.left+(n-a:Nat) by omega],BG.trans E3,by have:=hG _ _ _ (Xt.fin' (Zb:=Zb.drop qs.length) NU hR FH Dz);rwa [lna] at this,A.rest NU hn FH Dz,FH,DB.ext E3,D7.GD fun x _ hx=>hx.ext E3,H.del 1⟩
 .refine ZV H rfl<|fun p2 w2 H=>?_
  refine ZG H 0 rfl rfl rfl rfl<|fun w3 H=>XP (XL yp)<|Z9 rfl<|ye H 0 4 x9<|XP (Zs yo)<|Z9 rfl<|ye H 0 4 x9<|cF (Zs yo)<|Z9 rfl<|ye H 0 4 x9<|ZX yp<|ZX yp<|bk<|Z9 rfl<|ye H 0 0 x9<|cF (Z5 yp)<|Z9 rfl<|ye H 0 0 x9<|Vt (WE yp)<|cT rfl<|Z9 rfl<|Yo H 0 rfl rfl rfl rfl<|fun w2 H=>ZC (H.at 0 rfl) 0 rfl rfl rfl<|ZG H 3 rfl rfl rfl rfl<|fun w3 H=>XM (H.at 3 rfl) 0 rfl rfl rfl ?_
  have FH:o.e≠4:=by omega
  have Dz:o.e=3->a=n:=fun h=>by omega
  exact (H.del 0).Vj 1 (Qj g2) rfl Jm<|fun g3 E3 D7 H=>Z6.mk ⟨g3,S1,{ o with left:=o.left+(n-a:Nat) },_,_,qs,by rw [show ((n:Int)-(a-o.left))=o.left+(n-a:Nat) by omega],BG.trans E3,by have:=hG _ _ _ (Xt.fin' (Zb:=Zb.drop qs.length) NU hR FH Dz);rwa [lna] at this,A.rest NU hn FH Dz,FH,DB.ext E3,D7.GD fun x _ hx=>hx.ext E3,H.del 1⟩
 .obtain ⟨a1,a2,a3,a4,a5,a6⟩:=A.fuel h9
  refine ZV H rfl<|fun p2 w2 H=>?_
  refine ZG H 0 rfl rfl rfl rfl<|fun w3 H=>XP (XL yp)<|Z9 rfl<|ye H 0 4 x9<|XP (Zs yo)<|Z9 rfl<|ye H 0 4 x9<|cF (Zs yo)<|Z9 rfl<|ye H 0 4 x9<|ZX yp<|ZX yp<|bk<|Z9 rfl<|ye H 0 0 x9<|cF (Z5 yp)<|Z9 rfl<|ye H 0 0 x9<|XP (XL yo) ?_
  refine cI (fun c1=>?_) (fun c1=>?_)
  focus
   replace c1:=ZR (c1)
   refine Z9 rfl<|Yo H 0 rfl rfl rfl rfl<|fun w2 H=>ZC (H.at 0 rfl) 0 rfl rfl rfl<|ZG H 3 rfl rfl rfl rfl<|fun w3 H=>XM (H.at 3 rfl) 0 rfl rfl rfl ?_
  rotate_left 1
  focus
   replace c1:=ZQ (c1)
   refine Z9 rfl<|ye H 0 4 x9<|XP (Zs yp)<|ZF Bz rfl<|cF (Zs yp)<|ZX yp ?_
  rotate_left 1
  .have FH:o.e≠4:=by omega
   have Dz:o.e=3->a=n:=fun h=>by omega
   exact (H.del 0).Vj 1 (Qj g2) rfl Jm<|fun g3 E3 D7 H=>Z6.mk ⟨g3,S1,{ o with left:=o.left+(n-a:Nat) },_,_,qs,by rw [show ((n:Int)-(a-o.left))=o.left+(n-a:Nat) by omega],BG.trans E3,by have:=hG _ _ _ (Xt.fin' (Zb:=Zb.drop qs.length) NU hR FH Dz);rwa [lna] at this,A.rest NU hn FH Dz,FH,DB.ext E3,D7.GD fun x _ hx=>hx.ext E3,H.del 1⟩
  .have Cp:=hG.cut NU hR h9
   exact W0.mk (i+1,n-a,S1,g2,vas,qs) (Zr rfl (by grind) (ZO rfl (Zr rfl (by grind) ZW))) ⟨BG,FK,a2,a1,by simp only;omega,by simp only;omega,by simp only;omega,Cp,Jm,(H.del 0).front (j:=1) rfl⟩ (by grind)
 .obtain ⟨a1,a2,a3,a4,a5,a6⟩:=A.host h9
  have hql:(qs++[DA o.host (.slice av o.vals.length cv) o.vals]).length=qs.length+1:=by simp
  refine ZV H rfl<|fun p2 w2 H=>?_
  refine ZG H 0 rfl rfl rfl rfl<|fun w3 H=>XP (XL yp)<|Z9 rfl<|ye H 0 4 x9<|XP (Zs yo)<|Z9 rfl<|ye H 0 4 x9<|cF (Zs yo)<|Z9 rfl<|ye H 0 4 x9<|ZX yp<|ZX yp<|bk<|Z9 rfl<|ye H 0 0 x9<|cT (ZK yo)<|Z9 rfl<|ye H 0 3 x9<|Z9 rfl<|ye H 0 1 x9<|Zn rfl rfl rfl<|ZZ H rfl rfl rfl rfl<|fun p3 w2 H=>WO (ys:=[DA o.host (.slice av o.vals.length cv) o.vals]) 32 H 3 rfl (H.at 0 rfl) rfl (fun y hy=>by rw [lpa.1 hy];simp only [Rn.JH,yq9,yq8,H.one 3 rfl,Z0.one Bz,Z0.one Cq,Z0.one DB,Z0.one AQ,Z0.one Fa,Z0.one hp,Z0.one ha];rfl) rfl rfl rfl yp yp<|fun v1 w3 H=>YN H 3 rfl rfl<|ZF Cq rfl ?_
  refine cI (fun c1=>?_) (fun c1=>?_)
  focus
   replace c1:=Xq (c1)
   refine ZX yp ?_
   obtain ⟨x1,hx1⟩:∃x,(Zb)[(((qs++[DA o.host (Value.slice av o.vals.length cv) o.vals]).length)-1)]?=some x:=⟨_,laa yp⟩
   obtain ⟨b1,o1,E1,F1,ZH⟩:=Z0.Y5 Cq hx1
   refine ZI E1 yp rfl rfl<|xW (H.Yt F1) 0 xV ?_
  rotate_left 1
  focus
   replace c1:=Xp (c1)
  rotate_left 1
  .have H:=H.front (j:=2) rfl
   refine Z7.mk (Fc.imp (ac9 H hk2.md hk2.po FK yp x1 ZH) ?_)
   rintro _ w5 ⟨rfl,H⟩
   obtain ⟨t1,t2,t3,_⟩:=QA hk2.po FK yp (n:=x1) ZH
   refine XP (XL yo)<|YN H 3 rfl rfl<|cF (Zs yp)<|ZX yp ?_
   have Cp:=hG.ask (v:=.slice av o.vals.length cv) (k:=n-(a-q)) NU hR h9 yp
   rw [show Zb.getD qs.length 0=x1 by rw [lha,show qs.length=(qs++[DA o.host (.slice av o.vals.length cv) o.vals]).length-1 by omega,hx1];rfl] at Cp
   exact W0.mk (i+1,n-(a-q),Wd m.d S1 x1,g2,v1,qs++[DA o.host (.slice av o.vals.length cv) o.vals]) (Zr rfl (by grind) (ZO rfl (Zr rfl (by grind) ZW))) ⟨BG,t1,t2,t3,by simp only;omega,by simp only;omega,by simp only;omega,Cp,fun y hy=>by
    rcases lHa.1 hy with hy|hy
    .grind
    .rw [lpa.1 hy];exact ⟨by unfold XB;have:=hk2.po.ni;unfold Y8 at a4;show _<=o.host/\o.host<=_;omega,DB⟩,((H.del 1).del 1).front (j:=1) rfl⟩ (by grind)
  .have H:=H.front (j:=2) rfl
   refine Z7.mk (Fc.imp (ac9 H hk2.md hk2.po FK yp 0 (by decide)) ?_)
   rintro _ w5 ⟨rfl,H⟩
   obtain ⟨t1,t2,t3,_⟩:=QA hk2.po FK yp (n:=0) (by decide)
   refine XP (XL yo)<|YN H 3 rfl rfl<|cF (Zs yp)<|ZX yp ?_
   have Cp:=hG.ask (v:=.slice av o.vals.length cv) (k:=n-(a-q)) NU hR h9 yp
   rw [show Zb.getD qs.length 0=0 by rw [lha,List.getElem?_eq_none yp];rfl] at Cp
   exact W0.mk (i+1,n-(a-q),Wd m.d S1 0,g2,v1,qs++[DA o.host (.slice av o.vals.length cv) o.vals]) (Zr rfl (by grind) (ZO rfl (Zr rfl (by grind) ZW))) ⟨BG,t1,t2,t3,by simp only;omega,by simp only;omega,by simp only;omega,Cp,fun y hy=>by
    rcases lHa.1 hy with hy|hy
    .grind
    .rw [lpa.1 hy];exact ⟨by unfold XB;have:=hk2.po.ni;unfold Y8 at a4;show _<=o.host/\o.host<=_;omega,DB⟩,((H.del 1).del 1).front (j:=1) rfl⟩ (by grind)
end
end Rn
namespace Wk
open Go YY Go.RowKit
open YT Zl X6 YP Valid Mem Rn
theorem afZ {m:Zj} (h:XR.IM m=0):m.globals.length<=100:=by
 obtain ⟨h0,_⟩:=XR.Rf h
 exact (No h0).2.2.2.1
theorem runWalks (w:World) (m:Zj) (f:Int) (va:Value) (args:xO) (vn:Value) (Zb:xO) (fuel:Int) (vp:Value) (ps:xO) (hm:XE (Wy w) m) (hf:XB f) (ha:Rd ZJ WD 1 w va args) (hn:Rd ZJ WD 1 w vn Zb) (hfu:XB fuel) (hp:Rd ZJ WD 1 w vp ps) (To:ps.length * 8<=140737488351232) (hTB:X6.NR (Wy w)/\Fold.JI (Wy w)):xP 12 #[.agg (yl m []).toArray,yh f,va,vn,yh fuel,vp] w (fun v w'=>v=.bool true/\Below w.heap.size w w'):=by
 obtain ⟨hT,hB⟩:=hTB
 have ha:=ha.fz
 have hn:=hn.fz
 have hp:=hp.fz
 refine Fc.of Tryz.func12 rfl k_d ?_
 have H:=Sat.start w
 refine ZL H ?_
 clear H
 intro p1 w1 H
 refine ZC (H.at 0 rfl) 0 rfl rfl rfl ?_
 refine Z7.mk (Fc.imp (afP H hT hm hf ha) ?_)
 clear H
 rintro _ w1 (⟨hc,rfl,H⟩|⟨hc,g2,k,vw,ws,pr,rfl,E,hk,Uf,Ml,H⟩)
 .refine NI rfl ?_
  refine cT rfl ?_
  refine Z6.mk ?_
  exact ⟨rfl,H.finish⟩
 have hmk:XR.IM m=0:=hc.1
 obtain ⟨h0,_⟩:=XR.Rf hmk
 have y9:=afZ hmk
 have hR:XR.Fh m (Ts m).ins.mem (Ts m).ins.Zx (Ts m).ins.Zp 0:=⟨hmk.symm,fun _=>⟨rfl,rfl,rfl⟩,fun h=>absurd rfl h⟩
 have hM:=afO hm hR
 obtain ⟨JM,a2,a3,a4,a5,a6⟩:=XR.Kb hR 0
 have apj:XR.Tl m (Ts m).ins.mem.length (Ts m).ins.Zx (Ts m).ins.Zp=0:=by grind
 have hok:KB (Ts m).ins.mem m.most:=⟨by omega,a6,by omega,by omega⟩
 refine NI rfl ?_
 refine cF rfl ?_
 refine Z7.mk (Fc.imp (Ref.rest _ _ yp yp _) ?_)
 rintro _ _ ⟨rfl,rfl⟩
 obtain ⟨n0,hn0⟩:=lqa (Int.emod_nonneg fuel (show (3000:Int)≠0 by decide))
 have B5:=Int.emod_lt_of_pos fuel (show (0:Int)<3000 by decide)
 rw [hn0] at B5 ⊢
 have hc0:∀{M:Y3},(Rn.ZY M (Ts m) f args).calls≠[]:=fun {M}=>by unfold Rn.ZY;simp
 have hg0:∀{M:Y3},(Rn.ZY M (Ts m) f args).ins.Zp.length<=100000:=fun {M}=>by show (m.globals.map (·.2.2)).length<=_;rw [lea];omega
 refine Z7.mk (Fc.imp (afS H hk.po Ml hg0) ?_)
 clear H
 rintro _ w2 ⟨g3,tv,gv,rfl,E3,AE,CU,H⟩
 have hk:=hk.ext E3
 have zM:=E.trans E3
 obtain ⟨a8,c8,rfl⟩:=AE.form
 obtain ⟨a9,c9,rfl⟩:=CU.form
 refine ZV H rfl ?_
 clear H
 intro p2 w3 H
 clear w2
 refine ZG H 0 rfl rfl rfl rfl ?_
 clear H
 intro w2 H
 clear w3
 have H:=H.front (j:=1) rfl
 refine Z7.mk (Fc.imp (ahE H hk (hB.ext zM) Ml rfl hc0 n0 yp (hn.ext zM) (hp.ext zM) yp) ?_)
 clear H
 rintro _ w3 ⟨g4,S1,o1,zW,DQ,q1,rfl,E4,hP1,A1,h41,OL,Qo,H⟩
 have hk:=hk.ext E4
 have BF:=zM.trans E4
 refine ZV H rfl ?_
 clear H
 intro p3 w4 H
 clear w3
 refine ZG H 0 rfl rfl rfl (by simp only [yq9,yq8,Z0.one Qo,Z0.one OL,Z0.one CU,Z0.one AE,Z0.one hp,Z0.one hn,Z0.one ha];rfl) ?_
 clear H
 intro w3 H
 clear w4
 refine ZC (H.at 3 rfl) 0 rfl rfl rfl ?_
 refine ZC (H.at 2 rfl) 0 rfl rfl rfl ?_
 refine Z7.mk (Fc.imp (amU H (Ib hT BF) (hB.ext BF) (hm.ext BF) h0 (Ts m).ins hM apj hok (AE.ext E4) (CU.ext E4) hf (ha.ext BF) (hn.ext BF) n0 yp) ?_)
 clear H
 rintro _ w4 ⟨e2,S2,zE,h2⟩
 obtain ⟨Eg,apk⟩:=zE.So hc.2
 subst Eg
 rcases h2 with ⟨Eg,_⟩|⟨_,g5,o2,T2,vv2,AH,AG,BK,q2,rfl,E5,P2,NW,⟨Tk,hk2,yz⟩,⟨tb2,gb2⟩,KK,HG,H⟩
 .exact absurd rfl Eg
 refine H.Vj 0 WD rfl tb2 ?_
 intro g6 E6 LQ
 clear H
 intro H
 refine H.Vj 0 WD rfl gb2 ?_
 intro g7 E7 AD
 clear H
 intro H
 rw [Uf] at hP1
 rw [apk] at P2
 obtain ⟨hS,DG,hqq⟩:=hP1.So P2
 have hT1:=A1.ty
 have hg1:S1.ins.Zp.length<=100000:=by have h1:=hT1.ins.gl;rw [h1,Uf];show m.globals.length<=_;omega
 have BE:=(E5.trans E6).trans E7
 have OL:=OL.ext BE
 have Qo:=Z0.Vd (ok:=Qj) (fun _ _ _ h E=>h.ext E) Qo BE
 have KK:=KK.ext (E6.trans E7)
 have HG:=Z0.Vd (ok:=Qj) (fun _ _ _ h E=>h.ext E) HG (E6.trans E7)
 have LQ:=LQ.ext E7
 have hk:=hk.ext BE
 have zy:=hk.po
 have hE7:=BF.trans BE
 have hi1:S1.ins.mem=T2.ins.mem:=yq5 (fun x=>x.ins.mem) hS
 have hi2:S1.ins.Zx=T2.ins.Zx:=yq5 (fun x=>x.ins.Zx) hS
 have Bl:S1.ins.Zp=T2.ins.Zp:=yq5 (fun x=>x.ins.Zp) hS
 clear hS
 have hEE:Ext (Wy w) g7/\True:=⟨hE7,trivial⟩
 clear hE7
 have E9:=Ext.refl g7
 refine ZV H rfl ?_
 clear H
 intro p4 w5 H
 clear w4
 refine ZV H rfl ?_
 clear H
 intro p5 w4 H
 clear w5
 refine ZG H 1 rfl rfl rfl (by simp only [yq9,yq8,Z0.one LQ,Z0.one HG,Z0.one KK,Z0.one Qo,Z0.one OL,Z0.one AD,Z0.one CU,Z0.one AE,Z0.one hp,Z0.one hn,Z0.one ha];rfl) ?_
 clear H
 intro w5 H
 clear w4
 refine ZG H 0 rfl rfl rfl (by simp only [yq9,yq8,Z0.one LQ,Z0.one HG,Z0.one KK,Z0.one Qo,Z0.one OL,Z0.one AD,Z0.one CU,Z0.one AE,Z0.one hp,Z0.one hn,Z0.one ha];rfl) ?_
 clear H
 intro w4 H
 clear w5
 refine ZN H [] [yfp0,yfp1,yfp2,yfp3,yfp4,yfp5,yfh6,yfh7,yff8,yfp9,yfp10,yfp11,yfp12,yff13,yfp14,yfp15,yfp16,yfh18,yff17,yffr19,yfp20,yfp21] mixed k_d k_d ?_
 clear H
 intro w5 H
 clear w4
 refine Vt (ZK yo) ?_
 refine tk (fun _ Z=>ZC (Z.at 2 rfl) 0 rfl rfl rfl yj) ?_
 refine tk (fun _ Z=>ZC (Z.at 1 rfl) 0 rfl rfl rfl yj) ?_
 refine Z7.mk (Fc.imp (Rn.afQ H _ _ _ _ OL KK yp) ?_)
 clear H
 rintro _ w4 ⟨rfl,H⟩
 refine Y2.mk (H) ?_
 refine Z7.mk (Fc.imp (Rn.adH _ _ _ _ H Qo HG) ?_)
 clear H
 rintro _ w6 ⟨⟨b1,⟨rfl,h1⟩⟩,H⟩
 obtain rfl:b1=true:=h1.2 hqq
 refine Y2.mk (H) ?_
 refine tk (fun _ Z=>ZC (Z.at 0 rfl) 0 rfl rfl rfl yj) ?_
 refine H.Z8 [3] ?_
 clear H
 intro H
 refine Z7.mk (Fc.imp (Rn.afS H yp yp yp) ?_)
 clear H
 rintro _ w7 ⟨zj,⟨zQ,⟨zP,⟨rfl,⟨HE,⟨h2,⟨h3,H⟩⟩⟩⟩⟩⟩⟩
 replace E9:=E9.trans HE
 replace hk:=hk.ext HE
 replace LQ:=Z0.ext LQ HE
 replace HG:=Z0.Vd (ok:=Rn.Qj) (fun _ _ _ h E=>Rn.Qj.ext h E) HG HE
 replace KK:=Z0.ext KK HE
 replace Qo:=Z0.Vd (ok:=Rn.Qj) (fun _ _ _ h E=>Rn.Qj.ext h E) Qo HE
 replace OL:=Z0.ext OL HE
 replace BE:=BE.trans HE
 replace AD:=Z0.ext AD HE
 replace E7:=E7.trans HE
 clear HE
 refine Y2.mk ((H.forget E9).Z8 [3,3,3] fun H=>H) ?_
 refine Z7.mk (Fc.imp (acy H S1.ins.mem T2.ins.mem _ AH _ AG S1.ins.Zx T2.ins.Zx S1.ins.Zp T2.ins.Zp yo LQ yo AD) ?_)
 clear H
 rintro _ w9 ⟨b2,rfl,Qy,H⟩
 obtain rfl:b2=true:=Qy.2 ⟨hi1,hi2,Bl⟩
 refine Z6.mk ?_
 constructor
 .simp
 exact (hEE.1.trans E9).fin H
end Wk
namespace YP
open Go Go.RowKit YY YT
def FG (H:Hv) (x:Xx):Prop:=VF (RE Yu U8) 1 H x.vi x.Zh/\VF (RE Yu U8) 1 H x.vo x.out
def FF (H:Hv) (x:Yr):Prop:=XB x.ty/\VF (RE Yu U8) 1 H x.vl x.loc/\VF (fun H cs x=>cs=Ot x/\Ay H x) 4 H x.vb x.body
def FD (H:Hv) (x:RW):Prop:=XB x.pl/\VF (RE ZJ WD) 1 H x.vf x.fs
structure aij (H:Hv) (m:Zj):Prop where
 types:VF (fun H cs x=>cs=Oh x/\FG H x) 2 H m.vt m.types
 ZA:VF (RE TH Rm) 2 H m.vm m.ZA
 funcs:VF (fun H cs x=>cs=Og x/\FF H x) 3 H m.vf m.funcs
 table:XB m.table
 pages:XB m.pages
 most:XB m.most
 globals:VF (RE NQ Kt) 3 H m.vg m.globals
 VR:VF (RE TH Rm) 2 H m.vx m.VR
 start:XB m.start
 elems:VF (fun H cs x=>cs=EJ x/\FD H x) 2 H m.ve m.elems
 data:VF (RE G9 Io) 2 H m.vd m.data
theorem WI.of {g:Zz} {H:Hv} {x:Xx} (h:FG H x) (hh:JC H (Gh g)):WI g x:=⟨h.1.mono (RE.mono' Yu U8) hh,h.2.mono (RE.mono' Yu U8) hh⟩
theorem Um.of {g:Zz} {H:Hv} {x:Yr} (h:FF H x) (hh:JC H (Gh g)):Um g x:=⟨h.1,h.2.1.mono (RE.mono' Yu U8) hh,h.2.2.conv hh fun _ _ h=>⟨h.1,okV.of h.2 hh⟩⟩
theorem LL.of {g:Zz} {H:Hv} {x:RW} (h:FD H x) (hh:JC H (Gh g)):LL g x:=⟨h.1,h.2.mono (RE.mono' ZJ WD) hh⟩
theorem XE.of {g:Zz} {H:Hv} {m:Zj} (h:aij H m) (hh:JC H (Gh g)):XE g m :=
 ⟨h.types.conv hh fun _ _ h=>⟨h.1,WI.of h.2 hh⟩,h.ZA.mono (RE.mono' TH Rm) hh,h.funcs.conv hh fun _ _ h=>⟨h.1,Um.of h.2 hh⟩,h.table,h.pages,h.most,h.globals.mono (RE.mono' NQ Kt) hh,h.VR.mono (RE.mono' TH Rm) hh,h.start,h.elems.conv hh fun _ _ h=>⟨h.1,LL.of h.2 hh⟩,h.data.mono (RE.mono' G9 Io) hh⟩
theorem af0 (cs:xM) (h:Th [.str,.int .i64] cs):∃x,cs=TH x/\Rm x:=by
 obtain ⟨_,_,rfl,⟨a,rfl,ha⟩,_,_,rfl,⟨b,rfl,hb⟩,rfl⟩:=h
 exact ⟨(a,b),rfl,ha,hb⟩
theorem aj5 (cs:xM) (h:Th [.int .u8,.bool,.int .i64] cs):∃x,cs=NQ x/\Kt x:=by
 obtain ⟨_,_,rfl,⟨a,rfl,ha⟩,_,_,rfl,⟨b,rfl⟩,_,_,rfl,⟨c,rfl,hc⟩,rfl⟩:=h
 exact ⟨(a,b,c),rfl,ha,hc⟩
theorem aj6 (cs:xM) (h:Th [.int .i64,.str] cs):∃x,cs=G9 x/\Io x:=by
 obtain ⟨_,_,rfl,⟨a,rfl,ha⟩,_,_,rfl,⟨b,rfl,hb⟩,rfl⟩:=h
 exact ⟨(a,b),rfl,ha,hb⟩
section
variable {H:Type} {enc:TypeId × Value->H} {w:World} {sp:Nat->Bool} {held:Bool}
theorem PN:JO enc Tryz.prog w sp held 102 (fun H cs xs=>∃v,cs=[v]/\VF (RE Yu U8) 1 H v xs) (fun xs=>(xs.map (fun x=>WL (Yu x)+1)).sum+1+0 * xs.length) :=
 MW 1 rfl (by decide) Tryz.underlying102 (Vp 6 rfl aet)
theorem open_ints:JO enc Tryz.prog w sp held 32 (fun H cs xs=>∃v,cs=[v]/\VF (RE ZJ WD) 1 H v xs) (fun xs=>(xs.map (fun x=>WL (ZJ x)+1)).sum+1+0 * xs.length) :=
 MW 1 rfl (by decide) Tryz.underlying32 (Vp 6 rfl UB)
theorem af1:JO enc Tryz.prog w sp held 104 (fun H cs x=>cs=Oh x/\FG H x) (fun _=>0):=by
 refine (UW 2 Tryz.underlying104 rfl (Y1 rfl PN (Y1 rfl PN TL))).map ?_
 rintro H cs ⟨a,b,_⟩ ⟨hl,⟨v,h1,Fy⟩,⟨u,h2,Bx⟩,_⟩
 refine ⟨⟨v,a,u,b⟩,⟨?_,Fy,Bx⟩,lJa _⟩
 match cs,hl with
 | [c0,c1],_ =>
  have e1:[c0]=[v]:=h1
  have e2:[c1]=[u]:=h2
  simp only [List.cons.injEq,and_true] at e1 e2
  show _=[_,_]
  rw [e1,e2]
theorem adL:JO enc Tryz.prog w sp held 105 (fun H cs xs=>∃v,cs=[v]/\VF (fun H cs x=>cs=Ot x/\Ay H x) 4 H v xs) (fun xs=>(xs.map (fun x=>x.to.length)).sum+1+0 * xs.length) :=
 MW 4 rfl (by decide) Tryz.underlying105 aeu
theorem af2:JO enc Tryz.prog w sp held 107 (fun H cs x=>cs=Og x/\FF H x) (fun _=>0):=by
 refine (UW 3 Tryz.underlying107 rfl (Y1 rfl (Vp (en:=ZJ) (ok:=WD) 6 rfl UB) (Y1 rfl PN (Y1 rfl adL TL)))).map ?_
 rintro H cs ⟨t,a,b,_⟩ ⟨hl,⟨h0,h0'⟩,⟨v,h1,Fy⟩,⟨u,h2,Bx⟩,_⟩
 refine ⟨⟨t,v,a,u,b⟩,⟨?_,h0',Fy,Bx⟩,lJa _⟩
 match cs,hl with
 | [c0,c1,c2],_ =>
  have e0:[c0]=ZJ t:=h0
  have e1:[c1]=[v]:=h1
  have e2:[c2]=[u]:=h2
  simp only [ZJ,List.cons.injEq,and_true] at e0 e1 e2
  show _=[_,_,_]
  rw [e0,e1,e2]
theorem adM:JO enc Tryz.prog w sp held 92 (fun H cs x=>cs=EJ x/\FD H x) (fun _=>0):=by
 refine (UW 2 Tryz.underlying92 rfl (Y1 rfl (Vp (en:=ZJ) (ok:=WD) 6 rfl UB) (Y1 rfl open_ints TL))).map ?_
 rintro H cs ⟨t,a,_⟩ ⟨hl,⟨h0,h0'⟩,⟨v,h1,Fy⟩,_⟩
 refine ⟨⟨t,v,a⟩,⟨?_,h0',Fy⟩,lJa _⟩
 match cs,hl with
 | [c0,c1],_ =>
  have e0:[c0]=ZJ t:=h0
  have e1:[c1]=[v]:=h1
  simp only [ZJ,List.cons.injEq,and_true] at e0 e1
  show _=[_,_]
  rw [e0,e1]
theorem af3:JO enc Tryz.prog w sp held 30 (fun H cs m=>cs=anK m/\aij H m) (fun _=>0):=by
 refine (UW 11 Tryz.underlying30 rfl (Y1 rfl (MW 2 rfl (by decide) Tryz.underlying22 af1) (Y1 rfl (MW 2 rfl (by decide) Tryz.underlying23 (Vp (en:=TH) (ok:=Rm) 6 rfl af0)) (Y1 rfl (MW 3 rfl (by decide) Tryz.underlying24 af2)
  (Y1 rfl (Vp (en:=ZJ) (ok:=WD) 6 rfl UB) (Y1 rfl (Vp (en:=ZJ) (ok:=WD) 6 rfl UB) (Y1 rfl (Vp (en:=ZJ) (ok:=WD) 6 rfl UB)
  (Y1 rfl (MW 3 rfl (by decide) Tryz.underlying25 (Vp (en:=NQ) (ok:=Kt) 6 rfl aj5)) (Y1 rfl (MW 2 rfl (by decide) Tryz.underlying26 (Vp (en:=TH) (ok:=Rm) 6 rfl af0)) (Y1 rfl (Vp (en:=ZJ) (ok:=WD) 6 rfl UB)
  (Y1 rfl (MW 2 rfl (by decide) Tryz.underlying27 adM) (Y1 rfl (MW 2 rfl (by decide) Tryz.underlying28 (Vp (en:=G9) (ok:=Io) 6 rfl aj6)) TL)))))))))))).map ?_
 rintro H cs ⟨a0,a1,a2,a3,a4,a5,a6,a7,a8,a9,a10,_⟩ ⟨hl,⟨v0,h0,k0⟩,⟨v1,h1,k1⟩,⟨v2,h2,k2⟩,⟨h3,k3⟩,⟨h4,k4⟩,⟨h5,k5⟩,⟨v6,h6,k6⟩,⟨v7,h7,k7⟩,⟨h8,k8⟩,⟨v9,h9,k9⟩,⟨v10,h10,k10⟩,_⟩
 refine ⟨⟨v0,a0,v1,a1,v2,a2,a3,a4,a5,v6,a6,v7,a7,a8,v9,a9,v10,a10⟩,⟨?_,k0,k1,k2,k3,k4,k5,k6,k7,k8,k9,k10⟩,lJa _⟩
 match cs,hl with
 | [c0,c1,c2,c3,c4,c5,c6,c7,c8,c9,c10],_ =>
  have e0:[c0]=[v0]:=h0
  have e1:[c1]=[v1]:=h1
  have e2:[c2]=[v2]:=h2
  have e3:[c3]=ZJ a3:=h3
  have e4:[c4]=ZJ a4:=h4
  have e5:[c5]=ZJ a5:=h5
  have e6:[c6]=[v6]:=h6
  have e7:[c7]=[v7]:=h7
  have e8:[c8]=ZJ a8:=h8
  have e9:[c9]=[v9]:=h9
  have e10:[c10]=[v10]:=h10
  simp only [ZJ,List.cons.injEq,and_true] at e0 e1 e2 e3 e4 e5 e6 e7 e8 e9 e10
  show _=[_,_,_,_,_,_,_,_,_,_,_]
  rw [e0,e1,e2,e3,e4,e5,e6,e7,e8,e9,e10]
end
end YP
namespace IY
open Go Go.RowKit YY
noncomputable abbrev laid:List (String × DataW Unit):=[("math/bits.deBruijn32tab",Rows.laid_math_bits_deBruijn32tab),("math/bits.deBruijn64tab",Rows.laid_math_bits_deBruijn64tab),("unicode/utf8.acceptRanges",Rows.laid_unicode_utf8_acceptRanges),("unicode/utf8.first",Rows.laid_unicode_utf8_first)]
theorem extra:U8Extra Tryz.prog Tryz.WC:=⟨by kernel_rfl,by kernel_rfl,by kernel_rfl,by kernel_rfl,by kernel_rfl,by kernel_rfl,by kernel_rfl⟩
theorem af4:Rows.laid_unicode_utf8_first=Lib.firstData:=by kernel_rfl
theorem adN:(Rows.laid_unicode_utf8_acceptRanges:DataW Unit)=Lib.acceptData:=by kernel_rfl
theorem aj7 {W:World} (h:laidMetH Tryz.prog laid W):Lib.Utf8Tabs (Tryz.WC.g 3) (Tryz.WC.g 4) W:=by
 rw [MakeChecks.laidMetH_plain _ _ _ k_d] at h
 refine utf8Tabs_of_readsT (.of196 Tryz.acL) extra (Lib.laidMet.reads h (.tail _ (.tail _ (.tail _ (.head _)))) |> fun x=>?_) (Lib.laidMet.reads h (.tail _ (.tail _ (.head _))) |> fun x=>?_)
 .grind [af4]
 .grind [adN]
theorem JR {w:World} {a:Addr} {v:Value} (h:w.cell? a=some v):a.block<w.heap.size:=by
 unfold World.cell? at h
 split at h
 .grind
 .cases h
theorem am1 {W:World} (h:laidMetH Tryz.prog laid W):X6.NR (Wy W):=by
 intro w l H
 have b:=H.finish
 obtain ⟨t3,t4⟩:=aj7 h
 refine ⟨fun c hc=>?_,fun i hi=>⟨?_,?_⟩⟩
 .rw [b.cell (JR (t3 c hc))];exact t3 c hc
 .rw [b.cell (JR (t4 i hi).1)];exact (t4 i hi).1
 .rw [b.cell (JR (t4 i hi).2)];exact (t4 i hi).2
theorem aaR {P:Program} {W:World} {name:String} {zs:xO} {g:Nat} (h:Lib.TabIs P W name .u8 zs) (hg:P.globalNamed name=some g):At W g 0 (zs.map fun z=>Value.int .u8 z):=by
 unfold Lib.TabIs World.var? at h
 rw [hg,lIb] at h
 split at h
 .rename_i cs e fz hh
  obtain rfl:=yq6 h
  exact ⟨_,e,fz,hh,fun i v hi=>by simpa using hi⟩
 .cases h
theorem af5 {W:World} {b:Nat} {vs:xM} (h:At W b 0 vs):Uo (Wy W) b 0 vs:=by
 obtain ⟨cs,e,fz,h1,h2⟩:=h
 exact ⟨cs,e,fz,h1,h2⟩
theorem am2 {W:World} (h:laidMetH Tryz.prog laid W):Fold.JI (Wy W):=by
 rw [MakeChecks.laidMetH_plain _ _ _ k_d] at h
 have H9:Lib.TabIs Tryz.prog W "math/bits.deBruijn32tab" .u8 (Bm.Qn.map fun (n:Nat)=>(n:Int)):=Lib.tabIs_of_head (g:=2) (t:=347) (e:=5) (n:=32) k_d k_d rfl rfl k_d k_d h
 have TZ:Lib.TabIs Tryz.prog W "math/bits.deBruijn64tab" .u8 (Bm.Qm.map fun (n:Nat)=>(n:Int)):=Lib.tabIs_of_head (g:=3) (t:=348) (e:=5) (n:=64) k_d k_d rfl rfl k_d k_d h.tail
 exact ⟨af5 (aaR H9 k_d),af5 (aaR TZ k_d)⟩
theorem apl {W:World} (h:laidMetH Tryz.prog laid W):X6.NR (Wy W)/\Fold.JI (Wy W):=⟨am1 h,am2 h⟩
theorem met (os:Os) (args:Array Value):laidMetH Tryz.prog laid ((World.laidAll Tryz.prog os laid).forCall (fun _ _=>0) ⟨#[],args,[]⟩).memory:=by
 rw [MakeChecks.laidMetH_plain _ _ _ k_d];exact laidMet_laidAll _ k_d k_d
section
variable {H:Type} {enc:TypeId × Value->H}
theorem aav {a:Assume} {C:Checked} {os:Os} {f:FuncId} {fn:Func} {s:ChangeSpec} {conds:List PathCond} {apart fresh handsOn again:Bool} {X:World->Array Value->Prop}
  (hX:∀(w w':World) (args:Array Value),w.heap=w'.heap->X w args->X w' args)
  (own:ownKnob C.prog.godebug=none) (started:os.Started) (noInit:C.prog.inits.idxOf? f=none) (hfn:C.prog.funcs[f]?=some fn)
  (witness:∃(w:World) (tape:Tape) (i:Input),w.os=os/\(w.forCall tape i).Shaped C.prog/\i.vars=[]/\Input.okWide C.prog (w.forCall tape i) .any w.heap.size f i /\
   ((s.pre enc C.prog fn conds apart (w.forCall tape i).memory i.args/\X (w.forCall tape i).memory i.args)/\sizedMet enc C.prog fn (OpenSpec.ofChange s) apart (w.forCall tape i).memory i.args)/\a.holds C.prog (lone (Frame.enter C.prog f i.args .normal) [] (w.forCall tape i)))
  (contract:∀(W:World) (base:Nat) (args:Array Value) (ds gs:List (DataW H)) (before:List MemPlace),
   (∀(j:Nat) t v,fn.params[j]?=some t->args[j]?=some v->Value.okWide C.prog W .any base t v) ->
   DataW.Whole enc C.prog fn.params.toList s.vars apart W args.toList ds gs before ->
   conds.all (PathCond.test C.prog ⟨fn.params.toList,ds,s.plain.varTypes C.prog,gs⟩)=true ->
   (DataW.weightsEach C.prog (fn.params.toList++s.plain.varTypes C.prog) (ds++gs)).all (·<=reachBytes)=true->X W args->W.ShapedOpen C.prog ->
   a.holds C.prog (lone (Frame.enter C.prog f args .normal) [] W) ->
   Calls C.prog f args W fun e W'=>∃v,e=.returned v/\s.post enc C.prog fn apart fresh handsOn again W args v W') :
  ReturnsInHanded a C os f .any (fun w args=>(s.pre enc C.prog fn conds apart w args/\X w args)/\sizedMet enc C.prog fn (OpenSpec.ofChange s) apart w args) (s.post enc C.prog fn apart fresh handsOn again):=by
 refine returnsInHanded_of_calls own started noInit witness<|fun w tape i _ hsh _ hok hpre hholds=>?_
 obtain ⟨_,_,_,fn',apm,_,_,_,_,hval⟩:=hok
 have e:fn'=fn:=yq6 (apm.symm.trans hfn)
 subst e
 obtain ⟨⟨⟨ds,gs,before,hw,hc⟩,hx⟩,hz⟩:=hpre
 have hw':=DataW.Whole.of_heap (w':=w.forCall tape i) (by rfl) hw
 refine (contract (w.forCall tape i) w.heap.size i.args ds gs before hval hw' hc (hz.weights hw) (hX _ _ _ (by rfl) hx) hsh hholds).mono fun e W' ⟨v,he,hp⟩=>?_
 subst he
 exact ChangeSpec.post_blind hp
end
end IY
end Go.Proofs.YtakpnepblgfknaaGreatDoor
