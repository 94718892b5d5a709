/- The law ShotBack. -/
import Derived.Test.YtffkcgogkhdcdaaShotO
set_option maxRecDepth 100000
set_option maxHeartbeats 4000000
set_option linter.unusedVariables false
set_option linter.unusedSimpArgs false
namespace Go.Proofs.Ytffkcgogkhdcdaa.Shot
open Go Go.Proofs.Ytffkcgogkhdcdaa.Eng Go.RowKit
theorem i64_of {g : Glob} {mem : List UInt8} {tab : List Int} {gv cv : Value} {glob : List Int} {host : Int} {calls : List CallV} (hg : FSl g enI okI 1 gv glob) (hc : FSl g enC (okV g) 4 cv calls) : i64S (shD mem tab glob host calls) :=
  ⟨fun n hn => FSl.all hg n hn, fun c hc' => by
    obtain ⟨x, hx, rfl⟩ := List.mem_map.1 hc'
    have := FSl.all hc x hx
    exact ⟨fun n hn => FSl.all this.ls n hn, fun n hn => FSl.all this.ss n hn⟩⟩
theorem wr_ok {D : ShotD} (h : okS D) : wr D = shotT D := if_pos h
theorem shotBack0 (w : World) (mem : List UInt8) (tv gv cv : Value) (tab glob : List Int) (host : Int) (calls : List CallV) (hm : mem.length ≤ 9223372036854775807) (ht : FSl (froz w) enI okI 1 tv tab) (hg : FSl (froz w) enI okI 1 gv glob) (hh : I64 host) (hc : FSl (froz w) enC (okV (froz w)) 4 cv calls) : Fc Try.prog 5 #[.agg #[.string (bs mem), tv, gv], .agg #[cv, .int .i64 host]] w (fun v w' => v = .bool true ∧ Below w.heap.size w w') := by
  refine Fc.of Try.func5 rfl (by kernel_rfl) ?_
  have H := Sat.start w
  have E := Ext.refl (froz w)
  have hi := i64_of (mem := mem) (tab := tab) (host := host) hg hc
  refine rBoxS H ?_
  clear H
  intro p1 w1 H
  refine rBoxS H ?_
  clear H
  intro p2 w2 H
  clear w1
  refine rLdA (H.at 1 rfl) 0 rfl rfl rfl ?_
  refine rLdA (H.at 0 rfl) 0 rfl rfl rfl ?_
  refine CallP.mk (Fc.imp (Go.Proofs.Ytffkcgogkhdcdaa.Shot.write H _ _ _ _ _ _ _ _ ?_ ht hg ?_ hc) ?_)
  · assumption
  · assumption
  clear H
  rintro _ w1 ⟨t1, ⟨e1, ⟨rfl, ⟨h1, ⟨h2, ⟨⟨h3, h4⟩, ⟨h5, H⟩⟩⟩⟩⟩⟩⟩
  refine cI (fun c1 => ?_) (fun c1 => ?_)
  · replace c1 := vNe_t (c1)
    refine rStrEq ?_
    refine br (fun c2 => ?_) (fun c2 => ?_)
    · replace c2 := dec_t (c2)
      refine br (fun c3 => ?_) (fun c3 => ?_)
      · replace c3 := vEq_t (c3)
        refine Done.mk ?_
        exact ⟨rfl, H.finish⟩
      replace c3 := vEq_f (c3)
      refine Done.mk ?_
      refine ⟨?_, ?_⟩
      · exact congrArg Value.bool (vEq_T (by omega))
      exact E.fin H
    replace c2 := dec_f (c2)
    refine Done.mk ?_
    exact absurd (h1.trans (if_neg (fun h => c1 (h2.2 h)))) c2
  replace c1 := vNe_f (c1)
  refine CallP.mk (Fc.imp (Go.Proofs.Ytffkcgogkhdcdaa.Shot.read H _ ?_) ?_)
  · omega
  clear H
  rintro _ w3 ⟨g'1, ⟨mem1, ⟨tv1, ⟨gv1, ⟨cv1, ⟨tab1, ⟨glob1, ⟨host1, ⟨calls1, ⟨e2, ⟨rfl, ⟨h6, ⟨HE, ⟨h7, ⟨h8, ⟨h9, ⟨h10, ⟨h11, ⟨h12, ⟨h13, H⟩⟩⟩⟩⟩⟩⟩⟩⟩⟩⟩⟩⟩⟩⟩⟩⟩⟩⟩⟩
  replace E := E.trans HE
  replace hc := FSl.extN (ok := Go.Proofs.Ytffkcgogkhdcdaa.Shot.okV) (fun _ _ _ h E => Go.Proofs.Ytffkcgogkhdcdaa.Shot.okV.ext h E) hc HE
  replace hg := FSl.ext hg HE
  replace ht := FSl.ext ht HE
  clear HE
  have ho := h2.1 c1
  have ht1 : t1 = shotT (shD mem tab glob host calls) := h1.trans (if_pos ho)
  obtain ⟨hb1, hb2⟩ := shot_back ho hi
  rw [← ht1] at hb1 hb2
  have hne : t1 ≠ [] := by rw [ht1]; exact shotT_ne _
  have he2 : e2 = 0 := h6.trans hb1
  have hD := (h12 he2).trans hb2
  obtain ⟨q1, q2, q3, q4, q5⟩ := ShotD.mk.inj hD
  refine rAllocS H rfl ?_
  clear H
  intro p3 w4 H
  clear w3
  refine rAllocS H rfl ?_
  clear H
  intro p4 w3 H
  clear w4
  refine rStAS H 1 rfl rfl rfl (by simp only [List.all_cons, List.all_nil, FSl.one ht, FSl.one hg, FSl.one hc, FSl.one h9, FSl.one h8, FSl.one h7]; rfl) ?_
  clear H
  intro w4 H
  clear w3
  refine rStAS H 0 rfl rfl rfl (by simp only [List.all_cons, List.all_nil, FSl.one ht, FSl.one hg, FSl.one hc, FSl.one h9, FSl.one h8, FSl.one h7]; rfl) ?_
  clear H
  intro w3 H
  clear w4
  refine br_t (vEq_T (by assumption)) ?_
  refine rStrNe ?_
  refine br_t (not_T (dec_F (by assumption))) ?_
  refine rLdA (H.at 3 rfl) 0 rfl rfl rfl ?_
  refine rLdA (H.at 1 rfl) 0 rfl rfl rfl ?_
  refine CallP.mk (Fc.imp (Go.Proofs.Ytffkcgogkhdcdaa.Shot.sameImage H _ _ _ _ _ _ _ _ _ _ ht h7 hg h8) ?_)
  clear H
  rintro _ w4 ⟨b1, ⟨rfl, ⟨h14, H⟩⟩⟩
  refine br (fun c2 => ?_) (fun c2 => ?_)
  · replace c2 := h14.1 (c2)
    refine rLdA (H.at 2 rfl) 0 rfl rfl rfl ?_
    refine rLdA (H.at 0 rfl) 0 rfl rfl rfl ?_
    refine CallP.mk (Fc.imp (Go.Proofs.Ytffkcgogkhdcdaa.Shot.sameState _ _ _ _ _ _ H hc h9) ?_)
    clear H
    rintro _ w5 ⟨⟨b2, ⟨rfl, h15⟩⟩, H⟩
    refine Done.mk ?_
    refine ⟨?_, ?_⟩
    · exact congrArg Value.bool (h15.2 ⟨q4.symm, q5.symm⟩)
    exact E.fin H
  replace c2 := iff_f h14 (c2)
  refine Done.mk ?_
  exact absurd (show mem = mem1 ∧ tab = tab1 ∧ glob = glob1 from ⟨q1.symm, q2.symm, q3.symm⟩) (by assumption)
theorem shotBack (w : World) (x : ImgV) (s : StV) (hx : okImg (froz w) x) (hs : okSt (froz w) s) : Fc Try.prog 5 #[.agg (enImg x).toArray, .agg (enSt s).toArray] w (fun v w' => v = .bool true ∧ Below w.heap.size w w') :=
  shotBack0 w x.mem x.tv x.gv s.cv x.tab x.glob s.host s.calls hx.mem hx.tab hx.glob hs.host hs.calls
end Go.Proofs.Ytffkcgogkhdcdaa.Shot
