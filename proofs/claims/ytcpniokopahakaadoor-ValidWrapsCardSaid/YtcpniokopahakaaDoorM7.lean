/- Texts of this claim, one behind the other. -/
import Derived.Test.YtcpniokopahakaaDoorM6
import Derived.Test.YtcpniokopahakaaDoorM3
import Derived.Test.YtcpniokopahakaaDoorM4
import Derived.Test.YtcpniokopahakaaDoorTie
import Derived.SevenTiedAt
import Derived.Lib.LaidU8T
import Derived.LaidMore
import Derived.Lay
import Derived.JoinedCond
import Derived.Stop.LaidErr
/- The walk of ValidMore. -/
set_option maxRecDepth 100000
set_option maxHeartbeats 4000000
set_option linter.unusedVariables false
set_option linter.unusedSimpArgs false
namespace Go.Proofs.YtcpniokopahakaaDoor.Valid
open Go Go.Proofs.YtcpniokopahakaaDoor.Eng Go.RowKit
open Ins Nest Leb Bin
theorem modE_chk {n : ModD} (h : chkM n ≠ 0) : modE n = chkM n := by
  have e : headE n = chkM n := by unfold headE; rw [fst_ne _ h]
  unfold modE; rw [e, fst_ne _ h]
theorem set_tys {l : List FunV} {f f' : FunV} (hf : l[0]? = some f) (hty : f'.ty = f.ty) : (l.set 0 f').map (fun f => f.ty) = l.map (fun f => f.ty) := by
  cases l with
  | nil => rfl
  | cons a r =>
    obtain rfl : a = f := by simpa using hf
    simp [hty]
section
variable {g g' : Glob} {m : ModV} {vt vf vg : Value} {ts : List SigV} {fs : List FunV} {gs : List (Int × Bool × Int)}
def wider (m : ModV) (vt : Value) (ts : List SigV) (vf : Value) (fs : List FunV) (vg : Value) (gs : List (Int × Bool × Int)) : ModV := ⟨vt, ts, m.vm, m.imps, vf, fs, m.table, m.pages, m.most, vg, gs, m.vx, m.exps, m.start, m.ve, m.elems, m.vd, m.data⟩
theorem wider_ok (hm : okMd g m) (E : Ext g g') (hS : FSl g' enSg (okSg g') 2 vt ts) (hF : FSl g' enFn (okFn g') 3 vf fs) (hG : FSl g' enGl okGl 3 vg gs) : okMd g' (wider m vt ts vf fs vg gs) :=
  have h := hm.ext E
  ⟨hS, h.imps, hF, h.table, h.pages, h.most, hG, h.exps, h.start, h.elems, h.data⟩
theorem wider_more (hS : ∃ q, ts = m.types ++ q) (hG : ∃ q, gs = m.globals ++ q) (hT : fs.map (fun f => f.ty) = m.funcs.map (fun f => f.ty)) (hF : ∀ f' ∈ fs, ∃ f ∈ m.funcs, ∃ ks, f'.ty = f.ty ∧ f'.body = f.body ∧ f'.loc = f.loc ++ ks) : More m.d (wider m vt ts vf fs vg gs).d := by
  obtain ⟨q, rfl⟩ := hS
  obtain ⟨r, rfl⟩ := hG
  refine ⟨⟨q.map SigV.d, List.map_append⟩, rfl, ?_, ?_, rfl, rfl, ⟨r, rfl⟩, rfl, rfl, rfl, rfl⟩
  · show (fs.map FunV.d).map (fun f => f.ty) = (m.funcs.map FunV.d).map (fun f => f.ty)
    rw [List.map_map, List.map_map]; exact hT
  · intro f' hf'
    obtain ⟨x, hx, rfl⟩ := List.mem_map.1 (show f' ∈ fs.map FunV.d from hf')
    obtain ⟨y, hy, ks, e1, e2, e3⟩ := hF x hx
    exact ⟨y.d, List.mem_map.2 ⟨y, hy, rfl⟩, ks, e1, congrArg (List.map InsV.d) e2, e3⟩
theorem same_fs (l : List FunV) : ∀ f' ∈ l, ∃ f ∈ l, ∃ ks : List Int, f'.ty = f.ty ∧ f'.body = f.body ∧ f'.loc = f.loc ++ ks := fun f' h => ⟨f', h, [], rfl, rfl, (List.append_nil _).symm⟩
theorem set_fs {l : List FunV} {f f1 : FunV} {k : Int} (hf : l[0]? = some f) (e1 : f1.ty = f.ty) (e2 : f1.body = f.body) (e3 : f1.loc = f.loc ++ [k]) : ∀ f' ∈ l.set 0 f1, ∃ f ∈ l, ∃ ks : List Int, f'.ty = f.ty ∧ f'.body = f.body ∧ f'.loc = f.loc ++ ks := fun f' h => by
  rcases List.mem_or_eq_of_mem_set h with h | rfl
  · exact same_fs l f' h
  · exact ⟨f, List.mem_of_getElem? hf, [k], e1, e2, e3⟩
theorem app_ok {α : Type} {ok : α → Prop} {l : List α} {x : α} (h : ∀ y ∈ l, ok y) (hx : ok x) : ∀ y ∈ l ++ [x], ok y := fun y hy => by
  rcases List.mem_append.1 hy with h1 | h1
  · exact h y h1
  · rw [List.mem_singleton.1 h1]; exact hx
theorem set_ok {α : Type} {ok : α → Prop} {l : List α} {x : α} (h : ∀ y ∈ l, ok y) (hx : ok x) : ∀ y ∈ l.set 0 x, ok y := fun y hy => by
  rcases List.mem_or_eq_of_mem_set hy with h1 | rfl
  · exact h y h1
  · exact hx
theorem vm1 {n : ModD} {e1 e2 : Int} (h1 : e1 = chkM n) (h2 : e2 = modE n) (h : e1 ≠ 0) : Value.bool (vEq e2 e1) = Value.bool true := by
  have : vEq e2 e1 = true := by rw [vEq_iff, h2, modE_chk (h1 ▸ h), h1]; simp
  rw [this]
theorem vm2 {n : ModD} {e1 e2 : Int} (hs : chkM n = 0 → modE n = 0) (h1 : e1 = chkM n) (h2 : e2 = modE n) (h : e1 = 0) : Value.bool (vEq e2 0) = Value.bool true := by
  have : vEq e2 0 = true := by rw [vEq_iff, h2, hs (h1 ▸ h)]; simp
  rw [this]
theorem wider_sound (hn : okMd g' (wider m vt ts vf fs vg gs)) (hS : ∃ q, ts = m.types ++ q) (hG : ∃ q, gs = m.globals ++ q) (hT : fs.map (fun f => f.ty) = m.funcs.map (fun f => f.ty)) (hF : ∀ f' ∈ fs, ∃ f ∈ m.funcs, ∃ ks, f'.ty = f.ty ∧ f'.body = f.body ∧ f'.loc = f.loc ++ ks) (q0 : modE m.d = 0) (ho : ∀ f ∈ m.funcs, ∀ x ∈ f.body, U8 x.op) : chkM (wider m vt ts vf fs vg gs).d = 0 → modE (wider m vt ts vf fs vg gs).d = 0 :=
  fun h => more_sound (wider_more hS hG hT hF) q0 ho h
theorem ops_ok (hm : okMd g m) : ∀ f ∈ m.funcs, ∀ x ∈ f.body, U8 x.op := fun f hf x hx => (FSl.all (FSl.all hm.funcs f hf).body x hx).op
end
theorem validMore (w : World) (m : ModV) (t : SigV) (x : Int × Bool × Int) (k : Int) (hm : okMd (froz w) m) (ht : okSg (froz w) t) (hx : okGl x) (hk : 0 ≤ k ∧ k ≤ 255) (hT : U8F (froz w)) : Fc Tryd.prog 7 #[.agg #[m.vt, m.vm, m.vf, .int .i64 m.table, .int .i64 m.pages, .int .i64 m.most, m.vg, m.vx, .int .i64 m.start, m.ve, m.vd], .agg #[t.vi, t.vo], .agg #[.int .u8 x.1, .bool x.2.1, .int .i64 x.2.2], .int .u8 k] w (fun v w' => v = .bool true ∧ Below w.heap.size w w') := by
  refine Fc.of Tryd.func7 rfl (by kernel_rfl) ?_
  have H := Sat.start w
  have hm_types := hm.types
  have hm_funcs := hm.funcs
  have hm_globals := hm.globals
  have hm_imps := hm.imps
  have hm_exps := hm.exps
  have hm_elems := hm.elems
  have hm_data := hm.data
  have ht_inn := ht.inn
  have ht_out := ht.out
  have hxk := hx.kind
  have hxs := hx.start
  refine rBoxS H ?_
  clear H
  intro p1 w1 H
  refine rBoxS H ?_
  clear H
  intro p2 w2 H
  clear w1
  refine rBoxS H ?_
  clear H
  intro p3 w1 H
  clear w2
  refine rLdA (H.at 2 rfl) 0 rfl rfl rfl ?_
  refine CallP.mk (Fc.imp (Go.Proofs.YtcpniokopahakaaDoor.Valid.sound H ?_ _ ?_ _ _ ?_ ?_) ?_)
  · assumption
  · assumption
  · omega
  · omega
  clear H
  rintro _ w2 ⟨x1, ⟨y1, ⟨b1, ⟨rfl, ⟨h1, H⟩⟩⟩⟩⟩
  refine CallP.mk (Fc.imp (Go.Proofs.YtcpniokopahakaaDoor.Valid.refused H ?_) ?_)
  · assumption
  clear H
  rintro _ w3 ⟨rfl, H⟩
  refine cF rfl ?_
  cases b1
  · refine cT rfl ?_
    refine Done.mk ?_
    exact ⟨rfl, H.finish⟩
  · obtain ⟨q0, q1, q2, f, hf, _⟩ := h1.yes rfl
    have hx0 : x1 = 0 := by rw [q2]; exact Int.zero_emod _
    subst hx0
    have hf : m.funcs[0]? = some f := hf
    have hfm := List.mem_of_getElem? hf
    have hfo := FSl.all hm_funcs f hfm
    have hf_loc := hfo.loc
    have hf_body := hfo.body
    have hf_ty := hfo.ty
    have P := chkM_0 (head_0 (mod_head q0).1).1
    have P_types := P.types
    have P_globals := P.globals
    have P_funcs := P.funcs
    have hfl : f.loc.length ≤ 16 := by
      have := (eachE_0.1 (fst_eq0.1 (fst_eq0.1 (P.funcsE f hfm)).2).1).1
      simp only [FunV.d] at this
      omega
    by_cases hA : m.types.length < 16
    · by_cases hB : m.globals.length < 8
      · by_cases hC : f.loc.length < 16
        · refine cF rfl ?_
          refine rLdA (H.at 2 rfl) 0 rfl rfl rfl ?_
          refine rAllocS H rfl ?_
          clear H
          intro p4 w4 H
          clear w3
          refine rStAS H 0 rfl rfl rfl (by simp only [List.all_cons, List.all_nil, FSl.one hf_body, FSl.one hf_loc, FSl.one ht_out, FSl.one ht_inn, FSl.one hm_data, FSl.one hm_elems, FSl.one hm_exps, FSl.one hm_imps, FSl.one hm_globals, FSl.one hm_funcs, FSl.one hm_types]; rfl) ?_
          clear H
          intro w3 H
          clear w4
          refine rFieldAt rfl ?_
          refine rLd (H.at 3 rfl) 0 rfl rfl rfl ?_
          refine rLenF hm_types rfl ?_
          refine cT (vLt_T (by omega)) ?_
          refine drawtS H [] (.op 0 .pure (.op 1 .held (.op 3 .held (.fork (.op 2 .forced (.op 4 .forced (.op 5 .free (.op 6 .pure (.op 7 .free .nil))))) (.op 4 .forced (.op 2 .forced (.op 5 .free (.op 6 .pure (.op 7 .free .nil))))))))) mixed (by kernel_rfl) ?_
          clear H
          intro w4 H
          clear w3
          refine tk (fun wx HS => rFieldAt rfl ⟨rfl, rfl⟩) ?_
          refine tk (fun wx HS => rLd (HS.at 3 rfl) 0 rfl rfl rfl ⟨rfl, rfl⟩) ?_
          refine tk (fun wx HS => rLdA (HS.at 2 rfl) 0 rfl rfl rfl ⟨rfl, rfl⟩) ?_
          refine ⟨?_, ?_⟩
          focus
            refine CallP.mk (Fc.imp (Go.Proofs.YtcpniokopahakaaDoor.Bin.copySg H _ _ hm_types ?_) ?_)
            · omega
            clear H
            rintro v' w3 H
            refine KeepP.mk (H.drop 0 (fun H => H)) ?_
            refine rBuildSliceS H rfl rfl rfl rfl ?_
            clear H
            intro p5 w5 H
            clear w3
            refine KeepP.mk (H.drop 1 (fun H => H.drop 0 (fun H => H))) ?_
            refine rApS (ys := [⟨_, _, _, _⟩]) 48 H 1 rfl (H.at 0 rfl) rfl (fun y hy => by rw [List.mem_singleton.1 hy]; simp only [Go.Proofs.YtcpniokopahakaaDoor.Bin.enSg, List.all_cons, List.all_nil, H.one 1 rfl, FSl.one hf_body, FSl.one hf_loc, FSl.one ht_out, FSl.one ht_inn, FSl.one hm_data, FSl.one hm_elems, FSl.one hm_exps, FSl.one hm_imps, FSl.one hm_globals, FSl.one hm_funcs, FSl.one hm_types]; rfl) rfl rfl rfl (by omega) (by omega) ?_
            intro v1
            clear H
            intro w3 H
            clear w5
            refine tk (fun wx HS => rFieldAt rfl ⟨rfl, rfl⟩) ?_
            refine rStS H 2 rfl rfl rfl (H.one 1 rfl) ?_
            clear H
            intro w5 H
            clear w3
            refine rFieldAt rfl ?_
            refine rLd (H.at 5 rfl) 6 rfl rfl rfl ?_
            refine rLenF hm_globals rfl ?_
            refine cT (vLt_T (by omega)) ?_
            refine drawtS H [] (.op 0 .pure (.op 1 .held (.op 3 .held (.fork (.op 2 .forced (.op 4 .forced (.op 5 .free (.op 6 .pure (.op 7 .free .nil))))) (.op 4 .forced (.op 2 .forced (.op 5 .free (.op 6 .pure (.op 7 .free .nil))))))))) mixed (by kernel_rfl) ?_
            clear H
            intro w3 H
            clear w5
            refine tk (fun wx HS => rFieldAt rfl ⟨rfl, rfl⟩) ?_
            refine tk (fun wx HS => rLd (HS.at 5 rfl) 6 rfl rfl rfl ⟨rfl, rfl⟩) ?_
            refine tk (fun wx HS => rLdA (HS.at 3 rfl) 0 rfl rfl rfl ⟨rfl, rfl⟩) ?_
            refine ⟨?_, ?_⟩
            focus
              refine CallP.mk (Fc.imp (Go.Proofs.YtcpniokopahakaaDoor.Bin.copyGl H _ _ hm_globals ?_) ?_)
              · omega
              clear H
              rintro va' w5 H
              refine KeepP.mk (H.drop 0 (fun H => H)) ?_
              refine rBuildSliceS H rfl rfl rfl rfl ?_
              clear H
              intro p6 w6 H
              clear w5
              refine KeepP.mk (H.drop 1 (fun H => H.drop 0 (fun H => H))) ?_
              refine rApS (ys := [⟨_, _⟩]) 16 H 1 rfl (H.at 0 rfl) rfl (fun y _ => rfl) rfl rfl rfl (by omega) (by omega) ?_
              intro v2
              clear H
              intro w5 H
              clear w6
              refine tk (fun wx HS => rFieldAt rfl ⟨rfl, rfl⟩) ?_
              refine rStS H 4 rfl rfl rfl (H.one 1 rfl) ?_
              clear H
              intro w6 H
              clear w5
              refine rFieldAt rfl ?_
              refine rLd (H.at 7 rfl) 2 rfl rfl rfl ?_
              obtain ⟨b1, o1, E1, F1, hok1⟩ := FSl.elt hm_funcs hf
              have hok1_ty := hok1.ty
              have hok1_loc := hok1.loc
              have hok1_body := hok1.body
              refine rIxE E1 rfl rfl rfl ?_
              refine rLdA (H.fat F1) 0 rfl rfl rfl ?_
              refine rAllocS H rfl ?_
              clear H
              intro p7 w5 H
              clear w6
              refine rStAS H 0 rfl rfl rfl (by simp only [List.all_cons, List.all_nil, H.one 2 rfl, H.one 4 rfl, FSl.one hok1_body, FSl.one hok1_loc, FSl.one hf_body, FSl.one hf_loc, FSl.one ht_out, FSl.one ht_inn, FSl.one hm_data, FSl.one hm_elems, FSl.one hm_exps, FSl.one hm_imps, FSl.one hm_globals, FSl.one hm_funcs, FSl.one hm_types]; rfl) ?_
              clear H
              intro w6 H
              clear w5
              refine rFieldAt rfl ?_
              refine rLd (H.at 0 rfl) 1 rfl rfl rfl ?_
              refine rLenF hok1_loc rfl ?_
              refine cT (vLt_T (by omega)) ?_
              refine rFieldAt rfl ?_
              refine rLd (H.at 0 rfl) 1 rfl rfl rfl ?_
              refine CallP.mk (Fc.imp (Go.Proofs.YtcpniokopahakaaDoor.Bin.copyK H _ _ hok1_loc ?_) ?_)
              · omega
              clear H
              rintro vb' w5 H
              refine rBuildSliceS H rfl rfl rfl rfl ?_
              clear H
              intro p8 w7 H
              clear w5
              refine rApS (ys := [_]) 1 H 1 rfl (H.at 0 rfl) rfl (fun y _ => rfl) rfl rfl rfl (by omega) (by omega) ?_
              intro v3
              clear H
              intro w5 H
              clear w7
              refine rFieldAt rfl ?_
              refine rStS H 2 rfl rfl rfl (H.one 1 rfl) ?_
              clear H
              intro w7 H
              clear w5
              refine rFieldAt rfl ?_
              refine rLd (H.at 10 rfl) 2 rfl rfl rfl ?_
              refine CallP.mk (Fc.imp (Go.Proofs.YtcpniokopahakaaDoor.Bin.copyFn H _ _ hm_funcs ?_) ?_)
              · omega
              clear H
              rintro vc' w5 H
              refine rFieldAt rfl ?_
              refine rStS H 8 rfl rfl rfl (H.one 0 rfl) ?_
              clear H
              intro w8 H
              clear w5
              refine rFieldAt rfl ?_
              refine rLd (H.at 8 rfl) 2 rfl rfl rfl ?_
              refine rLdA (H.at 3 rfl) 0 rfl rfl rfl ?_
              obtain ⟨b2, o2, E2⟩ := H.elt 0 rfl 0 (by omega)
              refine rIxE E2 rfl rfl rfl ?_
            rotate_left 1
            focus
              refine rBuildSliceS H rfl rfl rfl rfl ?_
              clear H
              intro p6 w5 H
              clear w3
              refine KeepP.mk (H.drop 0 (fun H => H)) ?_
              refine CallP.mk (Fc.imp (Go.Proofs.YtcpniokopahakaaDoor.Bin.copyGl H _ _ hm_globals ?_) ?_)
              · omega
              clear H
              rintro va' w3 H
              refine KeepP.mk (H.drop 1 (fun H => H.drop 0 (fun H => H))) ?_
              refine rApS (ys := [⟨_, _⟩]) 16 H 0 rfl (H.at 1 rfl) rfl (fun y _ => rfl) rfl rfl rfl (by omega) (by omega) ?_
              intro v2
              clear H
              intro w6 H
              clear w3
              refine tk (fun wx HS => rFieldAt rfl ⟨rfl, rfl⟩) ?_
              refine rStS H 4 rfl rfl rfl (H.one 0 rfl) ?_
              clear H
              intro w3 H
              clear w6
              refine rFieldAt rfl ?_
              refine rLd (H.at 7 rfl) 2 rfl rfl rfl ?_
              obtain ⟨b1, o1, E1, F1, hok1⟩ := FSl.elt hm_funcs hf
              have hok1_ty := hok1.ty
              have hok1_loc := hok1.loc
              have hok1_body := hok1.body
              refine rIxE E1 rfl rfl rfl ?_
              refine rLdA (H.fat F1) 0 rfl rfl rfl ?_
              refine rAllocS H rfl ?_
              clear H
              intro p7 w6 H
              clear w3
              refine rStAS H 0 rfl rfl rfl (by simp only [List.all_cons, List.all_nil, H.one 1 rfl, H.one 4 rfl, FSl.one hok1_body, FSl.one hok1_loc, FSl.one hf_body, FSl.one hf_loc, FSl.one ht_out, FSl.one ht_inn, FSl.one hm_data, FSl.one hm_elems, FSl.one hm_exps, FSl.one hm_imps, FSl.one hm_globals, FSl.one hm_funcs, FSl.one hm_types]; rfl) ?_
              clear H
              intro w3 H
              clear w6
              refine rFieldAt rfl ?_
              refine rLd (H.at 0 rfl) 1 rfl rfl rfl ?_
              refine rLenF hok1_loc rfl ?_
              refine cT (vLt_T (by omega)) ?_
              refine rFieldAt rfl ?_
              refine rLd (H.at 0 rfl) 1 rfl rfl rfl ?_
              refine CallP.mk (Fc.imp (Go.Proofs.YtcpniokopahakaaDoor.Bin.copyK H _ _ hok1_loc ?_) ?_)
              · omega
              clear H
              rintro vb' w6 H
              refine rBuildSliceS H rfl rfl rfl rfl ?_
              clear H
              intro p8 w7 H
              clear w6
              refine rApS (ys := [_]) 1 H 1 rfl (H.at 0 rfl) rfl (fun y _ => rfl) rfl rfl rfl (by omega) (by omega) ?_
              intro v3
              clear H
              intro w6 H
              clear w7
              refine rFieldAt rfl ?_
              refine rStS H 2 rfl rfl rfl (H.one 1 rfl) ?_
              clear H
              intro w7 H
              clear w6
              refine rFieldAt rfl ?_
              refine rLd (H.at 10 rfl) 2 rfl rfl rfl ?_
              refine CallP.mk (Fc.imp (Go.Proofs.YtcpniokopahakaaDoor.Bin.copyFn H _ _ hm_funcs ?_) ?_)
              · omega
              clear H
              rintro vc' w6 H
              refine rFieldAt rfl ?_
              refine rStS H 8 rfl rfl rfl (H.one 0 rfl) ?_
              clear H
              intro w8 H
              clear w6
              refine rFieldAt rfl ?_
              refine rLd (H.at 8 rfl) 2 rfl rfl rfl ?_
              refine rLdA (H.at 3 rfl) 0 rfl rfl rfl ?_
              obtain ⟨b2, o2, E2⟩ := H.elt 0 rfl 0 (by omega)
              refine rIxE E2 rfl rfl rfl ?_
            rotate_left 1
          rotate_left 2
          focus
            refine rBuildSliceS H rfl rfl rfl rfl ?_
            clear H
            intro p5 w3 H
            clear w4
            refine KeepP.mk (H.drop 0 (fun H => H)) ?_
            refine CallP.mk (Fc.imp (Go.Proofs.YtcpniokopahakaaDoor.Bin.copySg H _ _ hm_types ?_) ?_)
            · omega
            clear H
            rintro v' w4 H
            refine KeepP.mk (H.drop 1 (fun H => H.drop 0 (fun H => H))) ?_
            refine rApS (ys := [⟨_, _, _, _⟩]) 48 H 0 rfl (H.at 1 rfl) rfl (fun y hy => by rw [List.mem_singleton.1 hy]; simp only [Go.Proofs.YtcpniokopahakaaDoor.Bin.enSg, List.all_cons, List.all_nil, H.one 0 rfl, FSl.one hf_body, FSl.one hf_loc, FSl.one ht_out, FSl.one ht_inn, FSl.one hm_data, FSl.one hm_elems, FSl.one hm_exps, FSl.one hm_imps, FSl.one hm_globals, FSl.one hm_funcs, FSl.one hm_types]; rfl) rfl rfl rfl (by omega) (by omega) ?_
            intro v1
            clear H
            intro w5 H
            clear w4
            refine tk (fun wx HS => rFieldAt rfl ⟨rfl, rfl⟩) ?_
            refine rStS H 2 rfl rfl rfl (H.one 0 rfl) ?_
            clear H
            intro w4 H
            clear w5
            refine rFieldAt rfl ?_
            refine rLd (H.at 5 rfl) 6 rfl rfl rfl ?_
            refine rLenF hm_globals rfl ?_
            refine cT (vLt_T (by omega)) ?_
            refine drawtS H [] (.op 0 .pure (.op 1 .held (.op 3 .held (.fork (.op 2 .forced (.op 4 .forced (.op 5 .free (.op 6 .pure (.op 7 .free .nil))))) (.op 4 .forced (.op 2 .forced (.op 5 .free (.op 6 .pure (.op 7 .free .nil))))))))) mixed (by kernel_rfl) ?_
            clear H
            intro w5 H
            clear w4
            refine tk (fun wx HS => rFieldAt rfl ⟨rfl, rfl⟩) ?_
            refine tk (fun wx HS => rLd (HS.at 5 rfl) 6 rfl rfl rfl ⟨rfl, rfl⟩) ?_
            refine tk (fun wx HS => rLdA (HS.at 3 rfl) 0 rfl rfl rfl ⟨rfl, rfl⟩) ?_
            refine ⟨?_, ?_⟩
            focus
              refine CallP.mk (Fc.imp (Go.Proofs.YtcpniokopahakaaDoor.Bin.copyGl H _ _ hm_globals ?_) ?_)
              · omega
              clear H
              rintro va' w4 H
              refine KeepP.mk (H.drop 0 (fun H => H)) ?_
              refine rBuildSliceS H rfl rfl rfl rfl ?_
              clear H
              intro p6 w6 H
              clear w4
              refine KeepP.mk (H.drop 1 (fun H => H.drop 0 (fun H => H))) ?_
              refine rApS (ys := [⟨_, _⟩]) 16 H 1 rfl (H.at 0 rfl) rfl (fun y _ => rfl) rfl rfl rfl (by omega) (by omega) ?_
              intro v2
              clear H
              intro w4 H
              clear w6
              refine tk (fun wx HS => rFieldAt rfl ⟨rfl, rfl⟩) ?_
              refine rStS H 4 rfl rfl rfl (H.one 1 rfl) ?_
              clear H
              intro w6 H
              clear w4
              refine rFieldAt rfl ?_
              refine rLd (H.at 7 rfl) 2 rfl rfl rfl ?_
              obtain ⟨b1, o1, E1, F1, hok1⟩ := FSl.elt hm_funcs hf
              have hok1_ty := hok1.ty
              have hok1_loc := hok1.loc
              have hok1_body := hok1.body
              refine rIxE E1 rfl rfl rfl ?_
              refine rLdA (H.fat F1) 0 rfl rfl rfl ?_
              refine rAllocS H rfl ?_
              clear H
              intro p7 w4 H
              clear w6
              refine rStAS H 0 rfl rfl rfl (by simp only [List.all_cons, List.all_nil, H.one 2 rfl, H.one 3 rfl, FSl.one hok1_body, FSl.one hok1_loc, FSl.one hf_body, FSl.one hf_loc, FSl.one ht_out, FSl.one ht_inn, FSl.one hm_data, FSl.one hm_elems, FSl.one hm_exps, FSl.one hm_imps, FSl.one hm_globals, FSl.one hm_funcs, FSl.one hm_types]; rfl) ?_
              clear H
              intro w6 H
              clear w4
              refine rFieldAt rfl ?_
              refine rLd (H.at 0 rfl) 1 rfl rfl rfl ?_
              refine rLenF hok1_loc rfl ?_
              refine cT (vLt_T (by omega)) ?_
              refine rFieldAt rfl ?_
              refine rLd (H.at 0 rfl) 1 rfl rfl rfl ?_
              refine CallP.mk (Fc.imp (Go.Proofs.YtcpniokopahakaaDoor.Bin.copyK H _ _ hok1_loc ?_) ?_)
              · omega
              clear H
              rintro vb' w4 H
              refine rBuildSliceS H rfl rfl rfl rfl ?_
              clear H
              intro p8 w7 H
              clear w4
              refine rApS (ys := [_]) 1 H 1 rfl (H.at 0 rfl) rfl (fun y _ => rfl) rfl rfl rfl (by omega) (by omega) ?_
              intro v3
              clear H
              intro w4 H
              clear w7
              refine rFieldAt rfl ?_
              refine rStS H 2 rfl rfl rfl (H.one 1 rfl) ?_
              clear H
              intro w7 H
              clear w4
              refine rFieldAt rfl ?_
              refine rLd (H.at 10 rfl) 2 rfl rfl rfl ?_
              refine CallP.mk (Fc.imp (Go.Proofs.YtcpniokopahakaaDoor.Bin.copyFn H _ _ hm_funcs ?_) ?_)
              · omega
              clear H
              rintro vc' w4 H
              refine rFieldAt rfl ?_
              refine rStS H 8 rfl rfl rfl (H.one 0 rfl) ?_
              clear H
              intro w8 H
              clear w4
              refine rFieldAt rfl ?_
              refine rLd (H.at 8 rfl) 2 rfl rfl rfl ?_
              refine rLdA (H.at 3 rfl) 0 rfl rfl rfl ?_
              obtain ⟨b2, o2, E2⟩ := H.elt 0 rfl 0 (by omega)
              refine rIxE E2 rfl rfl rfl ?_
            rotate_left 1
            focus
              refine rBuildSliceS H rfl rfl rfl rfl ?_
              clear H
              intro p6 w4 H
              clear w5
              refine KeepP.mk (H.drop 0 (fun H => H)) ?_
              refine CallP.mk (Fc.imp (Go.Proofs.YtcpniokopahakaaDoor.Bin.copyGl H _ _ hm_globals ?_) ?_)
              · omega
              clear H
              rintro va' w5 H
              refine KeepP.mk (H.drop 1 (fun H => H.drop 0 (fun H => H))) ?_
              refine rApS (ys := [⟨_, _⟩]) 16 H 0 rfl (H.at 1 rfl) rfl (fun y _ => rfl) rfl rfl rfl (by omega) (by omega) ?_
              intro v2
              clear H
              intro w6 H
              clear w5
              refine tk (fun wx HS => rFieldAt rfl ⟨rfl, rfl⟩) ?_
              refine rStS H 4 rfl rfl rfl (H.one 0 rfl) ?_
              clear H
              intro w5 H
              clear w6
              refine rFieldAt rfl ?_
              refine rLd (H.at 7 rfl) 2 rfl rfl rfl ?_
              obtain ⟨b1, o1, E1, F1, hok1⟩ := FSl.elt hm_funcs hf
              have hok1_ty := hok1.ty
              have hok1_loc := hok1.loc
              have hok1_body := hok1.body
              refine rIxE E1 rfl rfl rfl ?_
              refine rLdA (H.fat F1) 0 rfl rfl rfl ?_
              refine rAllocS H rfl ?_
              clear H
              intro p7 w6 H
              clear w5
              refine rStAS H 0 rfl rfl rfl (by simp only [List.all_cons, List.all_nil, H.one 1 rfl, H.one 3 rfl, FSl.one hok1_body, FSl.one hok1_loc, FSl.one hf_body, FSl.one hf_loc, FSl.one ht_out, FSl.one ht_inn, FSl.one hm_data, FSl.one hm_elems, FSl.one hm_exps, FSl.one hm_imps, FSl.one hm_globals, FSl.one hm_funcs, FSl.one hm_types]; rfl) ?_
              clear H
              intro w5 H
              clear w6
              refine rFieldAt rfl ?_
              refine rLd (H.at 0 rfl) 1 rfl rfl rfl ?_
              refine rLenF hok1_loc rfl ?_
              refine cT (vLt_T (by omega)) ?_
              refine rFieldAt rfl ?_
              refine rLd (H.at 0 rfl) 1 rfl rfl rfl ?_
              refine CallP.mk (Fc.imp (Go.Proofs.YtcpniokopahakaaDoor.Bin.copyK H _ _ hok1_loc ?_) ?_)
              · omega
              clear H
              rintro vb' w6 H
              refine rBuildSliceS H rfl rfl rfl rfl ?_
              clear H
              intro p8 w7 H
              clear w6
              refine rApS (ys := [_]) 1 H 1 rfl (H.at 0 rfl) rfl (fun y _ => rfl) rfl rfl rfl (by omega) (by omega) ?_
              intro v3
              clear H
              intro w6 H
              clear w7
              refine rFieldAt rfl ?_
              refine rStS H 2 rfl rfl rfl (H.one 1 rfl) ?_
              clear H
              intro w7 H
              clear w6
              refine rFieldAt rfl ?_
              refine rLd (H.at 10 rfl) 2 rfl rfl rfl ?_
              refine CallP.mk (Fc.imp (Go.Proofs.YtcpniokopahakaaDoor.Bin.copyFn H _ _ hm_funcs ?_) ?_)
              · omega
              clear H
              rintro vc' w6 H
              refine rFieldAt rfl ?_
              refine rStS H 8 rfl rfl rfl (H.one 0 rfl) ?_
              clear H
              intro w8 H
              clear w6
              refine rFieldAt rfl ?_
              refine rLd (H.at 8 rfl) 2 rfl rfl rfl ?_
              refine rLdA (H.at 3 rfl) 0 rfl rfl rfl ?_
              obtain ⟨b2, o2, E2⟩ := H.elt 0 rfl 0 (by omega)
              refine rIxE E2 rfl rfl rfl ?_
            rotate_left 1
          rotate_left 2
          · refine rStEA H 0 rfl E2 hf 0 ⟨f.ty, v3, f.loc ++ [k], f.vb, f.body⟩ rfl (by simp only [List.all_cons, List.all_nil, H.one 2 rfl, FSl.one hf_body]; rfl) rfl rfl ?_
            clear H
            intro w9 H
            refine H.frz1 2 U8 rfl (app_ok (FSl.all hf_loc) hk) ?_
            intro g1 e1 hK
            clear H
            intro H
            refine H.frz1 0 (okFn g1) rfl (set_ok (fun y hy => (FSl.all hm_funcs y hy).ext e1) ⟨hf_ty, hK, FSl.extN (ok := okV) (fun _ _ _ h E => h.ext E) hf_body e1⟩) ?_
            intro g2 e2 hF
            clear H
            intro H
            have hF := hF.okm (ok' := okFn g2) fun _ _ h => h.ext e2
            have E := e1.trans e2
            first | refine H.frz1 2 okGl rfl (app_ok (FSl.all hm_globals) hx) ?_ | refine H.frz1 3 okGl rfl (app_ok (FSl.all hm_globals) hx) ?_ | refine H.frz1 1 okGl rfl (app_ok (FSl.all hm_globals) hx) ?_ | refine H.frz1 0 okGl rfl (app_ok (FSl.all hm_globals) hx) ?_ | refine H.frz1 4 okGl rfl (app_ok (FSl.all hm_globals) hx) ?_
            intro g3 e3 hG
            clear H
            intro H
            replace E := E.trans e3
            replace hF := FSl.extN (ok := okFn) (fun _ _ _ h E => h.ext E) hF e3
            first | refine H.frz1 0 (okSg (froz w)) rfl (app_ok (FSl.all hm_types) ht) ?_ | refine H.frz1 1 (okSg (froz w)) rfl (app_ok (FSl.all hm_types) ht) ?_ | refine H.frz1 2 (okSg (froz w)) rfl (app_ok (FSl.all hm_types) ht) ?_ | refine H.frz1 3 (okSg (froz w)) rfl (app_ok (FSl.all hm_types) ht) ?_ | refine H.frz1 4 (okSg (froz w)) rfl (app_ok (FSl.all hm_types) ht) ?_ | refine H.frz1 5 (okSg (froz w)) rfl (app_ok (FSl.all hm_types) ht) ?_ | refine H.frz1 6 (okSg (froz w)) rfl (app_ok (FSl.all hm_types) ht) ?_ | refine H.frz1 7 (okSg (froz w)) rfl (app_ok (FSl.all hm_types) ht) ?_ | refine H.frz1 8 (okSg (froz w)) rfl (app_ok (FSl.all hm_types) ht) ?_
            intro g4 e4 hS
            clear H
            intro H
            replace E := E.trans e4
            replace hF := FSl.extN (ok := okFn) (fun _ _ _ h E => h.ext E) hF e4
            replace hG := hG.ext e4
            replace hS := hS.okm (ok' := okSg g4) fun _ _ h => h.ext E
            have hn := wider_ok hm E hS hF hG
            have hs := wider_sound hn ⟨_, rfl⟩ ⟨_, rfl⟩ (set_tys (f' := ⟨f.ty, v3, f.loc ++ [k], f.vb, f.body⟩) hf rfl) (set_fs (f1 := ⟨f.ty, v3, f.loc ++ [k], f.vb, f.body⟩) hf rfl rfl rfl) q0 (ops_ok hm)
            have hT4 := u8_ext hT E
            have cC := fun (w : World) (l : List As) (H : Sat _ w l) => Bin.check H hT4 _ hn
            have cM := fun (w : World) (l : List As) (H : Sat _ w l) => module_ H hT4 hn
            simp only [wider] at cC cM hs
            refine rLdA (H.at 4 rfl) 0 rfl rfl rfl ?_
            refine CallP.mk (Fc.imp (cC _ _ H) ?_)
            clear H
            rintro _ w5 ⟨⟨e5, ⟨rfl, h2⟩⟩, H⟩
            refine cI (fun c1 => ?_) (fun c1 => ?_)
            · replace c1 := vNe_t (c1)
              refine rLdA (H.at 4 rfl) 0 rfl rfl rfl ?_
              refine CallP.mk (Fc.imp (cM _ _ H) ?_)
              clear H
              rintro _ w10 ⟨e6, ⟨rfl, ⟨h3, H⟩⟩⟩
              refine Done.mk ?_
              refine ⟨?_, ?_⟩
              · exact vm1 (by assumption) (by assumption) (by assumption)
              exact E.fin H
            replace c1 := vNe_f (c1)
            refine rLdA (H.at 4 rfl) 0 rfl rfl rfl ?_
            refine CallP.mk (Fc.imp (cM _ _ H) ?_)
            clear H
            rintro _ w10 ⟨e6, ⟨rfl, ⟨h3, H⟩⟩⟩
            refine Done.mk ?_
            refine ⟨?_, ?_⟩
            · exact vm2 hs (by assumption) (by assumption) (by assumption)
            exact E.fin H
          · refine rStEA H 0 rfl E2 hf 0 ⟨f.ty, v3, f.loc ++ [k], f.vb, f.body⟩ rfl (by simp only [List.all_cons, List.all_nil, H.one 2 rfl, FSl.one hf_body]; rfl) rfl rfl ?_
            clear H
            intro w9 H
            refine H.frz1 2 U8 rfl (app_ok (FSl.all hf_loc) hk) ?_
            intro g1 e1 hK
            clear H
            intro H
            refine H.frz1 0 (okFn g1) rfl (set_ok (fun y hy => (FSl.all hm_funcs y hy).ext e1) ⟨hf_ty, hK, FSl.extN (ok := okV) (fun _ _ _ h E => h.ext E) hf_body e1⟩) ?_
            intro g2 e2 hF
            clear H
            intro H
            have hF := hF.okm (ok' := okFn g2) fun _ _ h => h.ext e2
            have E := e1.trans e2
            first | refine H.frz1 2 okGl rfl (app_ok (FSl.all hm_globals) hx) ?_ | refine H.frz1 3 okGl rfl (app_ok (FSl.all hm_globals) hx) ?_ | refine H.frz1 1 okGl rfl (app_ok (FSl.all hm_globals) hx) ?_ | refine H.frz1 0 okGl rfl (app_ok (FSl.all hm_globals) hx) ?_ | refine H.frz1 4 okGl rfl (app_ok (FSl.all hm_globals) hx) ?_
            intro g3 e3 hG
            clear H
            intro H
            replace E := E.trans e3
            replace hF := FSl.extN (ok := okFn) (fun _ _ _ h E => h.ext E) hF e3
            first | refine H.frz1 0 (okSg (froz w)) rfl (app_ok (FSl.all hm_types) ht) ?_ | refine H.frz1 1 (okSg (froz w)) rfl (app_ok (FSl.all hm_types) ht) ?_ | refine H.frz1 2 (okSg (froz w)) rfl (app_ok (FSl.all hm_types) ht) ?_ | refine H.frz1 3 (okSg (froz w)) rfl (app_ok (FSl.all hm_types) ht) ?_ | refine H.frz1 4 (okSg (froz w)) rfl (app_ok (FSl.all hm_types) ht) ?_ | refine H.frz1 5 (okSg (froz w)) rfl (app_ok (FSl.all hm_types) ht) ?_ | refine H.frz1 6 (okSg (froz w)) rfl (app_ok (FSl.all hm_types) ht) ?_ | refine H.frz1 7 (okSg (froz w)) rfl (app_ok (FSl.all hm_types) ht) ?_ | refine H.frz1 8 (okSg (froz w)) rfl (app_ok (FSl.all hm_types) ht) ?_
            intro g4 e4 hS
            clear H
            intro H
            replace E := E.trans e4
            replace hF := FSl.extN (ok := okFn) (fun _ _ _ h E => h.ext E) hF e4
            replace hG := hG.ext e4
            replace hS := hS.okm (ok' := okSg g4) fun _ _ h => h.ext E
            have hn := wider_ok hm E hS hF hG
            have hs := wider_sound hn ⟨_, rfl⟩ ⟨_, rfl⟩ (set_tys (f' := ⟨f.ty, v3, f.loc ++ [k], f.vb, f.body⟩) hf rfl) (set_fs (f1 := ⟨f.ty, v3, f.loc ++ [k], f.vb, f.body⟩) hf rfl rfl rfl) q0 (ops_ok hm)
            have hT4 := u8_ext hT E
            have cC := fun (w : World) (l : List As) (H : Sat _ w l) => Bin.check H hT4 _ hn
            have cM := fun (w : World) (l : List As) (H : Sat _ w l) => module_ H hT4 hn
            simp only [wider] at cC cM hs
            refine rLdA (H.at 4 rfl) 0 rfl rfl rfl ?_
            refine CallP.mk (Fc.imp (cC _ _ H) ?_)
            clear H
            rintro _ w6 ⟨⟨e5, ⟨rfl, h2⟩⟩, H⟩
            refine cI (fun c1 => ?_) (fun c1 => ?_)
            · replace c1 := vNe_t (c1)
              refine rLdA (H.at 4 rfl) 0 rfl rfl rfl ?_
              refine CallP.mk (Fc.imp (cM _ _ H) ?_)
              clear H
              rintro _ w10 ⟨e6, ⟨rfl, ⟨h3, H⟩⟩⟩
              refine Done.mk ?_
              refine ⟨?_, ?_⟩
              · exact vm1 (by assumption) (by assumption) (by assumption)
              exact E.fin H
            replace c1 := vNe_f (c1)
            refine rLdA (H.at 4 rfl) 0 rfl rfl rfl ?_
            refine CallP.mk (Fc.imp (cM _ _ H) ?_)
            clear H
            rintro _ w10 ⟨e6, ⟨rfl, ⟨h3, H⟩⟩⟩
            refine Done.mk ?_
            refine ⟨?_, ?_⟩
            · exact vm2 hs (by assumption) (by assumption) (by assumption)
            exact E.fin H
          · refine rStEA H 0 rfl E2 hf 0 ⟨f.ty, v3, f.loc ++ [k], f.vb, f.body⟩ rfl (by simp only [List.all_cons, List.all_nil, H.one 2 rfl, FSl.one hf_body]; rfl) rfl rfl ?_
            clear H
            intro w9 H
            refine H.frz1 2 U8 rfl (app_ok (FSl.all hf_loc) hk) ?_
            intro g1 e1 hK
            clear H
            intro H
            refine H.frz1 0 (okFn g1) rfl (set_ok (fun y hy => (FSl.all hm_funcs y hy).ext e1) ⟨hf_ty, hK, FSl.extN (ok := okV) (fun _ _ _ h E => h.ext E) hf_body e1⟩) ?_
            intro g2 e2 hF
            clear H
            intro H
            have hF := hF.okm (ok' := okFn g2) fun _ _ h => h.ext e2
            have E := e1.trans e2
            first | refine H.frz1 2 okGl rfl (app_ok (FSl.all hm_globals) hx) ?_ | refine H.frz1 3 okGl rfl (app_ok (FSl.all hm_globals) hx) ?_ | refine H.frz1 1 okGl rfl (app_ok (FSl.all hm_globals) hx) ?_ | refine H.frz1 0 okGl rfl (app_ok (FSl.all hm_globals) hx) ?_ | refine H.frz1 4 okGl rfl (app_ok (FSl.all hm_globals) hx) ?_
            intro g3 e3 hG
            clear H
            intro H
            replace E := E.trans e3
            replace hF := FSl.extN (ok := okFn) (fun _ _ _ h E => h.ext E) hF e3
            first | refine H.frz1 0 (okSg (froz w)) rfl (app_ok (FSl.all hm_types) ht) ?_ | refine H.frz1 1 (okSg (froz w)) rfl (app_ok (FSl.all hm_types) ht) ?_ | refine H.frz1 2 (okSg (froz w)) rfl (app_ok (FSl.all hm_types) ht) ?_ | refine H.frz1 3 (okSg (froz w)) rfl (app_ok (FSl.all hm_types) ht) ?_ | refine H.frz1 4 (okSg (froz w)) rfl (app_ok (FSl.all hm_types) ht) ?_ | refine H.frz1 5 (okSg (froz w)) rfl (app_ok (FSl.all hm_types) ht) ?_ | refine H.frz1 6 (okSg (froz w)) rfl (app_ok (FSl.all hm_types) ht) ?_ | refine H.frz1 7 (okSg (froz w)) rfl (app_ok (FSl.all hm_types) ht) ?_ | refine H.frz1 8 (okSg (froz w)) rfl (app_ok (FSl.all hm_types) ht) ?_
            intro g4 e4 hS
            clear H
            intro H
            replace E := E.trans e4
            replace hF := FSl.extN (ok := okFn) (fun _ _ _ h E => h.ext E) hF e4
            replace hG := hG.ext e4
            replace hS := hS.okm (ok' := okSg g4) fun _ _ h => h.ext E
            have hn := wider_ok hm E hS hF hG
            have hs := wider_sound hn ⟨_, rfl⟩ ⟨_, rfl⟩ (set_tys (f' := ⟨f.ty, v3, f.loc ++ [k], f.vb, f.body⟩) hf rfl) (set_fs (f1 := ⟨f.ty, v3, f.loc ++ [k], f.vb, f.body⟩) hf rfl rfl rfl) q0 (ops_ok hm)
            have hT4 := u8_ext hT E
            have cC := fun (w : World) (l : List As) (H : Sat _ w l) => Bin.check H hT4 _ hn
            have cM := fun (w : World) (l : List As) (H : Sat _ w l) => module_ H hT4 hn
            simp only [wider] at cC cM hs
            refine rLdA (H.at 4 rfl) 0 rfl rfl rfl ?_
            refine CallP.mk (Fc.imp (cC _ _ H) ?_)
            clear H
            rintro _ w4 ⟨⟨e5, ⟨rfl, h2⟩⟩, H⟩
            refine cI (fun c1 => ?_) (fun c1 => ?_)
            · replace c1 := vNe_t (c1)
              refine rLdA (H.at 4 rfl) 0 rfl rfl rfl ?_
              refine CallP.mk (Fc.imp (cM _ _ H) ?_)
              clear H
              rintro _ w10 ⟨e6, ⟨rfl, ⟨h3, H⟩⟩⟩
              refine Done.mk ?_
              refine ⟨?_, ?_⟩
              · exact vm1 (by assumption) (by assumption) (by assumption)
              exact E.fin H
            replace c1 := vNe_f (c1)
            refine rLdA (H.at 4 rfl) 0 rfl rfl rfl ?_
            refine CallP.mk (Fc.imp (cM _ _ H) ?_)
            clear H
            rintro _ w10 ⟨e6, ⟨rfl, ⟨h3, H⟩⟩⟩
            refine Done.mk ?_
            refine ⟨?_, ?_⟩
            · exact vm2 hs (by assumption) (by assumption) (by assumption)
            exact E.fin H
          · refine rStEA H 0 rfl E2 hf 0 ⟨f.ty, v3, f.loc ++ [k], f.vb, f.body⟩ rfl (by simp only [List.all_cons, List.all_nil, H.one 2 rfl, FSl.one hf_body]; rfl) rfl rfl ?_
            clear H
            intro w9 H
            refine H.frz1 2 U8 rfl (app_ok (FSl.all hf_loc) hk) ?_
            intro g1 e1 hK
            clear H
            intro H
            refine H.frz1 0 (okFn g1) rfl (set_ok (fun y hy => (FSl.all hm_funcs y hy).ext e1) ⟨hf_ty, hK, FSl.extN (ok := okV) (fun _ _ _ h E => h.ext E) hf_body e1⟩) ?_
            intro g2 e2 hF
            clear H
            intro H
            have hF := hF.okm (ok' := okFn g2) fun _ _ h => h.ext e2
            have E := e1.trans e2
            first | refine H.frz1 2 okGl rfl (app_ok (FSl.all hm_globals) hx) ?_ | refine H.frz1 3 okGl rfl (app_ok (FSl.all hm_globals) hx) ?_ | refine H.frz1 1 okGl rfl (app_ok (FSl.all hm_globals) hx) ?_ | refine H.frz1 0 okGl rfl (app_ok (FSl.all hm_globals) hx) ?_ | refine H.frz1 4 okGl rfl (app_ok (FSl.all hm_globals) hx) ?_
            intro g3 e3 hG
            clear H
            intro H
            replace E := E.trans e3
            replace hF := FSl.extN (ok := okFn) (fun _ _ _ h E => h.ext E) hF e3
            first | refine H.frz1 0 (okSg (froz w)) rfl (app_ok (FSl.all hm_types) ht) ?_ | refine H.frz1 1 (okSg (froz w)) rfl (app_ok (FSl.all hm_types) ht) ?_ | refine H.frz1 2 (okSg (froz w)) rfl (app_ok (FSl.all hm_types) ht) ?_ | refine H.frz1 3 (okSg (froz w)) rfl (app_ok (FSl.all hm_types) ht) ?_ | refine H.frz1 4 (okSg (froz w)) rfl (app_ok (FSl.all hm_types) ht) ?_ | refine H.frz1 5 (okSg (froz w)) rfl (app_ok (FSl.all hm_types) ht) ?_ | refine H.frz1 6 (okSg (froz w)) rfl (app_ok (FSl.all hm_types) ht) ?_ | refine H.frz1 7 (okSg (froz w)) rfl (app_ok (FSl.all hm_types) ht) ?_ | refine H.frz1 8 (okSg (froz w)) rfl (app_ok (FSl.all hm_types) ht) ?_
            intro g4 e4 hS
            clear H
            intro H
            replace E := E.trans e4
            replace hF := FSl.extN (ok := okFn) (fun _ _ _ h E => h.ext E) hF e4
            replace hG := hG.ext e4
            replace hS := hS.okm (ok' := okSg g4) fun _ _ h => h.ext E
            have hn := wider_ok hm E hS hF hG
            have hs := wider_sound hn ⟨_, rfl⟩ ⟨_, rfl⟩ (set_tys (f' := ⟨f.ty, v3, f.loc ++ [k], f.vb, f.body⟩) hf rfl) (set_fs (f1 := ⟨f.ty, v3, f.loc ++ [k], f.vb, f.body⟩) hf rfl rfl rfl) q0 (ops_ok hm)
            have hT4 := u8_ext hT E
            have cC := fun (w : World) (l : List As) (H : Sat _ w l) => Bin.check H hT4 _ hn
            have cM := fun (w : World) (l : List As) (H : Sat _ w l) => module_ H hT4 hn
            simp only [wider] at cC cM hs
            refine rLdA (H.at 4 rfl) 0 rfl rfl rfl ?_
            refine CallP.mk (Fc.imp (cC _ _ H) ?_)
            clear H
            rintro _ w6 ⟨⟨e5, ⟨rfl, h2⟩⟩, H⟩
            refine cI (fun c1 => ?_) (fun c1 => ?_)
            · replace c1 := vNe_t (c1)
              refine rLdA (H.at 4 rfl) 0 rfl rfl rfl ?_
              refine CallP.mk (Fc.imp (cM _ _ H) ?_)
              clear H
              rintro _ w10 ⟨e6, ⟨rfl, ⟨h3, H⟩⟩⟩
              refine Done.mk ?_
              refine ⟨?_, ?_⟩
              · exact vm1 (by assumption) (by assumption) (by assumption)
              exact E.fin H
            replace c1 := vNe_f (c1)
            refine rLdA (H.at 4 rfl) 0 rfl rfl rfl ?_
            refine CallP.mk (Fc.imp (cM _ _ H) ?_)
            clear H
            rintro _ w10 ⟨e6, ⟨rfl, ⟨h3, H⟩⟩⟩
            refine Done.mk ?_
            refine ⟨?_, ?_⟩
            · exact vm2 hs (by assumption) (by assumption) (by assumption)
            exact E.fin H
        · refine cF rfl ?_
          refine rLdA (H.at 2 rfl) 0 rfl rfl rfl ?_
          refine rAllocS H rfl ?_
          clear H
          intro p4 w4 H
          clear w3
          refine rStAS H 0 rfl rfl rfl (by simp only [List.all_cons, List.all_nil, FSl.one hf_body, FSl.one hf_loc, FSl.one ht_out, FSl.one ht_inn, FSl.one hm_data, FSl.one hm_elems, FSl.one hm_exps, FSl.one hm_imps, FSl.one hm_globals, FSl.one hm_funcs, FSl.one hm_types]; rfl) ?_
          clear H
          intro w3 H
          clear w4
          refine rFieldAt rfl ?_
          refine rLd (H.at 3 rfl) 0 rfl rfl rfl ?_
          refine rLenF hm_types rfl ?_
          refine cT (vLt_T (by omega)) ?_
          refine drawtS H [] (.op 0 .pure (.op 1 .held (.op 3 .held (.fork (.op 2 .forced (.op 4 .forced (.op 5 .free (.op 6 .pure (.op 7 .free .nil))))) (.op 4 .forced (.op 2 .forced (.op 5 .free (.op 6 .pure (.op 7 .free .nil))))))))) mixed (by kernel_rfl) ?_
          clear H
          intro w4 H
          clear w3
          refine tk (fun wx HS => rFieldAt rfl ⟨rfl, rfl⟩) ?_
          refine tk (fun wx HS => rLd (HS.at 3 rfl) 0 rfl rfl rfl ⟨rfl, rfl⟩) ?_
          refine tk (fun wx HS => rLdA (HS.at 2 rfl) 0 rfl rfl rfl ⟨rfl, rfl⟩) ?_
          refine ⟨?_, ?_⟩
          focus
            refine CallP.mk (Fc.imp (Go.Proofs.YtcpniokopahakaaDoor.Bin.copySg H _ _ hm_types ?_) ?_)
            · omega
            clear H
            rintro v' w3 H
            refine KeepP.mk (H.drop 0 (fun H => H)) ?_
            refine rBuildSliceS H rfl rfl rfl rfl ?_
            clear H
            intro p5 w5 H
            clear w3
            refine KeepP.mk (H.drop 1 (fun H => H.drop 0 (fun H => H))) ?_
            refine rApS (ys := [⟨_, _, _, _⟩]) 48 H 1 rfl (H.at 0 rfl) rfl (fun y hy => by rw [List.mem_singleton.1 hy]; simp only [Go.Proofs.YtcpniokopahakaaDoor.Bin.enSg, List.all_cons, List.all_nil, H.one 1 rfl, FSl.one hf_body, FSl.one hf_loc, FSl.one ht_out, FSl.one ht_inn, FSl.one hm_data, FSl.one hm_elems, FSl.one hm_exps, FSl.one hm_imps, FSl.one hm_globals, FSl.one hm_funcs, FSl.one hm_types]; rfl) rfl rfl rfl (by omega) (by omega) ?_
            intro v1
            clear H
            intro w3 H
            clear w5
            refine tk (fun wx HS => rFieldAt rfl ⟨rfl, rfl⟩) ?_
            refine rStS H 2 rfl rfl rfl (H.one 1 rfl) ?_
            clear H
            intro w5 H
            clear w3
            refine rFieldAt rfl ?_
            refine rLd (H.at 5 rfl) 6 rfl rfl rfl ?_
            refine rLenF hm_globals rfl ?_
            refine cT (vLt_T (by omega)) ?_
            refine drawtS H [] (.op 0 .pure (.op 1 .held (.op 3 .held (.fork (.op 2 .forced (.op 4 .forced (.op 5 .free (.op 6 .pure (.op 7 .free .nil))))) (.op 4 .forced (.op 2 .forced (.op 5 .free (.op 6 .pure (.op 7 .free .nil))))))))) mixed (by kernel_rfl) ?_
            clear H
            intro w3 H
            clear w5
            refine tk (fun wx HS => rFieldAt rfl ⟨rfl, rfl⟩) ?_
            refine tk (fun wx HS => rLd (HS.at 5 rfl) 6 rfl rfl rfl ⟨rfl, rfl⟩) ?_
            refine tk (fun wx HS => rLdA (HS.at 3 rfl) 0 rfl rfl rfl ⟨rfl, rfl⟩) ?_
            refine ⟨?_, ?_⟩
            focus
              refine CallP.mk (Fc.imp (Go.Proofs.YtcpniokopahakaaDoor.Bin.copyGl H _ _ hm_globals ?_) ?_)
              · omega
              clear H
              rintro va' w5 H
              refine KeepP.mk (H.drop 0 (fun H => H)) ?_
              refine rBuildSliceS H rfl rfl rfl rfl ?_
              clear H
              intro p6 w6 H
              clear w5
              refine KeepP.mk (H.drop 1 (fun H => H.drop 0 (fun H => H))) ?_
              refine rApS (ys := [⟨_, _⟩]) 16 H 1 rfl (H.at 0 rfl) rfl (fun y _ => rfl) rfl rfl rfl (by omega) (by omega) ?_
              intro v2
              clear H
              intro w5 H
              clear w6
              refine tk (fun wx HS => rFieldAt rfl ⟨rfl, rfl⟩) ?_
              refine rStS H 4 rfl rfl rfl (H.one 1 rfl) ?_
              clear H
              intro w6 H
              clear w5
              refine rFieldAt rfl ?_
              refine rLd (H.at 7 rfl) 2 rfl rfl rfl ?_
              obtain ⟨b1, o1, E1, F1, hok1⟩ := FSl.elt hm_funcs hf
              have hok1_ty := hok1.ty
              have hok1_loc := hok1.loc
              have hok1_body := hok1.body
              refine rIxE E1 rfl rfl rfl ?_
              refine rLdA (H.fat F1) 0 rfl rfl rfl ?_
              refine rAllocS H rfl ?_
              clear H
              intro p7 w5 H
              clear w6
              refine rStAS H 0 rfl rfl rfl (by simp only [List.all_cons, List.all_nil, H.one 2 rfl, H.one 4 rfl, FSl.one hok1_body, FSl.one hok1_loc, FSl.one hf_body, FSl.one hf_loc, FSl.one ht_out, FSl.one ht_inn, FSl.one hm_data, FSl.one hm_elems, FSl.one hm_exps, FSl.one hm_imps, FSl.one hm_globals, FSl.one hm_funcs, FSl.one hm_types]; rfl) ?_
              clear H
              intro w6 H
              clear w5
              refine rFieldAt rfl ?_
              refine rLd (H.at 0 rfl) 1 rfl rfl rfl ?_
              refine rLenF hok1_loc rfl ?_
              refine cF (vLt_F (by omega)) ?_
              refine rLdA (H.at 5 rfl) 0 rfl rfl rfl ?_
            rotate_left 1
            focus
              refine rBuildSliceS H rfl rfl rfl rfl ?_
              clear H
              intro p6 w5 H
              clear w3
              refine KeepP.mk (H.drop 0 (fun H => H)) ?_
              refine CallP.mk (Fc.imp (Go.Proofs.YtcpniokopahakaaDoor.Bin.copyGl H _ _ hm_globals ?_) ?_)
              · omega
              clear H
              rintro va' w3 H
              refine KeepP.mk (H.drop 1 (fun H => H.drop 0 (fun H => H))) ?_
              refine rApS (ys := [⟨_, _⟩]) 16 H 0 rfl (H.at 1 rfl) rfl (fun y _ => rfl) rfl rfl rfl (by omega) (by omega) ?_
              intro v2
              clear H
              intro w6 H
              clear w3
              refine tk (fun wx HS => rFieldAt rfl ⟨rfl, rfl⟩) ?_
              refine rStS H 4 rfl rfl rfl (H.one 0 rfl) ?_
              clear H
              intro w3 H
              clear w6
              refine rFieldAt rfl ?_
              refine rLd (H.at 7 rfl) 2 rfl rfl rfl ?_
              obtain ⟨b1, o1, E1, F1, hok1⟩ := FSl.elt hm_funcs hf
              have hok1_ty := hok1.ty
              have hok1_loc := hok1.loc
              have hok1_body := hok1.body
              refine rIxE E1 rfl rfl rfl ?_
              refine rLdA (H.fat F1) 0 rfl rfl rfl ?_
              refine rAllocS H rfl ?_
              clear H
              intro p7 w6 H
              clear w3
              refine rStAS H 0 rfl rfl rfl (by simp only [List.all_cons, List.all_nil, H.one 1 rfl, H.one 4 rfl, FSl.one hok1_body, FSl.one hok1_loc, FSl.one hf_body, FSl.one hf_loc, FSl.one ht_out, FSl.one ht_inn, FSl.one hm_data, FSl.one hm_elems, FSl.one hm_exps, FSl.one hm_imps, FSl.one hm_globals, FSl.one hm_funcs, FSl.one hm_types]; rfl) ?_
              clear H
              intro w3 H
              clear w6
              refine rFieldAt rfl ?_
              refine rLd (H.at 0 rfl) 1 rfl rfl rfl ?_
              refine rLenF hok1_loc rfl ?_
              refine cF (vLt_F (by omega)) ?_
              refine rLdA (H.at 5 rfl) 0 rfl rfl rfl ?_
            rotate_left 1
          rotate_left 2
          focus
            refine rBuildSliceS H rfl rfl rfl rfl ?_
            clear H
            intro p5 w3 H
            clear w4
            refine KeepP.mk (H.drop 0 (fun H => H)) ?_
            refine CallP.mk (Fc.imp (Go.Proofs.YtcpniokopahakaaDoor.Bin.copySg H _ _ hm_types ?_) ?_)
            · omega
            clear H
            rintro v' w4 H
            refine KeepP.mk (H.drop 1 (fun H => H.drop 0 (fun H => H))) ?_
            refine rApS (ys := [⟨_, _, _, _⟩]) 48 H 0 rfl (H.at 1 rfl) rfl (fun y hy => by rw [List.mem_singleton.1 hy]; simp only [Go.Proofs.YtcpniokopahakaaDoor.Bin.enSg, List.all_cons, List.all_nil, H.one 0 rfl, FSl.one hf_body, FSl.one hf_loc, FSl.one ht_out, FSl.one ht_inn, FSl.one hm_data, FSl.one hm_elems, FSl.one hm_exps, FSl.one hm_imps, FSl.one hm_globals, FSl.one hm_funcs, FSl.one hm_types]; rfl) rfl rfl rfl (by omega) (by omega) ?_
            intro v1
            clear H
            intro w5 H
            clear w4
            refine tk (fun wx HS => rFieldAt rfl ⟨rfl, rfl⟩) ?_
            refine rStS H 2 rfl rfl rfl (H.one 0 rfl) ?_
            clear H
            intro w4 H
            clear w5
            refine rFieldAt rfl ?_
            refine rLd (H.at 5 rfl) 6 rfl rfl rfl ?_
            refine rLenF hm_globals rfl ?_
            refine cT (vLt_T (by omega)) ?_
            refine drawtS H [] (.op 0 .pure (.op 1 .held (.op 3 .held (.fork (.op 2 .forced (.op 4 .forced (.op 5 .free (.op 6 .pure (.op 7 .free .nil))))) (.op 4 .forced (.op 2 .forced (.op 5 .free (.op 6 .pure (.op 7 .free .nil))))))))) mixed (by kernel_rfl) ?_
            clear H
            intro w5 H
            clear w4
            refine tk (fun wx HS => rFieldAt rfl ⟨rfl, rfl⟩) ?_
            refine tk (fun wx HS => rLd (HS.at 5 rfl) 6 rfl rfl rfl ⟨rfl, rfl⟩) ?_
            refine tk (fun wx HS => rLdA (HS.at 3 rfl) 0 rfl rfl rfl ⟨rfl, rfl⟩) ?_
            refine ⟨?_, ?_⟩
            focus
              refine CallP.mk (Fc.imp (Go.Proofs.YtcpniokopahakaaDoor.Bin.copyGl H _ _ hm_globals ?_) ?_)
              · omega
              clear H
              rintro va' w4 H
              refine KeepP.mk (H.drop 0 (fun H => H)) ?_
              refine rBuildSliceS H rfl rfl rfl rfl ?_
              clear H
              intro p6 w6 H
              clear w4
              refine KeepP.mk (H.drop 1 (fun H => H.drop 0 (fun H => H))) ?_
              refine rApS (ys := [⟨_, _⟩]) 16 H 1 rfl (H.at 0 rfl) rfl (fun y _ => rfl) rfl rfl rfl (by omega) (by omega) ?_
              intro v2
              clear H
              intro w4 H
              clear w6
              refine tk (fun wx HS => rFieldAt rfl ⟨rfl, rfl⟩) ?_
              refine rStS H 4 rfl rfl rfl (H.one 1 rfl) ?_
              clear H
              intro w6 H
              clear w4
              refine rFieldAt rfl ?_
              refine rLd (H.at 7 rfl) 2 rfl rfl rfl ?_
              obtain ⟨b1, o1, E1, F1, hok1⟩ := FSl.elt hm_funcs hf
              have hok1_ty := hok1.ty
              have hok1_loc := hok1.loc
              have hok1_body := hok1.body
              refine rIxE E1 rfl rfl rfl ?_
              refine rLdA (H.fat F1) 0 rfl rfl rfl ?_
              refine rAllocS H rfl ?_
              clear H
              intro p7 w4 H
              clear w6
              refine rStAS H 0 rfl rfl rfl (by simp only [List.all_cons, List.all_nil, H.one 2 rfl, H.one 3 rfl, FSl.one hok1_body, FSl.one hok1_loc, FSl.one hf_body, FSl.one hf_loc, FSl.one ht_out, FSl.one ht_inn, FSl.one hm_data, FSl.one hm_elems, FSl.one hm_exps, FSl.one hm_imps, FSl.one hm_globals, FSl.one hm_funcs, FSl.one hm_types]; rfl) ?_
              clear H
              intro w6 H
              clear w4
              refine rFieldAt rfl ?_
              refine rLd (H.at 0 rfl) 1 rfl rfl rfl ?_
              refine rLenF hok1_loc rfl ?_
              refine cF (vLt_F (by omega)) ?_
              refine rLdA (H.at 5 rfl) 0 rfl rfl rfl ?_
            rotate_left 1
            focus
              refine rBuildSliceS H rfl rfl rfl rfl ?_
              clear H
              intro p6 w4 H
              clear w5
              refine KeepP.mk (H.drop 0 (fun H => H)) ?_
              refine CallP.mk (Fc.imp (Go.Proofs.YtcpniokopahakaaDoor.Bin.copyGl H _ _ hm_globals ?_) ?_)
              · omega
              clear H
              rintro va' w5 H
              refine KeepP.mk (H.drop 1 (fun H => H.drop 0 (fun H => H))) ?_
              refine rApS (ys := [⟨_, _⟩]) 16 H 0 rfl (H.at 1 rfl) rfl (fun y _ => rfl) rfl rfl rfl (by omega) (by omega) ?_
              intro v2
              clear H
              intro w6 H
              clear w5
              refine tk (fun wx HS => rFieldAt rfl ⟨rfl, rfl⟩) ?_
              refine rStS H 4 rfl rfl rfl (H.one 0 rfl) ?_
              clear H
              intro w5 H
              clear w6
              refine rFieldAt rfl ?_
              refine rLd (H.at 7 rfl) 2 rfl rfl rfl ?_
              obtain ⟨b1, o1, E1, F1, hok1⟩ := FSl.elt hm_funcs hf
              have hok1_ty := hok1.ty
              have hok1_loc := hok1.loc
              have hok1_body := hok1.body
              refine rIxE E1 rfl rfl rfl ?_
              refine rLdA (H.fat F1) 0 rfl rfl rfl ?_
              refine rAllocS H rfl ?_
              clear H
              intro p7 w6 H
              clear w5
              refine rStAS H 0 rfl rfl rfl (by simp only [List.all_cons, List.all_nil, H.one 1 rfl, H.one 3 rfl, FSl.one hok1_body, FSl.one hok1_loc, FSl.one hf_body, FSl.one hf_loc, FSl.one ht_out, FSl.one ht_inn, FSl.one hm_data, FSl.one hm_elems, FSl.one hm_exps, FSl.one hm_imps, FSl.one hm_globals, FSl.one hm_funcs, FSl.one hm_types]; rfl) ?_
              clear H
              intro w5 H
              clear w6
              refine rFieldAt rfl ?_
              refine rLd (H.at 0 rfl) 1 rfl rfl rfl ?_
              refine rLenF hok1_loc rfl ?_
              refine cF (vLt_F (by omega)) ?_
              refine rLdA (H.at 5 rfl) 0 rfl rfl rfl ?_
            rotate_left 1
          rotate_left 2
          · have E := Ext.refl (froz w)
            have hF := hm_funcs
            first | refine H.frz1 0 okGl rfl (app_ok (FSl.all hm_globals) hx) ?_ | refine H.frz1 1 okGl rfl (app_ok (FSl.all hm_globals) hx) ?_ | refine H.frz1 2 okGl rfl (app_ok (FSl.all hm_globals) hx) ?_ | refine H.frz1 3 okGl rfl (app_ok (FSl.all hm_globals) hx) ?_ | refine H.frz1 4 okGl rfl (app_ok (FSl.all hm_globals) hx) ?_
            intro g3 e3 hG
            clear H
            intro H
            replace E := E.trans e3
            replace hF := FSl.extN (ok := okFn) (fun _ _ _ h E => h.ext E) hF e3
            first | refine H.frz1 0 (okSg (froz w)) rfl (app_ok (FSl.all hm_types) ht) ?_ | refine H.frz1 1 (okSg (froz w)) rfl (app_ok (FSl.all hm_types) ht) ?_ | refine H.frz1 2 (okSg (froz w)) rfl (app_ok (FSl.all hm_types) ht) ?_ | refine H.frz1 3 (okSg (froz w)) rfl (app_ok (FSl.all hm_types) ht) ?_ | refine H.frz1 4 (okSg (froz w)) rfl (app_ok (FSl.all hm_types) ht) ?_ | refine H.frz1 5 (okSg (froz w)) rfl (app_ok (FSl.all hm_types) ht) ?_ | refine H.frz1 6 (okSg (froz w)) rfl (app_ok (FSl.all hm_types) ht) ?_ | refine H.frz1 7 (okSg (froz w)) rfl (app_ok (FSl.all hm_types) ht) ?_ | refine H.frz1 8 (okSg (froz w)) rfl (app_ok (FSl.all hm_types) ht) ?_
            intro g4 e4 hS
            clear H
            intro H
            replace E := E.trans e4
            replace hF := FSl.extN (ok := okFn) (fun _ _ _ h E => h.ext E) hF e4
            replace hG := hG.ext e4
            replace hS := hS.okm (ok' := okSg g4) fun _ _ h => h.ext E
            have hn := wider_ok hm E hS hF hG
            have hs := wider_sound hn ⟨_, rfl⟩ ⟨_, rfl⟩ rfl (same_fs _) q0 (ops_ok hm)
            have hT4 := u8_ext hT E
            have cC := fun (w : World) (l : List As) (H : Sat _ w l) => Bin.check H hT4 _ hn
            have cM := fun (w : World) (l : List As) (H : Sat _ w l) => module_ H hT4 hn
            simp only [wider] at cC cM hs
            refine CallP.mk (Fc.imp (cC _ _ H) ?_)
            clear H
            rintro _ w5 ⟨⟨e1, ⟨rfl, h2⟩⟩, H⟩
            refine cI (fun c1 => ?_) (fun c1 => ?_)
            · replace c1 := vNe_t (c1)
              refine rLdA (H.at 3 rfl) 0 rfl rfl rfl ?_
              refine CallP.mk (Fc.imp (cM _ _ H) ?_)
              clear H
              rintro _ w7 ⟨e2, ⟨rfl, ⟨h3, H⟩⟩⟩
              refine Done.mk ?_
              refine ⟨?_, ?_⟩
              · exact vm1 (by assumption) (by assumption) (by assumption)
              exact E.fin H
            replace c1 := vNe_f (c1)
            refine rLdA (H.at 3 rfl) 0 rfl rfl rfl ?_
            refine CallP.mk (Fc.imp (cM _ _ H) ?_)
            clear H
            rintro _ w7 ⟨e2, ⟨rfl, ⟨h3, H⟩⟩⟩
            refine Done.mk ?_
            refine ⟨?_, ?_⟩
            · exact vm2 hs (by assumption) (by assumption) (by assumption)
            exact E.fin H
          · have E := Ext.refl (froz w)
            have hF := hm_funcs
            first | refine H.frz1 0 okGl rfl (app_ok (FSl.all hm_globals) hx) ?_ | refine H.frz1 1 okGl rfl (app_ok (FSl.all hm_globals) hx) ?_ | refine H.frz1 2 okGl rfl (app_ok (FSl.all hm_globals) hx) ?_ | refine H.frz1 3 okGl rfl (app_ok (FSl.all hm_globals) hx) ?_ | refine H.frz1 4 okGl rfl (app_ok (FSl.all hm_globals) hx) ?_
            intro g3 e3 hG
            clear H
            intro H
            replace E := E.trans e3
            replace hF := FSl.extN (ok := okFn) (fun _ _ _ h E => h.ext E) hF e3
            first | refine H.frz1 0 (okSg (froz w)) rfl (app_ok (FSl.all hm_types) ht) ?_ | refine H.frz1 1 (okSg (froz w)) rfl (app_ok (FSl.all hm_types) ht) ?_ | refine H.frz1 2 (okSg (froz w)) rfl (app_ok (FSl.all hm_types) ht) ?_ | refine H.frz1 3 (okSg (froz w)) rfl (app_ok (FSl.all hm_types) ht) ?_ | refine H.frz1 4 (okSg (froz w)) rfl (app_ok (FSl.all hm_types) ht) ?_ | refine H.frz1 5 (okSg (froz w)) rfl (app_ok (FSl.all hm_types) ht) ?_ | refine H.frz1 6 (okSg (froz w)) rfl (app_ok (FSl.all hm_types) ht) ?_ | refine H.frz1 7 (okSg (froz w)) rfl (app_ok (FSl.all hm_types) ht) ?_ | refine H.frz1 8 (okSg (froz w)) rfl (app_ok (FSl.all hm_types) ht) ?_
            intro g4 e4 hS
            clear H
            intro H
            replace E := E.trans e4
            replace hF := FSl.extN (ok := okFn) (fun _ _ _ h E => h.ext E) hF e4
            replace hG := hG.ext e4
            replace hS := hS.okm (ok' := okSg g4) fun _ _ h => h.ext E
            have hn := wider_ok hm E hS hF hG
            have hs := wider_sound hn ⟨_, rfl⟩ ⟨_, rfl⟩ rfl (same_fs _) q0 (ops_ok hm)
            have hT4 := u8_ext hT E
            have cC := fun (w : World) (l : List As) (H : Sat _ w l) => Bin.check H hT4 _ hn
            have cM := fun (w : World) (l : List As) (H : Sat _ w l) => module_ H hT4 hn
            simp only [wider] at cC cM hs
            refine CallP.mk (Fc.imp (cC _ _ H) ?_)
            clear H
            rintro _ w6 ⟨⟨e1, ⟨rfl, h2⟩⟩, H⟩
            refine cI (fun c1 => ?_) (fun c1 => ?_)
            · replace c1 := vNe_t (c1)
              refine rLdA (H.at 3 rfl) 0 rfl rfl rfl ?_
              refine CallP.mk (Fc.imp (cM _ _ H) ?_)
              clear H
              rintro _ w7 ⟨e2, ⟨rfl, ⟨h3, H⟩⟩⟩
              refine Done.mk ?_
              refine ⟨?_, ?_⟩
              · exact vm1 (by assumption) (by assumption) (by assumption)
              exact E.fin H
            replace c1 := vNe_f (c1)
            refine rLdA (H.at 3 rfl) 0 rfl rfl rfl ?_
            refine CallP.mk (Fc.imp (cM _ _ H) ?_)
            clear H
            rintro _ w7 ⟨e2, ⟨rfl, ⟨h3, H⟩⟩⟩
            refine Done.mk ?_
            refine ⟨?_, ?_⟩
            · exact vm2 hs (by assumption) (by assumption) (by assumption)
            exact E.fin H
          · have E := Ext.refl (froz w)
            have hF := hm_funcs
            first | refine H.frz1 0 okGl rfl (app_ok (FSl.all hm_globals) hx) ?_ | refine H.frz1 1 okGl rfl (app_ok (FSl.all hm_globals) hx) ?_ | refine H.frz1 2 okGl rfl (app_ok (FSl.all hm_globals) hx) ?_ | refine H.frz1 3 okGl rfl (app_ok (FSl.all hm_globals) hx) ?_ | refine H.frz1 4 okGl rfl (app_ok (FSl.all hm_globals) hx) ?_
            intro g3 e3 hG
            clear H
            intro H
            replace E := E.trans e3
            replace hF := FSl.extN (ok := okFn) (fun _ _ _ h E => h.ext E) hF e3
            first | refine H.frz1 0 (okSg (froz w)) rfl (app_ok (FSl.all hm_types) ht) ?_ | refine H.frz1 1 (okSg (froz w)) rfl (app_ok (FSl.all hm_types) ht) ?_ | refine H.frz1 2 (okSg (froz w)) rfl (app_ok (FSl.all hm_types) ht) ?_ | refine H.frz1 3 (okSg (froz w)) rfl (app_ok (FSl.all hm_types) ht) ?_ | refine H.frz1 4 (okSg (froz w)) rfl (app_ok (FSl.all hm_types) ht) ?_ | refine H.frz1 5 (okSg (froz w)) rfl (app_ok (FSl.all hm_types) ht) ?_ | refine H.frz1 6 (okSg (froz w)) rfl (app_ok (FSl.all hm_types) ht) ?_ | refine H.frz1 7 (okSg (froz w)) rfl (app_ok (FSl.all hm_types) ht) ?_ | refine H.frz1 8 (okSg (froz w)) rfl (app_ok (FSl.all hm_types) ht) ?_
            intro g4 e4 hS
            clear H
            intro H
            replace E := E.trans e4
            replace hF := FSl.extN (ok := okFn) (fun _ _ _ h E => h.ext E) hF e4
            replace hG := hG.ext e4
            replace hS := hS.okm (ok' := okSg g4) fun _ _ h => h.ext E
            have hn := wider_ok hm E hS hF hG
            have hs := wider_sound hn ⟨_, rfl⟩ ⟨_, rfl⟩ rfl (same_fs _) q0 (ops_ok hm)
            have hT4 := u8_ext hT E
            have cC := fun (w : World) (l : List As) (H : Sat _ w l) => Bin.check H hT4 _ hn
            have cM := fun (w : World) (l : List As) (H : Sat _ w l) => module_ H hT4 hn
            simp only [wider] at cC cM hs
            refine CallP.mk (Fc.imp (cC _ _ H) ?_)
            clear H
            rintro _ w4 ⟨⟨e1, ⟨rfl, h2⟩⟩, H⟩
            refine cI (fun c1 => ?_) (fun c1 => ?_)
            · replace c1 := vNe_t (c1)
              refine rLdA (H.at 3 rfl) 0 rfl rfl rfl ?_
              refine CallP.mk (Fc.imp (cM _ _ H) ?_)
              clear H
              rintro _ w7 ⟨e2, ⟨rfl, ⟨h3, H⟩⟩⟩
              refine Done.mk ?_
              refine ⟨?_, ?_⟩
              · exact vm1 (by assumption) (by assumption) (by assumption)
              exact E.fin H
            replace c1 := vNe_f (c1)
            refine rLdA (H.at 3 rfl) 0 rfl rfl rfl ?_
            refine CallP.mk (Fc.imp (cM _ _ H) ?_)
            clear H
            rintro _ w7 ⟨e2, ⟨rfl, ⟨h3, H⟩⟩⟩
            refine Done.mk ?_
            refine ⟨?_, ?_⟩
            · exact vm2 hs (by assumption) (by assumption) (by assumption)
            exact E.fin H
          · have E := Ext.refl (froz w)
            have hF := hm_funcs
            first | refine H.frz1 0 okGl rfl (app_ok (FSl.all hm_globals) hx) ?_ | refine H.frz1 1 okGl rfl (app_ok (FSl.all hm_globals) hx) ?_ | refine H.frz1 2 okGl rfl (app_ok (FSl.all hm_globals) hx) ?_ | refine H.frz1 3 okGl rfl (app_ok (FSl.all hm_globals) hx) ?_ | refine H.frz1 4 okGl rfl (app_ok (FSl.all hm_globals) hx) ?_
            intro g3 e3 hG
            clear H
            intro H
            replace E := E.trans e3
            replace hF := FSl.extN (ok := okFn) (fun _ _ _ h E => h.ext E) hF e3
            first | refine H.frz1 0 (okSg (froz w)) rfl (app_ok (FSl.all hm_types) ht) ?_ | refine H.frz1 1 (okSg (froz w)) rfl (app_ok (FSl.all hm_types) ht) ?_ | refine H.frz1 2 (okSg (froz w)) rfl (app_ok (FSl.all hm_types) ht) ?_ | refine H.frz1 3 (okSg (froz w)) rfl (app_ok (FSl.all hm_types) ht) ?_ | refine H.frz1 4 (okSg (froz w)) rfl (app_ok (FSl.all hm_types) ht) ?_ | refine H.frz1 5 (okSg (froz w)) rfl (app_ok (FSl.all hm_types) ht) ?_ | refine H.frz1 6 (okSg (froz w)) rfl (app_ok (FSl.all hm_types) ht) ?_ | refine H.frz1 7 (okSg (froz w)) rfl (app_ok (FSl.all hm_types) ht) ?_ | refine H.frz1 8 (okSg (froz w)) rfl (app_ok (FSl.all hm_types) ht) ?_
            intro g4 e4 hS
            clear H
            intro H
            replace E := E.trans e4
            replace hF := FSl.extN (ok := okFn) (fun _ _ _ h E => h.ext E) hF e4
            replace hG := hG.ext e4
            replace hS := hS.okm (ok' := okSg g4) fun _ _ h => h.ext E
            have hn := wider_ok hm E hS hF hG
            have hs := wider_sound hn ⟨_, rfl⟩ ⟨_, rfl⟩ rfl (same_fs _) q0 (ops_ok hm)
            have hT4 := u8_ext hT E
            have cC := fun (w : World) (l : List As) (H : Sat _ w l) => Bin.check H hT4 _ hn
            have cM := fun (w : World) (l : List As) (H : Sat _ w l) => module_ H hT4 hn
            simp only [wider] at cC cM hs
            refine CallP.mk (Fc.imp (cC _ _ H) ?_)
            clear H
            rintro _ w6 ⟨⟨e1, ⟨rfl, h2⟩⟩, H⟩
            refine cI (fun c1 => ?_) (fun c1 => ?_)
            · replace c1 := vNe_t (c1)
              refine rLdA (H.at 3 rfl) 0 rfl rfl rfl ?_
              refine CallP.mk (Fc.imp (cM _ _ H) ?_)
              clear H
              rintro _ w7 ⟨e2, ⟨rfl, ⟨h3, H⟩⟩⟩
              refine Done.mk ?_
              refine ⟨?_, ?_⟩
              · exact vm1 (by assumption) (by assumption) (by assumption)
              exact E.fin H
            replace c1 := vNe_f (c1)
            refine rLdA (H.at 3 rfl) 0 rfl rfl rfl ?_
            refine CallP.mk (Fc.imp (cM _ _ H) ?_)
            clear H
            rintro _ w7 ⟨e2, ⟨rfl, ⟨h3, H⟩⟩⟩
            refine Done.mk ?_
            refine ⟨?_, ?_⟩
            · exact vm2 hs (by assumption) (by assumption) (by assumption)
            exact E.fin H
      · by_cases hC : f.loc.length < 16
        · refine cF rfl ?_
          refine rLdA (H.at 2 rfl) 0 rfl rfl rfl ?_
          refine rAllocS H rfl ?_
          clear H
          intro p4 w4 H
          clear w3
          refine rStAS H 0 rfl rfl rfl (by simp only [List.all_cons, List.all_nil, FSl.one hf_body, FSl.one hf_loc, FSl.one ht_out, FSl.one ht_inn, FSl.one hm_data, FSl.one hm_elems, FSl.one hm_exps, FSl.one hm_imps, FSl.one hm_globals, FSl.one hm_funcs, FSl.one hm_types]; rfl) ?_
          clear H
          intro w3 H
          clear w4
          refine rFieldAt rfl ?_
          refine rLd (H.at 3 rfl) 0 rfl rfl rfl ?_
          refine rLenF hm_types rfl ?_
          refine cT (vLt_T (by omega)) ?_
          refine drawtS H [] (.op 0 .pure (.op 1 .held (.op 3 .held (.fork (.op 2 .forced (.op 4 .forced (.op 5 .free (.op 6 .pure (.op 7 .free .nil))))) (.op 4 .forced (.op 2 .forced (.op 5 .free (.op 6 .pure (.op 7 .free .nil))))))))) mixed (by kernel_rfl) ?_
          clear H
          intro w4 H
          clear w3
          refine tk (fun wx HS => rFieldAt rfl ⟨rfl, rfl⟩) ?_
          refine tk (fun wx HS => rLd (HS.at 3 rfl) 0 rfl rfl rfl ⟨rfl, rfl⟩) ?_
          refine tk (fun wx HS => rLdA (HS.at 2 rfl) 0 rfl rfl rfl ⟨rfl, rfl⟩) ?_
          refine ⟨?_, ?_⟩
          focus
            refine CallP.mk (Fc.imp (Go.Proofs.YtcpniokopahakaaDoor.Bin.copySg H _ _ hm_types ?_) ?_)
            · omega
            clear H
            rintro v' w3 H
            refine KeepP.mk (H.drop 0 (fun H => H)) ?_
            refine rBuildSliceS H rfl rfl rfl rfl ?_
            clear H
            intro p5 w5 H
            clear w3
            refine KeepP.mk (H.drop 1 (fun H => H.drop 0 (fun H => H))) ?_
            refine rApS (ys := [⟨_, _, _, _⟩]) 48 H 1 rfl (H.at 0 rfl) rfl (fun y hy => by rw [List.mem_singleton.1 hy]; simp only [Go.Proofs.YtcpniokopahakaaDoor.Bin.enSg, List.all_cons, List.all_nil, H.one 1 rfl, FSl.one hf_body, FSl.one hf_loc, FSl.one ht_out, FSl.one ht_inn, FSl.one hm_data, FSl.one hm_elems, FSl.one hm_exps, FSl.one hm_imps, FSl.one hm_globals, FSl.one hm_funcs, FSl.one hm_types]; rfl) rfl rfl rfl (by omega) (by omega) ?_
            intro v1
            clear H
            intro w3 H
            clear w5
            refine tk (fun wx HS => rFieldAt rfl ⟨rfl, rfl⟩) ?_
            refine rStS H 2 rfl rfl rfl (H.one 1 rfl) ?_
            clear H
            intro w5 H
            clear w3
            refine rFieldAt rfl ?_
            refine rLd (H.at 5 rfl) 6 rfl rfl rfl ?_
            refine rLenF hm_globals rfl ?_
            refine cF (vLt_F (by omega)) ?_
            refine rFieldAt rfl ?_
            refine rLd (H.at 5 rfl) 2 rfl rfl rfl ?_
            obtain ⟨b1, o1, E1, F1, hok1⟩ := FSl.elt hm_funcs hf
            have hok1_ty := hok1.ty
            have hok1_loc := hok1.loc
            have hok1_body := hok1.body
            refine rIxE E1 rfl rfl rfl ?_
            refine rLdA (H.fat F1) 0 rfl rfl rfl ?_
            refine rAllocS H rfl ?_
            clear H
            intro p6 w3 H
            clear w5
            refine rStAS H 0 rfl rfl rfl (by simp only [List.all_cons, List.all_nil, H.one 2 rfl, FSl.one hok1_body, FSl.one hok1_loc, FSl.one hf_body, FSl.one hf_loc, FSl.one ht_out, FSl.one ht_inn, FSl.one hm_data, FSl.one hm_elems, FSl.one hm_exps, FSl.one hm_imps, FSl.one hm_globals, FSl.one hm_funcs, FSl.one hm_types]; rfl) ?_
            clear H
            intro w5 H
            clear w3
            refine rFieldAt rfl ?_
            refine rLd (H.at 0 rfl) 1 rfl rfl rfl ?_
            refine rLenF hok1_loc rfl ?_
            refine cT (vLt_T (by omega)) ?_
            refine rFieldAt rfl ?_
            refine rLd (H.at 0 rfl) 1 rfl rfl rfl ?_
            refine CallP.mk (Fc.imp (Go.Proofs.YtcpniokopahakaaDoor.Bin.copyK H _ _ hok1_loc ?_) ?_)
            · omega
            clear H
            rintro va' w3 H
            refine rBuildSliceS H rfl rfl rfl rfl ?_
            clear H
            intro p7 w6 H
            clear w3
            refine rApS (ys := [_]) 1 H 1 rfl (H.at 0 rfl) rfl (fun y _ => rfl) rfl rfl rfl (by omega) (by omega) ?_
            intro v2
            clear H
            intro w3 H
            clear w6
            refine rFieldAt rfl ?_
            refine rStS H 2 rfl rfl rfl (H.one 1 rfl) ?_
            clear H
            intro w6 H
            clear w3
            refine rFieldAt rfl ?_
            refine rLd (H.at 8 rfl) 2 rfl rfl rfl ?_
            refine CallP.mk (Fc.imp (Go.Proofs.YtcpniokopahakaaDoor.Bin.copyFn H _ _ hm_funcs ?_) ?_)
            · omega
            clear H
            rintro vb' w3 H
            refine rFieldAt rfl ?_
            refine rStS H 6 rfl rfl rfl (H.one 0 rfl) ?_
            clear H
            intro w7 H
            clear w3
            refine rFieldAt rfl ?_
            refine rLd (H.at 6 rfl) 2 rfl rfl rfl ?_
            refine rLdA (H.at 3 rfl) 0 rfl rfl rfl ?_
            obtain ⟨b2, o2, E2⟩ := H.elt 0 rfl 0 (by omega)
            refine rIxE E2 rfl rfl rfl ?_
          rotate_left 1
          focus
            refine rBuildSliceS H rfl rfl rfl rfl ?_
            clear H
            intro p5 w3 H
            clear w4
            refine KeepP.mk (H.drop 0 (fun H => H)) ?_
            refine CallP.mk (Fc.imp (Go.Proofs.YtcpniokopahakaaDoor.Bin.copySg H _ _ hm_types ?_) ?_)
            · omega
            clear H
            rintro v' w4 H
            refine KeepP.mk (H.drop 1 (fun H => H.drop 0 (fun H => H))) ?_
            refine rApS (ys := [⟨_, _, _, _⟩]) 48 H 0 rfl (H.at 1 rfl) rfl (fun y hy => by rw [List.mem_singleton.1 hy]; simp only [Go.Proofs.YtcpniokopahakaaDoor.Bin.enSg, List.all_cons, List.all_nil, H.one 0 rfl, FSl.one hf_body, FSl.one hf_loc, FSl.one ht_out, FSl.one ht_inn, FSl.one hm_data, FSl.one hm_elems, FSl.one hm_exps, FSl.one hm_imps, FSl.one hm_globals, FSl.one hm_funcs, FSl.one hm_types]; rfl) rfl rfl rfl (by omega) (by omega) ?_
            intro v1
            clear H
            intro w5 H
            clear w4
            refine tk (fun wx HS => rFieldAt rfl ⟨rfl, rfl⟩) ?_
            refine rStS H 2 rfl rfl rfl (H.one 0 rfl) ?_
            clear H
            intro w4 H
            clear w5
            refine rFieldAt rfl ?_
            refine rLd (H.at 5 rfl) 6 rfl rfl rfl ?_
            refine rLenF hm_globals rfl ?_
            refine cF (vLt_F (by omega)) ?_
            refine rFieldAt rfl ?_
            refine rLd (H.at 5 rfl) 2 rfl rfl rfl ?_
            obtain ⟨b1, o1, E1, F1, hok1⟩ := FSl.elt hm_funcs hf
            have hok1_ty := hok1.ty
            have hok1_loc := hok1.loc
            have hok1_body := hok1.body
            refine rIxE E1 rfl rfl rfl ?_
            refine rLdA (H.fat F1) 0 rfl rfl rfl ?_
            refine rAllocS H rfl ?_
            clear H
            intro p6 w5 H
            clear w4
            refine rStAS H 0 rfl rfl rfl (by simp only [List.all_cons, List.all_nil, H.one 1 rfl, FSl.one hok1_body, FSl.one hok1_loc, FSl.one hf_body, FSl.one hf_loc, FSl.one ht_out, FSl.one ht_inn, FSl.one hm_data, FSl.one hm_elems, FSl.one hm_exps, FSl.one hm_imps, FSl.one hm_globals, FSl.one hm_funcs, FSl.one hm_types]; rfl) ?_
            clear H
            intro w4 H
            clear w5
            refine rFieldAt rfl ?_
            refine rLd (H.at 0 rfl) 1 rfl rfl rfl ?_
            refine rLenF hok1_loc rfl ?_
            refine cT (vLt_T (by omega)) ?_
            refine rFieldAt rfl ?_
            refine rLd (H.at 0 rfl) 1 rfl rfl rfl ?_
            refine CallP.mk (Fc.imp (Go.Proofs.YtcpniokopahakaaDoor.Bin.copyK H _ _ hok1_loc ?_) ?_)
            · omega
            clear H
            rintro va' w5 H
            refine rBuildSliceS H rfl rfl rfl rfl ?_
            clear H
            intro p7 w6 H
            clear w5
            refine rApS (ys := [_]) 1 H 1 rfl (H.at 0 rfl) rfl (fun y _ => rfl) rfl rfl rfl (by omega) (by omega) ?_
            intro v2
            clear H
            intro w5 H
            clear w6
            refine rFieldAt rfl ?_
            refine rStS H 2 rfl rfl rfl (H.one 1 rfl) ?_
            clear H
            intro w6 H
            clear w5
            refine rFieldAt rfl ?_
            refine rLd (H.at 8 rfl) 2 rfl rfl rfl ?_
            refine CallP.mk (Fc.imp (Go.Proofs.YtcpniokopahakaaDoor.Bin.copyFn H _ _ hm_funcs ?_) ?_)
            · omega
            clear H
            rintro vb' w5 H
            refine rFieldAt rfl ?_
            refine rStS H 6 rfl rfl rfl (H.one 0 rfl) ?_
            clear H
            intro w7 H
            clear w5
            refine rFieldAt rfl ?_
            refine rLd (H.at 6 rfl) 2 rfl rfl rfl ?_
            refine rLdA (H.at 3 rfl) 0 rfl rfl rfl ?_
            obtain ⟨b2, o2, E2⟩ := H.elt 0 rfl 0 (by omega)
            refine rIxE E2 rfl rfl rfl ?_
          rotate_left 1
          · refine rStEA H 0 rfl E2 hf 0 ⟨f.ty, v2, f.loc ++ [k], f.vb, f.body⟩ rfl (by simp only [List.all_cons, List.all_nil, H.one 2 rfl, FSl.one hf_body]; rfl) rfl rfl ?_
            clear H
            intro w9 H
            refine H.frz1 2 U8 rfl (app_ok (FSl.all hf_loc) hk) ?_
            intro g1 e1 hK
            clear H
            intro H
            refine H.frz1 0 (okFn g1) rfl (set_ok (fun y hy => (FSl.all hm_funcs y hy).ext e1) ⟨hf_ty, hK, FSl.extN (ok := okV) (fun _ _ _ h E => h.ext E) hf_body e1⟩) ?_
            intro g2 e2 hF
            clear H
            intro H
            have hF := hF.okm (ok' := okFn g2) fun _ _ h => h.ext e2
            have E := e1.trans e2
            have hG := hm_globals.ext E
            first | refine H.frz1 0 (okSg (froz w)) rfl (app_ok (FSl.all hm_types) ht) ?_ | refine H.frz1 1 (okSg (froz w)) rfl (app_ok (FSl.all hm_types) ht) ?_ | refine H.frz1 2 (okSg (froz w)) rfl (app_ok (FSl.all hm_types) ht) ?_ | refine H.frz1 3 (okSg (froz w)) rfl (app_ok (FSl.all hm_types) ht) ?_ | refine H.frz1 4 (okSg (froz w)) rfl (app_ok (FSl.all hm_types) ht) ?_ | refine H.frz1 5 (okSg (froz w)) rfl (app_ok (FSl.all hm_types) ht) ?_ | refine H.frz1 6 (okSg (froz w)) rfl (app_ok (FSl.all hm_types) ht) ?_ | refine H.frz1 7 (okSg (froz w)) rfl (app_ok (FSl.all hm_types) ht) ?_ | refine H.frz1 8 (okSg (froz w)) rfl (app_ok (FSl.all hm_types) ht) ?_
            intro g4 e4 hS
            clear H
            intro H
            replace E := E.trans e4
            replace hF := FSl.extN (ok := okFn) (fun _ _ _ h E => h.ext E) hF e4
            replace hG := hG.ext e4
            replace hS := hS.okm (ok' := okSg g4) fun _ _ h => h.ext E
            have hn := wider_ok hm E hS hF hG
            have hs := wider_sound hn ⟨_, rfl⟩ ⟨[], (List.append_nil _).symm⟩ (set_tys (f' := ⟨f.ty, v2, f.loc ++ [k], f.vb, f.body⟩) hf rfl) (set_fs (f1 := ⟨f.ty, v2, f.loc ++ [k], f.vb, f.body⟩) hf rfl rfl rfl) q0 (ops_ok hm)
            have hT4 := u8_ext hT E
            have cC := fun (w : World) (l : List As) (H : Sat _ w l) => Bin.check H hT4 _ hn
            have cM := fun (w : World) (l : List As) (H : Sat _ w l) => module_ H hT4 hn
            simp only [wider] at cC cM hs
            refine rLdA (H.at 3 rfl) 0 rfl rfl rfl ?_
            refine CallP.mk (Fc.imp (cC _ _ H) ?_)
            clear H
            rintro _ w3 ⟨⟨e3, ⟨rfl, h2⟩⟩, H⟩
            refine cI (fun c1 => ?_) (fun c1 => ?_)
            · replace c1 := vNe_t (c1)
              refine rLdA (H.at 3 rfl) 0 rfl rfl rfl ?_
              refine CallP.mk (Fc.imp (cM _ _ H) ?_)
              clear H
              rintro _ w8 ⟨e5, ⟨rfl, ⟨h3, H⟩⟩⟩
              refine Done.mk ?_
              refine ⟨?_, ?_⟩
              · exact vm1 (by assumption) (by assumption) (by assumption)
              exact E.fin H
            replace c1 := vNe_f (c1)
            refine rLdA (H.at 3 rfl) 0 rfl rfl rfl ?_
            refine CallP.mk (Fc.imp (cM _ _ H) ?_)
            clear H
            rintro _ w8 ⟨e5, ⟨rfl, ⟨h3, H⟩⟩⟩
            refine Done.mk ?_
            refine ⟨?_, ?_⟩
            · exact vm2 hs (by assumption) (by assumption) (by assumption)
            exact E.fin H
          · refine rStEA H 0 rfl E2 hf 0 ⟨f.ty, v2, f.loc ++ [k], f.vb, f.body⟩ rfl (by simp only [List.all_cons, List.all_nil, H.one 2 rfl, FSl.one hf_body]; rfl) rfl rfl ?_
            clear H
            intro w9 H
            refine H.frz1 2 U8 rfl (app_ok (FSl.all hf_loc) hk) ?_
            intro g1 e1 hK
            clear H
            intro H
            refine H.frz1 0 (okFn g1) rfl (set_ok (fun y hy => (FSl.all hm_funcs y hy).ext e1) ⟨hf_ty, hK, FSl.extN (ok := okV) (fun _ _ _ h E => h.ext E) hf_body e1⟩) ?_
            intro g2 e2 hF
            clear H
            intro H
            have hF := hF.okm (ok' := okFn g2) fun _ _ h => h.ext e2
            have E := e1.trans e2
            have hG := hm_globals.ext E
            first | refine H.frz1 0 (okSg (froz w)) rfl (app_ok (FSl.all hm_types) ht) ?_ | refine H.frz1 1 (okSg (froz w)) rfl (app_ok (FSl.all hm_types) ht) ?_ | refine H.frz1 2 (okSg (froz w)) rfl (app_ok (FSl.all hm_types) ht) ?_ | refine H.frz1 3 (okSg (froz w)) rfl (app_ok (FSl.all hm_types) ht) ?_ | refine H.frz1 4 (okSg (froz w)) rfl (app_ok (FSl.all hm_types) ht) ?_ | refine H.frz1 5 (okSg (froz w)) rfl (app_ok (FSl.all hm_types) ht) ?_ | refine H.frz1 6 (okSg (froz w)) rfl (app_ok (FSl.all hm_types) ht) ?_ | refine H.frz1 7 (okSg (froz w)) rfl (app_ok (FSl.all hm_types) ht) ?_ | refine H.frz1 8 (okSg (froz w)) rfl (app_ok (FSl.all hm_types) ht) ?_
            intro g4 e4 hS
            clear H
            intro H
            replace E := E.trans e4
            replace hF := FSl.extN (ok := okFn) (fun _ _ _ h E => h.ext E) hF e4
            replace hG := hG.ext e4
            replace hS := hS.okm (ok' := okSg g4) fun _ _ h => h.ext E
            have hn := wider_ok hm E hS hF hG
            have hs := wider_sound hn ⟨_, rfl⟩ ⟨[], (List.append_nil _).symm⟩ (set_tys (f' := ⟨f.ty, v2, f.loc ++ [k], f.vb, f.body⟩) hf rfl) (set_fs (f1 := ⟨f.ty, v2, f.loc ++ [k], f.vb, f.body⟩) hf rfl rfl rfl) q0 (ops_ok hm)
            have hT4 := u8_ext hT E
            have cC := fun (w : World) (l : List As) (H : Sat _ w l) => Bin.check H hT4 _ hn
            have cM := fun (w : World) (l : List As) (H : Sat _ w l) => module_ H hT4 hn
            simp only [wider] at cC cM hs
            refine rLdA (H.at 3 rfl) 0 rfl rfl rfl ?_
            refine CallP.mk (Fc.imp (cC _ _ H) ?_)
            clear H
            rintro _ w5 ⟨⟨e3, ⟨rfl, h2⟩⟩, H⟩
            refine cI (fun c1 => ?_) (fun c1 => ?_)
            · replace c1 := vNe_t (c1)
              refine rLdA (H.at 3 rfl) 0 rfl rfl rfl ?_
              refine CallP.mk (Fc.imp (cM _ _ H) ?_)
              clear H
              rintro _ w8 ⟨e5, ⟨rfl, ⟨h3, H⟩⟩⟩
              refine Done.mk ?_
              refine ⟨?_, ?_⟩
              · exact vm1 (by assumption) (by assumption) (by assumption)
              exact E.fin H
            replace c1 := vNe_f (c1)
            refine rLdA (H.at 3 rfl) 0 rfl rfl rfl ?_
            refine CallP.mk (Fc.imp (cM _ _ H) ?_)
            clear H
            rintro _ w8 ⟨e5, ⟨rfl, ⟨h3, H⟩⟩⟩
            refine Done.mk ?_
            refine ⟨?_, ?_⟩
            · exact vm2 hs (by assumption) (by assumption) (by assumption)
            exact E.fin H
        · refine cF rfl ?_
          refine rLdA (H.at 2 rfl) 0 rfl rfl rfl ?_
          refine rAllocS H rfl ?_
          clear H
          intro p4 w4 H
          clear w3
          refine rStAS H 0 rfl rfl rfl (by simp only [List.all_cons, List.all_nil, FSl.one hf_body, FSl.one hf_loc, FSl.one ht_out, FSl.one ht_inn, FSl.one hm_data, FSl.one hm_elems, FSl.one hm_exps, FSl.one hm_imps, FSl.one hm_globals, FSl.one hm_funcs, FSl.one hm_types]; rfl) ?_
          clear H
          intro w3 H
          clear w4
          refine rFieldAt rfl ?_
          refine rLd (H.at 3 rfl) 0 rfl rfl rfl ?_
          refine rLenF hm_types rfl ?_
          refine cT (vLt_T (by omega)) ?_
          refine drawtS H [] (.op 0 .pure (.op 1 .held (.op 3 .held (.fork (.op 2 .forced (.op 4 .forced (.op 5 .free (.op 6 .pure (.op 7 .free .nil))))) (.op 4 .forced (.op 2 .forced (.op 5 .free (.op 6 .pure (.op 7 .free .nil))))))))) mixed (by kernel_rfl) ?_
          clear H
          intro w4 H
          clear w3
          refine tk (fun wx HS => rFieldAt rfl ⟨rfl, rfl⟩) ?_
          refine tk (fun wx HS => rLd (HS.at 3 rfl) 0 rfl rfl rfl ⟨rfl, rfl⟩) ?_
          refine tk (fun wx HS => rLdA (HS.at 2 rfl) 0 rfl rfl rfl ⟨rfl, rfl⟩) ?_
          refine ⟨?_, ?_⟩
          focus
            refine CallP.mk (Fc.imp (Go.Proofs.YtcpniokopahakaaDoor.Bin.copySg H _ _ hm_types ?_) ?_)
            · omega
            clear H
            rintro v' w3 H
            refine KeepP.mk (H.drop 0 (fun H => H)) ?_
            refine rBuildSliceS H rfl rfl rfl rfl ?_
            clear H
            intro p5 w5 H
            clear w3
            refine KeepP.mk (H.drop 1 (fun H => H.drop 0 (fun H => H))) ?_
            refine rApS (ys := [⟨_, _, _, _⟩]) 48 H 1 rfl (H.at 0 rfl) rfl (fun y hy => by rw [List.mem_singleton.1 hy]; simp only [Go.Proofs.YtcpniokopahakaaDoor.Bin.enSg, List.all_cons, List.all_nil, H.one 1 rfl, FSl.one hf_body, FSl.one hf_loc, FSl.one ht_out, FSl.one ht_inn, FSl.one hm_data, FSl.one hm_elems, FSl.one hm_exps, FSl.one hm_imps, FSl.one hm_globals, FSl.one hm_funcs, FSl.one hm_types]; rfl) rfl rfl rfl (by omega) (by omega) ?_
            intro v1
            clear H
            intro w3 H
            clear w5
            refine tk (fun wx HS => rFieldAt rfl ⟨rfl, rfl⟩) ?_
            refine rStS H 2 rfl rfl rfl (H.one 1 rfl) ?_
            clear H
            intro w5 H
            clear w3
            refine rFieldAt rfl ?_
            refine rLd (H.at 5 rfl) 6 rfl rfl rfl ?_
            refine rLenF hm_globals rfl ?_
            refine cF (vLt_F (by omega)) ?_
            refine rFieldAt rfl ?_
            refine rLd (H.at 5 rfl) 2 rfl rfl rfl ?_
            obtain ⟨b1, o1, E1, F1, hok1⟩ := FSl.elt hm_funcs hf
            have hok1_ty := hok1.ty
            have hok1_loc := hok1.loc
            have hok1_body := hok1.body
            refine rIxE E1 rfl rfl rfl ?_
            refine rLdA (H.fat F1) 0 rfl rfl rfl ?_
            refine rAllocS H rfl ?_
            clear H
            intro p6 w3 H
            clear w5
            refine rStAS H 0 rfl rfl rfl (by simp only [List.all_cons, List.all_nil, H.one 2 rfl, FSl.one hok1_body, FSl.one hok1_loc, FSl.one hf_body, FSl.one hf_loc, FSl.one ht_out, FSl.one ht_inn, FSl.one hm_data, FSl.one hm_elems, FSl.one hm_exps, FSl.one hm_imps, FSl.one hm_globals, FSl.one hm_funcs, FSl.one hm_types]; rfl) ?_
            clear H
            intro w5 H
            clear w3
            refine rFieldAt rfl ?_
            refine rLd (H.at 0 rfl) 1 rfl rfl rfl ?_
            refine rLenF hok1_loc rfl ?_
            refine cF (vLt_F (by omega)) ?_
            refine rLdA (H.at 3 rfl) 0 rfl rfl rfl ?_
          rotate_left 1
          focus
            refine rBuildSliceS H rfl rfl rfl rfl ?_
            clear H
            intro p5 w3 H
            clear w4
            refine KeepP.mk (H.drop 0 (fun H => H)) ?_
            refine CallP.mk (Fc.imp (Go.Proofs.YtcpniokopahakaaDoor.Bin.copySg H _ _ hm_types ?_) ?_)
            · omega
            clear H
            rintro v' w4 H
            refine KeepP.mk (H.drop 1 (fun H => H.drop 0 (fun H => H))) ?_
            refine rApS (ys := [⟨_, _, _, _⟩]) 48 H 0 rfl (H.at 1 rfl) rfl (fun y hy => by rw [List.mem_singleton.1 hy]; simp only [Go.Proofs.YtcpniokopahakaaDoor.Bin.enSg, List.all_cons, List.all_nil, H.one 0 rfl, FSl.one hf_body, FSl.one hf_loc, FSl.one ht_out, FSl.one ht_inn, FSl.one hm_data, FSl.one hm_elems, FSl.one hm_exps, FSl.one hm_imps, FSl.one hm_globals, FSl.one hm_funcs, FSl.one hm_types]; rfl) rfl rfl rfl (by omega) (by omega) ?_
            intro v1
            clear H
            intro w5 H
            clear w4
            refine tk (fun wx HS => rFieldAt rfl ⟨rfl, rfl⟩) ?_
            refine rStS H 2 rfl rfl rfl (H.one 0 rfl) ?_
            clear H
            intro w4 H
            clear w5
            refine rFieldAt rfl ?_
            refine rLd (H.at 5 rfl) 6 rfl rfl rfl ?_
            refine rLenF hm_globals rfl ?_
            refine cF (vLt_F (by omega)) ?_
            refine rFieldAt rfl ?_
            refine rLd (H.at 5 rfl) 2 rfl rfl rfl ?_
            obtain ⟨b1, o1, E1, F1, hok1⟩ := FSl.elt hm_funcs hf
            have hok1_ty := hok1.ty
            have hok1_loc := hok1.loc
            have hok1_body := hok1.body
            refine rIxE E1 rfl rfl rfl ?_
            refine rLdA (H.fat F1) 0 rfl rfl rfl ?_
            refine rAllocS H rfl ?_
            clear H
            intro p6 w5 H
            clear w4
            refine rStAS H 0 rfl rfl rfl (by simp only [List.all_cons, List.all_nil, H.one 1 rfl, FSl.one hok1_body, FSl.one hok1_loc, FSl.one hf_body, FSl.one hf_loc, FSl.one ht_out, FSl.one ht_inn, FSl.one hm_data, FSl.one hm_elems, FSl.one hm_exps, FSl.one hm_imps, FSl.one hm_globals, FSl.one hm_funcs, FSl.one hm_types]; rfl) ?_
            clear H
            intro w4 H
            clear w5
            refine rFieldAt rfl ?_
            refine rLd (H.at 0 rfl) 1 rfl rfl rfl ?_
            refine rLenF hok1_loc rfl ?_
            refine cF (vLt_F (by omega)) ?_
            refine rLdA (H.at 3 rfl) 0 rfl rfl rfl ?_
          rotate_left 1
          · have E := Ext.refl (froz w)
            have hF := hm_funcs
            have hG := hm_globals.ext E
            first | refine H.frz1 0 (okSg (froz w)) rfl (app_ok (FSl.all hm_types) ht) ?_ | refine H.frz1 1 (okSg (froz w)) rfl (app_ok (FSl.all hm_types) ht) ?_ | refine H.frz1 2 (okSg (froz w)) rfl (app_ok (FSl.all hm_types) ht) ?_ | refine H.frz1 3 (okSg (froz w)) rfl (app_ok (FSl.all hm_types) ht) ?_ | refine H.frz1 4 (okSg (froz w)) rfl (app_ok (FSl.all hm_types) ht) ?_ | refine H.frz1 5 (okSg (froz w)) rfl (app_ok (FSl.all hm_types) ht) ?_ | refine H.frz1 6 (okSg (froz w)) rfl (app_ok (FSl.all hm_types) ht) ?_ | refine H.frz1 7 (okSg (froz w)) rfl (app_ok (FSl.all hm_types) ht) ?_ | refine H.frz1 8 (okSg (froz w)) rfl (app_ok (FSl.all hm_types) ht) ?_
            intro g4 e4 hS
            clear H
            intro H
            replace E := E.trans e4
            replace hF := FSl.extN (ok := okFn) (fun _ _ _ h E => h.ext E) hF e4
            replace hG := hG.ext e4
            replace hS := hS.okm (ok' := okSg g4) fun _ _ h => h.ext E
            have hn := wider_ok hm E hS hF hG
            have hs := wider_sound hn ⟨_, rfl⟩ ⟨[], (List.append_nil _).symm⟩ rfl (same_fs _) q0 (ops_ok hm)
            have hT4 := u8_ext hT E
            have cC := fun (w : World) (l : List As) (H : Sat _ w l) => Bin.check H hT4 _ hn
            have cM := fun (w : World) (l : List As) (H : Sat _ w l) => module_ H hT4 hn
            simp only [wider] at cC cM hs
            refine CallP.mk (Fc.imp (cC _ _ H) ?_)
            clear H
            rintro _ w3 ⟨⟨e1, ⟨rfl, h2⟩⟩, H⟩
            refine cI (fun c1 => ?_) (fun c1 => ?_)
            · replace c1 := vNe_t (c1)
              refine rLdA (H.at 2 rfl) 0 rfl rfl rfl ?_
              refine CallP.mk (Fc.imp (cM _ _ H) ?_)
              clear H
              rintro _ w6 ⟨e2, ⟨rfl, ⟨h3, H⟩⟩⟩
              refine Done.mk ?_
              refine ⟨?_, ?_⟩
              · exact vm1 (by assumption) (by assumption) (by assumption)
              exact E.fin H
            replace c1 := vNe_f (c1)
            refine rLdA (H.at 2 rfl) 0 rfl rfl rfl ?_
            refine CallP.mk (Fc.imp (cM _ _ H) ?_)
            clear H
            rintro _ w6 ⟨e2, ⟨rfl, ⟨h3, H⟩⟩⟩
            refine Done.mk ?_
            refine ⟨?_, ?_⟩
            · exact vm2 hs (by assumption) (by assumption) (by assumption)
            exact E.fin H
          · have E := Ext.refl (froz w)
            have hF := hm_funcs
            have hG := hm_globals.ext E
            first | refine H.frz1 0 (okSg (froz w)) rfl (app_ok (FSl.all hm_types) ht) ?_ | refine H.frz1 1 (okSg (froz w)) rfl (app_ok (FSl.all hm_types) ht) ?_ | refine H.frz1 2 (okSg (froz w)) rfl (app_ok (FSl.all hm_types) ht) ?_ | refine H.frz1 3 (okSg (froz w)) rfl (app_ok (FSl.all hm_types) ht) ?_ | refine H.frz1 4 (okSg (froz w)) rfl (app_ok (FSl.all hm_types) ht) ?_ | refine H.frz1 5 (okSg (froz w)) rfl (app_ok (FSl.all hm_types) ht) ?_ | refine H.frz1 6 (okSg (froz w)) rfl (app_ok (FSl.all hm_types) ht) ?_ | refine H.frz1 7 (okSg (froz w)) rfl (app_ok (FSl.all hm_types) ht) ?_ | refine H.frz1 8 (okSg (froz w)) rfl (app_ok (FSl.all hm_types) ht) ?_
            intro g4 e4 hS
            clear H
            intro H
            replace E := E.trans e4
            replace hF := FSl.extN (ok := okFn) (fun _ _ _ h E => h.ext E) hF e4
            replace hG := hG.ext e4
            replace hS := hS.okm (ok' := okSg g4) fun _ _ h => h.ext E
            have hn := wider_ok hm E hS hF hG
            have hs := wider_sound hn ⟨_, rfl⟩ ⟨[], (List.append_nil _).symm⟩ rfl (same_fs _) q0 (ops_ok hm)
            have hT4 := u8_ext hT E
            have cC := fun (w : World) (l : List As) (H : Sat _ w l) => Bin.check H hT4 _ hn
            have cM := fun (w : World) (l : List As) (H : Sat _ w l) => module_ H hT4 hn
            simp only [wider] at cC cM hs
            refine CallP.mk (Fc.imp (cC _ _ H) ?_)
            clear H
            rintro _ w5 ⟨⟨e1, ⟨rfl, h2⟩⟩, H⟩
            refine cI (fun c1 => ?_) (fun c1 => ?_)
            · replace c1 := vNe_t (c1)
              refine rLdA (H.at 2 rfl) 0 rfl rfl rfl ?_
              refine CallP.mk (Fc.imp (cM _ _ H) ?_)
              clear H
              rintro _ w6 ⟨e2, ⟨rfl, ⟨h3, H⟩⟩⟩
              refine Done.mk ?_
              refine ⟨?_, ?_⟩
              · exact vm1 (by assumption) (by assumption) (by assumption)
              exact E.fin H
            replace c1 := vNe_f (c1)
            refine rLdA (H.at 2 rfl) 0 rfl rfl rfl ?_
            refine CallP.mk (Fc.imp (cM _ _ H) ?_)
            clear H
            rintro _ w6 ⟨e2, ⟨rfl, ⟨h3, H⟩⟩⟩
            refine Done.mk ?_
            refine ⟨?_, ?_⟩
            · exact vm2 hs (by assumption) (by assumption) (by assumption)
            exact E.fin H
    · by_cases hB : m.globals.length < 8
      · by_cases hC : f.loc.length < 16
        · refine cF rfl ?_
          refine rLdA (H.at 2 rfl) 0 rfl rfl rfl ?_
          refine rAllocS H rfl ?_
          clear H
          intro p4 w4 H
          clear w3
          refine rStAS H 0 rfl rfl rfl (by simp only [List.all_cons, List.all_nil, FSl.one hf_body, FSl.one hf_loc, FSl.one ht_out, FSl.one ht_inn, FSl.one hm_data, FSl.one hm_elems, FSl.one hm_exps, FSl.one hm_imps, FSl.one hm_globals, FSl.one hm_funcs, FSl.one hm_types]; rfl) ?_
          clear H
          intro w3 H
          clear w4
          refine rFieldAt rfl ?_
          refine rLd (H.at 3 rfl) 0 rfl rfl rfl ?_
          refine rLenF hm_types rfl ?_
          refine cF (vLt_F (by omega)) ?_
          refine rFieldAt rfl ?_
          refine rLd (H.at 3 rfl) 6 rfl rfl rfl ?_
          refine rLenF hm_globals rfl ?_
          refine cT (vLt_T (by omega)) ?_
          refine drawtS H [] (.op 0 .pure (.op 1 .held (.op 3 .held (.fork (.op 2 .forced (.op 4 .forced (.op 5 .free (.op 6 .pure (.op 7 .free .nil))))) (.op 4 .forced (.op 2 .forced (.op 5 .free (.op 6 .pure (.op 7 .free .nil))))))))) mixed (by kernel_rfl) ?_
          clear H
          intro w4 H
          clear w3
          refine tk (fun wx HS => rFieldAt rfl ⟨rfl, rfl⟩) ?_
          refine tk (fun wx HS => rLd (HS.at 3 rfl) 6 rfl rfl rfl ⟨rfl, rfl⟩) ?_
          refine tk (fun wx HS => rLdA (HS.at 1 rfl) 0 rfl rfl rfl ⟨rfl, rfl⟩) ?_
          refine ⟨?_, ?_⟩
          focus
            refine CallP.mk (Fc.imp (Go.Proofs.YtcpniokopahakaaDoor.Bin.copyGl H _ _ hm_globals ?_) ?_)
            · omega
            clear H
            rintro v' w3 H
            refine KeepP.mk (H.drop 0 (fun H => H)) ?_
            refine rBuildSliceS H rfl rfl rfl rfl ?_
            clear H
            intro p5 w5 H
            clear w3
            refine KeepP.mk (H.drop 1 (fun H => H.drop 0 (fun H => H))) ?_
            refine rApS (ys := [⟨_, _⟩]) 16 H 1 rfl (H.at 0 rfl) rfl (fun y _ => rfl) rfl rfl rfl (by omega) (by omega) ?_
            intro v1
            clear H
            intro w3 H
            clear w5
            refine tk (fun wx HS => rFieldAt rfl ⟨rfl, rfl⟩) ?_
            refine rStS H 2 rfl rfl rfl (H.one 1 rfl) ?_
            clear H
            intro w5 H
            clear w3
            refine rFieldAt rfl ?_
            refine rLd (H.at 5 rfl) 2 rfl rfl rfl ?_
            obtain ⟨b1, o1, E1, F1, hok1⟩ := FSl.elt hm_funcs hf
            have hok1_ty := hok1.ty
            have hok1_loc := hok1.loc
            have hok1_body := hok1.body
            refine rIxE E1 rfl rfl rfl ?_
            refine rLdA (H.fat F1) 0 rfl rfl rfl ?_
            refine rAllocS H rfl ?_
            clear H
            intro p6 w3 H
            clear w5
            refine rStAS H 0 rfl rfl rfl (by simp only [List.all_cons, List.all_nil, H.one 2 rfl, FSl.one hok1_body, FSl.one hok1_loc, FSl.one hf_body, FSl.one hf_loc, FSl.one ht_out, FSl.one ht_inn, FSl.one hm_data, FSl.one hm_elems, FSl.one hm_exps, FSl.one hm_imps, FSl.one hm_globals, FSl.one hm_funcs, FSl.one hm_types]; rfl) ?_
            clear H
            intro w5 H
            clear w3
            refine rFieldAt rfl ?_
            refine rLd (H.at 0 rfl) 1 rfl rfl rfl ?_
            refine rLenF hok1_loc rfl ?_
            refine cT (vLt_T (by omega)) ?_
            refine rFieldAt rfl ?_
            refine rLd (H.at 0 rfl) 1 rfl rfl rfl ?_
            refine CallP.mk (Fc.imp (Go.Proofs.YtcpniokopahakaaDoor.Bin.copyK H _ _ hok1_loc ?_) ?_)
            · omega
            clear H
            rintro va' w3 H
            refine rBuildSliceS H rfl rfl rfl rfl ?_
            clear H
            intro p7 w6 H
            clear w3
            refine rApS (ys := [_]) 1 H 1 rfl (H.at 0 rfl) rfl (fun y _ => rfl) rfl rfl rfl (by omega) (by omega) ?_
            intro v2
            clear H
            intro w3 H
            clear w6
            refine rFieldAt rfl ?_
            refine rStS H 2 rfl rfl rfl (H.one 1 rfl) ?_
            clear H
            intro w6 H
            clear w3
            refine rFieldAt rfl ?_
            refine rLd (H.at 8 rfl) 2 rfl rfl rfl ?_
            refine CallP.mk (Fc.imp (Go.Proofs.YtcpniokopahakaaDoor.Bin.copyFn H _ _ hm_funcs ?_) ?_)
            · omega
            clear H
            rintro vb' w3 H
            refine rFieldAt rfl ?_
            refine rStS H 6 rfl rfl rfl (H.one 0 rfl) ?_
            clear H
            intro w7 H
            clear w3
            refine rFieldAt rfl ?_
            refine rLd (H.at 6 rfl) 2 rfl rfl rfl ?_
            refine rLdA (H.at 3 rfl) 0 rfl rfl rfl ?_
            obtain ⟨b2, o2, E2⟩ := H.elt 0 rfl 0 (by omega)
            refine rIxE E2 rfl rfl rfl ?_
          rotate_left 1
          focus
            refine rBuildSliceS H rfl rfl rfl rfl ?_
            clear H
            intro p5 w3 H
            clear w4
            refine KeepP.mk (H.drop 0 (fun H => H)) ?_
            refine CallP.mk (Fc.imp (Go.Proofs.YtcpniokopahakaaDoor.Bin.copyGl H _ _ hm_globals ?_) ?_)
            · omega
            clear H
            rintro v' w4 H
            refine KeepP.mk (H.drop 1 (fun H => H.drop 0 (fun H => H))) ?_
            refine rApS (ys := [⟨_, _⟩]) 16 H 0 rfl (H.at 1 rfl) rfl (fun y _ => rfl) rfl rfl rfl (by omega) (by omega) ?_
            intro v1
            clear H
            intro w5 H
            clear w4
            refine tk (fun wx HS => rFieldAt rfl ⟨rfl, rfl⟩) ?_
            refine rStS H 2 rfl rfl rfl (H.one 0 rfl) ?_
            clear H
            intro w4 H
            clear w5
            refine rFieldAt rfl ?_
            refine rLd (H.at 5 rfl) 2 rfl rfl rfl ?_
            obtain ⟨b1, o1, E1, F1, hok1⟩ := FSl.elt hm_funcs hf
            have hok1_ty := hok1.ty
            have hok1_loc := hok1.loc
            have hok1_body := hok1.body
            refine rIxE E1 rfl rfl rfl ?_
            refine rLdA (H.fat F1) 0 rfl rfl rfl ?_
            refine rAllocS H rfl ?_
            clear H
            intro p6 w5 H
            clear w4
            refine rStAS H 0 rfl rfl rfl (by simp only [List.all_cons, List.all_nil, H.one 1 rfl, FSl.one hok1_body, FSl.one hok1_loc, FSl.one hf_body, FSl.one hf_loc, FSl.one ht_out, FSl.one ht_inn, FSl.one hm_data, FSl.one hm_elems, FSl.one hm_exps, FSl.one hm_imps, FSl.one hm_globals, FSl.one hm_funcs, FSl.one hm_types]; rfl) ?_
            clear H
            intro w4 H
            clear w5
            refine rFieldAt rfl ?_
            refine rLd (H.at 0 rfl) 1 rfl rfl rfl ?_
            refine rLenF hok1_loc rfl ?_
            refine cT (vLt_T (by omega)) ?_
            refine rFieldAt rfl ?_
            refine rLd (H.at 0 rfl) 1 rfl rfl rfl ?_
            refine CallP.mk (Fc.imp (Go.Proofs.YtcpniokopahakaaDoor.Bin.copyK H _ _ hok1_loc ?_) ?_)
            · omega
            clear H
            rintro va' w5 H
            refine rBuildSliceS H rfl rfl rfl rfl ?_
            clear H
            intro p7 w6 H
            clear w5
            refine rApS (ys := [_]) 1 H 1 rfl (H.at 0 rfl) rfl (fun y _ => rfl) rfl rfl rfl (by omega) (by omega) ?_
            intro v2
            clear H
            intro w5 H
            clear w6
            refine rFieldAt rfl ?_
            refine rStS H 2 rfl rfl rfl (H.one 1 rfl) ?_
            clear H
            intro w6 H
            clear w5
            refine rFieldAt rfl ?_
            refine rLd (H.at 8 rfl) 2 rfl rfl rfl ?_
            refine CallP.mk (Fc.imp (Go.Proofs.YtcpniokopahakaaDoor.Bin.copyFn H _ _ hm_funcs ?_) ?_)
            · omega
            clear H
            rintro vb' w5 H
            refine rFieldAt rfl ?_
            refine rStS H 6 rfl rfl rfl (H.one 0 rfl) ?_
            clear H
            intro w7 H
            clear w5
            refine rFieldAt rfl ?_
            refine rLd (H.at 6 rfl) 2 rfl rfl rfl ?_
            refine rLdA (H.at 3 rfl) 0 rfl rfl rfl ?_
            obtain ⟨b2, o2, E2⟩ := H.elt 0 rfl 0 (by omega)
            refine rIxE E2 rfl rfl rfl ?_
          rotate_left 1
          · refine rStEA H 0 rfl E2 hf 0 ⟨f.ty, v2, f.loc ++ [k], f.vb, f.body⟩ rfl (by simp only [List.all_cons, List.all_nil, H.one 2 rfl, FSl.one hf_body]; rfl) rfl rfl ?_
            clear H
            intro w9 H
            refine H.frz1 2 U8 rfl (app_ok (FSl.all hf_loc) hk) ?_
            intro g1 e1 hK
            clear H
            intro H
            refine H.frz1 0 (okFn g1) rfl (set_ok (fun y hy => (FSl.all hm_funcs y hy).ext e1) ⟨hf_ty, hK, FSl.extN (ok := okV) (fun _ _ _ h E => h.ext E) hf_body e1⟩) ?_
            intro g2 e2 hF
            clear H
            intro H
            have hF := hF.okm (ok' := okFn g2) fun _ _ h => h.ext e2
            have E := e1.trans e2
            first | refine H.frz1 2 okGl rfl (app_ok (FSl.all hm_globals) hx) ?_ | refine H.frz1 3 okGl rfl (app_ok (FSl.all hm_globals) hx) ?_ | refine H.frz1 1 okGl rfl (app_ok (FSl.all hm_globals) hx) ?_ | refine H.frz1 0 okGl rfl (app_ok (FSl.all hm_globals) hx) ?_ | refine H.frz1 4 okGl rfl (app_ok (FSl.all hm_globals) hx) ?_
            intro g3 e3 hG
            clear H
            intro H
            replace E := E.trans e3
            replace hF := FSl.extN (ok := okFn) (fun _ _ _ h E => h.ext E) hF e3
            have hS := FSl.extN (ok := okSg) (fun _ _ _ h E => h.ext E) hm_types E
            have hn := wider_ok hm E hS hF hG
            have hs := wider_sound hn ⟨[], (List.append_nil _).symm⟩ ⟨_, rfl⟩ (set_tys (f' := ⟨f.ty, v2, f.loc ++ [k], f.vb, f.body⟩) hf rfl) (set_fs (f1 := ⟨f.ty, v2, f.loc ++ [k], f.vb, f.body⟩) hf rfl rfl rfl) q0 (ops_ok hm)
            have hT4 := u8_ext hT E
            have cC := fun (w : World) (l : List As) (H : Sat _ w l) => Bin.check H hT4 _ hn
            have cM := fun (w : World) (l : List As) (H : Sat _ w l) => module_ H hT4 hn
            simp only [wider] at cC cM hs
            refine rLdA (H.at 3 rfl) 0 rfl rfl rfl ?_
            refine CallP.mk (Fc.imp (cC _ _ H) ?_)
            clear H
            rintro _ w3 ⟨⟨e4, ⟨rfl, h2⟩⟩, H⟩
            refine cI (fun c1 => ?_) (fun c1 => ?_)
            · replace c1 := vNe_t (c1)
              refine rLdA (H.at 3 rfl) 0 rfl rfl rfl ?_
              refine CallP.mk (Fc.imp (cM _ _ H) ?_)
              clear H
              rintro _ w8 ⟨e5, ⟨rfl, ⟨h3, H⟩⟩⟩
              refine Done.mk ?_
              refine ⟨?_, ?_⟩
              · exact vm1 (by assumption) (by assumption) (by assumption)
              exact E.fin H
            replace c1 := vNe_f (c1)
            refine rLdA (H.at 3 rfl) 0 rfl rfl rfl ?_
            refine CallP.mk (Fc.imp (cM _ _ H) ?_)
            clear H
            rintro _ w8 ⟨e5, ⟨rfl, ⟨h3, H⟩⟩⟩
            refine Done.mk ?_
            refine ⟨?_, ?_⟩
            · exact vm2 hs (by assumption) (by assumption) (by assumption)
            exact E.fin H
          · refine rStEA H 0 rfl E2 hf 0 ⟨f.ty, v2, f.loc ++ [k], f.vb, f.body⟩ rfl (by simp only [List.all_cons, List.all_nil, H.one 2 rfl, FSl.one hf_body]; rfl) rfl rfl ?_
            clear H
            intro w9 H
            refine H.frz1 2 U8 rfl (app_ok (FSl.all hf_loc) hk) ?_
            intro g1 e1 hK
            clear H
            intro H
            refine H.frz1 0 (okFn g1) rfl (set_ok (fun y hy => (FSl.all hm_funcs y hy).ext e1) ⟨hf_ty, hK, FSl.extN (ok := okV) (fun _ _ _ h E => h.ext E) hf_body e1⟩) ?_
            intro g2 e2 hF
            clear H
            intro H
            have hF := hF.okm (ok' := okFn g2) fun _ _ h => h.ext e2
            have E := e1.trans e2
            first | refine H.frz1 2 okGl rfl (app_ok (FSl.all hm_globals) hx) ?_ | refine H.frz1 3 okGl rfl (app_ok (FSl.all hm_globals) hx) ?_ | refine H.frz1 1 okGl rfl (app_ok (FSl.all hm_globals) hx) ?_ | refine H.frz1 0 okGl rfl (app_ok (FSl.all hm_globals) hx) ?_ | refine H.frz1 4 okGl rfl (app_ok (FSl.all hm_globals) hx) ?_
            intro g3 e3 hG
            clear H
            intro H
            replace E := E.trans e3
            replace hF := FSl.extN (ok := okFn) (fun _ _ _ h E => h.ext E) hF e3
            have hS := FSl.extN (ok := okSg) (fun _ _ _ h E => h.ext E) hm_types E
            have hn := wider_ok hm E hS hF hG
            have hs := wider_sound hn ⟨[], (List.append_nil _).symm⟩ ⟨_, rfl⟩ (set_tys (f' := ⟨f.ty, v2, f.loc ++ [k], f.vb, f.body⟩) hf rfl) (set_fs (f1 := ⟨f.ty, v2, f.loc ++ [k], f.vb, f.body⟩) hf rfl rfl rfl) q0 (ops_ok hm)
            have hT4 := u8_ext hT E
            have cC := fun (w : World) (l : List As) (H : Sat _ w l) => Bin.check H hT4 _ hn
            have cM := fun (w : World) (l : List As) (H : Sat _ w l) => module_ H hT4 hn
            simp only [wider] at cC cM hs
            refine rLdA (H.at 3 rfl) 0 rfl rfl rfl ?_
            refine CallP.mk (Fc.imp (cC _ _ H) ?_)
            clear H
            rintro _ w5 ⟨⟨e4, ⟨rfl, h2⟩⟩, H⟩
            refine cI (fun c1 => ?_) (fun c1 => ?_)
            · replace c1 := vNe_t (c1)
              refine rLdA (H.at 3 rfl) 0 rfl rfl rfl ?_
              refine CallP.mk (Fc.imp (cM _ _ H) ?_)
              clear H
              rintro _ w8 ⟨e5, ⟨rfl, ⟨h3, H⟩⟩⟩
              refine Done.mk ?_
              refine ⟨?_, ?_⟩
              · exact vm1 (by assumption) (by assumption) (by assumption)
              exact E.fin H
            replace c1 := vNe_f (c1)
            refine rLdA (H.at 3 rfl) 0 rfl rfl rfl ?_
            refine CallP.mk (Fc.imp (cM _ _ H) ?_)
            clear H
            rintro _ w8 ⟨e5, ⟨rfl, ⟨h3, H⟩⟩⟩
            refine Done.mk ?_
            refine ⟨?_, ?_⟩
            · exact vm2 hs (by assumption) (by assumption) (by assumption)
            exact E.fin H
        · refine cF rfl ?_
          refine rLdA (H.at 2 rfl) 0 rfl rfl rfl ?_
          refine rAllocS H rfl ?_
          clear H
          intro p4 w4 H
          clear w3
          refine rStAS H 0 rfl rfl rfl (by simp only [List.all_cons, List.all_nil, FSl.one hf_body, FSl.one hf_loc, FSl.one ht_out, FSl.one ht_inn, FSl.one hm_data, FSl.one hm_elems, FSl.one hm_exps, FSl.one hm_imps, FSl.one hm_globals, FSl.one hm_funcs, FSl.one hm_types]; rfl) ?_
          clear H
          intro w3 H
          clear w4
          refine rFieldAt rfl ?_
          refine rLd (H.at 3 rfl) 0 rfl rfl rfl ?_
          refine rLenF hm_types rfl ?_
          refine cF (vLt_F (by omega)) ?_
          refine rFieldAt rfl ?_
          refine rLd (H.at 3 rfl) 6 rfl rfl rfl ?_
          refine rLenF hm_globals rfl ?_
          refine cT (vLt_T (by omega)) ?_
          refine drawtS H [] (.op 0 .pure (.op 1 .held (.op 3 .held (.fork (.op 2 .forced (.op 4 .forced (.op 5 .free (.op 6 .pure (.op 7 .free .nil))))) (.op 4 .forced (.op 2 .forced (.op 5 .free (.op 6 .pure (.op 7 .free .nil))))))))) mixed (by kernel_rfl) ?_
          clear H
          intro w4 H
          clear w3
          refine tk (fun wx HS => rFieldAt rfl ⟨rfl, rfl⟩) ?_
          refine tk (fun wx HS => rLd (HS.at 3 rfl) 6 rfl rfl rfl ⟨rfl, rfl⟩) ?_
          refine tk (fun wx HS => rLdA (HS.at 1 rfl) 0 rfl rfl rfl ⟨rfl, rfl⟩) ?_
          refine ⟨?_, ?_⟩
          focus
            refine CallP.mk (Fc.imp (Go.Proofs.YtcpniokopahakaaDoor.Bin.copyGl H _ _ hm_globals ?_) ?_)
            · omega
            clear H
            rintro v' w3 H
            refine KeepP.mk (H.drop 0 (fun H => H)) ?_
            refine rBuildSliceS H rfl rfl rfl rfl ?_
            clear H
            intro p5 w5 H
            clear w3
            refine KeepP.mk (H.drop 1 (fun H => H.drop 0 (fun H => H))) ?_
            refine rApS (ys := [⟨_, _⟩]) 16 H 1 rfl (H.at 0 rfl) rfl (fun y _ => rfl) rfl rfl rfl (by omega) (by omega) ?_
            intro v1
            clear H
            intro w3 H
            clear w5
            refine tk (fun wx HS => rFieldAt rfl ⟨rfl, rfl⟩) ?_
            refine rStS H 2 rfl rfl rfl (H.one 1 rfl) ?_
            clear H
            intro w5 H
            clear w3
            refine rFieldAt rfl ?_
            refine rLd (H.at 5 rfl) 2 rfl rfl rfl ?_
            obtain ⟨b1, o1, E1, F1, hok1⟩ := FSl.elt hm_funcs hf
            have hok1_ty := hok1.ty
            have hok1_loc := hok1.loc
            have hok1_body := hok1.body
            refine rIxE E1 rfl rfl rfl ?_
            refine rLdA (H.fat F1) 0 rfl rfl rfl ?_
            refine rAllocS H rfl ?_
            clear H
            intro p6 w3 H
            clear w5
            refine rStAS H 0 rfl rfl rfl (by simp only [List.all_cons, List.all_nil, H.one 2 rfl, FSl.one hok1_body, FSl.one hok1_loc, FSl.one hf_body, FSl.one hf_loc, FSl.one ht_out, FSl.one ht_inn, FSl.one hm_data, FSl.one hm_elems, FSl.one hm_exps, FSl.one hm_imps, FSl.one hm_globals, FSl.one hm_funcs, FSl.one hm_types]; rfl) ?_
            clear H
            intro w5 H
            clear w3
            refine rFieldAt rfl ?_
            refine rLd (H.at 0 rfl) 1 rfl rfl rfl ?_
            refine rLenF hok1_loc rfl ?_
            refine cF (vLt_F (by omega)) ?_
            refine rLdA (H.at 3 rfl) 0 rfl rfl rfl ?_
          rotate_left 1
          focus
            refine rBuildSliceS H rfl rfl rfl rfl ?_
            clear H
            intro p5 w3 H
            clear w4
            refine KeepP.mk (H.drop 0 (fun H => H)) ?_
            refine CallP.mk (Fc.imp (Go.Proofs.YtcpniokopahakaaDoor.Bin.copyGl H _ _ hm_globals ?_) ?_)
            · omega
            clear H
            rintro v' w4 H
            refine KeepP.mk (H.drop 1 (fun H => H.drop 0 (fun H => H))) ?_
            refine rApS (ys := [⟨_, _⟩]) 16 H 0 rfl (H.at 1 rfl) rfl (fun y _ => rfl) rfl rfl rfl (by omega) (by omega) ?_
            intro v1
            clear H
            intro w5 H
            clear w4
            refine tk (fun wx HS => rFieldAt rfl ⟨rfl, rfl⟩) ?_
            refine rStS H 2 rfl rfl rfl (H.one 0 rfl) ?_
            clear H
            intro w4 H
            clear w5
            refine rFieldAt rfl ?_
            refine rLd (H.at 5 rfl) 2 rfl rfl rfl ?_
            obtain ⟨b1, o1, E1, F1, hok1⟩ := FSl.elt hm_funcs hf
            have hok1_ty := hok1.ty
            have hok1_loc := hok1.loc
            have hok1_body := hok1.body
            refine rIxE E1 rfl rfl rfl ?_
            refine rLdA (H.fat F1) 0 rfl rfl rfl ?_
            refine rAllocS H rfl ?_
            clear H
            intro p6 w5 H
            clear w4
            refine rStAS H 0 rfl rfl rfl (by simp only [List.all_cons, List.all_nil, H.one 1 rfl, FSl.one hok1_body, FSl.one hok1_loc, FSl.one hf_body, FSl.one hf_loc, FSl.one ht_out, FSl.one ht_inn, FSl.one hm_data, FSl.one hm_elems, FSl.one hm_exps, FSl.one hm_imps, FSl.one hm_globals, FSl.one hm_funcs, FSl.one hm_types]; rfl) ?_
            clear H
            intro w4 H
            clear w5
            refine rFieldAt rfl ?_
            refine rLd (H.at 0 rfl) 1 rfl rfl rfl ?_
            refine rLenF hok1_loc rfl ?_
            refine cF (vLt_F (by omega)) ?_
            refine rLdA (H.at 3 rfl) 0 rfl rfl rfl ?_
          rotate_left 1
          · have E := Ext.refl (froz w)
            have hF := hm_funcs
            first | refine H.frz1 0 okGl rfl (app_ok (FSl.all hm_globals) hx) ?_ | refine H.frz1 1 okGl rfl (app_ok (FSl.all hm_globals) hx) ?_ | refine H.frz1 2 okGl rfl (app_ok (FSl.all hm_globals) hx) ?_ | refine H.frz1 3 okGl rfl (app_ok (FSl.all hm_globals) hx) ?_ | refine H.frz1 4 okGl rfl (app_ok (FSl.all hm_globals) hx) ?_
            intro g3 e3 hG
            clear H
            intro H
            replace E := E.trans e3
            replace hF := FSl.extN (ok := okFn) (fun _ _ _ h E => h.ext E) hF e3
            have hS := FSl.extN (ok := okSg) (fun _ _ _ h E => h.ext E) hm_types E
            have hn := wider_ok hm E hS hF hG
            have hs := wider_sound hn ⟨[], (List.append_nil _).symm⟩ ⟨_, rfl⟩ rfl (same_fs _) q0 (ops_ok hm)
            have hT4 := u8_ext hT E
            have cC := fun (w : World) (l : List As) (H : Sat _ w l) => Bin.check H hT4 _ hn
            have cM := fun (w : World) (l : List As) (H : Sat _ w l) => module_ H hT4 hn
            simp only [wider] at cC cM hs
            refine CallP.mk (Fc.imp (cC _ _ H) ?_)
            clear H
            rintro _ w3 ⟨⟨e1, ⟨rfl, h2⟩⟩, H⟩
            refine cI (fun c1 => ?_) (fun c1 => ?_)
            · replace c1 := vNe_t (c1)
              refine rLdA (H.at 2 rfl) 0 rfl rfl rfl ?_
              refine CallP.mk (Fc.imp (cM _ _ H) ?_)
              clear H
              rintro _ w6 ⟨e2, ⟨rfl, ⟨h3, H⟩⟩⟩
              refine Done.mk ?_
              refine ⟨?_, ?_⟩
              · exact vm1 (by assumption) (by assumption) (by assumption)
              exact E.fin H
            replace c1 := vNe_f (c1)
            refine rLdA (H.at 2 rfl) 0 rfl rfl rfl ?_
            refine CallP.mk (Fc.imp (cM _ _ H) ?_)
            clear H
            rintro _ w6 ⟨e2, ⟨rfl, ⟨h3, H⟩⟩⟩
            refine Done.mk ?_
            refine ⟨?_, ?_⟩
            · exact vm2 hs (by assumption) (by assumption) (by assumption)
            exact E.fin H
          · have E := Ext.refl (froz w)
            have hF := hm_funcs
            first | refine H.frz1 0 okGl rfl (app_ok (FSl.all hm_globals) hx) ?_ | refine H.frz1 1 okGl rfl (app_ok (FSl.all hm_globals) hx) ?_ | refine H.frz1 2 okGl rfl (app_ok (FSl.all hm_globals) hx) ?_ | refine H.frz1 3 okGl rfl (app_ok (FSl.all hm_globals) hx) ?_ | refine H.frz1 4 okGl rfl (app_ok (FSl.all hm_globals) hx) ?_
            intro g3 e3 hG
            clear H
            intro H
            replace E := E.trans e3
            replace hF := FSl.extN (ok := okFn) (fun _ _ _ h E => h.ext E) hF e3
            have hS := FSl.extN (ok := okSg) (fun _ _ _ h E => h.ext E) hm_types E
            have hn := wider_ok hm E hS hF hG
            have hs := wider_sound hn ⟨[], (List.append_nil _).symm⟩ ⟨_, rfl⟩ rfl (same_fs _) q0 (ops_ok hm)
            have hT4 := u8_ext hT E
            have cC := fun (w : World) (l : List As) (H : Sat _ w l) => Bin.check H hT4 _ hn
            have cM := fun (w : World) (l : List As) (H : Sat _ w l) => module_ H hT4 hn
            simp only [wider] at cC cM hs
            refine CallP.mk (Fc.imp (cC _ _ H) ?_)
            clear H
            rintro _ w5 ⟨⟨e1, ⟨rfl, h2⟩⟩, H⟩
            refine cI (fun c1 => ?_) (fun c1 => ?_)
            · replace c1 := vNe_t (c1)
              refine rLdA (H.at 2 rfl) 0 rfl rfl rfl ?_
              refine CallP.mk (Fc.imp (cM _ _ H) ?_)
              clear H
              rintro _ w6 ⟨e2, ⟨rfl, ⟨h3, H⟩⟩⟩
              refine Done.mk ?_
              refine ⟨?_, ?_⟩
              · exact vm1 (by assumption) (by assumption) (by assumption)
              exact E.fin H
            replace c1 := vNe_f (c1)
            refine rLdA (H.at 2 rfl) 0 rfl rfl rfl ?_
            refine CallP.mk (Fc.imp (cM _ _ H) ?_)
            clear H
            rintro _ w6 ⟨e2, ⟨rfl, ⟨h3, H⟩⟩⟩
            refine Done.mk ?_
            refine ⟨?_, ?_⟩
            · exact vm2 hs (by assumption) (by assumption) (by assumption)
            exact E.fin H
      · by_cases hC : f.loc.length < 16
        · refine cF rfl ?_
          refine rLdA (H.at 2 rfl) 0 rfl rfl rfl ?_
          refine rAllocS H rfl ?_
          clear H
          intro p4 w4 H
          clear w3
          refine rStAS H 0 rfl rfl rfl (by simp only [List.all_cons, List.all_nil, FSl.one hf_body, FSl.one hf_loc, FSl.one ht_out, FSl.one ht_inn, FSl.one hm_data, FSl.one hm_elems, FSl.one hm_exps, FSl.one hm_imps, FSl.one hm_globals, FSl.one hm_funcs, FSl.one hm_types]; rfl) ?_
          clear H
          intro w3 H
          clear w4
          refine rFieldAt rfl ?_
          refine rLd (H.at 3 rfl) 0 rfl rfl rfl ?_
          refine rLenF hm_types rfl ?_
          refine cF (vLt_F (by omega)) ?_
          refine rFieldAt rfl ?_
          refine rLd (H.at 3 rfl) 6 rfl rfl rfl ?_
          refine rLenF hm_globals rfl ?_
          refine cF (vLt_F (by omega)) ?_
          refine rFieldAt rfl ?_
          refine rLd (H.at 3 rfl) 2 rfl rfl rfl ?_
          obtain ⟨b1, o1, E1, F1, hok1⟩ := FSl.elt hm_funcs hf
          have hok1_ty := hok1.ty
          have hok1_loc := hok1.loc
          have hok1_body := hok1.body
          refine rIxE E1 rfl rfl rfl ?_
          refine rLdA (H.fat F1) 0 rfl rfl rfl ?_
          refine rAllocS H rfl ?_
          clear H
          intro p5 w4 H
          clear w3
          refine rStAS H 0 rfl rfl rfl (by simp only [List.all_cons, List.all_nil, FSl.one hok1_body, FSl.one hok1_loc, FSl.one hf_body, FSl.one hf_loc, FSl.one ht_out, FSl.one ht_inn, FSl.one hm_data, FSl.one hm_elems, FSl.one hm_exps, FSl.one hm_imps, FSl.one hm_globals, FSl.one hm_funcs, FSl.one hm_types]; rfl) ?_
          clear H
          intro w3 H
          clear w4
          refine rFieldAt rfl ?_
          refine rLd (H.at 0 rfl) 1 rfl rfl rfl ?_
          refine rLenF hok1_loc rfl ?_
          refine cT (vLt_T (by omega)) ?_
          refine rFieldAt rfl ?_
          refine rLd (H.at 0 rfl) 1 rfl rfl rfl ?_
          refine CallP.mk (Fc.imp (Go.Proofs.YtcpniokopahakaaDoor.Bin.copyK H _ _ hok1_loc ?_) ?_)
          · omega
          clear H
          rintro v' w4 H
          refine rBuildSliceS H rfl rfl rfl rfl ?_
          clear H
          intro p6 w5 H
          clear w4
          refine rApS (ys := [_]) 1 H 1 rfl (H.at 0 rfl) rfl (fun y _ => rfl) rfl rfl rfl (by omega) (by omega) ?_
          intro v1
          clear H
          intro w4 H
          clear w5
          refine rFieldAt rfl ?_
          refine rStS H 2 rfl rfl rfl (H.one 1 rfl) ?_
          clear H
          intro w5 H
          clear w4
          refine rFieldAt rfl ?_
          refine rLd (H.at 6 rfl) 2 rfl rfl rfl ?_
          refine CallP.mk (Fc.imp (Go.Proofs.YtcpniokopahakaaDoor.Bin.copyFn H _ _ hm_funcs ?_) ?_)
          · omega
          clear H
          rintro va' w4 H
          refine rFieldAt rfl ?_
          refine rStS H 4 rfl rfl rfl (H.one 0 rfl) ?_
          clear H
          intro w6 H
          clear w4
          refine rFieldAt rfl ?_
          refine rLd (H.at 4 rfl) 2 rfl rfl rfl ?_
          refine rLdA (H.at 3 rfl) 0 rfl rfl rfl ?_
          obtain ⟨b2, o2, E2⟩ := H.elt 0 rfl 0 (by omega)
          refine rIxE E2 rfl rfl rfl ?_
          refine rStEA H 0 rfl E2 hf 0 ⟨f.ty, v1, f.loc ++ [k], f.vb, f.body⟩ rfl (by simp only [List.all_cons, List.all_nil, H.one 2 rfl, FSl.one hf_body]; rfl) rfl rfl ?_
          clear H
          intro w9 H
          refine H.frz1 2 U8 rfl (app_ok (FSl.all hf_loc) hk) ?_
          intro g1 e1 hK
          clear H
          intro H
          refine H.frz1 0 (okFn g1) rfl (set_ok (fun y hy => (FSl.all hm_funcs y hy).ext e1) ⟨hf_ty, hK, FSl.extN (ok := okV) (fun _ _ _ h E => h.ext E) hf_body e1⟩) ?_
          intro g2 e2 hF
          clear H
          intro H
          have hF := hF.okm (ok' := okFn g2) fun _ _ h => h.ext e2
          have E := e1.trans e2
          have hG := hm_globals.ext E
          have hS := FSl.extN (ok := okSg) (fun _ _ _ h E => h.ext E) hm_types E
          have hn := wider_ok hm E hS hF hG
          have hs := wider_sound hn ⟨[], (List.append_nil _).symm⟩ ⟨[], (List.append_nil _).symm⟩ (set_tys (f' := ⟨f.ty, v1, f.loc ++ [k], f.vb, f.body⟩) hf rfl) (set_fs (f1 := ⟨f.ty, v1, f.loc ++ [k], f.vb, f.body⟩) hf rfl rfl rfl) q0 (ops_ok hm)
          have hT4 := u8_ext hT E
          have cC := fun (w : World) (l : List As) (H : Sat _ w l) => Bin.check H hT4 _ hn
          have cM := fun (w : World) (l : List As) (H : Sat _ w l) => module_ H hT4 hn
          simp only [wider] at cC cM hs
          refine rLdA (H.at 2 rfl) 0 rfl rfl rfl ?_
          refine CallP.mk (Fc.imp (cC _ _ H) ?_)
          clear H
          rintro _ w4 ⟨⟨e3, ⟨rfl, h2⟩⟩, H⟩
          refine cI (fun c1 => ?_) (fun c1 => ?_)
          · replace c1 := vNe_t (c1)
            refine rLdA (H.at 2 rfl) 0 rfl rfl rfl ?_
            refine CallP.mk (Fc.imp (cM _ _ H) ?_)
            clear H
            rintro _ w7 ⟨e4, ⟨rfl, ⟨h3, H⟩⟩⟩
            refine Done.mk ?_
            refine ⟨?_, ?_⟩
            · exact vm1 (by assumption) (by assumption) (by assumption)
            exact E.fin H
          replace c1 := vNe_f (c1)
          refine rLdA (H.at 2 rfl) 0 rfl rfl rfl ?_
          refine CallP.mk (Fc.imp (cM _ _ H) ?_)
          clear H
          rintro _ w7 ⟨e4, ⟨rfl, ⟨h3, H⟩⟩⟩
          refine Done.mk ?_
          refine ⟨?_, ?_⟩
          · exact vm2 hs (by assumption) (by assumption) (by assumption)
          exact E.fin H
        · refine cF rfl ?_
          refine rLdA (H.at 2 rfl) 0 rfl rfl rfl ?_
          refine rAllocS H rfl ?_
          clear H
          intro p4 w4 H
          clear w3
          refine rStAS H 0 rfl rfl rfl (by simp only [List.all_cons, List.all_nil, FSl.one hf_body, FSl.one hf_loc, FSl.one ht_out, FSl.one ht_inn, FSl.one hm_data, FSl.one hm_elems, FSl.one hm_exps, FSl.one hm_imps, FSl.one hm_globals, FSl.one hm_funcs, FSl.one hm_types]; rfl) ?_
          clear H
          intro w3 H
          clear w4
          refine rFieldAt rfl ?_
          refine rLd (H.at 3 rfl) 0 rfl rfl rfl ?_
          refine rLenF hm_types rfl ?_
          refine cF (vLt_F (by omega)) ?_
          refine rFieldAt rfl ?_
          refine rLd (H.at 3 rfl) 6 rfl rfl rfl ?_
          refine rLenF hm_globals rfl ?_
          refine cF (vLt_F (by omega)) ?_
          refine rFieldAt rfl ?_
          refine rLd (H.at 3 rfl) 2 rfl rfl rfl ?_
          obtain ⟨b1, o1, E1, F1, hok1⟩ := FSl.elt hm_funcs hf
          have hok1_ty := hok1.ty
          have hok1_loc := hok1.loc
          have hok1_body := hok1.body
          refine rIxE E1 rfl rfl rfl ?_
          refine rLdA (H.fat F1) 0 rfl rfl rfl ?_
          refine rAllocS H rfl ?_
          clear H
          intro p5 w4 H
          clear w3
          refine rStAS H 0 rfl rfl rfl (by simp only [List.all_cons, List.all_nil, FSl.one hok1_body, FSl.one hok1_loc, FSl.one hf_body, FSl.one hf_loc, FSl.one ht_out, FSl.one ht_inn, FSl.one hm_data, FSl.one hm_elems, FSl.one hm_exps, FSl.one hm_imps, FSl.one hm_globals, FSl.one hm_funcs, FSl.one hm_types]; rfl) ?_
          clear H
          intro w3 H
          clear w4
          refine rFieldAt rfl ?_
          refine rLd (H.at 0 rfl) 1 rfl rfl rfl ?_
          refine rLenF hok1_loc rfl ?_
          refine cF (vLt_F (by omega)) ?_
          refine rLdA (H.at 1 rfl) 0 rfl rfl rfl ?_
          have E := Ext.refl (froz w)
          have hF := hm_funcs
          have hG := hm_globals.ext E
          have hS := FSl.extN (ok := okSg) (fun _ _ _ h E => h.ext E) hm_types E
          have hn := wider_ok hm E hS hF hG
          have hs := wider_sound hn ⟨[], (List.append_nil _).symm⟩ ⟨[], (List.append_nil _).symm⟩ rfl (same_fs _) q0 (ops_ok hm)
          have hT4 := u8_ext hT E
          have cC := fun (w : World) (l : List As) (H : Sat _ w l) => Bin.check H hT4 _ hn
          have cM := fun (w : World) (l : List As) (H : Sat _ w l) => module_ H hT4 hn
          simp only [wider] at cC cM hs
          refine CallP.mk (Fc.imp (cC _ _ H) ?_)
          clear H
          rintro _ w4 ⟨⟨e1, ⟨rfl, h2⟩⟩, H⟩
          refine cI (fun c1 => ?_) (fun c1 => ?_)
          · replace c1 := vNe_t (c1)
            refine rLdA (H.at 1 rfl) 0 rfl rfl rfl ?_
            refine CallP.mk (Fc.imp (cM _ _ H) ?_)
            clear H
            rintro _ w5 ⟨e2, ⟨rfl, ⟨h3, H⟩⟩⟩
            refine Done.mk ?_
            refine ⟨?_, ?_⟩
            · exact vm1 (by assumption) (by assumption) (by assumption)
            exact E.fin H
          replace c1 := vNe_f (c1)
          refine rLdA (H.at 1 rfl) 0 rfl rfl rfl ?_
          refine CallP.mk (Fc.imp (cM _ _ H) ?_)
          clear H
          rintro _ w5 ⟨e2, ⟨rfl, ⟨h3, H⟩⟩⟩
          refine Done.mk ?_
          refine ⟨?_, ?_⟩
          · exact vm2 hs (by assumption) (by assumption) (by assumption)
          exact E.fin H
end Go.Proofs.YtcpniokopahakaaDoor.Valid
/- put: an instruction more. -/
set_option maxRecDepth 100000
set_option maxHeartbeats 4000000
set_option linter.unusedVariables false
set_option linter.unusedSimpArgs false
namespace Go.Proofs.YtcpniokopahakaaDoor.Valid
open Go Go.Proofs.YtcpniokopahakaaDoor.Eng Go.RowKit
open Ins Nest Leb Bin
theorem app_all {α : Type} {ok : α → Prop} {l r : List α} (h : ∀ y ∈ l, ok y) (hr : ∀ y ∈ r, ok y) : ∀ y ∈ l ++ r, ok y := fun y hy => by
  rcases List.mem_append.1 hy with h1 | h1
  · exact h y h1
  · exact hr y h1
theorem put_d {m : ModV} {a k : Nat} {f : FunV} {xs : List InsV} {vt vf vg vl vb : Value} (hf : m.funcs[a]? = some f) : (wider m vt m.types vf (m.funcs.set a ⟨f.ty, vl, f.loc, vb, List.drop 0 (List.take k f.body) ++ xs ++ List.drop k (List.take f.body.length f.body)⟩) vg m.globals).d = { m.d with funcs := m.d.funcs.set a { f.d with body := (f.body.map InsV.d).take k ++ (xs.map InsV.d ++ (f.body.map InsV.d).drop k) } } := by
  have e : (m.funcs.set a ⟨f.ty, vl, f.loc, vb, List.drop 0 (List.take k f.body) ++ xs ++ List.drop k (List.take f.body.length f.body)⟩).map FunV.d = m.d.funcs.set a { f.d with body := (f.body.map InsV.d).take k ++ (xs.map InsV.d ++ (f.body.map InsV.d).drop k) } := by
    show _ = (m.funcs.map FunV.d).set a _
    rw [List.map_set]
    congr 1
    simp only [FunV.d, List.drop_zero, List.take_length, List.map_append, List.map_take, List.map_drop, List.append_assoc]
  unfold wider ModV.d
  simp only
  rw [e]
  rfl
section
variable {g : Glob} {w : World} {l : List As}
theorem put (H : Sat g w l) (m : ModV) (hm : okMd g m) (a k : Nat) (f : FunV) (hf : m.funcs[a]? = some f) (hk : k ≤ f.body.length) (hfl : f.body.length ≤ 200) (hml : m.funcs.length ≤ 16) (v : Value) (xs : List InsV) (hx : FSl g enV (okV g) 4 v xs) (hxl : xs.length ≤ 1000) : Fc Tryd.prog 22 #[.agg #[m.vt, m.vm, m.vf, .int .i64 m.table, .int .i64 m.pages, .int .i64 m.most, m.vg, m.vx, .int .i64 m.start, m.ve, m.vd], .int .i64 a, .int .i64 k, v] w (fun r w' => ∃ (g' : Glob) (n : ModV), r = .agg #[n.vt, n.vm, n.vf, .int .i64 n.table, .int .i64 n.pages, .int .i64 n.most, n.vg, n.vx, .int .i64 n.start, n.ve, n.vd] ∧ Ext g g' ∧ okMd g' n ∧ n.d = { m.d with funcs := m.d.funcs.set a { f.d with body := (f.body.map InsV.d).take k ++ (xs.map InsV.d ++ (f.body.map InsV.d).drop k) } } ∧ Sat g' w' l) := by
  refine Fc.of Tryd.func22 rfl (by kernel_rfl) ?_
  have hm_types := hm.types
  have hm_funcs := hm.funcs
  have hm_globals := hm.globals
  have hm_imps := hm.imps
  have hm_exps := hm.exps
  have hm_elems := hm.elems
  have hm_data := hm.data
  have hla := (List.getElem?_eq_some_iff.1 hf).1
  have hfm := List.mem_of_getElem? hf
  have hfo := FSl.all hm_funcs f hfm
  have hf_body := hfo.body
  have hf_loc := hfo.loc
  have hf_ty := hfo.ty
  refine rBoxS H ?_
  clear H
  intro p1 w1 H
  refine rAllocS H rfl ?_
  clear H
  intro p2 w2 H
  clear w1
  refine rFieldAt rfl ?_
  refine rLd (H.at 1 rfl) 2 rfl rfl rfl ?_
  refine CallP.mk (Fc.imp (Go.Proofs.YtcpniokopahakaaDoor.Bin.copyFn H _ _ hm_funcs ?_) ?_)
  · omega
  clear H
  rintro v' w1 H
  refine rFieldAt rfl ?_
  refine rStS H 2 rfl rfl rfl (H.one 0 rfl) ?_
  clear H
  intro w3 H
  clear w1
  refine rFieldAt rfl ?_
  refine rLd (H.at 2 rfl) 2 rfl rfl rfl ?_
  obtain ⟨b1, o1, E1⟩ := H.elt 0 rfl (a) (by omega)
  refine rIxE E1 rfl rfl rfl ?_
  refine rFieldAt rfl ?_
  refine rLd (H.el 0 rfl E1 hf) 2 rfl rfl rfl ?_
  refine drawzS H [] [(0, .pure), (1, .held), (2, .pure), (3, .pure), (4, .pure), (5, .pure), (7, .pure), (9, .pure), (10, .pure), (11, .pure), (6, .forced), (8, .forced), (12, .forced), (13, .pure), (14, .pure), (15, .free)] mixed (by kernel_rfl) (by kernel_rfl) ?_
  clear H
  intro w1 H
  clear w3
  refine tk (fun wx HS => rFieldAt rfl ⟨rfl, rfl⟩) ?_
  refine tk (fun wx HS => rLd (HS.at 2 rfl) 2 rfl rfl rfl ⟨rfl, rfl⟩) ?_
  refine tkSlF hf_body 0 (k) rfl rfl (by omega) (by omega) (.inl ⟨rfl, rfl⟩) (.inr ⟨_, by first | rfl | (congr 2; omega)⟩) ?_
  intro v1 hs1
  refine tkSlF hf_body (k) (f.body).length rfl rfl (by omega) (by omega) (.inr ⟨_, by first | rfl | (congr 2; omega)⟩) (.inl ⟨rfl, rfl⟩) ?_
  intro v2 hs2
  refine CallP.mk (Fc.imp (Go.Proofs.YtcpniokopahakaaDoor.Bin.copyIn H _ _ hs1 ?_) ?_)
  · (simp; omega)
  clear H
  rintro va' w3 H
  refine KeepP.mk (H.drop 0 (fun H => H)) ?_
  refine rApR 48 H 0 rfl (H.rd hx) (fun y h => by have o := FSl.all hx y h; simp only [enV, List.all_cons, List.all_nil, FSl.one o.to]; rfl) rfl rfl rfl (by simp only [List.length_drop, List.length_take]; omega) (by simp only [List.length_drop, List.length_take]; omega) ?_
  intro v1
  clear H
  intro w4 H
  refine KeepP.mk (H.drop 0 (fun H => H)) ?_
  refine rApR 48 H 0 rfl (H.rd hs2) (fun y h => by have o := FSl.all hs2 y h; simp only [enV, List.all_cons, List.all_nil, FSl.one o.to]; rfl) rfl rfl rfl (by simp only [List.length_append, List.length_drop, List.length_take]; omega) (by simp only [List.length_append, List.length_drop, List.length_take]; omega) ?_
  intro v2
  clear H
  intro w5 H
  refine KeepP.mk (H.drop 0 (fun H => H)) ?_
  refine tk (fun wx HS => rIxE E1 rfl rfl rfl ⟨rfl, rfl⟩) ?_
  refine tk (fun wx HS => rFieldAt rfl ⟨rfl, rfl⟩) ?_
  refine rStE H 1 rfl E1 hf 2 ⟨f.ty, f.vl, f.loc, v2, List.drop 0 (List.take k f.body) ++ xs ++ List.drop k (List.take f.body.length f.body)⟩ rfl (H.one 0 rfl) rfl rfl ?_
  clear H
  intro w6 H
  refine H.frz1 0 (okV g) rfl (app_all (app_all (FSl.all hs1) (FSl.all hx)) (FSl.all hs2)) ?_
  intro g1 e1 hB
  clear H
  intro H
  replace hB := hB.okm (ok' := okV g1) fun _ _ h => h.ext e1
  refine H.frz1 0 (okFn g1) rfl (set_mem (x := ⟨f.ty, f.vl, f.loc, v2, List.drop 0 (List.take k f.body) ++ xs ++ List.drop k (List.take f.body.length f.body)⟩) (fun y hy => (FSl.all hm_funcs y hy).ext e1) ⟨hf_ty, hf_loc.ext e1, hB⟩) ?_
  intro g2 e2 hF
  clear H
  intro H
  replace hF := hF.okm (ok' := okFn g2) fun _ _ h => h.ext e2
  have E := e1.trans e2
  have hn := wider_ok hm E (FSl.extN (ok := okSg) (fun _ _ _ h E => h.ext E) hm.types E) hF (hm.globals.ext E)
  refine rLdA (H.at 1 rfl) 0 rfl rfl rfl ?_
  refine rStAS H 0 rfl rfl rfl (by simp only [List.all_cons, List.all_nil, FSl.one hF, FSl.one hB, FSl.one hs2, FSl.one hs1, FSl.one hf_loc, FSl.one hf_body, FSl.one hm_data, FSl.one hm_elems, FSl.one hm_exps, FSl.one hm_imps, FSl.one hm_globals, FSl.one hm_funcs, FSl.one hm_types, FSl.one hx]; rfl) ?_
  clear H
  intro w7 H
  clear w6
  refine rdAN (H.at 0 rfl) 0 rfl rfl rfl ?_
  refine Done.mk ?_
  exact ⟨g2, wider m _ _ _ _ _ _, rfl, E, hn, put_d hf, (H.del 0).del 0⟩
end
end Go.Proofs.YtcpniokopahakaaDoor.Valid
/- The walk of ValidNops. -/
set_option maxRecDepth 100000
set_option maxHeartbeats 4000000
set_option linter.unusedVariables false
set_option linter.unusedSimpArgs false
namespace Go.Proofs.YtcpniokopahakaaDoor.Valid
open Go Go.Proofs.YtcpniokopahakaaDoor.Eng Go.RowKit
open Ins Nest Leb Bin
theorem vm3 {n : ModD} {e : Int} (h : modE n = 0) (h1 : e = modE n) : Value.bool (vEq e 0) = Value.bool true := by
  have : vEq e 0 = true := by rw [vEq_iff, h1, h]; simp
  rw [this]
theorem fun_get {m : ModV} {n : Nat} {f : FunV} (h : m.funcs[n]? = some f) : m.d.funcs[n]? = some f.d := by
  show (m.funcs.map FunV.d)[n]? = _
  rw [List.getElem?_map, h]; rfl
theorem body_len {m : ModV} (h : modE m.d = 0) {f : FunV} (hf : f ∈ m.funcs) : f.body.length ≤ 200 ∧ 0 < f.body.length := by
  obtain ⟨h1, h2⟩ := chkB_go (mod_body h f hf)
  rw [List.length_map] at h1
  refine ⟨h1, ?_⟩
  cases hb : f.body with
  | nil => rw [hb] at h2; cases h2
  | cons a r => simp
theorem validNops (w : World) (m : ModV) (a k : Int) (b : Bool) (hm : okMd (froz w) m) (ha : I64 a) (hk : I64 k) (hT : U8F (froz w)) : Fc Tryd.prog 6 #[.agg #[m.vt, m.vm, m.vf, .int .i64 m.table, .int .i64 m.pages, .int .i64 m.most, m.vg, m.vx, .int .i64 m.start, m.ve, m.vd], .int .i64 a, .int .i64 k, .bool b] w (fun v w' => v = .bool true ∧ Below w.heap.size w w') := by
  refine Fc.of Tryd.func6 rfl (by kernel_rfl) ?_
  have H := Sat.start w
  have hm_types := hm.types
  have hm_funcs := hm.funcs
  have hm_globals := hm.globals
  have hm_imps := hm.imps
  have hm_exps := hm.exps
  have hm_elems := hm.elems
  have hm_data := hm.data
  refine rBoxS H ?_
  clear H
  intro p1 w1 H
  refine rLdA (H.at 0 rfl) 0 rfl rfl rfl ?_
  refine CallP.mk (Fc.imp (Go.Proofs.YtcpniokopahakaaDoor.Valid.sound H ?_ _ ?_ _ _ ?_ ?_) ?_)
  · assumption
  · assumption
  · assumption
  · assumption
  clear H
  rintro _ w2 ⟨x1, ⟨y1, ⟨b1, ⟨rfl, ⟨h1, H⟩⟩⟩⟩⟩
  refine CallP.mk (Fc.imp (Go.Proofs.YtcpniokopahakaaDoor.Valid.refused H ?_) ?_)
  · assumption
  clear H
  rintro _ w3 ⟨rfl, H⟩
  refine cF rfl ?_
  refine br (fun c1 => ?_) (fun c1 => ?_)
  · replace c1 := not_t (c1)
    refine cT rfl ?_
    refine Done.mk ?_
    exact ⟨rfl, H.finish⟩
  replace c1 := not_f (c1)
  refine rFieldAt rfl ?_
  refine rLd (H.at 0 rfl) 2 rfl rfl rfl ?_
  obtain ⟨q0, q1, q2, f, hf, q3⟩ := h1.yes c1
  have hx0 : 0 ≤ x1 := by rw [q2]; exact Int.emod_nonneg _ (by omega)
  obtain ⟨n, rfl⟩ := Int.eq_ofNat_of_zero_le hx0
  have hf : m.funcs[n]? = some f := hf
  have hla := (List.getElem?_eq_some_iff.1 hf).1
  have hfm := List.mem_of_getElem? hf
  have hfo := FSl.all hm_funcs f hfm
  have hf_loc := hfo.loc
  have hf_body := hfo.body
  have hf_ty := hfo.ty
  have P := chkM_0 (head_0 (mod_head q0).1).1
  have P_funcs := P.funcs
  obtain ⟨hfl, hf0⟩ := body_len q0 hfm
  have hy0 : 0 ≤ y1 := by rw [q3]; exact Int.emod_nonneg _ (by omega)
  have hy1 : y1 < f.body.length := by rw [q3]; exact Int.emod_lt_of_pos _ (by omega)
  obtain ⟨j, rfl⟩ := Int.eq_ofNat_of_zero_le hy0
  clear q2 q3
  obtain ⟨b2, o1, E1, F1, hok1⟩ := FSl.elt hm_funcs hf
  have hok1_ty := hok1.ty
  have hok1_loc := hok1.loc
  have hok1_body := hok1.body
  refine rIxE E1 rfl rfl rfl ?_
  refine rFieldAt rfl ?_
  refine rLd (H.fat F1) 2 rfl rfl rfl ?_
  refine rLenF hok1_body rfl ?_
  refine cI (fun c2 => ?_) (fun c2 => ?_)
  · replace c2 := vEq_t (c2)
    refine Done.mk ?_
    exact ⟨rfl, H.finish⟩
  replace c2 := vEq_f (c2)
  refine rBuild rfl rfl rfl ?_
  refine rAllocS H rfl ?_
  clear H
  intro p2 w4 H
  clear w3
  refine rStAS H 0 rfl rfl rfl rfl ?_
  clear H
  intro w3 H
  clear w4
  refine cI (fun c3 => ?_) (fun c3 => ?_)
  focus
    refine rFieldAt rfl ?_
    refine rStS H 0 rfl rfl rfl rfl ?_
    clear H
    intro w4 H
    clear w3
    refine rLdA (H.at 1 rfl) 0 rfl rfl rfl ?_
    refine rLdA (H.at 0 rfl) 0 rfl rfl rfl ?_
    refine rBuildSliceS H rfl rfl rfl rfl ?_
    clear H
    intro p3 w3 H
    clear w4
  rotate_left 1
  focus
    refine rLdA (H.at 1 rfl) 0 rfl rfl rfl ?_
    refine rLdA (H.at 0 rfl) 0 rfl rfl rfl ?_
    refine rBuildSliceS H rfl rfl rfl rfl ?_
    clear H
    intro p3 w4 H
    clear w3
  rotate_left 1
  · first | refine H.ptSl (n := 1) (en := enV) (s := 4) 0 rfl [⟨0, 0, 0, .slice none 0 0, []⟩] rfl rfl (fun _ => rfl) rfl ?_ | refine H.ptSl (n := 1) (en := enV) (s := 4) 0 rfl [⟨1, 0, 0, .slice none 0 0, []⟩] rfl rfl (fun _ => rfl) rfl ?_
    clear H
    intro H
    refine H.frz1 0 (okV (froz w)) rfl (fun x h => by rw [List.mem_singleton.1 h]; exact ⟨by decide, by decide, by decide, FSl.nil0 _ _ _ _⟩) ?_
    intro g1 E hX
    clear H
    intro H
    replace hX := hX.okm (ok' := okV g1) fun _ _ h => h.ext E
    have hm1 := hm.ext E
    refine CallP.mk (Fc.imp (put H m hm1 n j f hf (by omega) hfl (by omega) _ _ hX (by simp)) ?_)
    clear H
    rintro _ w5 ⟨g2, n2, rfl, HE, hn, hd, H⟩
    replace E := E.trans HE
    clear HE
    have hT2 := u8_ext hT E
    have he : modE n2.d = 0 := by
      rw [hd]
      refine nops_sound q0 (fun_get hf) (by rw [FunV.d, List.length_map]; omega) (by rw [FunV.d, List.length_map]; omega) ?_
      first | exact .inl rfl | exact .inr rfl
    refine CallP.mk (Fc.imp (Go.Proofs.YtcpniokopahakaaDoor.Valid.module_ H ?_ ?_) ?_)
    · assumption
    · assumption
    clear H
    rintro _ w4 ⟨e1, ⟨rfl, ⟨h2, H⟩⟩⟩
    refine Done.mk ?_
    refine ⟨?_, ?_⟩
    · exact vm3 he (by assumption)
    exact E.fin H
  · first | refine H.ptSl (n := 1) (en := enV) (s := 4) 0 rfl [⟨0, 0, 0, .slice none 0 0, []⟩] rfl rfl (fun _ => rfl) rfl ?_ | refine H.ptSl (n := 1) (en := enV) (s := 4) 0 rfl [⟨1, 0, 0, .slice none 0 0, []⟩] rfl rfl (fun _ => rfl) rfl ?_
    clear H
    intro H
    refine H.frz1 0 (okV (froz w)) rfl (fun x h => by rw [List.mem_singleton.1 h]; exact ⟨by decide, by decide, by decide, FSl.nil0 _ _ _ _⟩) ?_
    intro g1 E hX
    clear H
    intro H
    replace hX := hX.okm (ok' := okV g1) fun _ _ h => h.ext E
    have hm1 := hm.ext E
    refine CallP.mk (Fc.imp (put H m hm1 n j f hf (by omega) hfl (by omega) _ _ hX (by simp)) ?_)
    clear H
    rintro _ w5 ⟨g2, n2, rfl, HE, hn, hd, H⟩
    replace E := E.trans HE
    clear HE
    have hT2 := u8_ext hT E
    have he : modE n2.d = 0 := by
      rw [hd]
      refine nops_sound q0 (fun_get hf) (by rw [FunV.d, List.length_map]; omega) (by rw [FunV.d, List.length_map]; omega) ?_
      first | exact .inl rfl | exact .inr rfl
    refine CallP.mk (Fc.imp (Go.Proofs.YtcpniokopahakaaDoor.Valid.module_ H ?_ ?_) ?_)
    · assumption
    · assumption
    clear H
    rintro _ w3 ⟨e1, ⟨rfl, ⟨h2, H⟩⟩⟩
    refine Done.mk ?_
    refine ⟨?_, ?_⟩
    · exact vm3 he (by assumption)
    exact E.fin H
end Go.Proofs.YtcpniokopahakaaDoor.Valid
/- The walk of ValidWraps. -/
set_option maxRecDepth 100000
set_option maxHeartbeats 4000000
set_option linter.unusedVariables false
set_option linter.unusedSimpArgs false
namespace Go.Proofs.YtcpniokopahakaaDoor.Valid
open Go Go.Proofs.YtcpniokopahakaaDoor.Eng Go.RowKit
open Ins Nest Leb Bin
structure Kl (out : List Int) (i : Nat) (k : Int) : Prop where
  z : i = 0 → k = 64
  o : i = 1 → k = out.getD 0 64
  u : 0 ≤ k ∧ k ≤ 255
theorem Kl.start {out : List Int} : Kl out 0 64 := ⟨fun _ => rfl, nofun, by decide⟩
theorem Kl.step {out : List Int} {i : Nat} {k x : Int} (h : Kl out i k) (hx : out[i]? = some x) (hl : out.length ≤ 1) (hu : ∀ y ∈ out, U8 y) : Kl out (i + 1) x := by
  have hi := (List.getElem?_eq_some_iff.1 hx).1
  have h0 : i = 0 := by omega
  subst h0
  exact ⟨nofun, fun _ => by rw [List.getD_eq_getElem?_getD, hx]; rfl, hu x (List.mem_of_getElem? hx)⟩
theorem Kl.fin {out : List Int} {i : Nat} {k : Int} (h : Kl out i k) (hi : out.length ≤ i) (hi2 : i ≤ out.length) (hl : out.length ≤ 1) : k = out.getD 0 64 := by
  by_cases h0 : i = 0
  · have := List.length_eq_zero_iff.1 (show out.length = 0 by omega)
    rw [h.z h0, this]; rfl
  · exact h.o (by omega)
theorem out_one {m : ModV} (h : modE m.d = 0) {t : SigV} (ht : t ∈ m.types) : t.out.length ≤ 1 := by
  have hc := (body_parts h).1
  unfold chkM at hc
  have h1 := (eachE_0.1 (fst_eq0.1 hc).1).2 t.d (List.mem_map.2 ⟨t, ht, rfl⟩)
  unfold sigE at h1
  have h2 := (eachE_0.1 (fst_eq0.1 h1).2).1
  simp only [SigV.d] at h2
  omega
def wrapV (o q : Int) (xs : List InsV) : List InsV := ([⟨o, q, 0, .slice none 0 0, []⟩] ++ xs) ++ [⟨11, 0, 0, .slice none 0 0, []⟩]
theorem wrapV_d (o q : Int) (xs : List InsV) : (wrapV o q xs).map InsV.d = ⟨o, q, 0, []⟩ :: (xs.map InsV.d ++ [⟨11, 0, 0, []⟩]) := by
  unfold wrapV; rw [List.map_append, List.map_append]; rfl
section
variable {g : Glob} {w : World} {l : List As}
theorem wrapped (H : Sat g w l) (v : Value) (xs : List InsV) (hx : FSl g enV (okV g) 4 v xs) (hl : xs.length ≤ 1000) (o q : Int) (ho : 0 ≤ o ∧ o ≤ 255) (hq : 0 ≤ q ∧ q ≤ 255) : Fc Tryd.prog 28 #[v, .int .u8 o, .int .u8 q] w (fun r w' => Sat g w' (Sl 28 4 enV r (wrapV o q xs) :: l)) := by
  refine Fc.of Tryd.func28 rfl (by kernel_rfl) ?_
  have hxl := hx.len
  have hone : ∀ y ∈ xs, ((enV y).all (·.oneCell')) = true := fun y hy => by
    have h1 := (FSl.all hx y hy).to.one
    show (_ && (_ && (_ && (y.tv.oneCell' && true)))) = true
    rw [h1]; rfl
  refine rConvI64 (by omega) rfl rfl ?_
  refine rBuild rfl rfl rfl ?_
  refine rBuildSliceS H rfl rfl rfl rfl ?_
  clear H
  intro p1 w1 H
  refine H.ptSl (n := 1) (en := enV) (s := 4) 0 rfl [⟨o, q, 0, .slice none 0 0, []⟩] rfl rfl (fun _ => rfl) rfl ?_
  clear H
  intro H
  refine rApR 48 H 0 rfl (H.rd hx) (by assumption) rfl rfl rfl (by (simp only [List.length_append, List.length_set, List.length_cons, List.length_nil]; omega)) (by (simp only [List.length_append, List.length_set, List.length_cons, List.length_nil]; omega)) ?_
  intro v1
  clear H
  intro w2 H
  clear w1
  refine rBuild rfl rfl rfl ?_
  refine rBuildSliceS H rfl rfl rfl rfl ?_
  clear H
  intro p2 w1 H
  clear w2
  refine rApS (ys := [⟨11, 0, 0, .slice none 0 0, []⟩]) 48 H 1 rfl (H.at 0 rfl) rfl (fun y hy => by rw [List.mem_singleton.1 hy]; simp only [Go.Proofs.YtcpniokopahakaaDoor.Ins.enV, List.all_cons, List.all_nil, H.one 1 rfl, FSl.one hx]; rfl) rfl rfl rfl (by (simp only [List.length_append, List.length_set, List.length_cons, List.length_nil]; omega)) (by (simp only [List.length_append, List.length_set, List.length_cons, List.length_nil]; omega)) ?_
  intro v2
  clear H
  intro w2 H
  clear w1
  replace H := H.del 0
  refine Done.mk ?_
  exact H
theorem wrapV_ok {o q : Int} {xs : List InsV} (ho : 0 ≤ o ∧ o ≤ 255) (hq : 0 ≤ q ∧ q ≤ 255) (hx : ∀ y ∈ xs, okV g y) : ∀ y ∈ wrapV o q xs, okV g y := by
  intro y hy
  unfold wrapV at hy
  rcases List.mem_append.1 hy with hy | hy
  · rcases List.mem_append.1 hy with hy | hy
    · rw [List.mem_singleton.1 hy]; exact ⟨ho, ⟨by show (-9223372036854775808 : Int) ≤ q; omega, by show q ≤ 9223372036854775807; omega⟩, (by decide : I64 0), FSl.nil0 _ _ _ _⟩
    · exact hx y hy
  · rw [List.mem_singleton.1 hy]; exact ⟨by decide, by decide, by decide, FSl.nil0 _ _ _ _⟩
end
theorem wrap_sound {g' : Glob} {m : ModV} {n : Nat} {f : FunV} {t : SigV} {K : Int} {vt vf vg vl vb : Value} (hn : okMd g' (wider m vt m.types vf (m.funcs.set n ⟨f.ty, vl, f.loc, vb, wrapV 2 K f.body⟩) vg m.globals)) (q0 : modE m.d = 0) (hf : m.funcs[n]? = some f) (ht : m.types[f.ty.toNat]? = some t) (hK : K = t.out.getD 0 64) : chkM (wider m vt m.types vf (m.funcs.set n ⟨f.ty, vl, f.loc, vb, wrapV 2 K f.body⟩) vg m.globals).d = 0 → modE (wider m vt m.types vf (m.funcs.set n ⟨f.ty, vl, f.loc, vb, wrapV 2 K f.body⟩) vg m.globals).d = 0 := by
  have e : (m.funcs.set n ⟨f.ty, vl, f.loc, vb, wrapV 2 K f.body⟩).map FunV.d = m.d.funcs.set n { f.d with body := ⟨2, K, 0, []⟩ :: (f.d.body ++ [⟨11, 0, 0, []⟩]) } := by
    show _ = (m.funcs.map FunV.d).set n _
    rw [List.map_set]
    congr 1
    simp only [FunV.d, wrapV_d]
  have e2 : (wider m vt m.types vf (m.funcs.set n ⟨f.ty, vl, f.loc, vb, wrapV 2 K f.body⟩) vg m.globals).d = { m.d with funcs := m.d.funcs.set n { f.d with body := ⟨2, K, 0, []⟩ :: (f.d.body ++ [⟨11, 0, 0, []⟩]) } } := by
    rw [← e]; rfl
  rw [e2]
  refine wraps_sound q0 (fun_get hf) ?_
  show K = ((m.types.map SigV.d).getD f.ty.toNat ⟨[], []⟩).out.getD 0 64
  rw [List.getD_eq_getElem?_getD (l := m.types.map SigV.d), List.getElem?_map, ht]
  exact hK
theorem validWraps (w : World) (m : ModV) (a : Int) (hm : okMd (froz w) m) (ha : I64 a) (hT : U8F (froz w)) : Fc Tryd.prog 8 #[.agg #[m.vt, m.vm, m.vf, .int .i64 m.table, .int .i64 m.pages, .int .i64 m.most, m.vg, m.vx, .int .i64 m.start, m.ve, m.vd], .int .i64 a] w (fun v w' => v = .bool true ∧ Below w.heap.size w w') := by
  refine Fc.of Tryd.func8 rfl (by kernel_rfl) ?_
  have H := Sat.start w
  have hm_types := hm.types
  have hm_funcs := hm.funcs
  have hm_globals := hm.globals
  have hm_imps := hm.imps
  have hm_exps := hm.exps
  have hm_elems := hm.elems
  have hm_data := hm.data
  refine rBoxS H ?_
  clear H
  intro p1 w1 H
  refine rLdA (H.at 0 rfl) 0 rfl rfl rfl ?_
  refine CallP.mk (Fc.imp (Go.Proofs.YtcpniokopahakaaDoor.Valid.sound H ?_ _ ?_ _ _ ?_ ?_) ?_)
  · assumption
  · assumption
  · assumption
  · omega
  clear H
  rintro _ w2 ⟨x1, ⟨y1, ⟨b1, ⟨rfl, ⟨h1, H⟩⟩⟩⟩⟩
  refine CallP.mk (Fc.imp (Go.Proofs.YtcpniokopahakaaDoor.Valid.refused H ?_) ?_)
  · assumption
  clear H
  rintro _ w3 ⟨rfl, H⟩
  refine cF rfl ?_
  cases b1
  · refine cT rfl ?_
    refine Done.mk ?_
    exact ⟨rfl, H.finish⟩
  · obtain ⟨q0, q1, q2, f, hf, _⟩ := h1.yes rfl
    have hx0 : 0 ≤ x1 := by rw [q2]; exact Int.emod_nonneg _ (by omega)
    obtain ⟨n, rfl⟩ := Int.eq_ofNat_of_zero_le hx0
    have hf : m.funcs[n]? = some f := hf
    have hla := (List.getElem?_eq_some_iff.1 hf).1
    have hfm := List.mem_of_getElem? hf
    have hfo := FSl.all hm_funcs f hfm
    have hf_loc := hfo.loc
    have hf_body := hfo.body
    have hf_ty := hfo.ty
    obtain ⟨hcM, hI, hSB⟩ := head_0 (mod_head q0).1
    have P := chkM_0 hcM
    have P_funcs := P.funcs
    obtain ⟨hfl, hf0⟩ := body_len q0 hfm
    have hty := hI.fu f hfm
    obtain ⟨t, ht⟩ : ∃ t, m.types[f.ty.toNat]? = some t := ⟨_, List.getElem?_eq_getElem (by omega)⟩
    have hto := FSl.all hm_types t (List.mem_of_getElem? ht)
    have ht_out := hto.out
    have hol : t.out.length ≤ 1 := out_one q0 (List.mem_of_getElem? ht)
    clear q2
    refine cF rfl ?_
    refine drawzS H [] [(0, .pure), (1, .held), (2, .pure), (3, .held), (4, .pure), (5, .pure), (6, .pure), (7, .held), (8, .pure), (9, .pure), (10, .held), (11, .pure), (12, .pure)] mixed (by kernel_rfl) (by kernel_rfl) ?_
    clear H
    intro w4 H
    clear w3
    refine tk (fun wx HS => rFieldAt rfl ⟨rfl, rfl⟩) ?_
    refine tk (fun wx HS => rLd (HS.at 0 rfl) 0 rfl rfl rfl ⟨rfl, rfl⟩) ?_
    refine tk (fun wx HS => rFieldAt rfl ⟨rfl, rfl⟩) ?_
    refine tk (fun wx HS => rLd (HS.at 0 rfl) 2 rfl rfl rfl ⟨rfl, rfl⟩) ?_
    obtain ⟨b1, o1, E1, F1, hok1⟩ := FSl.elt hm_funcs hf
    have hok1_ty := hok1.ty
    have hok1_loc := hok1.loc
    have hok1_body := hok1.body
    refine tk (fun wx HS => rIxE E1 rfl rfl rfl ⟨rfl, rfl⟩) ?_
    refine tk (fun wx HS => rFieldAt rfl ⟨rfl, rfl⟩) ?_
    refine tk (fun wx HS => rLd (HS.fat F1) 0 rfl rfl rfl ⟨rfl, rfl⟩) ?_
    obtain ⟨b2, o2, E2, F2, hok2⟩ := FSl.elt hm_types ht
    have hok2_inn := hok2.inn
    have hok2_out := hok2.out
    refine tk (fun wx HS => rIxE E2 (by omega) rfl rfl ⟨rfl, rfl⟩) ?_
    refine tk (fun wx HS => rFieldAt rfl ⟨rfl, rfl⟩) ?_
    refine tk (fun wx HS => rLd (HS.fat F2) 1 rfl rfl rfl ⟨rfl, rfl⟩) ?_
    refine tk (fun wx HS => rLenF hok2_out rfl ⟨rfl, rfl⟩) ?_
    refine LoopP.rule (α := Nat × Int) (0, 64) (fun x_ => [(35, .int .i64 x_.1), (7, .int .u8 x_.2)]) (fun x_ w_ => (x_.1 ≤ t.out.length) ∧ (Kl t.out x_.1 x_.2) ∧ Sat (froz w) w_ ([Pt p1 [m.vt, m.vm, m.vf, .int .i64 m.table, .int .i64 m.pages, .int .i64 m.most, m.vg, m.vx, .int .i64 m.start, m.ve, m.vd] 38])) (fun x_ => t.out.length - x_.1) ?_ ?_ ?_
    · repeat first | exact mt_nil | refine mt_cons rfl ?_ | refine mt_i rfl (by first | omega | (simp only; omega) | (simp; omega) | (simp; done)) ?_
    · try simp only
      refine ⟨?_, ?_⟩
      · omega
      refine ⟨?_, ?_⟩
      · exact Kl.start
      exact H
    clear H
    rintro ⟨i, kd⟩ f_ w_ ⟨hi, hA, H⟩
    try simp only at hi hA H ⊢
    rcases Nat.lt_or_ge i t.out.length with hlt | hge
    · obtain ⟨x, hx⟩ : ∃ x, t.out[i]? = some x := ⟨_, List.getElem?_eq_getElem hlt⟩
      refine cT (vLt_T (by omega)) ?_
      refine bk ?_
      obtain ⟨b3, o3, E3, F3, hok3⟩ := FSl.elt hok2_out hx
      refine rIxE E3 rfl rfl rfl ?_
      refine rLd (H.fat F3) 0 rfl rfl rfl ?_
      refine eqI64 (by omega) ?_
      refine Nxt.mk ((i + 1, x)) (mt_i rfl (by first | omega | (simp only; omega) | (simp; omega)) (mt_cons rfl (mt_nil))) ?_ ?_
      · refine ⟨?_, ?_⟩
        · assumption
        refine ⟨?_, ?_⟩
        · exact hA.step hx hol (FSl.all ht_out)
        exact H
      omega
    · have hK := hA.fin hge hi hol
      have hKu := hA.u
      refine cF (vLt_F (by omega)) ?_
      refine rLdA (H.at 0 rfl) 0 rfl rfl rfl ?_
      refine rAllocS H rfl ?_
      clear H
      intro p2 w3 H
      clear w_
      refine rStAS H 0 rfl rfl rfl (by simp only [List.all_cons, List.all_nil, FSl.one hok2_out, FSl.one hok2_inn, FSl.one hok1_body, FSl.one hok1_loc, FSl.one ht_out, FSl.one hf_body, FSl.one hf_loc, FSl.one hm_data, FSl.one hm_elems, FSl.one hm_exps, FSl.one hm_imps, FSl.one hm_globals, FSl.one hm_funcs, FSl.one hm_types]; rfl) ?_
      clear H
      intro w5 H
      clear w3
      refine rFieldAt rfl ?_
      refine rLd (H.at 1 rfl) 2 rfl rfl rfl ?_
      refine CallP.mk (Fc.imp (Go.Proofs.YtcpniokopahakaaDoor.Bin.copyFn H _ _ hm_funcs ?_) ?_)
      · omega
      clear H
      rintro v' w3 H
      refine rFieldAt rfl ?_
      refine rStS H 1 rfl rfl rfl (H.one 0 rfl) ?_
      clear H
      intro w6 H
      clear w3
      refine drawzS H [] [(0, .pure), (1, .held), (2, .pure), (3, .pure), (4, .held), (5, .pure), (6, .pure), (7, .pure), (8, .held), (9, .pure), (10, .forced), (11, .pure), (12, .pure), (13, .free)] mixed (by kernel_rfl) (by kernel_rfl) ?_
      clear H
      intro w3 H
      clear w6
      refine tk (fun wx HS => rFieldAt rfl ⟨rfl, rfl⟩) ?_
      refine tk (fun wx HS => rLd (HS.at 1 rfl) 2 rfl rfl rfl ⟨rfl, rfl⟩) ?_
      refine tk (fun wx HS => rFieldAt rfl ⟨rfl, rfl⟩) ?_
      refine tk (fun wx HS => rLd (HS.at 2 rfl) 2 rfl rfl rfl ⟨rfl, rfl⟩) ?_
      refine tk (fun wx HS => rIxE E1 rfl rfl rfl ⟨rfl, rfl⟩) ?_
      refine tk (fun wx HS => rFieldAt rfl ⟨rfl, rfl⟩) ?_
      refine tk (fun wx HS => rLd (HS.fat F1) 2 rfl rfl rfl ⟨rfl, rfl⟩) ?_
      refine CallP.mk (Fc.imp (Go.Proofs.YtcpniokopahakaaDoor.Valid.wrapped H _ _ hok1_body ?_ _ _ ?_ ?_) ?_)
      · omega
      · omega
      · assumption
      clear H
      rintro va' w6 H
      refine KeepP.mk (H.drop 0 (fun H => H)) ?_
      obtain ⟨b3, o3, E3⟩ := H.elt 1 rfl (n) (by omega)
      refine tk (fun wx HS => rIxE E3 rfl rfl rfl ⟨rfl, rfl⟩) ?_
      refine tk (fun wx HS => rFieldAt rfl ⟨rfl, rfl⟩) ?_
      refine rStE H 1 rfl E3 hf 2 ⟨f.ty, f.vl, f.loc, va', wrapV 2 kd f.body⟩ rfl (H.one 0 rfl) rfl rfl ?_
      clear H
      intro w7 H
      refine H.frz1 0 (okV (froz w)) rfl (wrapV_ok (by decide) hKu (FSl.all hf_body)) ?_
      intro g1 e1 hB
      clear H
      intro H
      replace hB := hB.okm (ok' := okV g1) fun _ _ h => h.ext e1
      refine H.frz1 0 (okFn g1) rfl (set_mem (x := ⟨f.ty, f.vl, f.loc, va', wrapV 2 kd f.body⟩) (fun y hy => (FSl.all hm_funcs y hy).ext e1) ⟨hf_ty, hf_loc.ext e1, hB⟩) ?_
      intro g2 e2 hF
      clear H
      intro H
      replace hF := hF.okm (ok' := okFn g2) fun _ _ h => h.ext e2
      have E := e1.trans e2
      have hn := wider_ok hm E (FSl.extN (ok := okSg) (fun _ _ _ h E => h.ext E) hm_types E) hF (hm_globals.ext E)
      have hT4 := u8_ext hT E
      have hs := wrap_sound hn q0 hf ht hK
      have cC := fun (w : World) (l : List As) (H : Sat _ w l) => Bin.check H hT4 _ hn
      have cM := fun (w : World) (l : List As) (H : Sat _ w l) => module_ H hT4 hn
      simp only [wider] at cC cM hs
      refine rLdA (H.at 0 rfl) 0 rfl rfl rfl ?_
      refine CallP.mk (Fc.imp (cC _ _ H) ?_)
      clear H
      rintro _ w8 ⟨⟨e3, ⟨rfl, h2⟩⟩, H⟩
      refine cI (fun c1 => ?_) (fun c1 => ?_)
      · replace c1 := vNe_t (c1)
        refine rLdA (H.at 0 rfl) 0 rfl rfl rfl ?_
        refine CallP.mk (Fc.imp (cM _ _ H) ?_)
        clear H
        rintro _ w9 ⟨e4, ⟨rfl, ⟨h3, H⟩⟩⟩
        refine Done.mk ?_
        refine ⟨?_, ?_⟩
        · exact vm1 (by assumption) (by assumption) (by assumption)
        exact E.fin H
      replace c1 := vNe_f (c1)
      refine rLdA (H.at 0 rfl) 0 rfl rfl rfl ?_
      refine CallP.mk (Fc.imp (cM _ _ H) ?_)
      clear H
      rintro _ w9 ⟨e4, ⟨rfl, ⟨h3, H⟩⟩⟩
      refine Done.mk ?_
      refine ⟨?_, ?_⟩
      · exact vm2 hs (by assumption) (by assumption) (by assumption)
      exact E.fin H
end Go.Proofs.YtcpniokopahakaaDoor.Valid
/- Modules as arguments. -/
set_option maxRecDepth 100000
set_option linter.unusedVariables false
set_option linter.unusedSimpArgs false
namespace Go.Proofs.YtcpniokopahakaaDoor.Bin
open Go Go.RowKit Go.Proofs.YtcpniokopahakaaDoor.Eng Go.Proofs.YtcpniokopahakaaDoor.Ins
def okHsg (H : Hv) (x : SigV) : Prop := SlR (RE enK U8) 1 H x.vi x.inn ∧ SlR (RE enK U8) 1 H x.vo x.out
def okHfn (H : Hv) (x : FunV) : Prop := I64 x.ty ∧ SlR (RE enK U8) 1 H x.vl x.loc ∧ SlR (fun H cs x => cs = enV x ∧ okH H x) 4 H x.vb x.body
def okHel (H : Hv) (x : ElV) : Prop := I64 x.pl ∧ SlR (RE enI okI) 1 H x.vf x.fs
structure okHmd (H : Hv) (m : ModV) : Prop where
  types : SlR (fun H cs x => cs = enSg x ∧ okHsg H x) 2 H m.vt m.types
  imps : SlR (RE enIm okIm) 2 H m.vm m.imps
  funcs : SlR (fun H cs x => cs = enFn x ∧ okHfn H x) 3 H m.vf m.funcs
  table : I64 m.table
  pages : I64 m.pages
  most : I64 m.most
  globals : SlR (RE enGl okGl) 3 H m.vg m.globals
  exps : SlR (RE enIm okIm) 2 H m.vx m.exps
  start : I64 m.start
  elems : SlR (fun H cs x => cs = enEl x ∧ okHel H x) 2 H m.ve m.elems
  data : SlR (RE enDt okDt) 2 H m.vd m.data
theorem okSg.of {g : Glob} {H : Hv} {x : SigV} (h : okHsg H x) (hh : Hle H (Gh g)) : okSg g x := ⟨h.1.mono (RE.mono' enK U8) hh, h.2.mono (RE.mono' enK U8) hh⟩
theorem okFn.of {g : Glob} {H : Hv} {x : FunV} (h : okHfn H x) (hh : Hle H (Gh g)) : okFn g x := ⟨h.1, h.2.1.mono (RE.mono' enK U8) hh, h.2.2.conv hh fun _ _ h => ⟨h.1, okV.of h.2 hh⟩⟩
theorem okEl.of {g : Glob} {H : Hv} {x : ElV} (h : okHel H x) (hh : Hle H (Gh g)) : okEl g x := ⟨h.1, h.2.mono (RE.mono' enI okI) hh⟩
theorem okMd.of {g : Glob} {H : Hv} {m : ModV} (h : okHmd H m) (hh : Hle H (Gh g)) : okMd g m :=
  ⟨h.types.conv hh fun _ _ h => ⟨h.1, okSg.of h.2 hh⟩, h.imps.mono (RE.mono' enIm okIm) hh, h.funcs.conv hh fun _ _ h => ⟨h.1, okFn.of h.2 hh⟩, h.table, h.pages, h.most, h.globals.mono (RE.mono' enGl okGl) hh, h.exps.mono (RE.mono' enIm okIm) hh, h.start, h.elems.conv hh fun _ _ h => ⟨h.1, okEl.of h.2 hh⟩, h.data.mono (RE.mono' enDt okDt) hh⟩
theorem fitsIm (cs : List Value) (h : fitsL [.str, .int .i64] cs) : ∃ x, cs = enIm x ∧ okIm x := by
  obtain ⟨_, _, rfl, ⟨a, rfl, ha⟩, _, _, rfl, ⟨b, rfl, hb⟩, rfl⟩ := h
  exact ⟨(a, b), rfl, ha, hb⟩
theorem fitsGl (cs : List Value) (h : fitsL [.int .u8, .bool, .int .i64] cs) : ∃ x, cs = enGl x ∧ okGl x := by
  obtain ⟨_, _, rfl, ⟨a, rfl, ha⟩, _, _, rfl, ⟨b, rfl⟩, _, _, rfl, ⟨c, rfl, hc⟩, rfl⟩ := h
  exact ⟨(a, b, c), rfl, ha, hc⟩
theorem fitsDt (cs : List Value) (h : fitsL [.int .i64, .str] cs) : ∃ x, cs = enDt x ∧ okDt x := by
  obtain ⟨_, _, rfl, ⟨a, rfl, ha⟩, _, _, rfl, ⟨b, rfl, hb⟩, rfl⟩ := h
  exact ⟨(a, b), rfl, ha, hb⟩
section
variable {H : Type} {enc : TypeId × Value → H} {w : World} {sp : Nat → Bool} {held : Bool}
theorem open_kinds : OpT enc Tryd.prog w sp held 52 (fun H cs xs => ∃ v, cs = [v] ∧ SlR (RE enK U8) 1 H v xs) (fun xs => (xs.map (fun x => cellsSz (enK x) + 1)).sum + 1 + 0 * xs.length) :=
  opSl 1 rfl (by decide) Tryd.underlying52 (opFlat 6 rfl fitsB1)
theorem open_ints : OpT enc Tryd.prog w sp held 73 (fun H cs xs => ∃ v, cs = [v] ∧ SlR (RE enI okI) 1 H v xs) (fun xs => (xs.map (fun x => cellsSz (enI x) + 1)).sum + 1 + 0 * xs.length) :=
  opSl 1 rfl (by decide) Tryd.underlying73 (opFlat 6 rfl fitsI1)
theorem open_sig : OpT enc Tryd.prog w sp held 59 (fun H cs x => cs = enSg x ∧ okHsg H x) (fun _ => 0) := by
  refine (open_structN 2 Tryd.underlying59 rfl (openFs_cons rfl open_kinds (openFs_cons rfl open_kinds openFs_nil))).map ?_
  rintro H cs ⟨a, b, _⟩ ⟨hl, ⟨v, h1, h1'⟩, ⟨u, h2, h2'⟩, _⟩
  refine ⟨⟨v, a, u, b⟩, ⟨?_, h1', h2'⟩, Nat.zero_le _⟩
  match cs, hl with
  | [c0, c1], _ =>
    have e1 : [c0] = [v] := h1
    have e2 : [c1] = [u] := h2
    simp only [List.cons.injEq, and_true] at e1 e2
    show _ = [_, _]
    rw [e1, e2]
theorem open_body : OpT enc Tryd.prog w sp held 42 (fun H cs xs => ∃ v, cs = [v] ∧ SlR (fun H cs x => cs = enV x ∧ okH H x) 4 H v xs) (fun xs => (xs.map (fun x => x.to.length)).sum + 1 + 0 * xs.length) :=
  opSl 4 rfl (by decide) Tryd.underlying42 open_ins
theorem open_fun : OpT enc Tryd.prog w sp held 54 (fun H cs x => cs = enFn x ∧ okHfn H x) (fun _ => 0) := by
  refine (open_structN 3 Tryd.underlying54 rfl (openFs_cons rfl (opFlat (en := enI) (ok := okI) 6 rfl fitsI1) (openFs_cons rfl open_kinds (openFs_cons rfl open_body openFs_nil)))).map ?_
  rintro H cs ⟨t, a, b, _⟩ ⟨hl, ⟨h0, h0'⟩, ⟨v, h1, h1'⟩, ⟨u, h2, h2'⟩, _⟩
  refine ⟨⟨t, v, a, u, b⟩, ⟨?_, h0', h1', h2'⟩, Nat.zero_le _⟩
  match cs, hl with
  | [c0, c1, c2], _ =>
    have e0 : [c0] = enI t := h0
    have e1 : [c1] = [v] := h1
    have e2 : [c2] = [u] := h2
    simp only [enI, List.cons.injEq, and_true] at e0 e1 e2
    show _ = [_, _, _]
    rw [e0, e1, e2]
theorem open_elem : OpT enc Tryd.prog w sp held 124 (fun H cs x => cs = enEl x ∧ okHel H x) (fun _ => 0) := by
  refine (open_structN 2 Tryd.underlying124 rfl (openFs_cons rfl (opFlat (en := enI) (ok := okI) 6 rfl fitsI1) (openFs_cons rfl open_ints openFs_nil))).map ?_
  rintro H cs ⟨t, a, _⟩ ⟨hl, ⟨h0, h0'⟩, ⟨v, h1, h1'⟩, _⟩
  refine ⟨⟨t, v, a⟩, ⟨?_, h0', h1'⟩, Nat.zero_le _⟩
  match cs, hl with
  | [c0, c1], _ =>
    have e0 : [c0] = enI t := h0
    have e1 : [c1] = [v] := h1
    simp only [enI, List.cons.injEq, and_true] at e0 e1
    show _ = [_, _]
    rw [e0, e1]
theorem open_mod : OpT enc Tryd.prog w sp held 38 (fun H cs m => cs = enMd m ∧ okHmd H m) (fun _ => 0) := by
  refine (open_structN 11 Tryd.underlying38 rfl (openFs_cons rfl (opSl 2 rfl (by decide) Tryd.underlying30 open_sig) (openFs_cons rfl (opSl 2 rfl (by decide) Tryd.underlying31 (opFlat (en := enIm) (ok := okIm) 6 rfl fitsIm)) (openFs_cons rfl (opSl 3 rfl (by decide) Tryd.underlying32 open_fun)
    (openFs_cons rfl (opFlat (en := enI) (ok := okI) 6 rfl fitsI1) (openFs_cons rfl (opFlat (en := enI) (ok := okI) 6 rfl fitsI1) (openFs_cons rfl (opFlat (en := enI) (ok := okI) 6 rfl fitsI1)
    (openFs_cons rfl (opSl 3 rfl (by decide) Tryd.underlying33 (opFlat (en := enGl) (ok := okGl) 6 rfl fitsGl)) (openFs_cons rfl (opSl 2 rfl (by decide) Tryd.underlying34 (opFlat (en := enIm) (ok := okIm) 6 rfl fitsIm)) (openFs_cons rfl (opFlat (en := enI) (ok := okI) 6 rfl fitsI1)
    (openFs_cons rfl (opSl 2 rfl (by decide) Tryd.underlying35 open_elem) (openFs_cons rfl (opSl 2 rfl (by decide) Tryd.underlying36 (opFlat (en := enDt) (ok := okDt) 6 rfl fitsDt)) openFs_nil)))))))))))).map ?_
  rintro H cs ⟨a0, a1, a2, a3, a4, a5, a6, a7, a8, a9, a10, _⟩ ⟨hl, ⟨v0, h0, k0⟩, ⟨v1, h1, k1⟩, ⟨v2, h2, k2⟩, ⟨h3, k3⟩, ⟨h4, k4⟩, ⟨h5, k5⟩, ⟨v6, h6, k6⟩, ⟨v7, h7, k7⟩, ⟨h8, k8⟩, ⟨v9, h9, k9⟩, ⟨v10, h10, k10⟩, _⟩
  refine ⟨⟨v0, a0, v1, a1, v2, a2, a3, a4, a5, v6, a6, v7, a7, a8, v9, a9, v10, a10⟩, ⟨?_, k0, k1, k2, k3, k4, k5, k6, k7, k8, k9, k10⟩, Nat.zero_le _⟩
  match cs, hl with
  | [c0, c1, c2, c3, c4, c5, c6, c7, c8, c9, c10], _ =>
    have e0 : [c0] = [v0] := h0
    have e1 : [c1] = [v1] := h1
    have e2 : [c2] = [v2] := h2
    have e3 : [c3] = enI a3 := h3
    have e4 : [c4] = enI a4 := h4
    have e5 : [c5] = enI a5 := h5
    have e6 : [c6] = [v6] := h6
    have e7 : [c7] = [v7] := h7
    have e8 : [c8] = enI a8 := h8
    have e9 : [c9] = [v9] := h9
    have e10 : [c10] = [v10] := h10
    simp only [enI, List.cons.injEq, and_true] at e0 e1 e2 e3 e4 e5 e6 e7 e8 e9 e10
    show _ = [_, _, _, _, _, _, _, _, _, _, _]
    rw [e0, e1, e2, e3, e4, e5, e6, e7, e8, e9, e10]
end
end Go.Proofs.YtcpniokopahakaaDoor.Bin
/- What the rows of a door seat share where the tables of unicode/utf8 are listed: what they give a walk, a start that meets them, and the form that asks for a bulk beside them. -/
set_option maxRecDepth 100000
namespace Go.Proofs.YtcpniokopahakaaDoor.Door
open Go Go.RowKit Go.Proofs.YtcpniokopahakaaDoor.Eng
noncomputable abbrev laid : List (String × DataW Unit) := [("unicode/utf8.acceptRanges", Rows.laid_unicode_utf8_acceptRanges), ("unicode/utf8.first", Rows.laid_unicode_utf8_first)]
theorem extra : U8Extra Tryd.prog Tryd.lays196_ren := ⟨by kernel_rfl, by kernel_rfl, by kernel_rfl, by kernel_rfl, by kernel_rfl, by kernel_rfl, by kernel_rfl⟩
theorem first_is : Rows.laid_unicode_utf8_first = Lib.firstData := by kernel_rfl
theorem accept_is : (Rows.laid_unicode_utf8_acceptRanges : DataW Unit) = Lib.acceptData := by kernel_rfl
theorem tabsAt {W : World} (h : laidMetH Tryd.prog laid W) : Lib.Utf8Tabs (Tryd.lays196_ren.g 3) (Tryd.lays196_ren.g 4) W := by
  rw [MakeChecks.laidMetH_plain _ _ _ (by kernel_rfl)] at h
  refine utf8Tabs_of_readsT (.of196 Tryd.lays196) extra (Lib.laidMet.reads h (.tail _ (.head _)) |> fun x => ?_) (Lib.laidMet.reads h (.head _) |> fun x => ?_)
  · rw [first_is] at x; exact x
  · rw [accept_is] at x; exact x
theorem cell_lt {w : World} {a : Addr} {v : Value} (h : w.cell? a = some v) : a.block < w.heap.size := by
  unfold World.cell? at h
  split at h
  · rename_i hh; exact (Array.getElem?_eq_some_iff.1 hh).1
  · cases h
theorem tabs {W : World} (h : laidMetH Tryd.prog laid W) : Leb.U8F (froz W) := by
  intro w l H
  have b := H.finish
  obtain ⟨t3, t4⟩ := tabsAt h
  refine ⟨fun c hc => ?_, fun i hi => ⟨?_, ?_⟩⟩
  · rw [b.cell (cell_lt (t3 c hc))]; exact t3 c hc
  · rw [b.cell (cell_lt (t4 i hi).1)]; exact (t4 i hi).1
  · rw [b.cell (cell_lt (t4 i hi).2)]; exact (t4 i hi).2
theorem met (os : Os) (args : Array Value) : laidMetH Tryd.prog laid ((World.laidAll Tryd.prog os laid).forCall (fun _ _ => 0) ⟨#[], args, []⟩).memory := by
  rw [MakeChecks.laidMetH_plain _ _ _ (by kernel_rfl)]; exact laidMet_laidAll _ (by kernel_rfl) (by kernel_rfl)
section
variable {H : Type} {enc : TypeId × Value → H}
theorem ret_cond_and {a : Assume} {C : Checked} {os : Os} {f : FuncId} {fn : Func} {s : OpenSpec} {k : (H : Type) → List (DataW H) → Bool} (hk : s.cond = some k) {F : Stop.Interp} {conds : List PathCond} {apart fresh handsOn again : Bool} {X : World → Array Value → Prop}
    (hX : ∀ (w w' : World) (args : Array Value), w.heap = w'.heap → X w args → X w' args)
    (own : ownKnob C.prog.godebug = none) (started : os.Started) (noInit : C.prog.inits.idxOf? f = none) (hfn : C.prog.funcs[f]? = some fn)
    (witness : ∃ (w : World) (tape : Tape) (i : Input), w.os = os ∧ (w.forCall tape i).Shaped C.prog ∧ i.vars = [] ∧ Input.okWide C.prog (w.forCall tape i) .any w.heap.size f i ∧
      ((s.pre enc C.prog fn conds apart (w.forCall tape i).memory i.args ∧ X (w.forCall tape i).memory i.args) ∧ sizedMet enc C.prog fn s apart (w.forCall tape i).memory i.args) ∧ a.holds C.prog (lone (Frame.enter C.prog f i.args .normal) [] (w.forCall tape i)))
    (contract : ∀ (W : World) (base : Nat) (args : Array Value) (ds gs : List (DataW H)) (before : List MemPlace),
      (∀ (j : Nat) t v, fn.params[j]? = some t → args[j]? = some v → Value.okWide C.prog W .any base t v) →
      DataW.Whole enc C.prog fn.params.toList s.vars apart W args.toList ds gs before →
      conds.all (PathCond.test C.prog ⟨fn.params.toList, ds, s.bare.plain.varTypes C.prog, gs⟩) = true → k H (ds ++ gs) = true → X W args → W.ShapedOpen C.prog →
      (DataW.weightsEach C.prog (fn.params.toList ++ s.bare.plain.varTypes C.prog) (ds ++ gs)).all (· ≤ reachBytes) = true →
      a.holds C.prog (lone (Frame.enter C.prog f args .normal) [] W) →
      Calls C.prog f args W fun e W' => ∃ v, e = .returned v ∧ (s.at F).post enc C.prog fn apart fresh handsOn again W args v W') :
    ReturnsInHanded a C os f .any (fun w args => (s.pre enc C.prog fn conds apart w args ∧ X w args) ∧ sizedMet enc C.prog fn s apart w args) ((s.at F).post enc C.prog fn apart fresh handsOn again) := by
  refine returnsInHanded_of_calls own started noInit witness ?_
  intro w tape i _ hsh _ hok hpre hholds
  obtain ⟨_, _, _, fn', hfn', _, _, _, _, hval⟩ := hok
  have e : fn' = fn := Option.some.inj (hfn'.symm.trans hfn)
  subst e
  obtain ⟨ds, gs, before, hw, hc, hkk⟩ := (OpenSpec.pre_some hk conds apart _ _).1 hpre.1.1
  have hw' := DataW.Whole.of_heap (w' := w.forCall tape i) (by rfl) hw
  refine (contract (w.forCall tape i) w.heap.size i.args ds gs before hval hw' hc hkk (hX _ _ _ (by rfl) hpre.1.2) hsh (hpre.2.weights hw) hholds).mono fun e W' ⟨v, he, hp⟩ => ?_
  subst he
  exact ChangeSpec.post_blind hp
theorem witness_cond {C : Checked} {os : Os} {f : FuncId} {fn : Func} {s : OpenSpec} {k : (H : Type) → List (DataW H) → Bool} (hk : s.cond = some k) {conds : List PathCond} {apart : Bool} {X : World → Array Value → Prop} (modest : Bool) (w0 : World) (args : Array Value) (fuel : Nat) (hos : w0.os = os)
    (hsh : (w0.forCall (fun _ _ => 0) ⟨#[], args, []⟩).Shaped C.prog)
    (hok : Input.okWideB C.prog (w0.forCall (fun _ _ => 0) ⟨#[], args, []⟩) f ⟨#[], args, []⟩ = true)
    {x : List (DataW H) × List (DataW H) × List MemPlace} (hx : DataW.whole enc C.prog (w0.forCall (fun _ _ => 0) ⟨#[], args, []⟩).memory fn.params.toList s.vars apart args.toList fuel = some x)
    (hconds : conds.all (PathCond.test C.prog ⟨fn.params.toList, x.1, s.bare.plain.varTypes C.prog, x.2.1⟩) = true) (hkk : k H (x.1 ++ x.2.1) = true)
    (hsz : s.bare.sizedB enc C.prog fn apart (w0.forCall (fun _ _ => 0) ⟨#[], args, []⟩).memory args fuel = true)
    (hX : X (w0.forCall (fun _ _ => 0) ⟨#[], args, []⟩).memory args) :
    ∃ (w : World) (tape : Tape) (i : Input), w.os = os ∧ (w.forCall tape i).Shaped C.prog ∧ i.vars = [] ∧ Input.okWide C.prog (w.forCall tape i) .any w.heap.size f i ∧
      ((s.pre enc C.prog fn conds apart (w.forCall tape i).memory i.args ∧ X (w.forCall tape i).memory i.args) ∧ sizedMet enc C.prog fn s apart (w.forCall tape i).memory i.args) ∧ ({ modest := modest } : Assume).holds C.prog (lone (Frame.enter C.prog f i.args .normal) [] (w.forCall tape i)) :=
  ⟨w0, fun _ _ => 0, ⟨#[], args, []⟩, hos, hsh, (Input.okWide_of_okWideB (base := 0) hok).1, (Input.okWide_of_okWideB hok).2,
    ⟨⟨(OpenSpec.pre_some hk conds apart _ _).2 ⟨x.1, x.2.1, x.2.2, DataW.Whole_of_whole hx, hconds, hkk⟩, hX⟩, sizedMet_of_sizedB hsz⟩, by
    simp only [Assume.holds]
    exact ⟨by simp, by simp, fun _ => Modest.zero, by simp, by simp⟩⟩
theorem ret_change_and {a : Assume} {C : Checked} {os : Os} {f : FuncId} {fn : Func} {s : ChangeSpec} {conds : List PathCond} {apart fresh handsOn again : Bool} {X : World → Array Value → Prop}
    (hX : ∀ (w w' : World) (args : Array Value), w.heap = w'.heap → X w args → X w' args)
    (own : ownKnob C.prog.godebug = none) (started : os.Started) (noInit : C.prog.inits.idxOf? f = none) (hfn : C.prog.funcs[f]? = some fn)
    (witness : ∃ (w : World) (tape : Tape) (i : Input), w.os = os ∧ (w.forCall tape i).Shaped C.prog ∧ i.vars = [] ∧ Input.okWide C.prog (w.forCall tape i) .any w.heap.size f i ∧
      ((s.pre enc C.prog fn conds apart (w.forCall tape i).memory i.args ∧ X (w.forCall tape i).memory i.args) ∧ sizedMet enc C.prog fn (OpenSpec.ofChange s) apart (w.forCall tape i).memory i.args) ∧ a.holds C.prog (lone (Frame.enter C.prog f i.args .normal) [] (w.forCall tape i)))
    (contract : ∀ (W : World) (base : Nat) (args : Array Value) (ds gs : List (DataW H)) (before : List MemPlace),
      (∀ (j : Nat) t v, fn.params[j]? = some t → args[j]? = some v → Value.okWide C.prog W .any base t v) →
      DataW.Whole enc C.prog fn.params.toList s.vars apart W args.toList ds gs before →
      conds.all (PathCond.test C.prog ⟨fn.params.toList, ds, s.plain.varTypes C.prog, gs⟩) = true →
      (DataW.weightsEach C.prog (fn.params.toList ++ s.plain.varTypes C.prog) (ds ++ gs)).all (· ≤ reachBytes) = true → X W args → W.ShapedOpen C.prog →
      a.holds C.prog (lone (Frame.enter C.prog f args .normal) [] W) →
      Calls C.prog f args W fun e W' => ∃ v, e = .returned v ∧ s.post enc C.prog fn apart fresh handsOn again W args v W') :
    ReturnsInHanded a C os f .any (fun w args => (s.pre enc C.prog fn conds apart w args ∧ X w args) ∧ sizedMet enc C.prog fn (OpenSpec.ofChange s) apart w args) (s.post enc C.prog fn apart fresh handsOn again) := by
  refine returnsInHanded_of_calls own started noInit witness ?_
  intro w tape i _ hsh _ hok hpre hholds
  obtain ⟨_, _, _, fn', hfn', _, _, _, _, hval⟩ := hok
  have e : fn' = fn := Option.some.inj (hfn'.symm.trans hfn)
  subst e
  obtain ⟨⟨⟨ds, gs, before, hw, hc⟩, hx⟩, hz⟩ := hpre
  have hw' := DataW.Whole.of_heap (w' := w.forCall tape i) (by rfl) hw
  refine (contract (w.forCall tape i) w.heap.size i.args ds gs before hval hw' hc (hz.weights hw) (hX _ _ _ (by rfl) hx) hsh hholds).mono fun e W' ⟨v, he, hp⟩ => ?_
  subst he
  exact ChangeSpec.post_blind hp
end
end Go.Proofs.YtcpniokopahakaaDoor.Door
