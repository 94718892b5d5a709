/- Texts of this claim, one behind the other. -/
import Derived.Test.YtbbdfhgcmkljeaaGreatDoorP4
import Derived.Test.YtbbdfhgcmkljeaaGreatDoorP3
import Derived.Test.YtbbdfhgcmkljeaaGreatDoorP5
import Derived.Test.YtbbdfhgcmkljeaaGreatDoorP2
import Derived.Test.YtbbdfhgcmkljeaaGreatDoorTie
import Derived.SevenTiedAt
import Derived.Lib.LaidU8T
import Derived.LaidMore
import Derived.Lay
import Derived.JoinedCond
import Derived.Stop.LaidErr
/- Modules as arguments. -/
set_option maxRecDepth 100000
set_option linter.unusedVariables false
set_option linter.unusedSimpArgs false
namespace Go.Proofs.YtbbdfhgcmkljeaaGreatDoor.Bin
open Go Go.RowKit Go.Proofs.YtbbdfhgcmkljeaaGreatDoor.Eng Go.Proofs.YtbbdfhgcmkljeaaGreatDoor.Ins
def okHsg (H : Hv) (x : SigV) : Prop := SlR (RE enK U8) 1 H x.vi x.inn ∧ SlR (RE enK U8) 1 H x.vo x.out
def okHfn (H : Hv) (x : FunV) : Prop := I64 x.ty ∧ SlR (RE enK U8) 1 H x.vl x.loc ∧ SlR (fun H cs x => cs = enV x ∧ okH H x) 4 H x.vb x.body
def okHel (H : Hv) (x : ElV) : Prop := I64 x.pl ∧ SlR (RE enI okI) 1 H x.vf x.fs
structure okHmd (H : Hv) (m : ModV) : Prop where
  types : SlR (fun H cs x => cs = enSg x ∧ okHsg H x) 2 H m.vt m.types
  imps : SlR (RE enIm okIm) 2 H m.vm m.imps
  funcs : SlR (fun H cs x => cs = enFn x ∧ okHfn H x) 3 H m.vf m.funcs
  table : I64 m.table
  pages : I64 m.pages
  most : I64 m.most
  globals : SlR (RE enGl okGl) 3 H m.vg m.globals
  exps : SlR (RE enIm okIm) 2 H m.vx m.exps
  start : I64 m.start
  elems : SlR (fun H cs x => cs = enEl x ∧ okHel H x) 2 H m.ve m.elems
  data : SlR (RE enDt okDt) 2 H m.vd m.data
theorem okSg.of {g : Glob} {H : Hv} {x : SigV} (h : okHsg H x) (hh : Hle H (Gh g)) : okSg g x := ⟨h.1.mono (RE.mono' enK U8) hh, h.2.mono (RE.mono' enK U8) hh⟩
theorem okFn.of {g : Glob} {H : Hv} {x : FunV} (h : okHfn H x) (hh : Hle H (Gh g)) : okFn g x := ⟨h.1, h.2.1.mono (RE.mono' enK U8) hh, h.2.2.conv hh fun _ _ h => ⟨h.1, okV.of h.2 hh⟩⟩
theorem okEl.of {g : Glob} {H : Hv} {x : ElV} (h : okHel H x) (hh : Hle H (Gh g)) : okEl g x := ⟨h.1, h.2.mono (RE.mono' enI okI) hh⟩
theorem okMd.of {g : Glob} {H : Hv} {m : ModV} (h : okHmd H m) (hh : Hle H (Gh g)) : okMd g m :=
  ⟨h.types.conv hh fun _ _ h => ⟨h.1, okSg.of h.2 hh⟩, h.imps.mono (RE.mono' enIm okIm) hh, h.funcs.conv hh fun _ _ h => ⟨h.1, okFn.of h.2 hh⟩, h.table, h.pages, h.most, h.globals.mono (RE.mono' enGl okGl) hh, h.exps.mono (RE.mono' enIm okIm) hh, h.start, h.elems.conv hh fun _ _ h => ⟨h.1, okEl.of h.2 hh⟩, h.data.mono (RE.mono' enDt okDt) hh⟩
theorem fitsIm (cs : List Value) (h : fitsL [.str, .int .i64] cs) : ∃ x, cs = enIm x ∧ okIm x := by
  obtain ⟨_, _, rfl, ⟨a, rfl, ha⟩, _, _, rfl, ⟨b, rfl, hb⟩, rfl⟩ := h
  exact ⟨(a, b), rfl, ha, hb⟩
theorem fitsGl (cs : List Value) (h : fitsL [.int .u8, .bool, .int .i64] cs) : ∃ x, cs = enGl x ∧ okGl x := by
  obtain ⟨_, _, rfl, ⟨a, rfl, ha⟩, _, _, rfl, ⟨b, rfl⟩, _, _, rfl, ⟨c, rfl, hc⟩, rfl⟩ := h
  exact ⟨(a, b, c), rfl, ha, hc⟩
theorem fitsDt (cs : List Value) (h : fitsL [.int .i64, .str] cs) : ∃ x, cs = enDt x ∧ okDt x := by
  obtain ⟨_, _, rfl, ⟨a, rfl, ha⟩, _, _, rfl, ⟨b, rfl, hb⟩, rfl⟩ := h
  exact ⟨(a, b), rfl, ha, hb⟩
section
variable {H : Type} {enc : TypeId × Value → H} {w : World} {sp : Nat → Bool} {held : Bool}
theorem open_kinds : OpT enc Tryz.prog w sp held 47 (fun H cs xs => ∃ v, cs = [v] ∧ SlR (RE enK U8) 1 H v xs) (fun xs => (xs.map (fun x => cellsSz (enK x) + 1)).sum + 1 + 0 * xs.length) :=
  opSl 1 rfl (by decide) Tryz.underlying47 (opFlat 6 rfl fitsB1)
theorem open_ints : OpT enc Tryz.prog w sp held 73 (fun H cs xs => ∃ v, cs = [v] ∧ SlR (RE enI okI) 1 H v xs) (fun xs => (xs.map (fun x => cellsSz (enI x) + 1)).sum + 1 + 0 * xs.length) :=
  opSl 1 rfl (by decide) Tryz.underlying73 (opFlat 6 rfl fitsI1)
theorem open_sig : OpT enc Tryz.prog w sp held 49 (fun H cs x => cs = enSg x ∧ okHsg H x) (fun _ => 0) := by
  refine (open_structN 2 Tryz.underlying49 rfl (openFs_cons rfl open_kinds (openFs_cons rfl open_kinds openFs_nil))).map ?_
  rintro H cs ⟨a, b, _⟩ ⟨hl, ⟨v, h1, h1'⟩, ⟨u, h2, h2'⟩, _⟩
  refine ⟨⟨v, a, u, b⟩, ⟨?_, h1', h2'⟩, Nat.zero_le _⟩
  match cs, hl with
  | [c0, c1], _ =>
    have e1 : [c0] = [v] := h1
    have e2 : [c1] = [u] := h2
    simp only [List.cons.injEq, and_true] at e1 e2
    show _ = [_, _]
    rw [e1, e2]
theorem open_body : OpT enc Tryz.prog w sp held 59 (fun H cs xs => ∃ v, cs = [v] ∧ SlR (fun H cs x => cs = enV x ∧ okH H x) 4 H v xs) (fun xs => (xs.map (fun x => x.to.length)).sum + 1 + 0 * xs.length) :=
  opSl 4 rfl (by decide) Tryz.underlying59 open_ins
theorem open_fun : OpT enc Tryz.prog w sp held 61 (fun H cs x => cs = enFn x ∧ okHfn H x) (fun _ => 0) := by
  refine (open_structN 3 Tryz.underlying61 rfl (openFs_cons rfl (opFlat (en := enI) (ok := okI) 6 rfl fitsI1) (openFs_cons rfl open_kinds (openFs_cons rfl open_body openFs_nil)))).map ?_
  rintro H cs ⟨t, a, b, _⟩ ⟨hl, ⟨h0, h0'⟩, ⟨v, h1, h1'⟩, ⟨u, h2, h2'⟩, _⟩
  refine ⟨⟨t, v, a, u, b⟩, ⟨?_, h0', h1', h2'⟩, Nat.zero_le _⟩
  match cs, hl with
  | [c0, c1, c2], _ =>
    have e0 : [c0] = enI t := h0
    have e1 : [c1] = [v] := h1
    have e2 : [c2] = [u] := h2
    simp only [enI, List.cons.injEq, and_true] at e0 e1 e2
    show _ = [_, _, _]
    rw [e0, e1, e2]
theorem open_elem : OpT enc Tryz.prog w sp held 75 (fun H cs x => cs = enEl x ∧ okHel H x) (fun _ => 0) := by
  refine (open_structN 2 Tryz.underlying75 rfl (openFs_cons rfl (opFlat (en := enI) (ok := okI) 6 rfl fitsI1) (openFs_cons rfl open_ints openFs_nil))).map ?_
  rintro H cs ⟨t, a, _⟩ ⟨hl, ⟨h0, h0'⟩, ⟨v, h1, h1'⟩, _⟩
  refine ⟨⟨t, v, a⟩, ⟨?_, h0', h1'⟩, Nat.zero_le _⟩
  match cs, hl with
  | [c0, c1], _ =>
    have e0 : [c0] = enI t := h0
    have e1 : [c1] = [v] := h1
    simp only [enI, List.cons.injEq, and_true] at e0 e1
    show _ = [_, _]
    rw [e0, e1]
theorem open_mod : OpT enc Tryz.prog w sp held 30 (fun H cs m => cs = enMd m ∧ okHmd H m) (fun _ => 0) := by
  refine (open_structN 11 Tryz.underlying30 rfl (openFs_cons rfl (opSl 2 rfl (by decide) Tryz.underlying22 open_sig) (openFs_cons rfl (opSl 2 rfl (by decide) Tryz.underlying23 (opFlat (en := enIm) (ok := okIm) 6 rfl fitsIm)) (openFs_cons rfl (opSl 3 rfl (by decide) Tryz.underlying24 open_fun)
    (openFs_cons rfl (opFlat (en := enI) (ok := okI) 6 rfl fitsI1) (openFs_cons rfl (opFlat (en := enI) (ok := okI) 6 rfl fitsI1) (openFs_cons rfl (opFlat (en := enI) (ok := okI) 6 rfl fitsI1)
    (openFs_cons rfl (opSl 3 rfl (by decide) Tryz.underlying25 (opFlat (en := enGl) (ok := okGl) 6 rfl fitsGl)) (openFs_cons rfl (opSl 2 rfl (by decide) Tryz.underlying26 (opFlat (en := enIm) (ok := okIm) 6 rfl fitsIm)) (openFs_cons rfl (opFlat (en := enI) (ok := okI) 6 rfl fitsI1)
    (openFs_cons rfl (opSl 2 rfl (by decide) Tryz.underlying27 open_elem) (openFs_cons rfl (opSl 2 rfl (by decide) Tryz.underlying28 (opFlat (en := enDt) (ok := okDt) 6 rfl fitsDt)) openFs_nil)))))))))))).map ?_
  rintro H cs ⟨a0, a1, a2, a3, a4, a5, a6, a7, a8, a9, a10, _⟩ ⟨hl, ⟨v0, h0, k0⟩, ⟨v1, h1, k1⟩, ⟨v2, h2, k2⟩, ⟨h3, k3⟩, ⟨h4, k4⟩, ⟨h5, k5⟩, ⟨v6, h6, k6⟩, ⟨v7, h7, k7⟩, ⟨h8, k8⟩, ⟨v9, h9, k9⟩, ⟨v10, h10, k10⟩, _⟩
  refine ⟨⟨v0, a0, v1, a1, v2, a2, a3, a4, a5, v6, a6, v7, a7, a8, v9, a9, v10, a10⟩, ⟨?_, k0, k1, k2, k3, k4, k5, k6, k7, k8, k9, k10⟩, Nat.zero_le _⟩
  match cs, hl with
  | [c0, c1, c2, c3, c4, c5, c6, c7, c8, c9, c10], _ =>
    have e0 : [c0] = [v0] := h0
    have e1 : [c1] = [v1] := h1
    have e2 : [c2] = [v2] := h2
    have e3 : [c3] = enI a3 := h3
    have e4 : [c4] = enI a4 := h4
    have e5 : [c5] = enI a5 := h5
    have e6 : [c6] = [v6] := h6
    have e7 : [c7] = [v7] := h7
    have e8 : [c8] = enI a8 := h8
    have e9 : [c9] = [v9] := h9
    have e10 : [c10] = [v10] := h10
    simp only [enI, List.cons.injEq, and_true] at e0 e1 e2 e3 e4 e5 e6 e7 e8 e9 e10
    show _ = [_, _, _, _, _, _, _, _, _, _, _]
    rw [e0, e1, e2, e3, e4, e5, e6, e7, e8, e9, e10]
end
end Go.Proofs.YtbbdfhgcmkljeaaGreatDoor.Bin
/- Package bin: Read. -/
set_option maxRecDepth 100000
set_option maxHeartbeats 4000000
set_option linter.unusedVariables false
set_option linter.unusedSimpArgs false
namespace Go.Proofs.YtbbdfhgcmkljeaaGreatDoor.Brd
open Go Go.Proofs.YtbbdfhgcmkljeaaGreatDoor.Eng Go.RowKit
open Ins Nest Leb Txt
open Bin (SigV FunV ElV ModV ModD okMd okSg okIm okFn okGl okEl okDt enSg enIm enFn enGl enEl enDt enMd headT)
section
variable {g : Glob} {w : World} {l : List As}
/-- What holds where a panic comes to Read. -/
def pqR (s : List UInt8) (g : Glob) (l : List As) (p2 p3 : Nat) (c : List PanicEntry) (w' : World) : Prop := ∃ (e : Int) (g' : Glob), e ≠ 0 ∧ c = wrong e ∧ rdM s = (m0, e) ∧ Ext g g' ∧ Sat g' w' (Pm p2 :: Pt p3 [.int .i64 0] 31 :: l)
theorem Rn.hd {γ : Type} {pq : List PanicEntry → World → Prop} {W : γ × RS} {F : Unit → Rdr γ} {T s : List UInt8} {i k : Nat} {b : UInt8} (h : Rn pq g l W (bindR (headR (T.drop i)) F) s k) (hb : T[i]? = some b) : Rn pq g l W (bindR (fixedR b.toNat 4) fun _ => bindR (headR (T.drop (i + 1))) F) s k := by
  obtain ⟨hi, e⟩ := List.getElem?_eq_some_iff.1 hb
  rw [List.drop_eq_getElem_cons hi, e] at h
  exact h
theorem Rn.hdE {γ : Type} {pq : List PanicEntry → World → Prop} {W : γ × RS} {F : Unit → Rdr γ} {T s : List UInt8} {i k : Nat} (h : Rn pq g l W (bindR (headR (T.drop i)) F) s k) (hi : T.length ≤ i) : Rn pq g l W (F ()) s k := by
  rw [List.drop_eq_nil_of_le hi] at h
  exact h
theorem Rn.sec {γ : Type} {pq : List PanicEntry → World → Prop} {W : γ × RS} {F : ModD × Nat → Rdr γ} {s : List UInt8} {k f c : Nat} {last : Int} {m : ModD} (h : Rn pq g l W (bindR (secsR f last m c) F) s k) (hf : 1 ≤ f) (hk : k < s.length) : Rn pq g l W (bindR octetR fun id => bindR (throwR (id < 1 ∨ 11 < id) 6) fun _ => bindR (throwR (id ≤ last) 4) fun _ => bindR (pieceR (secR id m)) fun q => bindR (secsR (f - 1) id q.1 (c + q.2)) F) s k := by
  obtain ⟨q, rfl⟩ : ∃ q, f = q + 1 := ⟨f - 1, by omega⟩
  refine ⟨?_, h.q⟩
  have e : secsR (q + 1) last m c s ⟨k, 0⟩ = (bindR octetR fun id => bindR (throwR (id < 1 ∨ 11 < id) 6) fun _ => bindR (throwR (id ≤ last) 4) fun _ => bindR (pieceR (secR id m)) fun y => secsR q id y.1 (c + y.2)) s ⟨k, 0⟩ := by
    rw [secsR]
    simp only
    rw [if_neg (by simp; omega)]
  rw [h.e]
  show F (secsR (q + 1) last m c s ⟨k, 0⟩).1 s (secsR (q + 1) last m c s ⟨k, 0⟩).2 = _
  rw [e]
  rfl
theorem Rn.secE {γ : Type} {pq : List PanicEntry → World → Prop} {W : γ × RS} {F : ModD × Nat → Rdr γ} {s : List UInt8} {k f c : Nat} {last : Int} {m : ModD} (h : Rn pq g l W (bindR (secsR f last m c) F) s k) (hk : s.length ≤ k) : Rn pq g l W (F (m, c)) s k := by
  refine h.snd ?_
  cases f with
  | zero => rfl
  | succ f => rw [secsR]; simp only; rw [if_pos (.inr hk)]
theorem gt_agree {D : List Nat} {ρ ρ' : List Value} {i : Nat} {v : Value} (h : agree D ρ ρ') (hi : i ∉ D) (hv : ρ[i]? = some v) : gt ρ' i = v := by
  have e := h.2 i hi
  rw [hv] at e
  rw [gt_eq]
  simp [Array.getD_eq_getD_getElem?, e]
theorem okMd_0 (g : Glob) : okMd g ⟨.slice none 0 0, [], .slice none 0 0, [], .slice none 0 0, [], 0, 0, 0, .slice none 0 0, [], .slice none 0 0, [], 0, .slice none 0 0, [], .slice none 0 0, []⟩ :=
  ⟨FSl.nil0 _ _ _ _, FSl.nil0 _ _ _ _, FSl.nil0 _ _ _ _, ⟨by decide, by decide⟩, ⟨by decide, by decide⟩, ⟨by decide, by decide⟩, FSl.nil0 _ _ _ _, FSl.nil0 _ _ _ _, ⟨by decide, by decide⟩, FSl.nil0 _ _ _ _, FSl.nil0 _ _ _ _⟩
def z0 : ModV := ⟨.slice none 0 0, [], .slice none 0 0, [], .slice none 0 0, [], 0, 0, 0, .slice none 0 0, [], .slice none 0 0, [], 0, .slice none 0 0, [], .slice none 0 0, []⟩
theorem okE_0 (g : Glob) : okE g z0 0 where
  types := nofun
  imps := nofun
  funcs := nofun
  globals := nofun
  exps := nofun
  elems := nofun
  data := nofun
  table := ⟨by decide, by decide⟩
  pages := ⟨by decide, by decide⟩
  most := ⟨by decide, by decide⟩
  start := ⟨by decide, by decide⟩
  lt := Nat.zero_le _
  li := Nat.zero_le _
  lf := Nat.zero_le _
  lg := Nat.zero_le _
  lx := Nat.zero_le _
  le := Nat.zero_le _
  ld := Nat.zero_le _
theorem sec_c {i : Int} (h1 : 1 ≤ i) (h2 : i ≤ 11) {m m' : ModD} {s : List UInt8} {c k k' : Nat} (hk : k ≤ s.length) (h : secR i m s ⟨k, 0⟩ = ((m', c), ⟨k', 0⟩)) : c ≤ 16 := by
  have hz : ∀ (hh : (secR i m s ⟨k, 0⟩).1.2 = 0), c ≤ 16 := fun hh => by rw [h] at hh; simp only at hh; omega
  obtain rfl | rfl | rfl | rfl | rfl | rfl | rfl | rfl | rfl | rfl | rfl : i = 1 ∨ i = 2 ∨ i = 3 ∨ i = 4 ∨ i = 5 ∨ i = 6 ∨ i = 7 ∨ i = 8 ∨ i = 9 ∨ i = 10 ∨ i = 11 := by omega
  · exact hz rfl
  · exact hz rfl
  · exact hz rfl
  · exact hz rfl
  · exact hz rfl
  · exact hz rfl
  · exact hz rfl
  · exact hz rfl
  · exact hz rfl
  · have G := Gt.list 16 Strict.code (f := fun x => Bin.codeT ⟨0, x.1, x.2⟩) Gt.code s k hk
    rw [sec10] at h
    have e1 : (listR 16 codeR s ⟨k, 0⟩).2 = ⟨k', 0⟩ := congrArg Prod.snd h
    have e2 : (listR 16 codeR s ⟨k, 0⟩).1.length = c := congrArg (fun x => x.1.2) h
    obtain ⟨_, n, _, h3, _⟩ := G (by rw [e1])
    omega
  · exact hz rfl
theorem fn_ne {m : ModV} {c : Nat} (h : vNe (c : Int) (m.funcs.length : Int) = true) : c ≠ m.d.funcs.length := by
  have h1 := vNe_t h
  have e : m.d.funcs.length = m.funcs.length := List.length_map ..
  omega
theorem fn_eq {m : ModV} {c : Nat} (h : vNe (c : Int) (m.funcs.length : Int) = false) : ¬ c ≠ m.d.funcs.length := by
  have h1 := vNe_f h
  have e : m.d.funcs.length = m.funcs.length := List.length_map ..
  omega
theorem read_ (H : Sat g w l) (hT : U8F g) (s : List UInt8) (hs : s.length ≤ 9223372036854775807) : Fc Tryz.prog 8 #[.string (bs s)] w (fun v w' => ∃ (g' : Glob) (m : ModV) (e : Int), v = .tuple #[.agg #[m.vt, m.vm, m.vf, .int .i64 m.table, .int .i64 m.pages, .int .i64 m.most, m.vg, m.vx, .int .i64 m.start, m.ve, m.vd], .int .i64 e] ∧ rdM s = (m.d, e) ∧ Ext g g' ∧ okMd g' m ∧ Sat g' w' l) := by
  refine Fc.ofR Tryz.func8 rfl (by kernel_rfl) ?_
  by_cases hl : 4096 < s.length
  · refine rAllocS H rfl ?_
    clear H
    intro p1 w1 H
    refine rAllocS H rfl ?_
    clear H
    intro p2 w2 H
    clear w1
    refine rLenStr rfl ?_
    refine cT (vLt_T (by omega)) ?_
    refine rLdA (H.at 1 rfl) 0 rfl rfl rfl ?_
    refine rStAS H 1 rfl rfl rfl rfl ?_
    clear H
    intro w1 H
    clear w2
    refine rStS H 0 rfl rfl rfl rfl ?_
    clear H
    intro w2 H
    clear w1
    refine rdAN (H.at 1 rfl) 0 rfl rfl rfl ?_
    refine rdN (H.at 0 rfl) 0 rfl rfl rfl ?_
    exact Done.mk ⟨g, ⟨.slice none 0 0, [], .slice none 0 0, [], .slice none 0 0, [], 0, 0, 0, .slice none 0 0, [], .slice none 0 0, [], 0, .slice none 0 0, [], .slice none 0 0, []⟩, 2, rfl, by unfold rdM; rw [if_pos hl]; rfl, Ext.refl g, okMd_0 g, H.tl.tl⟩
  refine rAllocS H rfl ?_
  clear H
  intro p1 w1 H
  refine rAllocS H rfl ?_
  clear H
  intro p2 w2 H
  clear w1
  refine rLenStr rfl ?_
  refine cF (vLt_F (by omega)) ?_
  refine SwP.mk (pqR s g l p1 p2) ?_ ?_
  rotate_left
  · rintro c ρ' w' ha ⟨e, g', he, rfl, hrd, E, H⟩
    have h2 : gt ρ' 2 = .pointer (some ⟨p1, 0, none⟩) := gt_agree ha (by decide) rfl
    have h3 : gt ρ' 3 = .pointer (some ⟨p2, 0, none⟩) := gt_agree ha (by decide) rfl
    refine LvP.mk ((catch_ H).imp ?_)
    clear H
    intro w3 H
    show resK _ ρ' w3 [.cell 2 30, .cell 3 31] _
    simp only [resK_cell, gtK_eq, h2, h3]
    refine rdAN (H.at 0 rfl) 0 rfl rfl rfl ?_
    refine rdN (H.at 1 rfl) 0 rfl rfl rfl ?_
    exact Done.mk ⟨g', ⟨.slice none 0 0, [], .slice none 0 0, [], .slice none 0 0, [], 0, 0, 0, .slice none 0 0, [], .slice none 0 0, [], 0, .slice none 0 0, [], .slice none 0 0, []⟩, e, rfl, hrd, E, okMd_0 g', H.tl.tl⟩
  have hq0 : Rq (pqR s g l p1 p2) g (Pm p1 :: Pt p2 [.int .i64 0] 31 :: l) readR s 0 := fun hb => fun g' w' E H => ⟨_, g', hb, rfl, by unfold rdM; rw [if_neg hl, if_neg hb], E, H⟩
  have hR := Rn.start hq0
  have hs4 : s.length ≤ 4096 := by omega
  replace H := H.sl0 (en := enDt) (s := 2) 80 (fun _ => rfl)
  replace H := H.sl0 (en := enEl) (s := 2) 75 (fun _ => rfl)
  replace H := H.sl0 (en := enIm) (s := 2) 70 (fun _ => rfl)
  replace H := H.sl0 (en := enGl) (s := 3) 66 (fun _ => rfl)
  replace H := H.sl0 (en := enFn) (s := 3) 61 (fun _ => rfl)
  replace H := H.sl0 (en := enIm) (s := 2) 54 (fun _ => rfl)
  replace H := H.sl0 (en := enSg) (s := 2) 49 (fun _ => rfl)
  have h8 : headT.length = 8 := rfl
  refine rBuild rfl rfl rfl ?_
  refine rBoxS H ?_
  clear H
  intro p3 w1 H
  clear w2
  refine rBuildSliceS H rfl rfl rfl rfl ?_
  clear H
  intro p4 w2 H
  clear w1
  refine rConvLit H 0 rfl headT rfl rfl rfl rfl ?_
  clear H
  intro w9 H
  refine rLenSl rfl ?_
  refine LoopP.rule (α := Nat × Nat) (0, 0) (fun x_ => [(22, .int .i64 x_.1)]) (fun x_ w_ => (x_.1 ≤ 8) ∧ (x_.2 ≤ s.length) ∧ (Rn (pqR s g l p1 p2) g (Pm p1 :: Pt p2 [.int .i64 0] 31 :: l) (readR s ⟨0, 0⟩) (bindR (headR (headT.drop x_.1)) fun _ => bindR (secsR 12 0 m0 0) fun q => bindR (throwR (q.2 ≠ q.1.funcs.length) 4) fun _ => retR q.1) s x_.2) ∧ Sat g w_ ((Sb 5 (.slice (some ⟨p4, 0, none⟩) 8 8) headT :: Pt p3 (rC s x_.2) 108 :: Pt p1 [.slice none 0 0, .slice none 0 0, .slice none 0 0, .int .i64 0, .int .i64 0, .int .i64 0, .slice none 0 0, .slice none 0 0, .int .i64 0, .slice none 0 0, .slice none 0 0] 30 :: Sl 49 2 enSg (.slice none 0 0) [] :: Sl 54 2 enIm (.slice none 0 0) [] :: Sl 61 3 enFn (.slice none 0 0) [] :: Sl 66 3 enGl (.slice none 0 0) [] :: Sl 70 2 enIm (.slice none 0 0) [] :: Sl 75 2 enEl (.slice none 0 0) [] :: Sl 80 2 enDt (.slice none 0 0) [] :: Pt p2 [.int .i64 0] 31 :: l))) (fun x_ => 8 - x_.1) ?_ ?_ ?_
  · repeat first | exact mt_nil | refine mt_cons rfl ?_ | refine mt_i rfl (by first | omega | (simp only; omega) | (simp; omega) | (simp; done)) ?_
  · try simp only
    refine ⟨?_, ?_⟩
    · omega
    refine ⟨?_, ?_⟩
    · omega
    refine ⟨?_, ?_⟩
    · exact hR
    refine H.fronts [9, 9, 9, 9, 9, 9, 9, 9, 10, 10, 10] ?_
    clear H
    intro H
    exact H
  clear H
  rintro ⟨i, kk⟩ f_ w_ ⟨hi, hkk, hR, H⟩
  try simp only at hi hkk hR H ⊢
  rcases Nat.lt_or_ge i 8 with hlt | hge
  · obtain ⟨b, hb⟩ : ∃ b, headT[i]? = some b := ⟨_, List.getElem?_eq_getElem (show i < headT.length from hlt)⟩
    have hX := hR.hd hb
    refine cT (vLt_T (by omega)) ?_
    refine bk ?_
    obtain ⟨b1, o1, E1⟩ := H.eltb 0 rfl ((i)) (by omega)
    refine rIxE E1 rfl rfl rfl ?_
    have hb1 := byteLt hb
    refine rLd (H.elb 0 rfl E1 hb) 0 rfl rfl rfl ?_
    refine H.fronts [1] ?_
    clear H
    intro H
    refine CallP.mk (Fc.imp (Go.Proofs.YtbbdfhgcmkljeaaGreatDoor.Brd.fixed H ?_ ?_ _ _ ?_ ?_) ?_)
    · assumption
    · assumption
    · omega
    · exact hX.fst
    clear H
    rintro v' w1 ⟨k'1, ⟨h1, ⟨h2, H⟩⟩⟩
    refine eqI64 (by omega) ?_
    refine Nxt.mk ((i + 1, k'1)) (mt_i rfl (by first | omega | (simp only; omega) | (simp; omega)) (mt_nil)) ?_ ?_
    · refine ⟨?_, ?_⟩
      · assumption
      refine ⟨?_, ?_⟩
      · assumption
      refine ⟨?_, ?_⟩
      · exact hX.snd (by assumption)
      refine H.fronts [10, 10, 10, 10, 10, 10, 10, 10, 10, 9, 10] ?_
      clear H
      intro H
      exact H
    omega
  replace hR := hR.hdE (show headT.length ≤ i from hge)
  refine cF (vLt_F (by omega)) ?_
  refine LoopP.rule (α := Glob × Int × Nat × ModV × Nat) (g, 0, kk, z0, 0) (fun x_ => [(7, .int .i64 x_.2.2.2.2), (8, .int .u8 x_.2.1)]) (fun x_ w_ => (Ext g x_.1) ∧ (0 ≤ x_.2.1) ∧ (x_.2.1 ≤ 11) ∧ (x_.2.2.1 ≤ s.length) ∧ (okE x_.1 x_.2.2.2.1 (16 * x_.2.1.toNat)) ∧ (x_.2.2.2.2 ≤ 16 * x_.2.1.toNat) ∧ (∃ f : Nat, (12 : Int) ≤ f + x_.2.1 ∧ Rn (pqR s g l p1 p2) x_.1 (Pm p1 :: Pt p2 [.int .i64 0] 31 :: l) (readR s ⟨0, 0⟩) (bindR (secsR f x_.2.1 x_.2.2.2.1.d x_.2.2.2.2) fun q => bindR (throwR (q.2 ≠ q.1.funcs.length) 4) fun _ => retR q.1) s x_.2.2.1) ∧ Sat x_.1 w_ ((Pt p3 (rC s x_.2.2.1) 108 :: Pt p1 [x_.2.2.2.1.vt, x_.2.2.2.1.vm, x_.2.2.2.1.vf, .int .i64 x_.2.2.2.1.table, .int .i64 x_.2.2.2.1.pages, .int .i64 x_.2.2.2.1.most, x_.2.2.2.1.vg, x_.2.2.2.1.vx, .int .i64 x_.2.2.2.1.start, x_.2.2.2.1.ve, x_.2.2.2.1.vd] 30 :: Sl 49 2 enSg x_.2.2.2.1.vt x_.2.2.2.1.types :: Sl 54 2 enIm x_.2.2.2.1.vm x_.2.2.2.1.imps :: Sl 61 3 enFn x_.2.2.2.1.vf x_.2.2.2.1.funcs :: Sl 66 3 enGl x_.2.2.2.1.vg x_.2.2.2.1.globals :: Sl 70 2 enIm x_.2.2.2.1.vx x_.2.2.2.1.exps :: Sl 75 2 enEl x_.2.2.2.1.ve x_.2.2.2.1.elems :: Sl 80 2 enDt x_.2.2.2.1.vd x_.2.2.2.1.data :: Sb 5 (.slice (some ⟨p4, 0, none⟩) 8 8) headT :: Pt p2 [.int .i64 0] 31 :: l))) (fun x_ => (11 - x_.2.1).toNat) ?_ ?_ ?_
  · repeat first | exact mt_nil | refine mt_cons rfl ?_ | refine mt_i rfl (by first | omega | (simp only; omega) | (simp; omega) | (simp; done)) ?_
  · try simp only
    refine ⟨?_, ?_⟩
    · exact Ext.refl _
    refine ⟨?_, ?_⟩
    · omega
    refine ⟨?_, ?_⟩
    · omega
    refine ⟨?_, ?_⟩
    · assumption
    refine ⟨?_, ?_⟩
    · exact okE_0 g
    refine ⟨?_, ?_⟩
    · omega
    refine ⟨?_, ?_⟩
    · exact ⟨12, by decide, hR⟩
    refine H.fronts [10, 1, 10, 10, 10, 10, 10, 10, 10, 10, 10] ?_
    clear H
    intro H
    exact H
  clear H
  rintro ⟨gg, la, k3, m, c⟩ f_ w_ ⟨hE, hl0, hl1, hk3, hm, hc, hC, H⟩
  try simp only at hE hl0 hl1 hk3 hm hc hC H ⊢
  obtain ⟨f, hf, hR⟩ := hC
  rcases Nat.lt_or_ge k3 s.length with hlt | hge
  · have hX := hR.sec (by omega) hlt
    have E99 := Ext.refl gg
    refine rFieldAt rfl ?_
    refine rLd (H.at 0 rfl) 1 rfl rfl rfl ?_
    refine rLenStr rfl ?_
    refine cT (vLt_T (by omega)) ?_
    refine bk ?_
    refine CallP.mk (Fc.imp (Go.Proofs.YtbbdfhgcmkljeaaGreatDoor.Brd.octet H ?_ ?_ ?_) ?_)
    · assumption
    · assumption
    · exact hX.fst
    clear H
    rintro _ w1 ⟨c1, ⟨k'1, ⟨rfl, ⟨h1, ⟨h2, H⟩⟩⟩⟩⟩
    replace hX := hX.snd (by assumption)
    refine br (fun c2 => ?_) (fun c2 => ?_)
    · replace c2 := vLt_t (c2)
      refine CallP.mk (Fc.imp (Go.Proofs.YtbbdfhgcmkljeaaGreatDoor.Brd.throw H _ _ ?_) ?_)
      · exact fun _ => hX.thr (by decide) (.inl (by omega))
      clear H
      rintro v' w3 ⟨h3, H⟩
      first | exact absurd ‹true = false› (by decide) | replace hX := hX.nxt (by first | (have := vLt_f (by assumption); omega) | (have := vLe_f (by assumption); omega))
    replace c2 := vLt_f (c2)
    refine CallP.mk (Fc.imp (Go.Proofs.YtbbdfhgcmkljeaaGreatDoor.Brd.throw H _ _ ?_) ?_)
    · exact fun h => hX.thr (by decide) (.inr (vLt_t h))
    clear H
    rintro v' w3 ⟨h3, H⟩
    first | exact absurd ‹true = false› (by decide) | replace hX := hX.nxt (by first | (have := vLt_f (by assumption); omega) | (have := vLe_f (by assumption); omega))
    refine CallP.mk (Fc.imp (Go.Proofs.YtbbdfhgcmkljeaaGreatDoor.Brd.throw H _ _ ?_) ?_)
    · exact fun h => hX.thr (by decide) (vLe_t h)
    clear H
    rintro va' w4 ⟨h4, H⟩
    first | exact absurd ‹true = false› (by decide) | replace hX := hX.nxt (by first | (have := vLt_f (by assumption); omega) | (have := vLe_f (by assumption); omega))
    refine CallP.mk (Fc.imp (Go.Proofs.YtbbdfhgcmkljeaaGreatDoor.Brd.piece H ?_ ?_ ?_ ?_) ?_)
    · assumption
    · assumption
    · exact hX.pieceN
    · exact fun n k' h1 h2 => hX.pieceS n k' h1 h2
    clear H
    rintro _ w5 ⟨q1, ⟨n1, ⟨k'2, ⟨rfl, ⟨h5, ⟨h6, H⟩⟩⟩⟩⟩⟩
    obtain ⟨t, ht⟩ : ∃ t, t = List.take n1 (List.drop k'2 s) := ⟨_, rfl⟩
    have he : plainR s ⟨k'1, 0⟩ = ((n1 : Int), ⟨k'2, 0⟩) := by assumption
    have hn1 : k'2 + n1 ≤ s.length := by assumption
    have htl : t.length = n1 := by rw [ht, List.length_take, List.length_drop]; omega
    have hi1 : 1 ≤ (c1.toNat : Int) := by omega
    have hi2 : (c1.toNat : Int) ≤ 11 := by have := vLt_f ‹vLt 11 _ = false›; omega
    have hi3 : la < (c1.toNat : Int) := by have := vLe_f ‹vLe _ _ = false›; omega
    have hI : Rq (pqR s g l p1 p2) gg (Pm p1 :: Pt p3 (rC s (k'2 + n1)) 108 :: Sb 5 (.slice (some ⟨p4, 0, none⟩) 8 8) headT :: Pt p2 [.int .i64 0] 31 :: l) (secR (c1.toNat : Int) m.d) t 0 := by rw [ht]; exact hX.pieceI he hn1
    have hTg : U8F gg := fun w l H => hT w l (H.forget hE)
    rw [← ht] at H
    have hsec : ∀ (w8 : World), Sat gg w8 (Pt q1 (rC t 0) 108 :: Pt p1 [m.vt, m.vm, m.vf, .int .i64 m.table, .int .i64 m.pages, .int .i64 m.most, m.vg, m.vx, .int .i64 m.start, m.ve, m.vd] 30 :: Sl 49 2 enSg m.vt m.types :: Sl 54 2 enIm m.vm m.imps :: Sl 61 3 enFn m.vf m.funcs :: Sl 66 3 enGl m.vg m.globals :: Sl 70 2 enIm m.vx m.exps :: Sl 75 2 enEl m.ve m.elems :: Sl 80 2 enDt m.vd m.data :: Pt p3 (rC s (k'2 + n1)) 108 :: Sb 5 (.slice (some ⟨p4, 0, none⟩) 8 8) headT :: Pt p2 [.int .i64 0] 31 :: l) → Fc ⟨Tryz.prog, pqR s g l p1 p2⟩ 56 #[.pointer (some ⟨q1, 0, none⟩), .int .u8 (c1.toNat : Int), .pointer (some ⟨p1, 0, none⟩)] w8 (fun v w' => ∃ (g' : Glob) (m' : ModV) (c' k' : Nat), v = .int .i64 c' ∧ secR (c1.toNat : Int) m.d t ⟨0, 0⟩ = ((m'.d, c'), ⟨k', 0⟩) ∧ Ext gg g' ∧ okE g' m' (16 * la.toNat + 16) ∧ k' ≤ t.length ∧ Sat g' w' (Pt q1 (rC t k') 108 :: Pt p1 [m'.vt, m'.vm, m'.vf, .int .i64 m'.table, .int .i64 m'.pages, .int .i64 m'.most, m'.vg, m'.vx, .int .i64 m'.start, m'.ve, m'.vd] 30 :: Sl 49 2 enSg m'.vt m'.types :: Sl 54 2 enIm m'.vm m'.imps :: Sl 61 3 enFn m'.vf m'.funcs :: Sl 66 3 enGl m'.vg m'.globals :: Sl 70 2 enIm m'.vx m'.exps :: Sl 75 2 enEl m'.ve m'.elems :: Sl 80 2 enDt m'.vd m'.data :: Pt p3 (rC s (k'2 + n1)) 108 :: Sb 5 (.slice (some ⟨p4, 0, none⟩) 8 8) headT :: Pt p2 [.int .i64 0] 31 :: l)) := fun w8 H => sect H hTg hi1 hi2 (Nat.zero_le _) (by omega) hm (by omega) hI
    refine H.fronts [11, 11, 3, 11, 11, 11, 11, 11, 11, 11, 11, 11] ?_
    clear H
    intro H
    refine CallP.mk (Fc.imp (hsec _ H) ?_)
    clear H
    rintro _ w6 ⟨g'1, ⟨m'1, ⟨c'1, ⟨k'3, ⟨rfl, ⟨h7, ⟨HE, ⟨h9, ⟨h10, H⟩⟩⟩⟩⟩⟩⟩⟩⟩
    replace hI := hI.ext HE
    replace hX := hX.ext HE
    replace E99 := E99.trans HE
    replace hR := hR.ext HE
    replace hm := hm.ext HE
    clear HE
    have hc16 := sec_c hi1 hi2 (Nat.zero_le _) (by assumption)
    refine eqI64 (by omega) ?_
    refine CallP.mk (Fc.imp (Go.Proofs.YtbbdfhgcmkljeaaGreatDoor.Brd.done H ?_ ?_ ?_) ?_)
    · assumption
    · omega
    · exact fun h => hX.pieceD he hn1 (by rw [← ht]; assumption) (by omega)
    clear H
    rintro vb' w7 ⟨h11, H⟩
    refine Nxt.mk ((g'1, ↑c1.toNat, k'2 + n1, m'1, c + c'1)) (mt_i rfl (by first | omega | (simp only; omega) | (simp; omega)) (mt_cons rfl (mt_nil))) ?_ ?_
    · refine ⟨?_, ?_⟩
      · exact hE.trans E99
      refine ⟨?_, ?_⟩
      · (constructor <;> omega)
      refine ⟨?_, ?_⟩
      · assumption
      refine ⟨?_, ?_⟩
      · assumption
      refine ⟨?_, ?_⟩
      · dsimp only
        exact okE.more (by assumption) (by omega)
      refine ⟨?_, ?_⟩
      · (simp only [List.length_append, List.length_set, List.length_cons, List.length_nil]; omega)
      refine ⟨?_, ?_⟩
      · exact ⟨f - 1, by dsimp only; omega, hX.pieceE he hn1 (by rw [← ht]; assumption) (by omega)⟩
      refine H.fronts [11, 11, 10, 10, 10, 10, 10, 10, 10, 10, 11] ?_
      clear H
      intro H
      refine H.drop 11 ?_
      clear H
      intro H
      exact H
    (simp only [List.length_append, List.length_set, List.length_cons, List.length_nil]; omega)
  replace hR := hR.secE hge
  refine rFieldAt rfl ?_
  refine rLd (H.at 0 rfl) 1 rfl rfl rfl ?_
  refine rLenStr rfl ?_
  refine cF (vLt_F (by omega)) ?_
  refine rFieldAt rfl ?_
  refine rLd (H.at 1 rfl) 2 rfl rfl rfl ?_
  refine rLenS H 4 rfl rfl ?_
  refine CallP.mk (Fc.imp (Go.Proofs.YtbbdfhgcmkljeaaGreatDoor.Brd.throw H _ _ ?_) ?_)
  · exact fun h => hR.thr (by decide) (fn_ne h)
  clear H
  rintro v' w1 ⟨h1, H⟩
  replace hR := hR.nxt (fn_eq (by assumption))
  refine rLdA (H.at 1 rfl) 0 rfl rfl rfl ?_
  refine rStAS H 1 rfl rfl rfl (by simp only [List.all_cons, List.all_nil, H.one 2 rfl, H.one 3 rfl, H.one 4 rfl, H.one 5 rfl, H.one 6 rfl, H.one 7 rfl, H.one 8 rfl]; rfl) ?_
  clear H
  intro w3 H
  clear w1
  refine rStS H 10 rfl rfl rfl rfl ?_
  clear H
  intro w1 H
  clear w3
  refine LvP.mk ((idle p1 p2 _).imp ?_)
  rintro _ rfl
  refine rdAN (H.at 1 rfl) 0 rfl rfl rfl ?_
  refine rdN (H.at 10 rfl) 0 rfl rfl rfl ?_
  refine H.frz1 2 (okSg gg) rfl hm.types ?_
  intro g1 E1 f1 H
  refine H.frz1 2 okIm rfl hm.imps ?_
  intro g2 E2 f2 H
  refine H.frz1 2 (okFn gg) rfl hm.funcs ?_
  intro g3 E3 f3 H
  refine H.frz1 2 okGl rfl hm.globals ?_
  intro g4 E4 f4 H
  refine H.frz1 2 okIm rfl hm.exps ?_
  intro g5 E5 f5 H
  refine H.frz1 2 (okEl gg) rfl hm.elems ?_
  intro g6 E6 f6 H
  refine H.frz1 2 okDt rfl hm.data ?_
  intro g7 E7 f7 H
  have F6 := E7
  have F5 := E6.trans F6
  have F4 := E5.trans F5
  have F3 := E4.trans F4
  have F2 := E3.trans F3
  have F1 := E2.trans F2
  have F0 := E1.trans F1
  have hrd : rdM s = (m.d, 0) := by
    unfold rdM
    rw [if_neg hl, if_pos (by rw [hR.e]; rfl), hR.e]
    rfl
  exact Done.mk ⟨g7, m, 0, rfl, hrd, hE.trans F0, ⟨(FSl.ext f1 F1).okm (fun x _ h => okSg_x h F0), FSl.ext f2 F2, (FSl.ext f3 F3).okm (fun x _ h => okFn_x h F0), hm.table, hm.pages, hm.most, FSl.ext f4 F4, FSl.ext f5 F5, hm.start, (FSl.ext f6 F6).okm (fun x _ h => okEl_x h F0), f7⟩, H.tl.tl.tl.tl⟩
end
end Go.Proofs.YtbbdfhgcmkljeaaGreatDoor.Brd
/- Modules compared. -/
set_option maxRecDepth 100000
set_option maxHeartbeats 4000000
set_option linter.unusedVariables false
set_option linter.unusedSimpArgs false
namespace Go.Proofs.YtbbdfhgcmkljeaaGreatDoor.Bin
open Go Go.Proofs.YtbbdfhgcmkljeaaGreatDoor.Eng Go.RowKit
open Ins Nest Leb
section
variable {g : Glob} {w : World} {l : List As}
theorem len_ne {α γ : Type} {d : α → γ} {xs ys : List α} (h : (xs.length : Int) ≠ ys.length) : ¬ xs.map d = ys.map d := fun k => h (by have := congrArg List.length k; simp only [List.length_map] at this; omega)
theorem eqm_step {α γ : Type} {d : α → γ} {xs ys : List α} {i : Nat} {x y : α} (h : ∀ q, q < i → (xs.map d)[q]? = (ys.map d)[q]?) (hx : xs[i]? = some x) (hy : ys[i]? = some y) (he : d x = d y) : ∀ q, q < i + 1 → (xs.map d)[q]? = (ys.map d)[q]? := eq_step h (by rw [List.getElem?_map, List.getElem?_map, hx, hy]; exact congrArg some he)
theorem eqm_all {α γ : Type} {d : α → γ} {xs ys : List α} {i : Nat} (h1 : xs.length ≤ i) (h2 : ys.length ≤ i) (h : ∀ q, q < i → (xs.map d)[q]? = (ys.map d)[q]?) : xs.map d = ys.map d := eq_all (by simpa using h1) (by simpa using h2) h
theorem eqm_ne {α γ : Type} {d : α → γ} {xs ys : List α} {i : Nat} {x y : α} (hx : xs[i]? = some x) (hy : ys[i]? = some y) (hne : ¬ d x = d y) : ¬ xs.map d = ys.map d := fun h => by
  have := congrArg (·[i]?) h
  simp only [List.getElem?_map, hx, hy, Option.map_some] at this
  exact hne (Option.some.inj this)

def EqTo {α : Type} (xs ys : List α) (i : Nat) : Prop := ∀ q, q < i → xs[q]? = ys[q]?
theorem EqTo.zero {α : Type} (xs ys : List α) : EqTo xs ys 0 := fun q h => absurd h (Nat.not_lt_zero q)
theorem imEq (x y : List UInt8 × Int) : ((bs x.1).toList == (bs y.1).toList && (vEq x.2 y.2 && true)) = true ↔ x = y := by
  rw [bs_toList, bs_toList, Bool.and_true, Bool.and_eq_true, beq_iff_eq, vEq_iff, Prod.ext_iff]; simp
theorem dtEq (x y : Int × List UInt8) : (vEq x.1 y.1 && ((bs x.2).toList == (bs y.2).toList && true)) = true ↔ x = y := by
  rw [bs_toList, bs_toList, Bool.and_true, Bool.and_eq_true, beq_iff_eq, vEq_iff, Prod.ext_iff]; simp
theorem glEq (x y : Int × Bool × Int) : (vEq x.1 y.1 && (x.2.1 == y.2.1 && (vEq x.2.2 y.2.2 && true))) = true ↔ x = y := by
  rw [Bool.and_true, Bool.and_eq_true, Bool.and_eq_true, beq_iff_eq, vEq_iff, vEq_iff, Prod.ext_iff, Prod.ext_iff]; simp

theorem eqK (H : Sat g w l) (u v : Value) (xs ys : List Int) (hx : FSl g enK U8 1 u xs) (hy : FSl g enK U8 1 v ys) : Fc Tryz.prog 59 #[u, v] w (fun r w' => ∃ b, r = .bool b ∧ (b = true ↔ xs = ys) ∧ Sat g w' l) := by
  refine Fc.of Tryz.func59 rfl (by kernel_rfl) ?_
  have hlx := SlR.len hx
  refine rLenF hx rfl ?_
  refine rLenF hy rfl ?_
  refine cI (fun c1 => ?_) (fun c1 => ?_)
  · replace c1 := vNe_t (c1)
    refine Done.mk ?_
    refine ⟨false, ?_⟩
    refine ⟨?_, ?_⟩
    · exact congrArg Value.bool (rfl)
    refine ⟨?_, ?_⟩
    · exact ⟨nofun, fun h => absurd (congrArg List.length h) (by omega)⟩
    exact H
  replace c1 := vNe_f (c1)
  refine rLenF hx rfl ?_
  refine LoopP.rule (α := Nat) (0) (fun x_ => [(14, .int .i64 x_)]) (fun x_ w_ => (x_ ≤ xs.length) ∧ (EqTo xs ys x_) ∧ Sat g w_ (l)) (fun x_ => xs.length - x_) ?_ ?_ ?_
  · repeat first | exact mt_nil | refine mt_cons rfl ?_ | refine mt_i rfl (by first | omega | (simp only; omega) | (simp; omega) | (simp; done)) ?_
  · try simp only
    refine ⟨?_, ?_⟩
    · omega
    refine ⟨?_, ?_⟩
    · exact EqTo.zero _ _
    exact H
  clear H
  rintro i f_ w_ ⟨hi, he, H⟩
  try simp only at hi he H ⊢
  refine cI (fun c2 => ?_) (fun c2 => ?_)
  · replace c2 := vLt_t (c2)
    refine bk ?_
    obtain ⟨x1, hx1⟩ : ∃ x, (xs)[(i)]? = some x := ⟨_, List.getElem?_eq_getElem (by omega)⟩
    obtain ⟨b1, o1, E1, F1, hok1⟩ := FSl.elt hx hx1
    refine rIxE E1 rfl rfl rfl ?_
    refine rLd (H.fat F1) 0 rfl rfl rfl ?_
    obtain ⟨x2, hx2⟩ : ∃ x, (ys)[(i)]? = some x := ⟨_, List.getElem?_eq_getElem (by omega)⟩
    obtain ⟨b2, o2, E2, F2, hok2⟩ := FSl.elt hy hx2
    refine rIxE E2 rfl rfl rfl ?_
    refine rLd (H.fat F2) 0 rfl rfl rfl ?_
    refine cI (fun c3 => ?_) (fun c3 => ?_)
    · replace c3 := vNe_t (c3)
      refine Done.mk ?_
      refine ⟨false, ?_⟩
      refine ⟨?_, ?_⟩
      · exact congrArg Value.bool (rfl)
      refine ⟨?_, ?_⟩
      · exact ⟨nofun, fun h => absurd (by subst h; exact Option.some.inj (hx1.symm.trans hx2)) (by assumption)⟩
      exact H
    replace c3 := vNe_f (c3)
    refine eqI64 (by omega) ?_
    refine Nxt.mk (i + 1) (mt_i rfl (by first | omega | (simp only; omega) | (simp; omega)) (mt_nil)) ?_ ?_
    · refine ⟨?_, ?_⟩
      · omega
      refine ⟨?_, ?_⟩
      · exact eq_step (by assumption) (by rw [hx1, hx2]; exact congrArg some (by assumption))
      exact H
    omega
  replace c2 := vLt_f (c2)
  refine Done.mk ?_
  refine ⟨true, ?_⟩
  refine ⟨?_, ?_⟩
  · exact congrArg Value.bool (rfl)
  refine ⟨?_, ?_⟩
  · exact ⟨fun _ => eq_all (by omega) (by omega) he, fun _ => rfl⟩
  exact H

theorem eqN (H : Sat g w l) (u v : Value) (xs ys : List Int) (hx : FSl g enI okI 1 u xs) (hy : FSl g enI okI 1 v ys) : Fc Tryz.prog 62 #[u, v] w (fun r w' => ∃ b, r = .bool b ∧ (b = true ↔ xs = ys) ∧ Sat g w' l) := by
  refine Fc.of Tryz.func62 rfl (by kernel_rfl) ?_
  have hlx := SlR.len hx
  refine rLenF hx rfl ?_
  refine rLenF hy rfl ?_
  refine cI (fun c1 => ?_) (fun c1 => ?_)
  · replace c1 := vNe_t (c1)
    refine Done.mk ?_
    refine ⟨false, ?_⟩
    refine ⟨?_, ?_⟩
    · exact congrArg Value.bool (rfl)
    refine ⟨?_, ?_⟩
    · exact ⟨nofun, fun h => absurd (congrArg List.length h) (by omega)⟩
    exact H
  replace c1 := vNe_f (c1)
  refine rLenF hx rfl ?_
  refine LoopP.rule (α := Nat) (0) (fun x_ => [(14, .int .i64 x_)]) (fun x_ w_ => (x_ ≤ xs.length) ∧ (EqTo xs ys x_) ∧ Sat g w_ (l)) (fun x_ => xs.length - x_) ?_ ?_ ?_
  · repeat first | exact mt_nil | refine mt_cons rfl ?_ | refine mt_i rfl (by first | omega | (simp only; omega) | (simp; omega) | (simp; done)) ?_
  · try simp only
    refine ⟨?_, ?_⟩
    · omega
    refine ⟨?_, ?_⟩
    · exact EqTo.zero _ _
    exact H
  clear H
  rintro i f_ w_ ⟨hi, he, H⟩
  try simp only at hi he H ⊢
  refine cI (fun c2 => ?_) (fun c2 => ?_)
  · replace c2 := vLt_t (c2)
    refine bk ?_
    obtain ⟨x1, hx1⟩ : ∃ x, (xs)[(i)]? = some x := ⟨_, List.getElem?_eq_getElem (by omega)⟩
    obtain ⟨b1, o1, E1, F1, hok1⟩ := FSl.elt hx hx1
    refine rIxE E1 rfl rfl rfl ?_
    refine rLd (H.fat F1) 0 rfl rfl rfl ?_
    obtain ⟨x2, hx2⟩ : ∃ x, (ys)[(i)]? = some x := ⟨_, List.getElem?_eq_getElem (by omega)⟩
    obtain ⟨b2, o2, E2, F2, hok2⟩ := FSl.elt hy hx2
    refine rIxE E2 rfl rfl rfl ?_
    refine rLd (H.fat F2) 0 rfl rfl rfl ?_
    refine cI (fun c3 => ?_) (fun c3 => ?_)
    · replace c3 := vNe_t (c3)
      refine Done.mk ?_
      refine ⟨false, ?_⟩
      refine ⟨?_, ?_⟩
      · exact congrArg Value.bool (rfl)
      refine ⟨?_, ?_⟩
      · exact ⟨nofun, fun h => absurd (by subst h; exact Option.some.inj (hx1.symm.trans hx2)) (by assumption)⟩
      exact H
    replace c3 := vNe_f (c3)
    refine eqI64 (by omega) ?_
    refine Nxt.mk (i + 1) (mt_i rfl (by first | omega | (simp only; omega) | (simp; omega)) (mt_nil)) ?_ ?_
    · refine ⟨?_, ?_⟩
      · omega
      refine ⟨?_, ?_⟩
      · exact eq_step (by assumption) (by rw [hx1, hx2]; exact congrArg some (by assumption))
      exact H
    omega
  replace c2 := vLt_f (c2)
  refine Done.mk ?_
  refine ⟨true, ?_⟩
  refine ⟨?_, ?_⟩
  · exact congrArg Value.bool (rfl)
  refine ⟨?_, ?_⟩
  · exact ⟨fun _ => eq_all (by omega) (by omega) he, fun _ => rfl⟩
  exact H

theorem eqIm (H : Sat g w l) (u v : Value) (xs ys : List (List UInt8 × Int)) (hx : FSl g enIm okIm 2 u xs) (hy : FSl g enIm okIm 2 v ys) : Fc Tryz.prog 65 #[u, v] w (fun r w' => ∃ b, r = .bool b ∧ (b = true ↔ xs = ys) ∧ Sat g w' l) := by
  refine Fc.of Tryz.func65 rfl (by kernel_rfl) ?_
  have hlx := SlR.len hx
  refine rLenF hx rfl ?_
  refine rLenF hy rfl ?_
  refine cI (fun c1 => ?_) (fun c1 => ?_)
  · replace c1 := vNe_t (c1)
    refine Done.mk ?_
    refine ⟨false, ?_⟩
    refine ⟨?_, ?_⟩
    · exact congrArg Value.bool (rfl)
    refine ⟨?_, ?_⟩
    · exact ⟨nofun, fun h => absurd (congrArg List.length h) (by omega)⟩
    exact H
  replace c1 := vNe_f (c1)
  refine rLenF hx rfl ?_
  refine LoopP.rule (α := Nat) (0) (fun x_ => [(14, .int .i64 x_)]) (fun x_ w_ => (x_ ≤ xs.length) ∧ (EqTo xs ys x_) ∧ Sat g w_ (l)) (fun x_ => xs.length - x_) ?_ ?_ ?_
  · repeat first | exact mt_nil | refine mt_cons rfl ?_ | refine mt_i rfl (by first | omega | (simp only; omega) | (simp; omega) | (simp; done)) ?_
  · try simp only
    refine ⟨?_, ?_⟩
    · omega
    refine ⟨?_, ?_⟩
    · exact EqTo.zero _ _
    exact H
  clear H
  rintro i f_ w_ ⟨hi, he, H⟩
  try simp only at hi he H ⊢
  refine cI (fun c2 => ?_) (fun c2 => ?_)
  · replace c2 := vLt_t (c2)
    refine bk ?_
    obtain ⟨x1, hx1⟩ : ∃ x, (xs)[(i)]? = some x := ⟨_, List.getElem?_eq_getElem (by omega)⟩
    obtain ⟨b1, o1, E1, F1, hok1⟩ := FSl.elt hx hx1
    have hok1_name := hok1.name
    have hok1_ty := hok1.ty
    refine rIxE E1 rfl rfl rfl ?_
    refine rLdA (H.fat F1) 0 rfl rfl rfl ?_
    refine rAllocS H rfl ?_
    clear H
    intro p1 w1 H
    clear w_
    refine rStAS H 0 rfl rfl rfl rfl ?_
    clear H
    intro w2 H
    clear w1
    refine drawzS H [] [(0, .held), (1, .pure), (2, .pure), (3, .pure), (4, .held), (5, .pure)] mixed (by kernel_rfl) (by kernel_rfl) ?_
    clear H
    intro w1 H
    clear w2
    refine tk (fun wx HS => rLdA (HS.at 0 rfl) 0 rfl rfl rfl ⟨rfl, rfl⟩) ?_
    obtain ⟨x2, hx2⟩ : ∃ x, (ys)[(i)]? = some x := ⟨_, List.getElem?_eq_getElem (by omega)⟩
    obtain ⟨b2, o2, E2, F2, hok2⟩ := FSl.elt hy hx2
    have hok2_name := hok2.name
    have hok2_ty := hok2.ty
    refine tk (fun wx HS => rIxE E2 rfl rfl rfl ⟨rfl, rfl⟩) ?_
    refine tk (fun wx HS => rLdA (HS.fat F2) 0 rfl rfl rfl ⟨rfl, rfl⟩) ?_
    refine tk (fun wx HS => rStructNe (by kernel_rfl) (by kernel_rfl) ⟨rfl, rfl⟩) ?_
    refine cI (fun c3 => ?_) (fun c3 => ?_)
    · replace c3 := not_t (c3)
      refine Done.mk ?_
      refine ⟨false, ?_⟩
      refine ⟨?_, ?_⟩
      · exact congrArg Value.bool (rfl)
      refine ⟨?_, ?_⟩
      · exact ⟨nofun, fun h => absurd (by subst h; exact Option.some.inj (hx1.symm.trans hx2)) (fun k => Bool.false_ne_true (‹_ = false›.symm.trans ((imEq _ _).2 k)))⟩
      refine H.drop 0 ?_
      clear H
      intro H
      exact H
    replace c3 := not_f (c3)
    refine eqI64 (by omega) ?_
    refine Nxt.mk (i + 1) (mt_i rfl (by first | omega | (simp only; omega) | (simp; omega)) (mt_nil)) ?_ ?_
    · refine ⟨?_, ?_⟩
      · omega
      refine ⟨?_, ?_⟩
      · exact eq_step (by assumption) (by rw [hx1, hx2]; exact congrArg some ((imEq _ _).1 (by assumption)))
      refine H.drop 0 ?_
      clear H
      intro H
      exact H
    omega
  replace c2 := vLt_f (c2)
  refine Done.mk ?_
  refine ⟨true, ?_⟩
  refine ⟨?_, ?_⟩
  · exact congrArg Value.bool (rfl)
  refine ⟨?_, ?_⟩
  · exact ⟨fun _ => eq_all (by omega) (by omega) he, fun _ => rfl⟩
  exact H

theorem eqGl (H : Sat g w l) (u v : Value) (xs ys : List (Int × Bool × Int)) (hx : FSl g enGl okGl 3 u xs) (hy : FSl g enGl okGl 3 v ys) : Fc Tryz.prog 67 #[u, v] w (fun r w' => ∃ b, r = .bool b ∧ (b = true ↔ xs = ys) ∧ Sat g w' l) := by
  refine Fc.of Tryz.func67 rfl (by kernel_rfl) ?_
  have hlx := SlR.len hx
  refine rLenF hx rfl ?_
  refine rLenF hy rfl ?_
  refine cI (fun c1 => ?_) (fun c1 => ?_)
  · replace c1 := vNe_t (c1)
    refine Done.mk ?_
    refine ⟨false, ?_⟩
    refine ⟨?_, ?_⟩
    · exact congrArg Value.bool (rfl)
    refine ⟨?_, ?_⟩
    · exact ⟨nofun, fun h => absurd (congrArg List.length h) (by omega)⟩
    exact H
  replace c1 := vNe_f (c1)
  refine rLenF hx rfl ?_
  refine LoopP.rule (α := Nat) (0) (fun x_ => [(14, .int .i64 x_)]) (fun x_ w_ => (x_ ≤ xs.length) ∧ (EqTo xs ys x_) ∧ Sat g w_ (l)) (fun x_ => xs.length - x_) ?_ ?_ ?_
  · repeat first | exact mt_nil | refine mt_cons rfl ?_ | refine mt_i rfl (by first | omega | (simp only; omega) | (simp; omega) | (simp; done)) ?_
  · try simp only
    refine ⟨?_, ?_⟩
    · omega
    refine ⟨?_, ?_⟩
    · exact EqTo.zero _ _
    exact H
  clear H
  rintro i f_ w_ ⟨hi, he, H⟩
  try simp only at hi he H ⊢
  refine cI (fun c2 => ?_) (fun c2 => ?_)
  · replace c2 := vLt_t (c2)
    refine bk ?_
    obtain ⟨x1, hx1⟩ : ∃ x, (xs)[(i)]? = some x := ⟨_, List.getElem?_eq_getElem (by omega)⟩
    obtain ⟨b1, o1, E1, F1, hok1⟩ := FSl.elt hx hx1
    have hok1_kind := hok1.kind
    have hok1_start := hok1.start
    refine rIxE E1 rfl rfl rfl ?_
    refine rLdA (H.fat F1) 0 rfl rfl rfl ?_
    refine rAllocS H rfl ?_
    clear H
    intro p1 w1 H
    clear w_
    refine rStAS H 0 rfl rfl rfl rfl ?_
    clear H
    intro w2 H
    clear w1
    refine drawzS H [] [(0, .held), (1, .pure), (2, .pure), (3, .pure), (4, .held), (5, .pure)] mixed (by kernel_rfl) (by kernel_rfl) ?_
    clear H
    intro w1 H
    clear w2
    refine tk (fun wx HS => rLdA (HS.at 0 rfl) 0 rfl rfl rfl ⟨rfl, rfl⟩) ?_
    obtain ⟨x2, hx2⟩ : ∃ x, (ys)[(i)]? = some x := ⟨_, List.getElem?_eq_getElem (by omega)⟩
    obtain ⟨b2, o2, E2, F2, hok2⟩ := FSl.elt hy hx2
    have hok2_kind := hok2.kind
    have hok2_start := hok2.start
    refine tk (fun wx HS => rIxE E2 rfl rfl rfl ⟨rfl, rfl⟩) ?_
    refine tk (fun wx HS => rLdA (HS.fat F2) 0 rfl rfl rfl ⟨rfl, rfl⟩) ?_
    refine tk (fun wx HS => rStructNe (by kernel_rfl) (by kernel_rfl) ⟨rfl, rfl⟩) ?_
    refine cI (fun c3 => ?_) (fun c3 => ?_)
    · replace c3 := not_t (c3)
      refine Done.mk ?_
      refine ⟨false, ?_⟩
      refine ⟨?_, ?_⟩
      · exact congrArg Value.bool (rfl)
      refine ⟨?_, ?_⟩
      · exact ⟨nofun, fun h => absurd (by subst h; exact Option.some.inj (hx1.symm.trans hx2)) (fun k => Bool.false_ne_true (‹_ = false›.symm.trans ((glEq _ _).2 k)))⟩
      refine H.drop 0 ?_
      clear H
      intro H
      exact H
    replace c3 := not_f (c3)
    refine eqI64 (by omega) ?_
    refine Nxt.mk (i + 1) (mt_i rfl (by first | omega | (simp only; omega) | (simp; omega)) (mt_nil)) ?_ ?_
    · refine ⟨?_, ?_⟩
      · omega
      refine ⟨?_, ?_⟩
      · exact eq_step (by assumption) (by rw [hx1, hx2]; exact congrArg some ((glEq _ _).1 (by assumption)))
      refine H.drop 0 ?_
      clear H
      intro H
      exact H
    omega
  replace c2 := vLt_f (c2)
  refine Done.mk ?_
  refine ⟨true, ?_⟩
  refine ⟨?_, ?_⟩
  · exact congrArg Value.bool (rfl)
  refine ⟨?_, ?_⟩
  · exact ⟨fun _ => eq_all (by omega) (by omega) he, fun _ => rfl⟩
  exact H

theorem eqEx (H : Sat g w l) (u v : Value) (xs ys : List (List UInt8 × Int)) (hx : FSl g enIm okIm 2 u xs) (hy : FSl g enIm okIm 2 v ys) : Fc Tryz.prog 68 #[u, v] w (fun r w' => ∃ b, r = .bool b ∧ (b = true ↔ xs = ys) ∧ Sat g w' l) := by
  refine Fc.of Tryz.func68 rfl (by kernel_rfl) ?_
  have hlx := SlR.len hx
  refine rLenF hx rfl ?_
  refine rLenF hy rfl ?_
  refine cI (fun c1 => ?_) (fun c1 => ?_)
  · replace c1 := vNe_t (c1)
    refine Done.mk ?_
    refine ⟨false, ?_⟩
    refine ⟨?_, ?_⟩
    · exact congrArg Value.bool (rfl)
    refine ⟨?_, ?_⟩
    · exact ⟨nofun, fun h => absurd (congrArg List.length h) (by omega)⟩
    exact H
  replace c1 := vNe_f (c1)
  refine rLenF hx rfl ?_
  refine LoopP.rule (α := Nat) (0) (fun x_ => [(14, .int .i64 x_)]) (fun x_ w_ => (x_ ≤ xs.length) ∧ (EqTo xs ys x_) ∧ Sat g w_ (l)) (fun x_ => xs.length - x_) ?_ ?_ ?_
  · repeat first | exact mt_nil | refine mt_cons rfl ?_ | refine mt_i rfl (by first | omega | (simp only; omega) | (simp; omega) | (simp; done)) ?_
  · try simp only
    refine ⟨?_, ?_⟩
    · omega
    refine ⟨?_, ?_⟩
    · exact EqTo.zero _ _
    exact H
  clear H
  rintro i f_ w_ ⟨hi, he, H⟩
  try simp only at hi he H ⊢
  refine cI (fun c2 => ?_) (fun c2 => ?_)
  · replace c2 := vLt_t (c2)
    refine bk ?_
    obtain ⟨x1, hx1⟩ : ∃ x, (xs)[(i)]? = some x := ⟨_, List.getElem?_eq_getElem (by omega)⟩
    obtain ⟨b1, o1, E1, F1, hok1⟩ := FSl.elt hx hx1
    have hok1_name := hok1.name
    have hok1_ty := hok1.ty
    refine rIxE E1 rfl rfl rfl ?_
    refine rLdA (H.fat F1) 0 rfl rfl rfl ?_
    refine rAllocS H rfl ?_
    clear H
    intro p1 w1 H
    clear w_
    refine rStAS H 0 rfl rfl rfl rfl ?_
    clear H
    intro w2 H
    clear w1
    refine drawzS H [] [(0, .held), (1, .pure), (2, .pure), (3, .pure), (4, .held), (5, .pure)] mixed (by kernel_rfl) (by kernel_rfl) ?_
    clear H
    intro w1 H
    clear w2
    refine tk (fun wx HS => rLdA (HS.at 0 rfl) 0 rfl rfl rfl ⟨rfl, rfl⟩) ?_
    obtain ⟨x2, hx2⟩ : ∃ x, (ys)[(i)]? = some x := ⟨_, List.getElem?_eq_getElem (by omega)⟩
    obtain ⟨b2, o2, E2, F2, hok2⟩ := FSl.elt hy hx2
    have hok2_name := hok2.name
    have hok2_ty := hok2.ty
    refine tk (fun wx HS => rIxE E2 rfl rfl rfl ⟨rfl, rfl⟩) ?_
    refine tk (fun wx HS => rLdA (HS.fat F2) 0 rfl rfl rfl ⟨rfl, rfl⟩) ?_
    refine tk (fun wx HS => rStructNe (by kernel_rfl) (by kernel_rfl) ⟨rfl, rfl⟩) ?_
    refine cI (fun c3 => ?_) (fun c3 => ?_)
    · replace c3 := not_t (c3)
      refine Done.mk ?_
      refine ⟨false, ?_⟩
      refine ⟨?_, ?_⟩
      · exact congrArg Value.bool (rfl)
      refine ⟨?_, ?_⟩
      · exact ⟨nofun, fun h => absurd (by subst h; exact Option.some.inj (hx1.symm.trans hx2)) (fun k => Bool.false_ne_true (‹_ = false›.symm.trans ((imEq _ _).2 k)))⟩
      refine H.drop 0 ?_
      clear H
      intro H
      exact H
    replace c3 := not_f (c3)
    refine eqI64 (by omega) ?_
    refine Nxt.mk (i + 1) (mt_i rfl (by first | omega | (simp only; omega) | (simp; omega)) (mt_nil)) ?_ ?_
    · refine ⟨?_, ?_⟩
      · omega
      refine ⟨?_, ?_⟩
      · exact eq_step (by assumption) (by rw [hx1, hx2]; exact congrArg some ((imEq _ _).1 (by assumption)))
      refine H.drop 0 ?_
      clear H
      intro H
      exact H
    omega
  replace c2 := vLt_f (c2)
  refine Done.mk ?_
  refine ⟨true, ?_⟩
  refine ⟨?_, ?_⟩
  · exact congrArg Value.bool (rfl)
  refine ⟨?_, ?_⟩
  · exact ⟨fun _ => eq_all (by omega) (by omega) he, fun _ => rfl⟩
  exact H

theorem eqDt (H : Sat g w l) (u v : Value) (xs ys : List (Int × List UInt8)) (hx : FSl g enDt okDt 2 u xs) (hy : FSl g enDt okDt 2 v ys) : Fc Tryz.prog 70 #[u, v] w (fun r w' => ∃ b, r = .bool b ∧ (b = true ↔ xs = ys) ∧ Sat g w' l) := by
  refine Fc.of Tryz.func70 rfl (by kernel_rfl) ?_
  have hlx := SlR.len hx
  refine rLenF hx rfl ?_
  refine rLenF hy rfl ?_
  refine cI (fun c1 => ?_) (fun c1 => ?_)
  · replace c1 := vNe_t (c1)
    refine Done.mk ?_
    refine ⟨false, ?_⟩
    refine ⟨?_, ?_⟩
    · exact congrArg Value.bool (rfl)
    refine ⟨?_, ?_⟩
    · exact ⟨nofun, fun h => absurd (congrArg List.length h) (by omega)⟩
    exact H
  replace c1 := vNe_f (c1)
  refine rLenF hx rfl ?_
  refine LoopP.rule (α := Nat) (0) (fun x_ => [(14, .int .i64 x_)]) (fun x_ w_ => (x_ ≤ xs.length) ∧ (EqTo xs ys x_) ∧ Sat g w_ (l)) (fun x_ => xs.length - x_) ?_ ?_ ?_
  · repeat first | exact mt_nil | refine mt_cons rfl ?_ | refine mt_i rfl (by first | omega | (simp only; omega) | (simp; omega) | (simp; done)) ?_
  · try simp only
    refine ⟨?_, ?_⟩
    · omega
    refine ⟨?_, ?_⟩
    · exact EqTo.zero _ _
    exact H
  clear H
  rintro i f_ w_ ⟨hi, he, H⟩
  try simp only at hi he H ⊢
  refine cI (fun c2 => ?_) (fun c2 => ?_)
  · replace c2 := vLt_t (c2)
    refine bk ?_
    obtain ⟨x1, hx1⟩ : ∃ x, (xs)[(i)]? = some x := ⟨_, List.getElem?_eq_getElem (by omega)⟩
    obtain ⟨b1, o1, E1, F1, hok1⟩ := FSl.elt hx hx1
    have hok1_pl := hok1.pl
    have hok1_bytes := hok1.bytes
    refine rIxE E1 rfl rfl rfl ?_
    refine rLdA (H.fat F1) 0 rfl rfl rfl ?_
    refine rAllocS H rfl ?_
    clear H
    intro p1 w1 H
    clear w_
    refine rStAS H 0 rfl rfl rfl rfl ?_
    clear H
    intro w2 H
    clear w1
    refine drawzS H [] [(0, .held), (1, .pure), (2, .pure), (3, .pure), (4, .held), (5, .pure)] mixed (by kernel_rfl) (by kernel_rfl) ?_
    clear H
    intro w1 H
    clear w2
    refine tk (fun wx HS => rLdA (HS.at 0 rfl) 0 rfl rfl rfl ⟨rfl, rfl⟩) ?_
    obtain ⟨x2, hx2⟩ : ∃ x, (ys)[(i)]? = some x := ⟨_, List.getElem?_eq_getElem (by omega)⟩
    obtain ⟨b2, o2, E2, F2, hok2⟩ := FSl.elt hy hx2
    have hok2_pl := hok2.pl
    have hok2_bytes := hok2.bytes
    refine tk (fun wx HS => rIxE E2 rfl rfl rfl ⟨rfl, rfl⟩) ?_
    refine tk (fun wx HS => rLdA (HS.fat F2) 0 rfl rfl rfl ⟨rfl, rfl⟩) ?_
    refine tk (fun wx HS => rStructNe (by kernel_rfl) (by kernel_rfl) ⟨rfl, rfl⟩) ?_
    refine cI (fun c3 => ?_) (fun c3 => ?_)
    · replace c3 := not_t (c3)
      refine Done.mk ?_
      refine ⟨false, ?_⟩
      refine ⟨?_, ?_⟩
      · exact congrArg Value.bool (rfl)
      refine ⟨?_, ?_⟩
      · exact ⟨nofun, fun h => absurd (by subst h; exact Option.some.inj (hx1.symm.trans hx2)) (fun k => Bool.false_ne_true (‹_ = false›.symm.trans ((dtEq _ _).2 k)))⟩
      refine H.drop 0 ?_
      clear H
      intro H
      exact H
    replace c3 := not_f (c3)
    refine eqI64 (by omega) ?_
    refine Nxt.mk (i + 1) (mt_i rfl (by first | omega | (simp only; omega) | (simp; omega)) (mt_nil)) ?_ ?_
    · refine ⟨?_, ?_⟩
      · omega
      refine ⟨?_, ?_⟩
      · exact eq_step (by assumption) (by rw [hx1, hx2]; exact congrArg some ((dtEq _ _).1 (by assumption)))
      refine H.drop 0 ?_
      clear H
      intro H
      exact H
    omega
  replace c2 := vLt_f (c2)
  refine Done.mk ?_
  refine ⟨true, ?_⟩
  refine ⟨?_, ?_⟩
  · exact congrArg Value.bool (rfl)
  refine ⟨?_, ?_⟩
  · exact ⟨fun _ => eq_all (by omega) (by omega) he, fun _ => rfl⟩
  exact H

theorem sameSig (H : Sat g w l) (x y : SigV) (hx : okSg g x) (hy : okSg g y) : Fc Tryz.prog 64 #[.agg #[x.vi, x.vo], .agg #[y.vi, y.vo]] w (fun r w' => ∃ b, r = .bool b ∧ (b = true ↔ x.d = y.d) ∧ Sat g w' l) := by
  refine Fc.of Tryz.func64 rfl (by kernel_rfl) ?_
  have hx_inn := hx.inn
  have hx_out := hx.out
  have hy_inn := hy.inn
  have hy_out := hy.out
  refine rBoxS H ?_
  clear H
  intro p1 w1 H
  refine rBoxS H ?_
  clear H
  intro p2 w2 H
  clear w1
  refine rFieldAt rfl ?_
  refine rLd (H.at 1 rfl) 0 rfl rfl rfl ?_
  refine rFieldAt rfl ?_
  refine rLd (H.at 0 rfl) 0 rfl rfl rfl ?_
  refine CallP.mk (Fc.imp (Go.Proofs.YtbbdfhgcmkljeaaGreatDoor.Bin.eqK H _ _ _ _ hx_inn hy_inn) ?_)
  clear H
  rintro _ w1 ⟨b1, ⟨rfl, ⟨h1, H⟩⟩⟩
  refine br (fun c1 => ?_) (fun c1 => ?_)
  · replace c1 := h1.1 (c1)
    refine rFieldAt rfl ?_
    refine rLd (H.at 1 rfl) 1 rfl rfl rfl ?_
    refine rFieldAt rfl ?_
    refine rLd (H.at 0 rfl) 1 rfl rfl rfl ?_
    refine CallP.mk (Fc.imp (Go.Proofs.YtbbdfhgcmkljeaaGreatDoor.Bin.eqK H _ _ _ _ hx_out hy_out) ?_)
    clear H
    rintro _ w3 ⟨b2, ⟨rfl, ⟨h2, H⟩⟩⟩
    refine Done.mk ?_
    refine ⟨b2, ?_⟩
    refine ⟨?_, ?_⟩
    · rfl
    refine ⟨?_, ?_⟩
    · (rw [SigV.d, SigV.d, SigD.mk.injEq]; simp [*]; done)
    refine H.drop 1 ?_
    clear H
    intro H
    refine H.drop 0 ?_
    clear H
    intro H
    exact H
  replace c1 := iff_f h1 (c1)
  refine Done.mk ?_
  refine ⟨false, ?_⟩
  refine ⟨?_, ?_⟩
  · exact congrArg Value.bool (rfl)
  refine ⟨?_, ?_⟩
  · (rw [SigV.d, SigV.d, SigD.mk.injEq]; simp [*]; done)
  refine H.drop 1 ?_
  clear H
  intro H
  refine H.drop 0 ?_
  clear H
  intro H
  exact H

theorem allSg (H : Sat g w l) (u v : Value) (xs ys : List SigV) (hx : FSl g enSg (okSg g) 2 u xs) (hy : FSl g enSg (okSg g) 2 v ys) : Fc Tryz.prog 63 #[u, v, .func (.func 64) #[] #[]] w (fun r w' => ∃ b, r = .bool b ∧ (b = true ↔ xs.map SigV.d = ys.map SigV.d) ∧ Sat g w' l) := by
  refine Fc.of Tryz.func63 rfl (by kernel_rfl) ?_
  have hlx := SlR.len hx
  refine rLenF hx rfl ?_
  refine rLenF hy rfl ?_
  refine cI (fun c1 => ?_) (fun c1 => ?_)
  · replace c1 := vNe_t (c1)
    refine Done.mk ?_
    refine ⟨false, ?_⟩
    refine ⟨?_, ?_⟩
    · exact congrArg Value.bool (rfl)
    refine ⟨?_, ?_⟩
    · exact ⟨nofun, fun h => absurd h (len_ne c1)⟩
    exact H
  replace c1 := vNe_f (c1)
  refine rLenF hx rfl ?_
  refine LoopP.rule (α := Nat) (0) (fun x_ => [(15, .int .i64 x_)]) (fun x_ w_ => (x_ ≤ xs.length) ∧ (EqTo (xs.map SigV.d) (ys.map SigV.d) x_) ∧ Sat g w_ (l)) (fun x_ => xs.length - x_) ?_ ?_ ?_
  · repeat first | exact mt_nil | refine mt_cons rfl ?_ | refine mt_i rfl (by first | omega | (simp only; omega) | (simp; omega) | (simp; done)) ?_
  · try simp only
    refine ⟨?_, ?_⟩
    · omega
    refine ⟨?_, ?_⟩
    · exact EqTo.zero _ _
    exact H
  clear H
  rintro i f_ w_ ⟨hi, he, H⟩
  try simp only at hi he H ⊢
  refine cI (fun c2 => ?_) (fun c2 => ?_)
  · replace c2 := vLt_t (c2)
    refine bk ?_
    refine drawzS H [] [(0, .pure), (1, .pure), (2, .pure), (3, .pure), (4, .held), (5, .pure), (6, .pure), (7, .pure), (8, .held), (9, .free), (10, .pure)] mixed (by kernel_rfl) (by kernel_rfl) ?_
    clear H
    intro w1 H
    clear w_
    obtain ⟨x1, hx1⟩ : ∃ x, (xs)[(i)]? = some x := ⟨_, List.getElem?_eq_getElem (by omega)⟩
    obtain ⟨b1, o1, E1, F1, hok1⟩ := FSl.elt hx hx1
    have hok1_inn := hok1.inn
    have hok1_out := hok1.out
    refine tk (fun wx HS => rIxE E1 rfl rfl rfl ⟨rfl, rfl⟩) ?_
    refine tk (fun wx HS => rLdA (HS.fat F1) 0 rfl rfl rfl ⟨rfl, rfl⟩) ?_
    obtain ⟨x2, hx2⟩ : ∃ x, (ys)[(i)]? = some x := ⟨_, List.getElem?_eq_getElem (by omega)⟩
    obtain ⟨b2, o2, E2, F2, hok2⟩ := FSl.elt hy hx2
    have hok2_inn := hok2.inn
    have hok2_out := hok2.out
    refine tk (fun wx HS => rIxE E2 rfl rfl rfl ⟨rfl, rfl⟩) ?_
    refine tk (fun wx HS => rLdA (HS.fat F2) 0 rfl rfl rfl ⟨rfl, rfl⟩) ?_
    refine CallP.mk (Fc.imp (Go.Proofs.YtbbdfhgcmkljeaaGreatDoor.Bin.sameSig H _ _ ?_ ?_) ?_)
    · assumption
    · assumption
    clear H
    rintro _ w2 ⟨b3, ⟨rfl, ⟨h1, H⟩⟩⟩
    refine cI (fun c3 => ?_) (fun c3 => ?_)
    · replace c3 := iff_f h1 (not_t (c3))
      refine Done.mk ?_
      refine ⟨false, ?_⟩
      refine ⟨?_, ?_⟩
      · exact congrArg Value.bool (rfl)
      refine ⟨?_, ?_⟩
      · exact ⟨nofun, fun h => absurd h (eqm_ne hx1 hx2 c3)⟩
      exact H
    replace c3 := h1.1 (not_f (c3))
    refine eqI64 (by omega) ?_
    refine Nxt.mk (i + 1) (mt_i rfl (by first | omega | (simp only; omega) | (simp; omega)) (mt_nil)) ?_ ?_
    · refine ⟨?_, ?_⟩
      · omega
      refine ⟨?_, ?_⟩
      · exact eqm_step he hx1 hx2 c3
      exact H
    omega
  replace c2 := vLt_f (c2)
  refine Done.mk ?_
  refine ⟨true, ?_⟩
  refine ⟨?_, ?_⟩
  · exact congrArg Value.bool (rfl)
  refine ⟨?_, ?_⟩
  · exact ⟨fun _ => eqm_all (by omega) (by omega) he, fun _ => rfl⟩
  exact H

theorem allIn (H : Sat g w l) (u v : Value) (xs ys : List InsV) (hx : FSl g enV (okV g) 4 u xs) (hy : FSl g enV (okV g) 4 v ys) : Fc Tryz.prog 91 #[u, v, .func (.func 92) #[] #[]] w (fun r w' => ∃ b, r = .bool b ∧ (b = true ↔ xs.map InsV.d = ys.map InsV.d) ∧ Sat g w' l) := by
  refine Fc.of Tryz.func91 rfl (by kernel_rfl) ?_
  have hlx := SlR.len hx
  refine rLenF hx rfl ?_
  refine rLenF hy rfl ?_
  refine cI (fun c1 => ?_) (fun c1 => ?_)
  · replace c1 := vNe_t (c1)
    refine Done.mk ?_
    refine ⟨false, ?_⟩
    refine ⟨?_, ?_⟩
    · exact congrArg Value.bool (rfl)
    refine ⟨?_, ?_⟩
    · exact ⟨nofun, fun h => absurd h (len_ne c1)⟩
    exact H
  replace c1 := vNe_f (c1)
  refine rLenF hx rfl ?_
  refine LoopP.rule (α := Nat) (0) (fun x_ => [(15, .int .i64 x_)]) (fun x_ w_ => (x_ ≤ xs.length) ∧ (EqTo (xs.map InsV.d) (ys.map InsV.d) x_) ∧ Sat g w_ (l)) (fun x_ => xs.length - x_) ?_ ?_ ?_
  · repeat first | exact mt_nil | refine mt_cons rfl ?_ | refine mt_i rfl (by first | omega | (simp only; omega) | (simp; omega) | (simp; done)) ?_
  · try simp only
    refine ⟨?_, ?_⟩
    · omega
    refine ⟨?_, ?_⟩
    · exact EqTo.zero _ _
    exact H
  clear H
  rintro i f_ w_ ⟨hi, he, H⟩
  try simp only at hi he H ⊢
  refine cI (fun c2 => ?_) (fun c2 => ?_)
  · replace c2 := vLt_t (c2)
    refine bk ?_
    refine drawzS H [] [(0, .pure), (1, .pure), (2, .pure), (3, .pure), (4, .held), (5, .pure), (6, .pure), (7, .pure), (8, .held), (9, .free), (10, .pure)] mixed (by kernel_rfl) (by kernel_rfl) ?_
    clear H
    intro w1 H
    clear w_
    obtain ⟨x1, hx1⟩ : ∃ x, (xs)[(i)]? = some x := ⟨_, List.getElem?_eq_getElem (by omega)⟩
    obtain ⟨b1, o1, E1, F1, hok1⟩ := FSl.elt hx hx1
    have hok1_op := hok1.op
    have hok1_a := hok1.a
    have hok1_b := hok1.b
    have hok1_to := hok1.to
    refine tk (fun wx HS => rIxE E1 rfl rfl rfl ⟨rfl, rfl⟩) ?_
    refine tk (fun wx HS => rLdA (HS.fat F1) 0 rfl rfl rfl ⟨rfl, rfl⟩) ?_
    obtain ⟨x2, hx2⟩ : ∃ x, (ys)[(i)]? = some x := ⟨_, List.getElem?_eq_getElem (by omega)⟩
    obtain ⟨b2, o2, E2, F2, hok2⟩ := FSl.elt hy hx2
    have hok2_op := hok2.op
    have hok2_a := hok2.a
    have hok2_b := hok2.b
    have hok2_to := hok2.to
    refine tk (fun wx HS => rIxE E2 rfl rfl rfl ⟨rfl, rfl⟩) ?_
    refine tk (fun wx HS => rLdA (HS.fat F2) 0 rfl rfl rfl ⟨rfl, rfl⟩) ?_
    refine CallP.mk (Fc.imp (Go.Proofs.YtbbdfhgcmkljeaaGreatDoor.Ins.sameIns _ _ _ _ _ _ _ _ _ _ _ (Rd.tt (H.rd hok1_to)) (Rd.tt (H.rd hok2_to))) ?_)
    rintro _ w2 ⟨q1, ⟨rfl, ⟨h1, H'⟩⟩⟩
    refine H.mergeK H' ?_
    clear H H'
    intro H
    refine cI (fun c3 => ?_) (fun c3 => ?_)
    · replace c3 := iff_f h1 (not_t (c3))
      refine Done.mk ?_
      refine ⟨false, ?_⟩
      refine ⟨?_, ?_⟩
      · exact congrArg Value.bool (rfl)
      refine ⟨?_, ?_⟩
      · exact ⟨nofun, fun h => absurd h (eqm_ne hx1 hx2 c3)⟩
      exact H
    replace c3 := h1.1 (not_f (c3))
    refine eqI64 (by omega) ?_
    refine Nxt.mk (i + 1) (mt_i rfl (by first | omega | (simp only; omega) | (simp; omega)) (mt_nil)) ?_ ?_
    · refine ⟨?_, ?_⟩
      · omega
      refine ⟨?_, ?_⟩
      · exact eqm_step he hx1 hx2 c3
      exact H
    omega
  replace c2 := vLt_f (c2)
  refine Done.mk ?_
  refine ⟨true, ?_⟩
  refine ⟨?_, ?_⟩
  · exact congrArg Value.bool (rfl)
  refine ⟨?_, ?_⟩
  · exact ⟨fun _ => eqm_all (by omega) (by omega) he, fun _ => rfl⟩
  exact H
theorem sameBody (H : Sat g w l) (u v : Value) (xs ys : List InsV) (hx : FSl g enV (okV g) 4 u xs) (hy : FSl g enV (okV g) 4 v ys) : Fc Tryz.prog 60 #[u, v] w (fun r w' => ∃ b, r = .bool b ∧ (b = true ↔ xs.map InsV.d = ys.map InsV.d) ∧ Sat g w' l) := by
  refine Fc.of Tryz.func60 rfl (by kernel_rfl) ?_
  refine CallP.mk (Fc.imp (Go.Proofs.YtbbdfhgcmkljeaaGreatDoor.Bin.allIn H _ _ _ _ hx hy) ?_)
  clear H
  rintro _ w1 ⟨b1, ⟨rfl, ⟨h1, H⟩⟩⟩
  refine Done.mk ?_
  refine ⟨b1, ?_⟩
  refine ⟨?_, ?_⟩
  · rfl
  refine ⟨?_, ?_⟩
  · assumption
  exact H
theorem sameFn (H : Sat g w l) (x y : FunV) (hx : okFn g x) (hy : okFn g y) : Fc Tryz.prog 58 #[.agg #[.int .i64 x.ty, x.vl, x.vb], .agg #[.int .i64 y.ty, y.vl, y.vb]] w (fun r w' => ∃ b, r = .bool b ∧ (b = true ↔ x.d = y.d) ∧ Sat g w' l) := by
  refine Fc.of Tryz.func58 rfl (by kernel_rfl) ?_
  have hx_loc := hx.loc
  have hx_body := hx.body
  have hy_loc := hy.loc
  have hy_body := hy.body
  refine rBoxS H ?_
  clear H
  intro p1 w1 H
  refine rBoxS H ?_
  clear H
  intro p2 w2 H
  clear w1
  refine rFieldAt rfl ?_
  refine rLd (H.at 1 rfl) 0 rfl rfl rfl ?_
  refine rFieldAt rfl ?_
  refine rLd (H.at 0 rfl) 0 rfl rfl rfl ?_
  refine br (fun c1 => ?_) (fun c1 => ?_)
  · replace c1 := vEq_t (c1)
    refine rFieldAt rfl ?_
    refine rLd (H.at 1 rfl) 1 rfl rfl rfl ?_
    refine rFieldAt rfl ?_
    refine rLd (H.at 0 rfl) 1 rfl rfl rfl ?_
    refine CallP.mk (Fc.imp (Go.Proofs.YtbbdfhgcmkljeaaGreatDoor.Bin.eqK H _ _ _ _ hx_loc hy_loc) ?_)
    clear H
    rintro _ w1 ⟨b1, ⟨rfl, ⟨h1, H⟩⟩⟩
    refine br (fun c2 => ?_) (fun c2 => ?_)
    · replace c2 := h1.1 (c2)
      refine rFieldAt rfl ?_
      refine rLd (H.at 1 rfl) 2 rfl rfl rfl ?_
      refine rFieldAt rfl ?_
      refine rLd (H.at 0 rfl) 2 rfl rfl rfl ?_
      refine CallP.mk (Fc.imp (Go.Proofs.YtbbdfhgcmkljeaaGreatDoor.Bin.sameBody H _ _ _ _ hx_body hy_body) ?_)
      clear H
      rintro _ w3 ⟨b2, ⟨rfl, ⟨h2, H⟩⟩⟩
      refine Done.mk ?_
      refine ⟨b2, ?_⟩
      refine ⟨?_, ?_⟩
      · rfl
      refine ⟨?_, ?_⟩
      · (rw [FunV.d, FunV.d, FunD.mk.injEq]; simp [*]; done)
      refine H.drop 1 ?_
      clear H
      intro H
      refine H.drop 0 ?_
      clear H
      intro H
      exact H
    replace c2 := iff_f h1 (c2)
    refine Done.mk ?_
    refine ⟨false, ?_⟩
    refine ⟨?_, ?_⟩
    · exact congrArg Value.bool (rfl)
    refine ⟨?_, ?_⟩
    · (rw [FunV.d, FunV.d, FunD.mk.injEq]; simp [*]; done)
    refine H.drop 1 ?_
    clear H
    intro H
    refine H.drop 0 ?_
    clear H
    intro H
    exact H
  replace c1 := vEq_f (c1)
  refine Done.mk ?_
  refine ⟨false, ?_⟩
  refine ⟨?_, ?_⟩
  · exact congrArg Value.bool (rfl)
  refine ⟨?_, ?_⟩
  · (rw [FunV.d, FunV.d, FunD.mk.injEq]; simp [*]; done)
  refine H.drop 1 ?_
  clear H
  intro H
  refine H.drop 0 ?_
  clear H
  intro H
  exact H

theorem allFn (H : Sat g w l) (u v : Value) (xs ys : List FunV) (hx : FSl g enFn (okFn g) 3 u xs) (hy : FSl g enFn (okFn g) 3 v ys) : Fc Tryz.prog 66 #[u, v, .func (.func 58) #[] #[]] w (fun r w' => ∃ b, r = .bool b ∧ (b = true ↔ xs.map FunV.d = ys.map FunV.d) ∧ Sat g w' l) := by
  refine Fc.of Tryz.func66 rfl (by kernel_rfl) ?_
  have hlx := SlR.len hx
  refine rLenF hx rfl ?_
  refine rLenF hy rfl ?_
  refine cI (fun c1 => ?_) (fun c1 => ?_)
  · replace c1 := vNe_t (c1)
    refine Done.mk ?_
    refine ⟨false, ?_⟩
    refine ⟨?_, ?_⟩
    · exact congrArg Value.bool (rfl)
    refine ⟨?_, ?_⟩
    · exact ⟨nofun, fun h => absurd h (len_ne c1)⟩
    exact H
  replace c1 := vNe_f (c1)
  refine rLenF hx rfl ?_
  refine LoopP.rule (α := Nat) (0) (fun x_ => [(15, .int .i64 x_)]) (fun x_ w_ => (x_ ≤ xs.length) ∧ (EqTo (xs.map FunV.d) (ys.map FunV.d) x_) ∧ Sat g w_ (l)) (fun x_ => xs.length - x_) ?_ ?_ ?_
  · repeat first | exact mt_nil | refine mt_cons rfl ?_ | refine mt_i rfl (by first | omega | (simp only; omega) | (simp; omega) | (simp; done)) ?_
  · try simp only
    refine ⟨?_, ?_⟩
    · omega
    refine ⟨?_, ?_⟩
    · exact EqTo.zero _ _
    exact H
  clear H
  rintro i f_ w_ ⟨hi, he, H⟩
  try simp only at hi he H ⊢
  refine cI (fun c2 => ?_) (fun c2 => ?_)
  · replace c2 := vLt_t (c2)
    refine bk ?_
    refine drawzS H [] [(0, .pure), (1, .pure), (2, .pure), (3, .pure), (4, .held), (5, .pure), (6, .pure), (7, .pure), (8, .held), (9, .free), (10, .pure)] mixed (by kernel_rfl) (by kernel_rfl) ?_
    clear H
    intro w1 H
    clear w_
    obtain ⟨x1, hx1⟩ : ∃ x, (xs)[(i)]? = some x := ⟨_, List.getElem?_eq_getElem (by omega)⟩
    obtain ⟨b1, o1, E1, F1, hok1⟩ := FSl.elt hx hx1
    have hok1_ty := hok1.ty
    have hok1_loc := hok1.loc
    have hok1_body := hok1.body
    refine tk (fun wx HS => rIxE E1 rfl rfl rfl ⟨rfl, rfl⟩) ?_
    refine tk (fun wx HS => rLdA (HS.fat F1) 0 rfl rfl rfl ⟨rfl, rfl⟩) ?_
    obtain ⟨x2, hx2⟩ : ∃ x, (ys)[(i)]? = some x := ⟨_, List.getElem?_eq_getElem (by omega)⟩
    obtain ⟨b2, o2, E2, F2, hok2⟩ := FSl.elt hy hx2
    have hok2_ty := hok2.ty
    have hok2_loc := hok2.loc
    have hok2_body := hok2.body
    refine tk (fun wx HS => rIxE E2 rfl rfl rfl ⟨rfl, rfl⟩) ?_
    refine tk (fun wx HS => rLdA (HS.fat F2) 0 rfl rfl rfl ⟨rfl, rfl⟩) ?_
    refine CallP.mk (Fc.imp (Go.Proofs.YtbbdfhgcmkljeaaGreatDoor.Bin.sameFn H _ _ ?_ ?_) ?_)
    · assumption
    · assumption
    clear H
    rintro _ w2 ⟨b3, ⟨rfl, ⟨h1, H⟩⟩⟩
    refine cI (fun c3 => ?_) (fun c3 => ?_)
    · replace c3 := iff_f h1 (not_t (c3))
      refine Done.mk ?_
      refine ⟨false, ?_⟩
      refine ⟨?_, ?_⟩
      · exact congrArg Value.bool (rfl)
      refine ⟨?_, ?_⟩
      · exact ⟨nofun, fun h => absurd h (eqm_ne hx1 hx2 c3)⟩
      exact H
    replace c3 := h1.1 (not_f (c3))
    refine eqI64 (by omega) ?_
    refine Nxt.mk (i + 1) (mt_i rfl (by first | omega | (simp only; omega) | (simp; omega)) (mt_nil)) ?_ ?_
    · refine ⟨?_, ?_⟩
      · omega
      refine ⟨?_, ?_⟩
      · exact eqm_step he hx1 hx2 c3
      exact H
    omega
  replace c2 := vLt_f (c2)
  refine Done.mk ?_
  refine ⟨true, ?_⟩
  refine ⟨?_, ?_⟩
  · exact congrArg Value.bool (rfl)
  refine ⟨?_, ?_⟩
  · exact ⟨fun _ => eqm_all (by omega) (by omega) he, fun _ => rfl⟩
  exact H

theorem sameEl (H : Sat g w l) (x y : ElV) (hx : okEl g x) (hy : okEl g y) : Fc Tryz.prog 61 #[.agg #[.int .i64 x.pl, x.vf], .agg #[.int .i64 y.pl, y.vf]] w (fun r w' => ∃ b, r = .bool b ∧ (b = true ↔ x.d = y.d) ∧ Sat g w' l) := by
  refine Fc.of Tryz.func61 rfl (by kernel_rfl) ?_
  have hx_fs := hx.fs
  have hy_fs := hy.fs
  refine rBoxS H ?_
  clear H
  intro p1 w1 H
  refine rBoxS H ?_
  clear H
  intro p2 w2 H
  clear w1
  refine rFieldAt rfl ?_
  refine rLd (H.at 1 rfl) 0 rfl rfl rfl ?_
  refine rFieldAt rfl ?_
  refine rLd (H.at 0 rfl) 0 rfl rfl rfl ?_
  refine br (fun c1 => ?_) (fun c1 => ?_)
  · replace c1 := vEq_t (c1)
    refine rFieldAt rfl ?_
    refine rLd (H.at 1 rfl) 1 rfl rfl rfl ?_
    refine rFieldAt rfl ?_
    refine rLd (H.at 0 rfl) 1 rfl rfl rfl ?_
    refine CallP.mk (Fc.imp (Go.Proofs.YtbbdfhgcmkljeaaGreatDoor.Bin.eqN H _ _ _ _ hx_fs hy_fs) ?_)
    clear H
    rintro _ w1 ⟨b1, ⟨rfl, ⟨h1, H⟩⟩⟩
    refine Done.mk ?_
    refine ⟨b1, ?_⟩
    refine ⟨?_, ?_⟩
    · rfl
    refine ⟨?_, ?_⟩
    · (rw [ElV.d, ElV.d, Prod.mk.injEq]; simp [*]; done)
    refine H.drop 1 ?_
    clear H
    intro H
    refine H.drop 0 ?_
    clear H
    intro H
    exact H
  replace c1 := vEq_f (c1)
  refine Done.mk ?_
  refine ⟨false, ?_⟩
  refine ⟨?_, ?_⟩
  · exact congrArg Value.bool (rfl)
  refine ⟨?_, ?_⟩
  · (rw [ElV.d, ElV.d, Prod.mk.injEq]; simp [*]; done)
  refine H.drop 1 ?_
  clear H
  intro H
  refine H.drop 0 ?_
  clear H
  intro H
  exact H

theorem allEl (H : Sat g w l) (u v : Value) (xs ys : List ElV) (hx : FSl g enEl (okEl g) 2 u xs) (hy : FSl g enEl (okEl g) 2 v ys) : Fc Tryz.prog 69 #[u, v, .func (.func 61) #[] #[]] w (fun r w' => ∃ b, r = .bool b ∧ (b = true ↔ xs.map ElV.d = ys.map ElV.d) ∧ Sat g w' l) := by
  refine Fc.of Tryz.func69 rfl (by kernel_rfl) ?_
  have hlx := SlR.len hx
  refine rLenF hx rfl ?_
  refine rLenF hy rfl ?_
  refine cI (fun c1 => ?_) (fun c1 => ?_)
  · replace c1 := vNe_t (c1)
    refine Done.mk ?_
    refine ⟨false, ?_⟩
    refine ⟨?_, ?_⟩
    · exact congrArg Value.bool (rfl)
    refine ⟨?_, ?_⟩
    · exact ⟨nofun, fun h => absurd h (len_ne c1)⟩
    exact H
  replace c1 := vNe_f (c1)
  refine rLenF hx rfl ?_
  refine LoopP.rule (α := Nat) (0) (fun x_ => [(15, .int .i64 x_)]) (fun x_ w_ => (x_ ≤ xs.length) ∧ (EqTo (xs.map ElV.d) (ys.map ElV.d) x_) ∧ Sat g w_ (l)) (fun x_ => xs.length - x_) ?_ ?_ ?_
  · repeat first | exact mt_nil | refine mt_cons rfl ?_ | refine mt_i rfl (by first | omega | (simp only; omega) | (simp; omega) | (simp; done)) ?_
  · try simp only
    refine ⟨?_, ?_⟩
    · omega
    refine ⟨?_, ?_⟩
    · exact EqTo.zero _ _
    exact H
  clear H
  rintro i f_ w_ ⟨hi, he, H⟩
  try simp only at hi he H ⊢
  refine cI (fun c2 => ?_) (fun c2 => ?_)
  · replace c2 := vLt_t (c2)
    refine bk ?_
    refine drawzS H [] [(0, .pure), (1, .pure), (2, .pure), (3, .pure), (4, .held), (5, .pure), (6, .pure), (7, .pure), (8, .held), (9, .free), (10, .pure)] mixed (by kernel_rfl) (by kernel_rfl) ?_
    clear H
    intro w1 H
    clear w_
    obtain ⟨x1, hx1⟩ : ∃ x, (xs)[(i)]? = some x := ⟨_, List.getElem?_eq_getElem (by omega)⟩
    obtain ⟨b1, o1, E1, F1, hok1⟩ := FSl.elt hx hx1
    have hok1_pl := hok1.pl
    have hok1_fs := hok1.fs
    refine tk (fun wx HS => rIxE E1 rfl rfl rfl ⟨rfl, rfl⟩) ?_
    refine tk (fun wx HS => rLdA (HS.fat F1) 0 rfl rfl rfl ⟨rfl, rfl⟩) ?_
    obtain ⟨x2, hx2⟩ : ∃ x, (ys)[(i)]? = some x := ⟨_, List.getElem?_eq_getElem (by omega)⟩
    obtain ⟨b2, o2, E2, F2, hok2⟩ := FSl.elt hy hx2
    have hok2_pl := hok2.pl
    have hok2_fs := hok2.fs
    refine tk (fun wx HS => rIxE E2 rfl rfl rfl ⟨rfl, rfl⟩) ?_
    refine tk (fun wx HS => rLdA (HS.fat F2) 0 rfl rfl rfl ⟨rfl, rfl⟩) ?_
    refine CallP.mk (Fc.imp (Go.Proofs.YtbbdfhgcmkljeaaGreatDoor.Bin.sameEl H _ _ ?_ ?_) ?_)
    · assumption
    · assumption
    clear H
    rintro _ w2 ⟨b3, ⟨rfl, ⟨h1, H⟩⟩⟩
    refine cI (fun c3 => ?_) (fun c3 => ?_)
    · replace c3 := iff_f h1 (not_t (c3))
      refine Done.mk ?_
      refine ⟨false, ?_⟩
      refine ⟨?_, ?_⟩
      · exact congrArg Value.bool (rfl)
      refine ⟨?_, ?_⟩
      · exact ⟨nofun, fun h => absurd h (eqm_ne hx1 hx2 c3)⟩
      exact H
    replace c3 := h1.1 (not_f (c3))
    refine eqI64 (by omega) ?_
    refine Nxt.mk (i + 1) (mt_i rfl (by first | omega | (simp only; omega) | (simp; omega)) (mt_nil)) ?_ ?_
    · refine ⟨?_, ?_⟩
      · omega
      refine ⟨?_, ?_⟩
      · exact eqm_step he hx1 hx2 c3
      exact H
    omega
  replace c2 := vLt_f (c2)
  refine Done.mk ?_
  refine ⟨true, ?_⟩
  refine ⟨?_, ?_⟩
  · exact congrArg Value.bool (rfl)
  refine ⟨?_, ?_⟩
  · exact ⟨fun _ => eqm_all (by omega) (by omega) he, fun _ => rfl⟩
  exact H

end
end Go.Proofs.YtbbdfhgcmkljeaaGreatDoor.Bin
/- Modules compared: SameModule. -/
set_option maxRecDepth 100000
set_option maxHeartbeats 4000000
set_option linter.unusedVariables false
set_option linter.unusedSimpArgs false
namespace Go.Proofs.YtbbdfhgcmkljeaaGreatDoor.Bin
open Go Go.Proofs.YtbbdfhgcmkljeaaGreatDoor.Eng Go.RowKit
open Ins Nest Leb
section
variable {g : Glob} {w : World} {l : List As}
theorem sameModule (H : Sat g w l) (m n : ModV) (hm : okMd g m) (hn : okMd g n) : Fc Tryz.prog 9 #[.agg #[m.vt, m.vm, m.vf, .int .i64 m.table, .int .i64 m.pages, .int .i64 m.most, m.vg, m.vx, .int .i64 m.start, m.ve, m.vd], .agg #[n.vt, n.vm, n.vf, .int .i64 n.table, .int .i64 n.pages, .int .i64 n.most, n.vg, n.vx, .int .i64 n.start, n.ve, n.vd]] w (fun r w' => ∃ b, r = .bool b ∧ (b = true ↔ m.d = n.d) ∧ Sat g w' l) := by
  refine Fc.of Tryz.func9 rfl (by kernel_rfl) ?_
  have hm_types := hm.types
  have hm_imps := hm.imps
  have hm_funcs := hm.funcs
  have hm_globals := hm.globals
  have hm_exps := hm.exps
  have hm_elems := hm.elems
  have hm_data := hm.data
  have hn_types := hn.types
  have hn_imps := hn.imps
  have hn_funcs := hn.funcs
  have hn_globals := hn.globals
  have hn_exps := hn.exps
  have hn_elems := hn.elems
  have hn_data := hn.data
  refine rBoxS H ?_
  clear H
  intro p1 w1 H
  refine rBoxS H ?_
  clear H
  intro p2 w2 H
  clear w1
  refine rFieldAt rfl ?_
  refine rLd (H.at 1 rfl) 0 rfl rfl rfl ?_
  refine rFieldAt rfl ?_
  refine rLd (H.at 0 rfl) 0 rfl rfl rfl ?_
  refine CallP.mk (Fc.imp (Go.Proofs.YtbbdfhgcmkljeaaGreatDoor.Bin.allSg H _ _ _ _ hm_types hn_types) ?_)
  clear H
  rintro _ w1 ⟨b1, ⟨rfl, ⟨h1, H⟩⟩⟩
  refine br (fun c1 => ?_) (fun c1 => ?_)
  · replace c1 := h1.1 (c1)
    refine rFieldAt rfl ?_
    refine rLd (H.at 1 rfl) 1 rfl rfl rfl ?_
    refine rFieldAt rfl ?_
    refine rLd (H.at 0 rfl) 1 rfl rfl rfl ?_
    refine CallP.mk (Fc.imp (Go.Proofs.YtbbdfhgcmkljeaaGreatDoor.Bin.eqIm H _ _ _ _ hm_imps hn_imps) ?_)
    clear H
    rintro _ w3 ⟨b2, ⟨rfl, ⟨h2, H⟩⟩⟩
    refine br (fun c2 => ?_) (fun c2 => ?_)
    · replace c2 := h2.1 (c2)
      refine rFieldAt rfl ?_
      refine rLd (H.at 1 rfl) 2 rfl rfl rfl ?_
      refine rFieldAt rfl ?_
      refine rLd (H.at 0 rfl) 2 rfl rfl rfl ?_
      refine CallP.mk (Fc.imp (Go.Proofs.YtbbdfhgcmkljeaaGreatDoor.Bin.allFn H _ _ _ _ hm_funcs hn_funcs) ?_)
      clear H
      rintro _ w4 ⟨b3, ⟨rfl, ⟨h3, H⟩⟩⟩
      refine br (fun c3 => ?_) (fun c3 => ?_)
      · replace c3 := h3.1 (c3)
        refine rFieldAt rfl ?_
        refine rLd (H.at 1 rfl) 3 rfl rfl rfl ?_
        refine rFieldAt rfl ?_
        refine rLd (H.at 0 rfl) 3 rfl rfl rfl ?_
        refine br (fun c4 => ?_) (fun c4 => ?_)
        · replace c4 := vEq_t (c4)
          refine rFieldAt rfl ?_
          refine rLd (H.at 1 rfl) 4 rfl rfl rfl ?_
          refine rFieldAt rfl ?_
          refine rLd (H.at 0 rfl) 4 rfl rfl rfl ?_
          refine br (fun c5 => ?_) (fun c5 => ?_)
          · replace c5 := vEq_t (c5)
            refine rFieldAt rfl ?_
            refine rLd (H.at 1 rfl) 5 rfl rfl rfl ?_
            refine rFieldAt rfl ?_
            refine rLd (H.at 0 rfl) 5 rfl rfl rfl ?_
            refine br (fun c6 => ?_) (fun c6 => ?_)
            · replace c6 := vEq_t (c6)
              refine rFieldAt rfl ?_
              refine rLd (H.at 1 rfl) 6 rfl rfl rfl ?_
              refine rFieldAt rfl ?_
              refine rLd (H.at 0 rfl) 6 rfl rfl rfl ?_
              refine CallP.mk (Fc.imp (Go.Proofs.YtbbdfhgcmkljeaaGreatDoor.Bin.eqGl H _ _ _ _ hm_globals hn_globals) ?_)
              clear H
              rintro _ w5 ⟨b4, ⟨rfl, ⟨h4, H⟩⟩⟩
              refine br (fun c7 => ?_) (fun c7 => ?_)
              · replace c7 := h4.1 (c7)
                refine rFieldAt rfl ?_
                refine rLd (H.at 1 rfl) 7 rfl rfl rfl ?_
                refine rFieldAt rfl ?_
                refine rLd (H.at 0 rfl) 7 rfl rfl rfl ?_
                refine CallP.mk (Fc.imp (Go.Proofs.YtbbdfhgcmkljeaaGreatDoor.Bin.eqEx H _ _ _ _ hm_exps hn_exps) ?_)
                clear H
                rintro _ w6 ⟨b5, ⟨rfl, ⟨h5, H⟩⟩⟩
                refine br (fun c8 => ?_) (fun c8 => ?_)
                · replace c8 := h5.1 (c8)
                  refine rFieldAt rfl ?_
                  refine rLd (H.at 1 rfl) 8 rfl rfl rfl ?_
                  refine rFieldAt rfl ?_
                  refine rLd (H.at 0 rfl) 8 rfl rfl rfl ?_
                  refine br (fun c9 => ?_) (fun c9 => ?_)
                  · replace c9 := vEq_t (c9)
                    refine rFieldAt rfl ?_
                    refine rLd (H.at 1 rfl) 9 rfl rfl rfl ?_
                    refine rFieldAt rfl ?_
                    refine rLd (H.at 0 rfl) 9 rfl rfl rfl ?_
                    refine CallP.mk (Fc.imp (Go.Proofs.YtbbdfhgcmkljeaaGreatDoor.Bin.allEl H _ _ _ _ hm_elems hn_elems) ?_)
                    clear H
                    rintro _ w7 ⟨b6, ⟨rfl, ⟨h6, H⟩⟩⟩
                    refine br (fun c10 => ?_) (fun c10 => ?_)
                    · replace c10 := h6.1 (c10)
                      refine rFieldAt rfl ?_
                      refine rLd (H.at 1 rfl) 10 rfl rfl rfl ?_
                      refine rFieldAt rfl ?_
                      refine rLd (H.at 0 rfl) 10 rfl rfl rfl ?_
                      refine CallP.mk (Fc.imp (Go.Proofs.YtbbdfhgcmkljeaaGreatDoor.Bin.eqDt H _ _ _ _ hm_data hn_data) ?_)
                      clear H
                      rintro _ w8 ⟨b7, ⟨rfl, ⟨h7, H⟩⟩⟩
                      refine Done.mk ?_
                      refine ⟨b7, ?_⟩
                      refine ⟨?_, ?_⟩
                      · rfl
                      refine ⟨?_, ?_⟩
                      · (rw [ModV.d, ModV.d, ModD.mk.injEq]; simp [*]; done)
                      refine H.drop 1 ?_
                      clear H
                      intro H
                      refine H.drop 0 ?_
                      clear H
                      intro H
                      exact H
                    replace c10 := iff_f h6 (c10)
                    refine Done.mk ?_
                    refine ⟨false, ?_⟩
                    refine ⟨?_, ?_⟩
                    · exact congrArg Value.bool (rfl)
                    refine ⟨?_, ?_⟩
                    · (rw [ModV.d, ModV.d, ModD.mk.injEq]; simp [*]; done)
                    refine H.drop 1 ?_
                    clear H
                    intro H
                    refine H.drop 0 ?_
                    clear H
                    intro H
                    exact H
                  replace c9 := vEq_f (c9)
                  refine Done.mk ?_
                  refine ⟨false, ?_⟩
                  refine ⟨?_, ?_⟩
                  · exact congrArg Value.bool (rfl)
                  refine ⟨?_, ?_⟩
                  · (rw [ModV.d, ModV.d, ModD.mk.injEq]; simp [*]; done)
                  refine H.drop 1 ?_
                  clear H
                  intro H
                  refine H.drop 0 ?_
                  clear H
                  intro H
                  exact H
                replace c8 := iff_f h5 (c8)
                refine Done.mk ?_
                refine ⟨false, ?_⟩
                refine ⟨?_, ?_⟩
                · exact congrArg Value.bool (rfl)
                refine ⟨?_, ?_⟩
                · (rw [ModV.d, ModV.d, ModD.mk.injEq]; simp [*]; done)
                refine H.drop 1 ?_
                clear H
                intro H
                refine H.drop 0 ?_
                clear H
                intro H
                exact H
              replace c7 := iff_f h4 (c7)
              refine Done.mk ?_
              refine ⟨false, ?_⟩
              refine ⟨?_, ?_⟩
              · exact congrArg Value.bool (rfl)
              refine ⟨?_, ?_⟩
              · (rw [ModV.d, ModV.d, ModD.mk.injEq]; simp [*]; done)
              refine H.drop 1 ?_
              clear H
              intro H
              refine H.drop 0 ?_
              clear H
              intro H
              exact H
            replace c6 := vEq_f (c6)
            refine Done.mk ?_
            refine ⟨false, ?_⟩
            refine ⟨?_, ?_⟩
            · exact congrArg Value.bool (rfl)
            refine ⟨?_, ?_⟩
            · (rw [ModV.d, ModV.d, ModD.mk.injEq]; simp [*]; done)
            refine H.drop 1 ?_
            clear H
            intro H
            refine H.drop 0 ?_
            clear H
            intro H
            exact H
          replace c5 := vEq_f (c5)
          refine Done.mk ?_
          refine ⟨false, ?_⟩
          refine ⟨?_, ?_⟩
          · exact congrArg Value.bool (rfl)
          refine ⟨?_, ?_⟩
          · (rw [ModV.d, ModV.d, ModD.mk.injEq]; simp [*]; done)
          refine H.drop 1 ?_
          clear H
          intro H
          refine H.drop 0 ?_
          clear H
          intro H
          exact H
        replace c4 := vEq_f (c4)
        refine Done.mk ?_
        refine ⟨false, ?_⟩
        refine ⟨?_, ?_⟩
        · exact congrArg Value.bool (rfl)
        refine ⟨?_, ?_⟩
        · (rw [ModV.d, ModV.d, ModD.mk.injEq]; simp [*]; done)
        refine H.drop 1 ?_
        clear H
        intro H
        refine H.drop 0 ?_
        clear H
        intro H
        exact H
      replace c3 := iff_f h3 (c3)
      refine Done.mk ?_
      refine ⟨false, ?_⟩
      refine ⟨?_, ?_⟩
      · exact congrArg Value.bool (rfl)
      refine ⟨?_, ?_⟩
      · (rw [ModV.d, ModV.d, ModD.mk.injEq]; simp [*]; done)
      refine H.drop 1 ?_
      clear H
      intro H
      refine H.drop 0 ?_
      clear H
      intro H
      exact H
    replace c2 := iff_f h2 (c2)
    refine Done.mk ?_
    refine ⟨false, ?_⟩
    refine ⟨?_, ?_⟩
    · exact congrArg Value.bool (rfl)
    refine ⟨?_, ?_⟩
    · (rw [ModV.d, ModV.d, ModD.mk.injEq]; simp [*]; done)
    refine H.drop 1 ?_
    clear H
    intro H
    refine H.drop 0 ?_
    clear H
    intro H
    exact H
  replace c1 := iff_f h1 (c1)
  refine Done.mk ?_
  refine ⟨false, ?_⟩
  refine ⟨?_, ?_⟩
  · exact congrArg Value.bool (rfl)
  refine ⟨?_, ?_⟩
  · (rw [ModV.d, ModV.d, ModD.mk.injEq]; simp [*]; done)
  refine H.drop 1 ?_
  clear H
  intro H
  refine H.drop 0 ?_
  clear H
  intro H
  exact H
end
end Go.Proofs.YtbbdfhgcmkljeaaGreatDoor.Bin
/- The walk of BinApart. -/
set_option maxRecDepth 100000
set_option maxHeartbeats 4000000
set_option linter.unusedVariables false
set_option linter.unusedSimpArgs false
namespace Go.Proofs.YtbbdfhgcmkljeaaGreatDoor.Bin
open Go Go.Proofs.YtbbdfhgcmkljeaaGreatDoor.Eng Go.RowKit
open Ins Nest Leb
theorem wrE_0 {m : ModD} (h : wrE m = 0) : chkM m = 0 ∧ (modT m).length ≤ 4096 := by
  unfold wrE at h
  by_cases hc : chkM m = 0
  · rw [if_neg (fun k => k hc)] at h
    refine ⟨hc, ?_⟩
    by_cases hl : 4096 < (modT m).length
    · rw [if_pos hl] at h; cases h
    · omega
  · rw [if_pos hc] at h; exact absurd h hc
theorem okM_of {g : Glob} {m : ModV} (hm : okMd g m) (h : wrE m.d = 0) : OkM m.d := by
  obtain ⟨h1, h2⟩ := wrE_0 h
  refine ⟨h1, ?_, FSl.all hm.globals |> fun h x hx => (h x hx).start, h2⟩
  intro f hf
  obtain ⟨x, hx, rfl⟩ := List.mem_map.1 hf
  have hb := FSl.all (FSl.all hm.funcs x hx).body
  intro y hy
  obtain ⟨z, hz, rfl⟩ := List.mem_map.1 hy
  exact ⟨(hb z hz).op, (hb z hz).a⟩
theorem modT_ne (m : ModD) : modT m ≠ [] := by
  rw [modT_secs]; simp [headT]
end Go.Proofs.YtbbdfhgcmkljeaaGreatDoor.Bin
/- Modules written and read: what the laws need. -/
set_option maxRecDepth 100000
set_option maxHeartbeats 4000000
set_option linter.unusedVariables false
set_option linter.unusedSimpArgs false
namespace Go.Proofs.YtbbdfhgcmkljeaaGreatDoor.Brd
open Go Go.Proofs.YtbbdfhgcmkljeaaGreatDoor.Eng Go.RowKit
open Ins Nest Leb Txt
open Bin (ModV ModD okMd chkM wrE modT OkM wrE_0 okM_of modT_ne)
theorem mod_one {g : Glob} {n : ModV} (ho : okMd g n) : ([n.vt, n.vm, n.vf, .int .i64 n.table, .int .i64 n.pages, .int .i64 n.most, n.vg, n.vx, .int .i64 n.start, n.ve, n.vd].all (·.oneCell')) = true := by
  simp only [List.all_cons, List.all_nil, FSl.one ho.types, FSl.one ho.imps, FSl.one ho.funcs, FSl.one ho.globals, FSl.one ho.exps, FSl.one ho.elems, FSl.one ho.data]; rfl
theorem modT_8 (m : ModD) : 8 ≤ (modT m).length := by
  rw [Bin.modT_secs, List.length_append]
  have : Bin.headT.length = 8 := rfl
  omega
section
variable {g g' : Glob} {w : World} {l : List As} {m n : ModV} {s : List UInt8}
theorem okMd_x (h : okMd g m) (E : Ext g g') : okMd g' m :=
  ⟨FSl.extN (ok := Bin.okSg) (fun _ _ _ h E => okSg_x h E) h.types E, FSl.ext h.imps E, FSl.extN (ok := Bin.okFn) (fun _ _ _ h E => okFn_x h E) h.funcs E, h.table, h.pages, h.most, FSl.ext h.globals E, FSl.ext h.exps E, h.start, FSl.extN (ok := Bin.okEl) (fun _ _ _ h E => okEl_x h E) h.elems E, FSl.ext h.data E⟩
/-- Read, with its module in the form that is stored. -/
theorem readV (H : Sat g w l) (hT : U8F g) (hs : s.length ≤ 9223372036854775807) : Fc Tryz.prog 8 #[.string (bs s)] w (fun v w' => ∃ (g' : Glob) (m : ModV) (e : Int), v = .tuple #[.agg #[m.vt, m.vm, m.vf, .int .i64 m.table, .int .i64 m.pages, .int .i64 m.most, m.vg, m.vx, .int .i64 m.start, m.ve, m.vd], .int .i64 e] ∧ ([m.vt, m.vm, m.vf, .int .i64 m.table, .int .i64 m.pages, .int .i64 m.most, m.vg, m.vx, .int .i64 m.start, m.ve, m.vd].all (·.oneCell')) = true ∧ rdM s = (m.d, e) ∧ Ext g g' ∧ okMd g' m ∧ Sat g' w' l) := by
  refine Fc.imp (read_ H hT s hs) ?_
  rintro _ w2 ⟨g2, m, e, rfl, h1, h2, h3, H⟩
  exact ⟨g2, m, e, rfl, mod_one h3, h1, h2, h3, H⟩
theorem sameF (H : Sat g w l) (hm : okMd g m) (hn : okMd g n) (hd : n.d ≠ m.d) : Fc Tryz.prog 9 #[.agg #[m.vt, m.vm, m.vf, .int .i64 m.table, .int .i64 m.pages, .int .i64 m.most, m.vg, m.vx, .int .i64 m.start, m.ve, m.vd], .agg #[n.vt, n.vm, n.vf, .int .i64 n.table, .int .i64 n.pages, .int .i64 n.most, n.vg, n.vx, .int .i64 n.start, n.ve, n.vd]] w (fun r w' => r = .bool false ∧ Sat g w' l) := by
  refine Fc.imp (Bin.sameModule H m n hm hn) ?_
  rintro _ w2 ⟨b, rfl, hb, H⟩
  cases b with
  | true => exact absurd (hb.1 rfl).symm hd
  | false => exact ⟨rfl, H⟩
theorem writeT (H : Sat g w l) (hT : U8F g) (hm : okMd g m) (h0 : wrE m.d = 0) : Fc Tryz.prog 6 #[.agg #[m.vt, m.vm, m.vf, .int .i64 m.table, .int .i64 m.pages, .int .i64 m.most, m.vg, m.vx, .int .i64 m.start, m.ve, m.vd]] w (fun v w' => v = .tuple #[.string (bs (modT m.d)), .int .i64 0] ∧ Sat g w' l) := by
  refine Fc.imp (Bin.write H hT m hm) ?_
  rintro _ w2 ⟨t, e, rfl, rfl, rfl, _, H⟩
  rw [if_pos h0, h0]
  exact ⟨rfl, H⟩
theorem writeN (H : Sat g w l) (hT : U8F g) (hm : okMd g m) (h0 : wrE m.d ≠ 0) : Fc Tryz.prog 6 #[.agg #[m.vt, m.vm, m.vf, .int .i64 m.table, .int .i64 m.pages, .int .i64 m.most, m.vg, m.vx, .int .i64 m.start, m.ve, m.vd]] w (fun v w' => v = .tuple #[.string (bs []), .int .i64 (wrE m.d)] ∧ Sat g w' l) := by
  refine Fc.imp (Bin.write H hT m hm) ?_
  rintro _ w2 ⟨t, e, rfl, rfl, rfl, _, H⟩
  rw [if_neg h0]
  exact ⟨rfl, H⟩
end
end Go.Proofs.YtbbdfhgcmkljeaaGreatDoor.Brd
/- The walk of BinTorn. -/
set_option maxRecDepth 100000
set_option maxHeartbeats 4000000
set_option linter.unusedVariables false
set_option linter.unusedSimpArgs false
namespace Go.Proofs.YtbbdfhgcmkljeaaGreatDoor.Brd
open Go Go.Proofs.YtbbdfhgcmkljeaaGreatDoor.Eng Go.RowKit
open Ins Nest Leb Txt
open Bin (ModV ModD okMd chkM wrE modT OkM wrE_0 okM_of modT_ne)
theorem torn {m n : ModV} {t : List UInt8} {j : Nat} {e : Int} (h : rdM (t.take j) = (n.d, e)) (he : e = 0) (ht : t = modT m.d) (hj : j < t.length) : n.d ≠ m.d := fun hd => by
  subst he
  obtain ⟨_, hl, _⟩ := read_told h
  rw [hd, ← ht, List.length_take] at hl
  omega
theorem binTorn (w : World) (m : ModV) (at_ : Int) (hm : okMd (froz w) m) (hat : I64 at_) (hT : U8F (froz w)) : Fc Tryz.prog 5 #[.agg #[m.vt, m.vm, m.vf, .int .i64 m.table, .int .i64 m.pages, .int .i64 m.most, m.vg, m.vx, .int .i64 m.start, m.ve, m.vd], .int .i64 at_] w (fun v w' => v = .bool true ∧ Below w.heap.size w w') := by
  refine Fc.of Tryz.func5 rfl (by kernel_rfl) ?_
  have H := Sat.start w
  have E99 := Ext.refl (froz w)
  by_cases h0 : wrE m.d = 0
  · have hO := okM_of hm h0
    obtain ⟨t, ht⟩ : ∃ t, t = modT m.d := ⟨_, rfl⟩
    have htl : t.length ≤ 4096 := by rw [ht]; exact hO.len
    have h8 := modT_8 m.d
    rw [← ht] at h8
    have hne : t ≠ [] := fun h => by rw [h] at h8; exact absurd h8 (by decide)
    have hw : ∀ (w8 : World) (l : List As), Sat (froz w) w8 l → Fc Tryz.prog 6 #[.agg #[m.vt, m.vm, m.vf, .int .i64 m.table, .int .i64 m.pages, .int .i64 m.most, m.vg, m.vx, .int .i64 m.start, m.ve, m.vd]] w8 (fun v w' => v = .tuple #[.string (bs t), .int .i64 0] ∧ Sat (froz w) w' l) := fun w8 l H => by rw [ht]; exact writeT H hT hm h0
    have hm1 := Int.emod_nonneg at_ (b := (t.length : Int)) (by omega)
    have hm2 := Int.emod_lt_of_pos at_ (b := (t.length : Int)) (by omega)
    refine rBoxS H ?_
    clear H
    intro p1 w1 H
    refine rLdA (H.at 0 rfl) 0 rfl rfl rfl ?_
    refine CallP.mk (Fc.imp (hw _ _ H) ?_)
    clear H
    rintro _ w2 ⟨rfl, H⟩
    refine cF (vNe_F (by omega)) ?_
    refine rStrEq ?_
    refine cF (dec_F (by exact hne)) ?_
    refine rLenStr rfl ?_
    refine CallP.mk (Fc.imp (Go.Proofs.YtbbdfhgcmkljeaaGreatDoor.Ref.rest _ _ ?_ ?_ _) ?_)
    · assumption
    · omega
    rintro _ _ ⟨rfl, rfl⟩
    refine rSubH rfl (at_ % (↑t.length : Int)).toNat (by omega) (by omega) ?_
    refine CallP.mk (Fc.imp (Go.Proofs.YtbbdfhgcmkljeaaGreatDoor.Brd.readV H ?_ ?_) ?_)
    · assumption
    · (simp; omega)
    clear H
    rintro _ w3 ⟨g'1, ⟨m1, ⟨e1, ⟨rfl, ⟨h1, ⟨h2, ⟨HE, ⟨h3, H⟩⟩⟩⟩⟩⟩⟩⟩
    replace E99 := E99.trans HE
    clear HE
    refine rAllocS H rfl ?_
    clear H
    intro p2 w4 H
    clear w3
    refine rStAS H 0 rfl rfl rfl (by assumption) ?_
    clear H
    intro w3 H
    clear w4
    refine br (fun c1 => ?_) (fun c1 => ?_)
    · replace c1 := vNe_t (c1)
      refine Done.mk ?_
      refine ⟨?_, ?_⟩
      · exact congrArg Value.bool (rfl)
      exact E99.fin H
    replace c1 := vNe_f (c1)
    refine rLdA (H.at 1 rfl) 0 rfl rfl rfl ?_
    refine rLdA (H.at 0 rfl) 0 rfl rfl rfl ?_
    refine CallP.mk (Fc.imp (Go.Proofs.YtbbdfhgcmkljeaaGreatDoor.Brd.sameF H ?_ ?_ ?_) ?_)
    · exact okMd_x hm E99
    · assumption
    · exact torn (by assumption) (by assumption) ht (by omega)
    clear H
    rintro _ w4 ⟨rfl, H⟩
    refine Done.mk ?_
    refine ⟨?_, ?_⟩
    · exact congrArg Value.bool (not_T (rfl))
    exact E99.fin H
  have hw : ∀ (w8 : World) (l : List As), Sat (froz w) w8 l → Fc Tryz.prog 6 #[.agg #[m.vt, m.vm, m.vf, .int .i64 m.table, .int .i64 m.pages, .int .i64 m.most, m.vg, m.vx, .int .i64 m.start, m.ve, m.vd]] w8 (fun v w' => v = .tuple #[.string (bs []), .int .i64 (wrE m.d)] ∧ Sat (froz w) w' l) := fun w8 l H => writeN H hT hm h0
  refine rBoxS H ?_
  clear H
  intro p1 w1 H
  refine rLdA (H.at 0 rfl) 0 rfl rfl rfl ?_
  refine CallP.mk (Fc.imp (hw _ _ H) ?_)
  clear H
  rintro _ w2 ⟨rfl, H⟩
  refine cT (vNe_T (by assumption)) ?_
  refine rStrEq ?_
  refine Done.mk ?_
  exact ⟨rfl, H.finish⟩
end Go.Proofs.YtbbdfhgcmkljeaaGreatDoor.Brd
/- What the rows of a door seat share where the tables of unicode/utf8 are listed: what they give a walk, a start that meets them, and the form that asks for a bulk beside them. -/
set_option maxRecDepth 100000
namespace Go.Proofs.YtbbdfhgcmkljeaaGreatDoor.Door
open Go Go.RowKit Go.Proofs.YtbbdfhgcmkljeaaGreatDoor.Eng
noncomputable abbrev laid : List (String × DataW Unit) := [("unicode/utf8.acceptRanges", Rows.laid_unicode_utf8_acceptRanges), ("unicode/utf8.first", Rows.laid_unicode_utf8_first)]
theorem extra : U8Extra Tryz.prog Tryz.lays196_ren := ⟨by kernel_rfl, by kernel_rfl, by kernel_rfl, by kernel_rfl, by kernel_rfl, by kernel_rfl, by kernel_rfl⟩
theorem first_is : Rows.laid_unicode_utf8_first = Lib.firstData := by kernel_rfl
theorem accept_is : (Rows.laid_unicode_utf8_acceptRanges : DataW Unit) = Lib.acceptData := by kernel_rfl
theorem tabsAt {W : World} (h : laidMetH Tryz.prog laid W) : Lib.Utf8Tabs (Tryz.lays196_ren.g 3) (Tryz.lays196_ren.g 4) W := by
  rw [MakeChecks.laidMetH_plain _ _ _ (by kernel_rfl)] at h
  refine utf8Tabs_of_readsT (.of196 Tryz.lays196) extra (Lib.laidMet.reads h (.tail _ (.head _)) |> fun x => ?_) (Lib.laidMet.reads h (.head _) |> fun x => ?_)
  · rw [first_is] at x; exact x
  · rw [accept_is] at x; exact x
theorem cell_lt {w : World} {a : Addr} {v : Value} (h : w.cell? a = some v) : a.block < w.heap.size := by
  unfold World.cell? at h
  split at h
  · rename_i hh; exact (Array.getElem?_eq_some_iff.1 hh).1
  · cases h
theorem tabs {W : World} (h : laidMetH Tryz.prog laid W) : Leb.U8F (froz W) := by
  intro w l H
  have b := H.finish
  obtain ⟨t3, t4⟩ := tabsAt h
  refine ⟨fun c hc => ?_, fun i hi => ⟨?_, ?_⟩⟩
  · rw [b.cell (cell_lt (t3 c hc))]; exact t3 c hc
  · rw [b.cell (cell_lt (t4 i hi).1)]; exact (t4 i hi).1
  · rw [b.cell (cell_lt (t4 i hi).2)]; exact (t4 i hi).2
theorem met (os : Os) (args : Array Value) : laidMetH Tryz.prog laid ((World.laidAll Tryz.prog os laid).forCall (fun _ _ => 0) ⟨#[], args, []⟩).memory := by
  rw [MakeChecks.laidMetH_plain _ _ _ (by kernel_rfl)]; exact laidMet_laidAll _ (by kernel_rfl) (by kernel_rfl)
section
variable {H : Type} {enc : TypeId × Value → H}
theorem ret_change_and {a : Assume} {C : Checked} {os : Os} {f : FuncId} {fn : Func} {s : ChangeSpec} {conds : List PathCond} {apart fresh handsOn again : Bool} {X : World → Array Value → Prop}
    (hX : ∀ (w w' : World) (args : Array Value), w.heap = w'.heap → X w args → X w' args)
    (own : ownKnob C.prog.godebug = none) (started : os.Started) (noInit : C.prog.inits.idxOf? f = none) (hfn : C.prog.funcs[f]? = some fn)
    (witness : ∃ (w : World) (tape : Tape) (i : Input), w.os = os ∧ (w.forCall tape i).Shaped C.prog ∧ i.vars = [] ∧ Input.okWide C.prog (w.forCall tape i) .any w.heap.size f i ∧
      ((s.pre enc C.prog fn conds apart (w.forCall tape i).memory i.args ∧ X (w.forCall tape i).memory i.args) ∧ sizedMet enc C.prog fn (OpenSpec.ofChange s) apart (w.forCall tape i).memory i.args) ∧ a.holds C.prog (lone (Frame.enter C.prog f i.args .normal) [] (w.forCall tape i)))
    (contract : ∀ (W : World) (base : Nat) (args : Array Value) (ds gs : List (DataW H)) (before : List MemPlace),
      (∀ (j : Nat) t v, fn.params[j]? = some t → args[j]? = some v → Value.okWide C.prog W .any base t v) →
      DataW.Whole enc C.prog fn.params.toList s.vars apart W args.toList ds gs before →
      conds.all (PathCond.test C.prog ⟨fn.params.toList, ds, s.plain.varTypes C.prog, gs⟩) = true →
      (DataW.weightsEach C.prog (fn.params.toList ++ s.plain.varTypes C.prog) (ds ++ gs)).all (· ≤ reachBytes) = true → X W args → W.ShapedOpen C.prog →
      a.holds C.prog (lone (Frame.enter C.prog f args .normal) [] W) →
      Calls C.prog f args W fun e W' => ∃ v, e = .returned v ∧ s.post enc C.prog fn apart fresh handsOn again W args v W') :
    ReturnsInHanded a C os f .any (fun w args => (s.pre enc C.prog fn conds apart w args ∧ X w args) ∧ sizedMet enc C.prog fn (OpenSpec.ofChange s) apart w args) (s.post enc C.prog fn apart fresh handsOn again) := by
  refine returnsInHanded_of_calls own started noInit witness ?_
  intro w tape i _ hsh _ hok hpre hholds
  obtain ⟨_, _, _, fn', hfn', _, _, _, _, hval⟩ := hok
  have e : fn' = fn := Option.some.inj (hfn'.symm.trans hfn)
  subst e
  obtain ⟨⟨⟨ds, gs, before, hw, hc⟩, hx⟩, hz⟩ := hpre
  have hw' := DataW.Whole.of_heap (w' := w.forCall tape i) (by rfl) hw
  refine (contract (w.forCall tape i) w.heap.size i.args ds gs before hval hw' hc (hz.weights hw) (hX _ _ _ (by rfl) hx) hsh hholds).mono fun e W' ⟨v, he, hp⟩ => ?_
  subst he
  exact ChangeSpec.post_blind hp
end
end Go.Proofs.YtbbdfhgcmkljeaaGreatDoor.Door
