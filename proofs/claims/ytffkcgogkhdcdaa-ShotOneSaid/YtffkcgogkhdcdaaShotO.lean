/- Snapshots as arguments. -/
import Derived.Test.YtffkcgogkhdcdaaShotE
import Derived.Test.YtffkcgogkhdcdaaOpenN
set_option maxRecDepth 100000
set_option linter.unusedVariables false
set_option linter.unusedSimpArgs false
namespace Go.Proofs.Ytffkcgogkhdcdaa.Shot
open Go Go.RowKit Go.Proofs.Ytffkcgogkhdcdaa.Eng
structure ImgV where
  mem : List UInt8
  tv : Value
  tab : List Int
  gv : Value
  glob : List Int
structure StV where
  cv : Value
  calls : List CallV
  host : Int
def enImg (x : ImgV) : List Value := [.string (bs x.mem), x.tv, x.gv]
def enSt (x : StV) : List Value := [x.cv, .int .i64 x.host]
def okHc (H : Hv) (x : CallV) : Prop := I64 x.fn ∧ I64 x.at_ ∧ SlR (RE enI okI) 1 H x.lv x.ls ∧ SlR (RE enI okI) 1 H x.sv x.ss
def okHi (H : Hv) (x : ImgV) : Prop := x.mem.length ≤ 9223372036854775807 ∧ SlR (RE enI okI) 1 H x.tv x.tab ∧ SlR (RE enI okI) 1 H x.gv x.glob
def okHs (H : Hv) (x : StV) : Prop := SlR (fun H cs x => cs = enC x ∧ okHc H x) 4 H x.cv x.calls ∧ I64 x.host
structure okImg (g : Glob) (x : ImgV) : Prop where
  mem : x.mem.length ≤ 9223372036854775807
  tab : FSl g enI okI 1 x.tv x.tab
  glob : FSl g enI okI 1 x.gv x.glob
structure okSt (g : Glob) (x : StV) : Prop where
  calls : FSl g enC (okV g) 4 x.cv x.calls
  host : I64 x.host
theorem okV.of {g : Glob} {H : Hv} {x : CallV} (h : okHc H x) (hh : Hle H (Gh g)) : okV g x := ⟨h.1, h.2.1, h.2.2.1.mono (RE.mono' enI okI) hh, h.2.2.2.mono (RE.mono' enI okI) hh⟩
theorem okImg.of {g : Glob} {H : Hv} {x : ImgV} (h : okHi H x) (hh : Hle H (Gh g)) : okImg g x := ⟨h.1, h.2.1.mono (RE.mono' enI okI) hh, h.2.2.mono (RE.mono' enI okI) hh⟩
theorem okSt.of {g : Glob} {H : Hv} {x : StV} (h : okHs H x) (hh : Hle H (Gh g)) : okSt g x := ⟨h.1.conv hh fun _ _ h => ⟨h.1, okV.of h.2 hh⟩, h.2⟩
section
variable {H : Type} {enc : TypeId × Value → H} {w : World} {sp : Nat → Bool} {held : Bool}
def enStr (x : List UInt8) : List Value := [.string (bs x)]
def okStr (x : List UInt8) : Prop := x.length ≤ 9223372036854775807
theorem fitsI1 (cs : List Value) (h : fitsL [.int .i64] cs) : ∃ x, cs = enI x ∧ okI x := by
  obtain ⟨_, _, rfl, ⟨a, rfl, ha⟩, rfl⟩ := h
  exact ⟨a, rfl, ha⟩
theorem fitsS1 (cs : List Value) (h : fitsL [.str] cs) : ∃ x, cs = enStr x ∧ okStr x := by
  obtain ⟨_, _, rfl, ⟨a, rfl, ha⟩, rfl⟩ := h
  exact ⟨a, rfl, ha⟩
theorem open_i64s : OpT enc Try.prog w sp held 53 (fun H cs xs => ∃ v, cs = [v] ∧ SlR (RE enI okI) 1 H v xs) (fun xs => (xs.map (fun x => cellsSz (enI x) + 1)).sum + 1 + 0 * xs.length) :=
  opSl 1 rfl (by decide) Try.underlying53 (opFlat 6 rfl fitsI1)
theorem open_ints : OpT enc Try.prog w sp held 22 (fun H cs xs => ∃ v, cs = [v] ∧ SlR (RE enI okI) 1 H v xs) (fun xs => (xs.map (fun x => cellsSz (enI x) + 1)).sum + 1 + 0 * xs.length) :=
  opSl 1 rfl (by decide) Try.underlying22 (opFlat 6 rfl fitsI1)
theorem open_call : OpT enc Try.prog w sp held 97 (fun H cs x => cs = enC x ∧ okHc H x) (fun _ => 0) := by
  refine (open_structN 4 Try.underlying97 rfl (openFs_cons rfl (opFlat (en := enI) (ok := okI) 6 rfl fitsI1) (openFs_cons rfl (opFlat (en := enI) (ok := okI) 6 rfl fitsI1) (openFs_cons rfl open_i64s (openFs_cons rfl open_i64s openFs_nil))))).map ?_
  rintro H cs ⟨o, a, ls, ss, _⟩ ⟨hl, ⟨h1, h1'⟩, ⟨h2, h2'⟩, ⟨v, h3, h3'⟩, ⟨u, h4, h4'⟩, _⟩
  refine ⟨⟨o, a, v, ls, u, ss⟩, ⟨?_, h1', h2', h3', h4'⟩, Nat.zero_le _⟩
  match cs, hl with
  | [c0, c1, c2, c3], _ =>
    have e1 : [c0] = enI o := h1
    have e2 : [c1] = enI a := h2
    have e3 : [c2] = [v] := h3
    have e4 : [c3] = [u] := h4
    simp only [enI, List.cons.injEq, and_true] at e1 e2 e3 e4
    show _ = [_, _, _, _]
    rw [e1, e2, e3, e4]
theorem open_calls : OpT enc Try.prog w sp held 56 (fun H cs xs => ∃ v, cs = [v] ∧ SlR (fun H cs x => cs = enC x ∧ okHc H x) 4 H v xs) (fun xs => (xs.map (fun _ => 0)).sum + 1 + 0 * xs.length) :=
  opSl 4 rfl (by decide) Try.underlying56 open_call
theorem open_img : OpT enc Try.prog w sp held 55 (fun H cs x => cs = enImg x ∧ okHi H x) (fun _ => 0) := by
  refine (open_structN 3 Try.underlying55 rfl (openFs_cons rfl (opFlat (en := enStr) (ok := okStr) 6 rfl fitsS1) (openFs_cons rfl open_ints (openFs_cons rfl open_i64s openFs_nil)))).map ?_
  rintro H cs ⟨m, ts, gs, _⟩ ⟨hl, ⟨h1, h1'⟩, ⟨v, h3, h3'⟩, ⟨u, h4, h4'⟩, _⟩
  refine ⟨⟨m, v, ts, u, gs⟩, ⟨?_, h1', h3', h4'⟩, Nat.zero_le _⟩
  match cs, hl with
  | [c0, c1, c2], _ =>
    have e1 : [c0] = enStr m := h1
    have e3 : [c1] = [v] := h3
    have e4 : [c2] = [u] := h4
    simp only [enStr, List.cons.injEq, and_true] at e1 e3 e4
    show _ = [_, _, _]
    rw [e1, e3, e4]
theorem open_st : OpT enc Try.prog w sp held 58 (fun H cs x => cs = enSt x ∧ okHs H x) (fun _ => 0) := by
  refine (open_structN 2 Try.underlying58 rfl (openFs_cons rfl open_calls (openFs_cons rfl (opFlat (en := enI) (ok := okI) 6 rfl fitsI1) openFs_nil))).map ?_
  rintro H cs ⟨cl, h, _⟩ ⟨hl, ⟨v, h3, h3'⟩, ⟨h1, h1'⟩, _⟩
  refine ⟨⟨v, cl, h⟩, ⟨?_, h3', h1'⟩, Nat.zero_le _⟩
  match cs, hl with
  | [c0, c1], _ =>
    have e3 : [c0] = [v] := h3
    have e1 : [c1] = enI h := h1
    simp only [enI, List.cons.injEq, and_true] at e1 e3
    show _ = [_, _]
    rw [e1, e3]
end
end Go.Proofs.Ytffkcgogkhdcdaa.Shot
