/- Texts of this claim, one behind the other. -/
import Derived.Shelf.SlIterI.Sorted
import Derived.Shelf.SortM.Plain
import Derived.Shelf.SortM.SortNone
import Derived.Ground.GgzProg
import Derived.Ground.SlgmProg
import Derived.Test.YticdhdpfimpmoaaProg
import Derived.Test.YticdhdpfimpmoaaM3
import Derived.Test.YticdhdpfimpmoaaM4
/-
  DERIVED: THE SHELF's CONTRACTS AT THIS DUMP, IN PLAIN WORDS (tools/lay-plain.mjs out of 'TryShelf.lean', which tools/lay-shelf.mjs wrote): THE SAME DECLARATIONS UNDER THE SAME NAMES: 'import', 'namespace', 'open', 'def', 'theorem' AND NOTHING ELSE: no command of the shelf's: FOR A HAND-IN. Each laying: the table of numbers ('.._ren') and one theorem, a field a fact of the dump's own or the kernel's comparison; each contract: ONE APPLICATION.
-/
namespace Go.Proofs
open Go.Shelf
def Try.sortedR_ren : Go.Shelf.Ren := ⟨fun | 6 => 41 | 8 => 50 | 9 => 51 | 11 => 57 | 13 => 55 | 12 => 58 | 23 => 67 | 24 => 68 | 14 => 69 | 15 => 70 | 16 => 71 | 17 => 72 | 18 => 73 | 19 => 74 | 20 => 75 | 21 => 76 | 22 => 77 | 25 => 83 | 26 => 79 | 27 => 80 | 28 => 84 | 29 => 85 | 30 => 56 | 31 => 87 | n => n, fun | 26 => 3 | 28 => 103 | 24 => 61 | 0 => 0 | 3 => 3 | 37 => 116 | 48 => 127 | 50 => 129 | 4 => 4 | 40 => 121 | 39 => 120 | 45 => 92 | 5 => 5 | 9 => 9 | 51 => 136 | 55 => 140 | 57 => 144 | 58 => 145 | 33 => 112 | n => n, fun | n => n⟩
theorem Try.sortedR : Go.Proofs.SlLaysZI.n6 Try.prog Try.sortedR_ren := {
  mixed := by kernel_rfl
  f6 := ⟨Try.f41.name, by decide, Try.func41.trans (congrArg some (by kernel_rfl))⟩
  f8 := ⟨Try.f50.name, by decide, Try.func50.trans (congrArg some (by kernel_rfl))⟩
  f11 := ⟨Try.f57.name, by decide, Try.func57.trans (congrArg some (by kernel_rfl))⟩
  t0 := Try.underlying0
  a0 := Try.isAgg0
  z0 := Try.sizeOf0
  v0 := Try.zeroValue0
  t24 := Try.underlying61
  a24 := Try.isAgg61
  z24 := Try.sizeOf61
  v24 := Try.zeroValue61
  t26 := Try.underlying3
  a26 := Try.isAgg3
  z26 := Try.sizeOf3
  v26 := Try.zeroValue3
  t28 := Try.underlying103
  a28 := Try.isAgg103
  z28 := Try.sizeOf103
  v28 := Try.zeroValue103
  i26 := by kernel_rfl }
def Try.sortR_ren : Go.Shelf.Ren := ⟨fun | 5 => 51 | 8 => 55 | 7 => 58 | 19 => 67 | 20 => 68 | 10 => 69 | 11 => 70 | 12 => 71 | 13 => 72 | 14 => 73 | 15 => 74 | 16 => 75 | 17 => 76 | 18 => 77 | 30 => 83 | 31 => 79 | 32 => 80 | 33 => 84 | 34 => 85 | 35 => 56 | 40 => 87 | n => n, fun | 23 => 61 | 25 => 3 | 3 => 3 | 32 => 116 | 22 => 61 | 0 => 0 | 44 => 127 | 46 => 129 | 4 => 4 | 36 => 121 | 35 => 120 | 41 => 92 | 5 => 5 | 9 => 9 | 53 => 136 | 57 => 140 | 63 => 144 | 64 => 145 | n => n, fun | n => n⟩
theorem Try.sortR : Go.Proofs.SlLaysM.n5 Try.prog Try.sortR_ren := {
  mixed := by kernel_rfl
  f5 := ⟨Try.f51.name, by decide, Try.func51.trans (congrArg some (by kernel_rfl))⟩
  f7 := ⟨Try.f58.name, by decide, Try.func58.trans (congrArg some (by kernel_rfl))⟩
  f8 := Try.func55.trans (congrArg some (by kernel_rfl))
  f10 := ⟨Try.f69.name, by decide, Try.func69.trans (congrArg some (by kernel_rfl))⟩
  f11 := ⟨Try.f70.name, by decide, Try.func70.trans (congrArg some (by kernel_rfl))⟩
  f12 := ⟨Try.f71.name, by decide, Try.func71.trans (congrArg some (by kernel_rfl))⟩
  f13 := ⟨Try.f72.name, by decide, Try.func72.trans (congrArg some (by kernel_rfl))⟩
  f14 := ⟨Try.f73.name, by decide, Try.func73.trans (congrArg some (by kernel_rfl))⟩
  f15 := ⟨Try.f74.name, by decide, Try.func74.trans (congrArg some (by kernel_rfl))⟩
  f16 := ⟨Try.f75.name, by decide, Try.func75.trans (congrArg some (by kernel_rfl))⟩
  f17 := ⟨Try.f76.name, by decide, Try.func76.trans (congrArg some (by kernel_rfl))⟩
  f18 := ⟨Try.f77.name, by decide, Try.func77.trans (congrArg some (by kernel_rfl))⟩
  f19 := Try.func67.trans (congrArg some (by kernel_rfl))
  f20 := Try.func68.trans (congrArg some (by kernel_rfl))
  f30 := ⟨Try.f83.name, by decide, Try.func83.trans (congrArg some (by kernel_rfl))⟩
  f31 := Try.func79.trans (congrArg some (by kernel_rfl))
  f32 := Try.func80.trans (congrArg some (by kernel_rfl))
  f33 := ⟨Try.f84.name, by decide, Try.func84.trans (congrArg some (by kernel_rfl))⟩
  f34 := ⟨Try.f85.name, by decide, Try.func85.trans (congrArg some (by kernel_rfl))⟩
  f35 := ⟨Try.f56.name, by decide, Try.func56.trans (congrArg some (by kernel_rfl))⟩
  f40 := ⟨Try.f87.name, by decide, Try.func87.trans (congrArg some (by kernel_rfl))⟩
  t0 := Try.underlying0
  a0 := Try.isAgg0
  z0 := Try.sizeOf0
  v0 := Try.zeroValue0
  t3 := Try.underlying3
  a3 := Try.isAgg3
  z3 := Try.sizeOf3
  v3 := Try.zeroValue3
  t4 := Try.underlying4
  a4 := Try.isAgg4
  z4 := Try.sizeOf4
  v4 := Try.zeroValue4
  t5 := Try.underlying5
  a5 := Try.isAgg5
  z5 := Try.sizeOf5
  v5 := Try.zeroValue5
  t9 := Try.underlying9
  a9 := Try.isAgg9
  z9 := Try.sizeOf9
  v9 := Try.zeroValue9
  t22 := Try.underlying61
  a22 := Try.isAgg61
  z22 := Try.sizeOf61
  v22 := Try.zeroValue61
  t23 := Try.underlying61
  a23 := Try.isAgg61
  z23 := Try.sizeOf61
  v23 := Try.zeroValue61
  t25 := Try.underlying3
  a25 := Try.isAgg3
  z25 := Try.sizeOf3
  v25 := Try.zeroValue3
  t32 := Try.underlying116
  a32 := Try.isAgg116
  z32 := Try.sizeOf116
  v32 := Try.zeroValue116
  t35 := Try.underlying120
  a35 := Try.isAgg120
  z35 := Try.sizeOf120
  v35 := Try.zeroValue120
  t36 := Try.underlying121
  a36 := Try.isAgg121
  z36 := Try.sizeOf121
  v36 := Try.zeroValue121
  t41 := Try.underlying92
  a41 := Try.isAgg92
  z41 := Try.sizeOf92
  v41 := Try.zeroValue92
  t44 := Try.underlying127
  a44 := Try.isAgg127
  z44 := Try.sizeOf127
  v44 := Try.zeroValue127
  t46 := Try.underlying129
  a46 := Try.isAgg129
  z46 := Try.sizeOf129
  v46 := Try.zeroValue129
  t53 := Try.underlying136
  a53 := Try.isAgg136
  z53 := Try.sizeOf136
  v53 := Try.zeroValue136
  t57 := Try.underlying140
  a57 := Try.isAgg140
  z57 := Try.sizeOf140
  v57 := Try.zeroValue140
  t63 := Try.underlying144
  a63 := Try.isAgg144
  z63 := Try.sizeOf144
  v63 := Try.zeroValue144
  t64 := Try.underlying145
  a64 := Try.isAgg145
  z64 := Try.sizeOf145
  v64 := Try.zeroValue145 }
end Go.Proofs
/- maps.Keys over ints; slices.Sorted of it as a contract of mine. -/
set_option maxRecDepth 100000
set_option linter.unusedVariables false
set_option linter.unusedSimpArgs false
namespace Go.Proofs.Yticdhdpfimpmoaa.Proc
open Go Go.RowKit Go.Maps Go.Sort Go.Shelf Go.Proofs.Yticdhdpfimpmoaa.Eng Go.Proofs.Yticdhdpfimpmoaa.Eng.MG
set_option maxHeartbeats 1000000 in
theorem keysI_in (F : Fence) (n : Nat) (hF : F.fn 52) (hro : F.round = none) (hn : 1 ≤ n) (l Bm b clock : Nat) (es : Array MapEntry) (ev : PidD → Value) (m : List (Int × PidD)) (row : es.toList.map kv = m.map (enM ekI ev))
    (born : ∀ e ∈ es.toList, e.born < clock) (apart : (es.toList.map (·.born)).Nodup) (J : List Int → World → Prop)
    (hY : ∀ pre x W, J pre W → pre.length < m.length → YieldAt F (n - 1) Try.prog l #[ekI x] W fun e W' => e = .returned (.bool true) ∧ J (pre ++ [x]) W' ∧ KeepsWalks W W')
    (W : World) (hJ : AbidesFrom W.heap.size J) (hm : W.cell? ⟨Bm, 0, none⟩ = some (.map (some b))) (hb : W.heap[b]? = some (.map es clock)) (h0 : J [] W) :
    CallsIn F n Try.prog 52 #[.func (.yield l) #[] #[], .pointer (some ⟨Bm, 0, none⟩)] W fun e W' => (∃ v, e = .returned v) ∧ ∃ ss : List Int, ss.Perm (m.map (·.1)) ∧ J ss W' := by
  refine callsIn_of_wp Try.func52 rfl hF ?_ hro
  simp only [Try.ntmps52, List.size_toArray, List.length_cons, List.length_nil, Nat.reduceAdd, Nat.reduceSub, Array.replicate_succ, Array.replicate_zero, List.push_toArray, List.append_toArray, List.nil_append, List.cons_append]
  gi_wp2_with (first
    | (gi_at_range; refine wpListIn_range_raw rfl _ _ rfl _ _ Try.underlying80 b es clock rfl hb ?_; intro w0 hb0 hp0 hg0)
    | gi_in)
  go_frame
  gi_loopw [3] (fun _ wr => ∃ (seen : Array Nat) (ss : List Int), wr.heap[b]? = some (.map es clock) ∧ wr.heap[W.heap.size]? = some (.mapIter (some b) clock seen clock) ∧ Got es m seen ss ∧ J ss wr)
    (fun _ wr => leftAt es W.heap.size wr)
  case atStart =>
    exact ⟨_, [], hb0, hp0, Got.start es m, hJ [] W w0 none h0 hg0 (fun r e => by cases e)⟩
  case round =>
    obtain ⟨seen, ss, hbr, hpr, hG, hJs⟩ := hrel
    gi_wp2_with (first
      | (gi_at_next; refine wpListIn_next_raw rfl _ rfl W.heap.size b es clock seen rfl hbr hpr born apart ?_ ?_)
      | gi_in)
    · intro hl0
      gi_wp2
      go_end0
      exact ⟨⟨_, rfl⟩, ss, hG.done (by simpa using congrArg List.length row) apart (by rw [hl0]; rfl), hJs⟩
    · intro j e w2 hj hne hb2 hp2 hlt hg2 hs2 hen
      obtain ⟨q, hq, hqe⟩ : ∃ q, m[j]? = some q ∧ kv e = enM ekI ev q := by
        have hj' : es.toList[j]? = some e := by simpa using hj
        have hrow : (es.toList.map kv)[j]? = (m.map (enM ekI ev))[j]? := congrArg (·[j]?) row
        rw [List.getElem?_map, List.getElem?_map, hj', Option.map_some] at hrow
        cases hm : m[j]? with
        | none => rw [hm] at hrow; cases hrow
        | some q => rw [hm] at hrow; exact ⟨q, rfl, Option.some.inj hrow⟩
      have hk1 : e.key = ekI q.1 := congrArg Prod.fst hqe
      obtain ⟨x1, xv⟩ := q
      rw [show e.key = .int .i64 x1 from hk1] at hen ⊢
      obtain ⟨hG2, hlen⟩ := hG.step (by simpa using hj) hq (by simpa using hne)
      have hJ2 : J ss w2 := hJ ss wr w2 (some W.heap.size) hJs hg2 (fun r e => by cases e; exact ⟨Nat.le_refl _, _, hpr, rfl⟩)
      obtain ⟨fn, tmps, assign, body, hy, hR⟩ := hY ss x1 _ hJ2 hlen
      rw [show ekI x1 = .int .i64 x1 from rfl] at hy
      clear hs2
      gi_wp2
      refine hR.mono ?_
      rintro e' W3 ⟨rfl, hJ4, hk3⟩
      gi_wp2
      have hb4 := hk3.same _ _ hb2 rfl
      have hp4 := hk3.same _ _ hp2 rfl
      go_roundw
      case rel => exact ⟨_, ss ++ [x1], hb4, hp4, hG2, hJ4⟩
      case measure =>
        show leftAt es W.heap.size W3 < leftAt es W.heap.size wr
        unfold leftAt
        rw [hp4, hpr]
        exact hlt
/-- maps.Keys(m) hands back an iterator over m's keys: in the world behind the call. -/
theorem keysI_gives (F : Fence) (n : Nat) (hF : F.fn 52) (hro : F.round = none) (hn : 1 ≤ n) (Bm b clock : Nat) (es : Array MapEntry) (ev : PidD → Value) (m : List (Int × PidD)) (row : es.toList.map kv = m.map (enM ekI ev))
    (born : ∀ e ∈ es.toList, e.born < clock) (apart : (es.toList.map (·.born)).Nodup) (w : World) (hBm : Bm < w.heap.size) (hm : w.cell? ⟨Bm, 0, none⟩ = some (.map (some b))) (hb : w.heap[b]? = some (.map es clock)) :
    SeqGives F n Try.prog 52 #[.pointer (some ⟨Bm, 0, none⟩)] ekI (fun ss => ss.Perm (m.map (·.1))) m.length w := fun l J W hW hJ hY h0 =>
  keysI_in F n hF hro hn l Bm b clock es ev m row born apart J hY W hJ ((hW.cell (p := ⟨Bm, 0, none⟩) hBm).trans hm) ((hW.block b (Array.getElem?_eq_some_iff.1 hb).1).trans hb) h0
/-- slices.Sort's two contracts at this dump. -/
theorem sortsR (m : Nat) : AnyZI.SortsIn Try.prog Try.sortedR_ren Fence.wide m :=
  ⟨fun blk off cap ss W hH hblk hsz => callsIn_wide.2 (AnyM.slices_Sort_int Try.sortR blk off cap ss W hH hblk hsz),
   fun p cap W => callsIn_wide.2 (AnyM.slices_Sort_int_none Try.sortR p cap W)⟩
theorem flat_encZ : ∀ (xs : List Int), xs.map encZ = xs.flatMap enZ
  | [] => rfl
  | x :: r => by rw [List.map_cons, List.flatMap_cons, flat_encZ r]; rfl
section
variable {g : Glob} {w : World} {l : List As}
theorem sortedI_ {p b nn : Nat} {ev : PidD → Value} {z0 : PidD} {f : HF} (H : Sat g w (Pt p [.map (some b)] 80 :: Mg ekI ev z0 b f nn :: l)) (hn : nn ≤ 1000) :
    Fc Try.prog 41 #[.func (.func 52) #[] #[.pointer (some ⟨p, 0, none⟩)]] w (fun r w' => ∃ ks : List Int, (∀ k, k ∈ ks ↔ f k ≠ none) ∧ ks.length = nn ∧ Sat g w' (Sl 3 1 enZ r ks :: Pt p [.map (some b)] 80 :: Mg ekI ev z0 b f nn :: l)) := by
  obtain ⟨es, clock, m, hb, ok, hm⟩ := mp H 1 rfl
  have hcell : w.cell? ⟨p, 0, none⟩ = some (.map (some b)) := by
    obtain ⟨cs, fz, h1, h2⟩ : ∃ cs fz, w.heap[p]? = some (.cells cs 80 fz) ∧ cs = #[.map (some b)] := by
      obtain ⟨a, ha, hs⟩ := H.part (j := 0) rfl
      exact ⟨_, _, hs _ _ ha, rfl⟩
    subst h2
    rw [World.cell?, h1]; rfl
  have hlt : p < w.heap.size := by
    obtain ⟨a, ha, hs⟩ := H.part (j := 0) rfl
    exact (Array.getElem?_eq_some_iff.1 (hs _ _ ha)).1
  refine Fc.ofCalls Try.func41 rfl rfl ?_
  refine (callsIn_wide (n := 6)).1 ?_
  have hseq := keysI_gives Fence.wide (6 - 1 - 1 - 1) trivial rfl (by omega) p b clock es ev m ok.row ok.born ok.apart w hlt hcell hb
  have cS := AnyZI.sorted_in Try.sortedR Fence.wide 6 trivial trivial trivial trivial rfl (by omega) (sortsR _) (enters_of Try.func51 (by kernel_rfl) rfl) 52 #[.pointer (some ⟨p, 0, none⟩)] trivial (enters_of Try.func52 (by kernel_rfl) rfl) _ _ (by rw [hm]; simp only [maxLen]; omega) (by rw [hm]; omega) w hseq
  change CallsIn _ _ Try.prog 41 _ _ _ at cS
  refine cS.mono ?_
  rintro e w' ⟨v, ss, rfl, hS, hrow, _, hbl⟩
  have hlen : (ss.mergeSort (fun x y => decide (x ≤ y))).length = ss.length := (List.mergeSort_perm _ _).length_eq
  rw [flat_encZ, ← hlen] at hrow
  obtain ⟨a, ha, hs, hn⟩ := own_sl (en := enZ) (e := 3) (fun _ => rfl) hrow
  refine ⟨v, rfl, _, fun k => ?_, by rw [hlen, hS.length_eq, List.length_map, hm], H.more hbl ha hs hn⟩
  rw [(List.mergeSort_perm _ _).mem_iff, hS.mem_iff, ← ok.lk k]
  constructor
  · intro hk h0
    obtain ⟨q, hq, rfl⟩ := List.mem_map.1 hk
    exact lk_none.1 h0 q hq rfl
  · intro h0
    cases hv : lk m k with
    | none => exact absurd hv h0
    | some v => exact List.mem_map.2 ⟨_, (lk_mem ok.keys).1 hv, rfl⟩
end
end Go.Proofs.Yticdhdpfimpmoaa.Proc
/- Package proc: Refs. -/
set_option maxRecDepth 100000
set_option maxHeartbeats 4000000
set_option linter.unusedVariables false
set_option linter.unusedSimpArgs false
namespace Go.Proofs.Yticdhdpfimpmoaa.Proc
open Go Go.Proofs.Yticdhdpfimpmoaa.Eng Go.RowKit
open Go.Proofs.Yticdhdpfimpmoaa.Eng.MG
section
variable {g : Glob} {w : World} {l : List As} {p : Nat} {va : Value} {refs nd : Int} {xa : List ActV}
theorem keysI_ (H : Sat g w l) (mb : Option Nat) : Fc Try.prog 42 #[.map mb] w (fun r w' => ∃ p, r = .func (.func 52) #[] #[.pointer (some ⟨p, 0, none⟩)] ∧ Sat g w' (Pt p [.map mb] 80 :: l)) := by
  refine Fc.of Try.func42 rfl (by kernel_rfl) ?_
  refine rBoxS H ?_
  clear H
  intro p1 w1 H
  refine Done.mk ?_
  exact ⟨_, rfl, H⟩
theorem refsY (H : Sat g w (Pt p [.int .i64 nd, va, .int .i64 refs] 100 :: Sl 82 5 enAc va xa :: Acts xa :: l)) (q1 q2 : Int) (hl : xa.length ≤ 16) (x : ActV) (hn : liveAt nd xa (q1, q2) = some x) (hln : x.hn ≤ 1000) : Fc Try.prog 26 #[.pointer (some ⟨p, 0, none⟩), .agg #[.int .i64 q1, .int .i64 q2]] w (fun r w' => ∃ ks, (∀ k, k ∈ ks ↔ x.hf k ≠ none) ∧ ks.length = x.hn ∧ Sat g w' (Sl 3 1 enZ r ks :: Pt p [.int .i64 nd, va, .int .i64 refs] 100 :: Sl 82 5 enAc va xa :: Acts xa :: l)) := by
  obtain ⟨hx, hal, hr⟩ := live_inv hn
  obtain ⟨t, lb, lf, ln, wa, wc, ws, hb, hf, hnn, rfl⟩ := live_is hal
  have hln2 : hnn ≤ 1000 := hln
  replace H := opened H hx
  simp only [pcs, List.cons_append, List.nil_append] at H
  refine Fc.of Try.func26 rfl (by kernel_rfl) ?_
  refine rBoxS H ?_
  clear H
  intro p1 w1 H
  refine rLdA (H.at 0 rfl) 0 rfl rfl rfl ?_
  refine H.fronts [6, 6] ?_
  clear H
  intro H
  refine CallP.mk (Fc.imp (Go.Proofs.Yticdhdpfimpmoaa.Proc.findY H _ _ ?_ _ hn) ?_)
  · assumption
  clear H
  rintro _ w2 ⟨b1, ⟨o1, ⟨rfl, ⟨h1, H⟩⟩⟩⟩
  refine rPtrNil rfl ?_
  refine cF rfl ?_
  refine rFieldAt rfl ?_
  refine rLd (H.el 1 rfl h1 hx) 4 rfl rfl rfl ?_
  refine CallP.mk (Fc.imp (Go.Proofs.Yticdhdpfimpmoaa.Proc.keysI_ H _) ?_)
  clear H
  rintro _ w3 ⟨p2, ⟨rfl, H⟩⟩
  
  refine H.fronts [6, 1] ?_
  clear H
  intro H
  refine CallP.mk (Fc.imp (Go.Proofs.Yticdhdpfimpmoaa.Proc.sortedI_ H ?_) ?_)
  · assumption
  clear H
  rintro v' w4 ⟨ks1, ⟨h2, ⟨h3, H⟩⟩⟩
  replace H := (((((((H.del 5).del 1).front (j := 3) rfl).front (j := 3) rfl).front (j := 6) rfl).front (j := 4) rfl).front (j := 6) rfl).front (j := 6) rfl
  exact Done.mk ⟨ks1, h2, h3, (shut0 hx H).front (j := 3) rfl⟩
theorem refsN (H : Sat g w (Pt p [.int .i64 nd, va, .int .i64 refs] 100 :: Sl 82 5 enAc va xa :: Acts xa :: l)) (q1 q2 : Int) (hl : xa.length ≤ 16) (hn : liveAt nd xa (q1, q2) = none) (hq : -9223372036854775807 ≤ q2 ∧ q2 ≤ 9223372036854775807) : Fc Try.prog 26 #[.pointer (some ⟨p, 0, none⟩), .agg #[.int .i64 q1, .int .i64 q2]] w (fun r w' => r = .slice none 0 0 ∧ Sat g w' (Pt p [.int .i64 nd, va, .int .i64 refs] 100 :: Sl 82 5 enAc va xa :: Acts xa :: l)) := by
  refine Fc.of Try.func26 rfl (by kernel_rfl) ?_
  refine rBoxS H ?_
  clear H
  intro p1 w1 H
  refine rLdA (H.at 0 rfl) 0 rfl rfl rfl ?_
  refine H.fronts [2, 2] ?_
  clear H
  intro H
  refine CallP.mk (Fc.imp (Go.Proofs.Yticdhdpfimpmoaa.Proc.findN H _ _ ?_ ?_ ?_) ?_)
  · assumption
  · assumption
  · assumption
  clear H
  rintro _ w2 ⟨rfl, H⟩
  refine rPtrNil rfl ?_
  refine cT rfl ?_
  refine Done.mk ?_
  exact ⟨rfl, H.del 2⟩
end
end Go.Proofs.Yticdhdpfimpmoaa.Proc
/- The law ProcLinked. -/
set_option maxRecDepth 100000
set_option maxHeartbeats 4000000
set_option linter.unusedVariables false
set_option linter.unusedSimpArgs false
namespace Go.Proofs.Yticdhdpfimpmoaa.Proc
open Go Go.Proofs.Yticdhdpfimpmoaa.Eng Go.RowKit
open Go.Proofs.Yticdhdpfimpmoaa.Eng.MG
structure StepD where
  kind : Int
  a : PidD
  b : PidD
  on : Bool
  why : Int
  s : SigD
def enSt (x : StepD) : List Value := [.int .i64 x.kind, .int .i64 x.a.1, .int .i64 x.a.2, .int .i64 x.b.1, .int .i64 x.b.2, .bool x.on, .int .i64 x.why, .int .i64 x.s.kind, .int .i64 x.s.fr.1, .int .i64 x.s.fr.2, .int .i64 x.s.to_.1, .int .i64 x.s.to_.2, .int .i64 x.s.ref, .int .i64 x.s.why, .int .i64 x.s.tag, .string (bs x.s.body)]
abbrev r64 (n : Int) : Prop := -9223372036854775808 ≤ n ∧ n ≤ 9223372036854775807
def okSt (x : StepD) : Prop := r64 x.kind ∧ r64 x.a.2 ∧ r64 x.b.2 ∧ r64 x.why
theorem fitsSt (cs : List Value) (h : fitsL [.int .i64, .int .i64, .int .i64, .int .i64, .int .i64, .bool, .int .i64, .int .i64, .int .i64, .int .i64, .int .i64, .int .i64, .int .i64, .int .i64, .int .i64, .str] cs) : ∃ x, cs = enSt x ∧ okSt x := by
  obtain ⟨_, _, rfl, ⟨k, rfl, hk⟩, _, _, rfl, ⟨a1, rfl, _⟩, _, _, rfl, ⟨a2, rfl, ha⟩, _, _, rfl, ⟨b1, rfl, _⟩, _, _, rfl, ⟨b2, rfl, hb⟩, _, _, rfl, ⟨on, rfl⟩, _, _, rfl, ⟨y, rfl, hy⟩, _, _, rfl, ⟨s1, rfl, _⟩, _, _, rfl, ⟨s2, rfl, _⟩, _, _, rfl, ⟨s3, rfl, _⟩, _, _, rfl, ⟨s4, rfl, _⟩, _, _, rfl, ⟨s5, rfl, _⟩, _, _, rfl, ⟨s6, rfl, _⟩, _, _, rfl, ⟨s7, rfl, _⟩, _, _, rfl, ⟨s8, rfl, _⟩, _, _, rfl, ⟨st, rfl, _⟩, rfl⟩ := h
  exact ⟨⟨k, (a1, a2), (b1, b2), on, y, ⟨s1, (s2, s3), (s4, s5), s6, s7, s8, st⟩⟩, rfl, hk, ha, hb, hy⟩
section
variable {g : Glob} {w : World} {l : List As}
theorem step_ (H : Sat g w l) (n m : Int) (hm : 0 < m ∧ m ≤ 1000) (hn : -9223372036854775808 ≤ n ∧ n ≤ 9223372036854775807) : Fc Try.prog 18 #[.int .i64 n, .int .i64 m] w (fun v w' => ∃ k, v = .int .i64 k ∧ k = n % m ∧ 0 ≤ k ∧ k < m ∧ Sat g w' l) := by
  refine Fc.of Try.func18 rfl (by kernel_rfl) ?_
  refine CallP.mk (Fc.imp (Go.Proofs.Yticdhdpfimpmoaa.Proc.rest_ H _ _ ?_ ?_) ?_)
  · assumption
  · assumption
  clear H
  rintro _ w1 ⟨k1, ⟨rfl, ⟨h1, ⟨h2, ⟨h3, H⟩⟩⟩⟩⟩
  refine Done.mk ?_
  refine ⟨k1, ?_⟩
  refine ⟨?_, ?_⟩
  · refine int_eq ?_
    omega
  refine ⟨?_, ?_⟩
  · assumption
  refine ⟨?_, ?_⟩
  · assumption
  refine ⟨?_, ?_⟩
  · assumption
  exact H
theorem see0_ {Inv : Tr → List ActV → List SigD → Prop} : SeeC 22 [] Inv (fun tr => sts []) := by
  intro g w l tr s f vo q xa xa' h0 hT H
  refine Fc.of Try.func22 rfl (by kernel_rfl) ?_
  refine rBoxS H ?_
  clear H
  intro p1 w1 H
  refine rBoxS H ?_
  clear H
  intro p2 w2 H
  clear w1
  refine Done.mk ?_
  exact (H.del 0).del 0
theorem linkF_len {nd : Int} {xa xa' : List ActV} {a b : PidD} {sg : List SigD} {e : Int} (h : linkF nd xa a b = (xa', sg, e)) : xa'.length = xa.length := by
  unfold linkF at h
  split at h
  · obtain rfl := (Prod.mk.inj h).1; rfl
  · (repeat' split at h) <;> (obtain rfl := (Prod.mk.inj h).1) <;> first | rfl | exact List.length_set
theorem unlinkF_len {nd : Int} {xa xa' : List ActV} {a b : PidD} {sg : List SigD} {e : Int} (h : unlinkF nd xa a b = (xa', sg, e)) : xa'.length = xa.length := by
  unfold unlinkF at h
  split at h
  · obtain rfl := (Prod.mk.inj h).1; rfl
  · (repeat' split at h) <;> (obtain rfl := (Prod.mk.inj h).1) <;> first | rfl | exact List.length_set
theorem trapF_len {nd : Int} {xa xa' : List ActV} {a : PidD} {on b : Bool} (h : trapF nd xa a on = (xa', b)) : xa'.length = xa.length := by
  unfold trapF at h
  split at h
  · obtain rfl := (Prod.mk.inj h).1; rfl
  · obtain rfl := (Prod.mk.inj h).1; exact List.length_set
theorem endR_len {nd : Int} {xa xa' : List ActV} {a : PidD} {sg : List SigD} {why e : Int} (h : EndR nd xa a why xa' sg e) : xa'.length = xa.length := by
  cases hn : liveAt nd xa a with
  | none => rw [(h.no hn).1]
  | some x => obtain ⟨ks, _, rfl, _⟩ := h.yes x hn; exact List.length_set
section
variable {p : Nat} {va : Value} {refs : Int} {xa : List ActV}
theorem linkL (H : Sat g w (Pt p [.int .i64 0, va, .int .i64 refs] 100 :: Sl 82 5 enAc va xa :: Acts xa :: l)) (hE : EP xa []) (a2 b2 : Int) (ha : 1 ≤ a2 ∧ a2 ≤ 8) (hb : 1 ≤ b2 ∧ b2 ≤ 8) : Fc Try.prog 19 #[.pointer (some ⟨p, 0, none⟩), .agg #[.int .i64 0, .int .i64 a2], .agg #[.int .i64 0, .int .i64 b2]] w (fun r w' => ∃ v xa' sg e, r = .tuple #[v, .int .i64 e] ∧ LkI [] xa' sg ∧ sg.length ≤ 100 ∧ xa'.length = xa.length ∧ Sat g w' (Sl 40 9 enSi v sg :: Pt p [.int .i64 0, va, .int .i64 refs] 100 :: Sl 82 5 enAc va xa' :: Acts xa' :: l)) := by
  have := hE.len
  refine Fc.imp (link_ H 0 a2 0 b2 (by omega) (by omega)) ?_
  rintro r w' ⟨v, xa', sg, e, hr, hF, H⟩
  obtain ⟨h1, h2⟩ := ep_link hE ⟨rfl, ha⟩ ⟨rfl, hb⟩ hF
  exact ⟨v, xa', sg, e, hr, h1, by omega, linkF_len hF, H⟩
theorem unlinkL (H : Sat g w (Pt p [.int .i64 0, va, .int .i64 refs] 100 :: Sl 82 5 enAc va xa :: Acts xa :: l)) (hE : EP xa []) (a2 b2 : Int) (ha : 1 ≤ a2 ∧ a2 ≤ 8) (hb : 1 ≤ b2 ∧ b2 ≤ 8) : Fc Try.prog 20 #[.pointer (some ⟨p, 0, none⟩), .agg #[.int .i64 0, .int .i64 a2], .agg #[.int .i64 0, .int .i64 b2]] w (fun r w' => ∃ v xa' sg e, r = .tuple #[v, .int .i64 e] ∧ LkI [] xa' sg ∧ sg.length ≤ 100 ∧ xa'.length = xa.length ∧ Sat g w' (Sl 40 9 enSi v sg :: Pt p [.int .i64 0, va, .int .i64 refs] 100 :: Sl 82 5 enAc va xa' :: Acts xa' :: l)) := by
  have := hE.len
  refine Fc.imp (unlink_ H 0 a2 0 b2 (by omega) (by omega)) ?_
  rintro r w' ⟨v, xa', sg, e, hr, hF, H⟩
  obtain ⟨h1, h2⟩ := ep_unlink hE ⟨rfl, ha⟩ ⟨rfl, hb⟩ hF
  exact ⟨v, xa', sg, e, hr, h1, by omega, unlinkF_len hF, H⟩
theorem trapL (H : Sat g w (Pt p [.int .i64 0, va, .int .i64 refs] 100 :: Sl 82 5 enAc va xa :: Acts xa :: l)) (hE : EP xa []) (a2 : Int) (on : Bool) (ha : 1 ≤ a2 ∧ a2 ≤ 8) : Fc Try.prog 21 #[.pointer (some ⟨p, 0, none⟩), .agg #[.int .i64 0, .int .i64 a2], .bool on] w (fun r w' => ∃ b xa', r = .bool b ∧ LkI [] xa' [] ∧ xa'.length = xa.length ∧ Sat g w' (Pt p [.int .i64 0, va, .int .i64 refs] 100 :: Sl 82 5 enAc va xa' :: Acts xa' :: l)) := by
  have := hE.len
  refine Fc.imp (trap_ H 0 a2 on (by omega) (by omega)) ?_
  rintro r w' ⟨b, xa', hr, hF, H⟩
  exact ⟨b, xa', hr, LkI.start (ep_trap hE hF) (Nat.zero_le _), trapF_len hF, H⟩
theorem endL (H : Sat g w (Pt p [.int .i64 0, va, .int .i64 refs] 100 :: Sl 82 5 enAc va xa :: Acts xa :: l)) (hE : EP xa []) (a2 why : Int) (ha : 1 ≤ a2 ∧ a2 ≤ 8) (hw : 0 ≤ why ∧ why ≤ 255) : Fc Try.prog 12 #[.pointer (some ⟨p, 0, none⟩), .agg #[.int .i64 0, .int .i64 a2], .int .i64 why] w (fun r w' => ∃ v xa' sg e, r = .tuple #[v, .int .i64 e] ∧ LkI [] xa' sg ∧ sg.length ≤ 100 ∧ xa'.length = xa.length ∧ Sat g w' (Sl 40 9 enSi v sg :: Pt p [.int .i64 0, va, .int .i64 refs] 100 :: Sl 82 5 enAc va xa' :: Acts xa' :: l)) := by
  have := hE.len
  refine Fc.imp (end_ linksC H 0 a2 why (by omega) (by omega) (fun x hx => by have := wf_lim (xa := xa) (hE.wf _ _ hx); exact ⟨this.1, this.2.1⟩)) ?_
  rintro r w' ⟨v, xa', sg, e, hr, hR, H⟩
  obtain ⟨h1, h2⟩ := ep_end hE hw hR
  exact ⟨v, xa', sg, e, hr, h1, h2, endR_len hR, H⟩
theorem aliveY (H : Sat g w (Pt p [.int .i64 0, va, .int .i64 refs] 100 :: Sl 82 5 enAc va xa :: l)) (q1 q2 : Int) (hl : xa.length ≤ 16) (x : ActV) (hn : liveAt 0 xa (q1, q2) = some x) : Fc Try.prog 15 #[.pointer (some ⟨p, 0, none⟩), .agg #[.int .i64 q1, .int .i64 q2]] w (fun r w' => ∃ b, r = .bool b ∧ b = true ∧ Sat g w' (Pt p [.int .i64 0, va, .int .i64 refs] 100 :: Sl 82 5 enAc va xa :: l)) := by
  refine Fc.imp (alive_ H q1 q2 hl (live_rng hn hl)) ?_
  rintro r w' ⟨b, hr, hb, H⟩
  exact ⟨b, hr, by rw [hb, hn]; rfl, H⟩
theorem take_mem {ks : List PidD} {m : Nat} {r x : PidD} (hr : ks[m]? = some r) : x ∈ ks.take (m + 1) ↔ x ∈ ks.take m ∨ x = r := by
  rw [List.take_add_one, hr]
  simp
theorem bk_t {ks : List PidD} {m : Nat} {r x : PidD} {b : Bool} (hr : ks[m]? = some r) (h : b = true ↔ x ∈ ks.take m) (hb : b = true) : true = true ↔ x ∈ ks.take (m + 1) := by
  rw [take_mem hr]
  exact ⟨fun _ => .inl (h.1 hb), fun _ => rfl⟩
theorem bk_f {ks : List PidD} {m : Nat} {r : PidD} {b : Bool} {x1 x2 : Int} (hr : ks[m]? = some r) (h : b = true ↔ (x1, x2) ∈ ks.take m) (hb : b = false) : (vEq r.1 x1 && (vEq r.2 x2 && true)) = true ↔ (x1, x2) ∈ ks.take (m + 1) := by
  rw [take_mem hr, vEq_iff, vEq_iff]
  have hn : ¬ ((x1, x2) ∈ ks.take m) := fun hm => by rw [h.2 hm] at hb; cases hb
  simp only [hn, false_or]
  rw [show ((x1, x2) = r ↔ r.1 = x1 ∧ r.2 = x2) from ⟨fun e => by subst e; exact ⟨rfl, rfl⟩, fun e => Prod.ext e.1.symm e.2.symm⟩]
  simp
/-- With whom p is linked. -/
def KsOf (xa : List ActV) (p : PidD) (ks : List PidD) : Prop := ∀ k, k ∈ ks ↔ ∃ x, liveAt 0 xa p = some x ∧ x.lf k ≠ none
theorem linksA (H : Sat g w (Pt p [.int .i64 0, va, .int .i64 refs] 100 :: Sl 82 5 enAc va xa :: Acts xa :: l)) (hE : EP xa []) (q1 q2 : Int) (hq : 1 ≤ q2 ∧ q2 ≤ 8) : Fc Try.prog 23 #[.pointer (some ⟨p, 0, none⟩), .agg #[.int .i64 q1, .int .i64 q2]] w (fun r w' => ∃ ks, KsOf xa (q1, q2) ks ∧ ks.length ≤ 12 ∧ Sat g w' (Sl 31 2 enPd r ks :: Pt p [.int .i64 0, va, .int .i64 refs] 100 :: Sl 82 5 enAc va xa :: Acts xa :: l)) := by
  have hl := hE.len
  cases hn : liveAt 0 xa (q1, q2) with
  | none =>
    refine Fc.imp (linksN H q1 q2 (by omega) hn (by omega)) ?_
    rintro r w' ⟨rfl, H⟩
    exact ⟨[], fun k => ⟨(fun h => by cases h), fun ⟨x, hx, _⟩ => by rw [hn] at hx; cases hx⟩, Nat.zero_le _, H.sl0 (en := enPd) (s := 2) 31 (fun _ => rfl)⟩
  | some x =>
    refine Fc.imp (linksY H q1 q2 (by omega) x hn (wf_lim (xa := xa) (hE.wf _ _ hn)).1) ?_
    rintro r w' ⟨ks, hk, hl, H⟩
    exact ⟨ks, fun k => (hk.mem k).trans ⟨fun h => ⟨x, hn, h⟩, fun ⟨y, hy, h⟩ => by rw [hn] at hy; obtain rfl := Option.some.inj hy; exact h⟩, hl, H⟩
end
end
theorem procLinked (w : World) (vl : Value) (xs : List StepD) (hx : Rd enSt okSt 16 w vl xs) : Fc Try.prog 5 #[vl] w (fun v w' => v = .bool true ∧ Below w.heap.size w w') := by
  refine Fc.of Try.func5 rfl (by kernel_rfl) ?_
  have H := Sat.start w
  have hx := hx.fz
  have hxl := hx.len
  refine CallP.mk (Fc.imp (Go.Proofs.Yticdhdpfimpmoaa.Proc.crowd_ H (6) ?_) ?_)
  · omega
  clear H
  rintro _ w1 ⟨p1, ⟨va1, ⟨xa1, ⟨rfl, ⟨h1, ⟨h2, H⟩⟩⟩⟩⟩⟩
  refine cF rfl ?_
  refine rLenF hx rfl ?_
  refine LoopP.rule (α := Nat × List ActV × Int) (0, xa1, 0) (fun x_ => [(25, .int .i64 x_.1)]) (fun x_ w_ => (x_.1 ≤ xs.length) ∧ (EP x_.2.1 []) ∧ Sat (froz w) w_ ([Pt p1 [.int .i64 0, va1, .int .i64 x_.2.2] 100, Sl 82 5 enAc va1 x_.2.1, Acts x_.2.1])) (fun x_ => xs.length - x_.1) ?_ ?_ ?_
  · repeat first | exact mt_nil | refine mt_cons rfl ?_ | refine mt_i rfl (by first | omega | (simp only; omega) | (simp; omega) | (simp; done)) ?_
  · try simp only
    refine ⟨?_, ?_⟩
    · omega
    refine ⟨?_, ?_⟩
    · exact ep_new (by omega) (by assumption)
    exact H
  clear H
  rintro ⟨i, xa, refs⟩ f_ w_ ⟨hi, hE, H⟩
  try simp only at hi hE H ⊢
  refine cI (fun c1 => ?_) (fun c1 => ?_)
  rotate_left
  · replace c1 := vLt_f (c1)
    refine Done.mk ?_
    exact ⟨rfl, H.finish⟩
  replace c1 := vLt_t (c1)
  refine bk ?_
  obtain ⟨x1, hx1⟩ : ∃ x, (xs)[(i)]? = some x := ⟨_, List.getElem?_eq_getElem (by omega)⟩
  obtain ⟨b1, o1, E1, F1, hok1⟩ := FSl.elt hx hx1
  refine rIxE E1 rfl rfl rfl ?_
  refine rLdA (H.fat F1) 0 rfl rfl rfl ?_
  refine rAllocS H rfl ?_
  clear H
  intro p2 w2 H
  clear w_
  refine rStAS H 0 rfl rfl rfl rfl ?_
  clear H
  intro w3 H
  clear w2
  refine drawJoin (α := Int × Int × Nat × Nat) (fun x_ => [(7, .pointer (some ⟨x_.2.2.1, 0, none⟩)), (8, .pointer (some ⟨x_.2.2.2, 0, none⟩))]) (fun x_ w_ => (1 ≤ x_.1 ∧ x_.1 ≤ 6) ∧ (1 ≤ x_.2.1 ∧ x_.2.1 ≤ 7) ∧ Sat (froz w) w_ ([Pt x_.2.2.1 [.int .i64 0, .int .i64 x_.1] 31, Pt x_.2.2.2 [.int .i64 0, .int .i64 x_.2.1] 31, Pt p2 (enSt x1) 54, Pt p1 [.int .i64 0, va1, .int .i64 refs] 100, Sl 82 5 enAc va1 xa, Acts xa])) ?_ ?_
  · refine drawtS H [] (.op 0 .pure (.op 1 .pure (.op 2 .held (.op 4 .pure (.op 5 .pure (.op 6 .held (.fork (.op 3 .forced (.fork (.op 7 .forced (.fork (.op 8 .forced (.op 9 .forced (.op 10 .free (.op 11 .free .nil)))) (.op 9 .forced (.op 8 .forced (.op 10 .free (.op 11 .free .nil)))))) (.fork (.op 8 .forced (.fork (.op 7 .forced (.op 9 .forced (.op 10 .free (.op 11 .free .nil)))) (.op 9 .forced (.op 7 .free (.op 10 .free (.op 11 .free .nil)))))) (.op 9 .forced (.fork (.op 7 .forced (.op 8 .forced (.op 10 .free (.op 11 .free .nil)))) (.op 8 .forced (.op 7 .free (.op 10 .free (.op 11 .free .nil))))))))) (.fork (.op 8 .forced (.fork (.op 3 .forced (.fork (.op 7 .forced (.op 9 .forced (.op 10 .free (.op 11 .free .nil)))) (.op 9 .forced (.op 7 .free (.op 10 .free (.op 11 .free .nil)))))) (.op 9 .forced (.op 3 .forced (.op 7 .free (.op 10 .free (.op 11 .free .nil))))))) (.op 9 .forced (.fork (.op 3 .forced (.fork (.op 7 .forced (.op 8 .forced (.op 10 .free (.op 11 .free .nil)))) (.op 8 .forced (.op 7 .free (.op 10 .free (.op 11 .free .nil)))))) (.op 8 .forced (.op 3 .forced (.op 7 .free (.op 10 .free (.op 11 .free .nil))))))))))))))) mixed (by kernel_rfl) ?_
    clear H
    intro w2 H
    clear w3
    refine tk (fun wx HS => rFieldAt rfl ⟨rfl, rfl⟩) ?_
    refine tk (fun wx HS => rFieldAt rfl ⟨rfl, rfl⟩) ?_
    refine tk (fun wx HS => rLd (HS.at 0 rfl) 2 rfl rfl rfl ⟨rfl, rfl⟩) ?_
    refine tk (fun wx HS => rFieldAt rfl ⟨rfl, rfl⟩) ?_
    refine tk (fun wx HS => rFieldAt rfl ⟨rfl, rfl⟩) ?_
    refine tk (fun wx HS => rLd (HS.at 0 rfl) 4 rfl rfl rfl ⟨rfl, rfl⟩) ?_
    refine ⟨?_, ?_⟩
    · refine CallP.mk (Fc.imp (Go.Proofs.Yticdhdpfimpmoaa.Proc.one_ H _ _ ?_ ?_) ?_)
      · omega
      · exact hok1.2.1
      clear H
      rintro _ w3 ⟨k1, ⟨rfl, ⟨h3, ⟨h4, ⟨h5, H⟩⟩⟩⟩⟩
      refine KeepP.mk (H) ?_
      refine ⟨?_, ?_⟩
      · refine CallP.mk (Fc.imp (Go.Proofs.Yticdhdpfimpmoaa.Proc.one_ H _ _ ?_ ?_) ?_)
        · omega
        · exact hok1.2.2.1
        clear H
        rintro _ w4 ⟨k2, ⟨rfl, ⟨h6, ⟨h7, ⟨h8, H⟩⟩⟩⟩⟩
        refine KeepP.mk (H) ?_
        refine ⟨?_, ?_⟩
        · refine rAllocS H rfl ?_
          clear H
          intro p3 w5 H
          clear w4
          refine KeepP.mk (H.drop 0 (fun H => H)) ?_
          refine rAllocS H rfl ?_
          clear H
          intro p4 w4 H
          clear w5
          refine KeepP.mk (H.drop 1 (fun H => H.drop 0 (fun H => H))) ?_
          refine rStAS H 1 rfl rfl rfl rfl ?_
          clear H
          intro w5 H
          clear w4
          refine rStAS H 0 rfl rfl rfl rfl ?_
          clear H
          intro w4 H
          clear w5
          refine Jn.mk ((k1, k2, p3, p4)) (mt_cons rfl (mt_cons rfl (mt_nil))) ?_
          refine ⟨?_, ?_⟩
          · refine ⟨?_, ?_⟩
            · assumption
            assumption
          refine ⟨?_, ?_⟩
          · refine ⟨?_, ?_⟩
            · assumption
            assumption
          refine H.fronts [5, 5, 5, 5, 4, 5] ?_
          clear H
          intro H
          exact H
        refine rAllocS H rfl ?_
        clear H
        intro p3 w5 H
        clear w4
        refine KeepP.mk (H.drop 0 (fun H => H)) ?_
        refine rAllocS H rfl ?_
        clear H
        intro p4 w4 H
        clear w5
        refine KeepP.mk (H.drop 1 (fun H => H.drop 0 (fun H => H))) ?_
        refine rStAS H 0 rfl rfl rfl rfl ?_
        clear H
        intro w5 H
        clear w4
        refine rStAS H 1 rfl rfl rfl rfl ?_
        clear H
        intro w4 H
        clear w5
        refine Jn.mk ((k1, k2, p4, p3)) (mt_cons rfl (mt_cons rfl (mt_nil))) ?_
        refine ⟨?_, ?_⟩
        · refine ⟨?_, ?_⟩
          · assumption
          assumption
        refine ⟨?_, ?_⟩
        · refine ⟨?_, ?_⟩
          · assumption
          assumption
        exact H
      refine ⟨?_, ?_⟩
      · refine rAllocS H rfl ?_
        clear H
        intro p3 w4 H
        clear w3
        refine KeepP.mk (H.drop 0 (fun H => H)) ?_
        refine ⟨?_, ?_⟩
        · refine CallP.mk (Fc.imp (Go.Proofs.Yticdhdpfimpmoaa.Proc.one_ H _ _ ?_ ?_) ?_)
          · omega
          · exact hok1.2.2.1
          clear H
          rintro _ w3 ⟨k2, ⟨rfl, ⟨h6, ⟨h7, ⟨h8, H⟩⟩⟩⟩⟩
          refine KeepP.mk (H.drop 0 (fun H => H)) ?_
          refine rAllocS H rfl ?_
          clear H
          intro p4 w5 H
          clear w3
          refine KeepP.mk (H.drop 1 (fun H => H.drop 0 (fun H => H))) ?_
          refine rStAS H 1 rfl rfl rfl rfl ?_
          clear H
          intro w3 H
          clear w5
          refine rStAS H 0 rfl rfl rfl rfl ?_
          clear H
          intro w5 H
          clear w3
          refine Jn.mk ((k1, k2, p3, p4)) (mt_cons rfl (mt_cons rfl (mt_nil))) ?_
          refine ⟨?_, ?_⟩
          · refine ⟨?_, ?_⟩
            · assumption
            assumption
          refine ⟨?_, ?_⟩
          · refine ⟨?_, ?_⟩
            · assumption
            assumption
          refine H.fronts [5, 5, 5, 5, 4, 5] ?_
          clear H
          intro H
          exact H
        refine rAllocS H rfl ?_
        clear H
        intro p4 w3 H
        clear w4
        refine KeepP.mk (H.drop 1 (fun H => H.drop 0 (fun H => H))) ?_
        refine CallP.mk (Fc.imp (Go.Proofs.Yticdhdpfimpmoaa.Proc.one_ H _ _ ?_ ?_) ?_)
        · omega
        · exact hok1.2.2.1
        clear H
        rintro _ w4 ⟨k2, ⟨rfl, ⟨h6, ⟨h7, ⟨h8, H⟩⟩⟩⟩⟩
        refine rStAS H 1 rfl rfl rfl rfl ?_
        clear H
        intro w5 H
        clear w4
        refine rStAS H 0 rfl rfl rfl rfl ?_
        clear H
        intro w4 H
        clear w5
        refine Jn.mk ((k1, k2, p3, p4)) (mt_cons rfl (mt_cons rfl (mt_nil))) ?_
        refine ⟨?_, ?_⟩
        · refine ⟨?_, ?_⟩
          · assumption
          assumption
        refine ⟨?_, ?_⟩
        · refine ⟨?_, ?_⟩
          · assumption
          assumption
        refine H.fronts [5, 5, 5, 5, 4, 5] ?_
        clear H
        intro H
        exact H
      refine rAllocS H rfl ?_
      clear H
      intro p3 w4 H
      clear w3
      refine KeepP.mk (H.drop 0 (fun H => H)) ?_
      refine ⟨?_, ?_⟩
      · refine CallP.mk (Fc.imp (Go.Proofs.Yticdhdpfimpmoaa.Proc.one_ H _ _ ?_ ?_) ?_)
        · omega
        · exact hok1.2.2.1
        clear H
        rintro _ w3 ⟨k2, ⟨rfl, ⟨h6, ⟨h7, ⟨h8, H⟩⟩⟩⟩⟩
        refine KeepP.mk (H.drop 0 (fun H => H)) ?_
        refine rAllocS H rfl ?_
        clear H
        intro p4 w5 H
        clear w3
        refine KeepP.mk (H.drop 1 (fun H => H.drop 0 (fun H => H))) ?_
        refine rStAS H 0 rfl rfl rfl rfl ?_
        clear H
        intro w3 H
        clear w5
        refine rStAS H 1 rfl rfl rfl rfl ?_
        clear H
        intro w5 H
        clear w3
        refine Jn.mk ((k1, k2, p4, p3)) (mt_cons rfl (mt_cons rfl (mt_nil))) ?_
        refine ⟨?_, ?_⟩
        · refine ⟨?_, ?_⟩
          · assumption
          assumption
        refine ⟨?_, ?_⟩
        · refine ⟨?_, ?_⟩
          · assumption
          assumption
        exact H
      refine rAllocS H rfl ?_
      clear H
      intro p4 w3 H
      clear w4
      refine KeepP.mk (H.drop 1 (fun H => H.drop 0 (fun H => H))) ?_
      refine CallP.mk (Fc.imp (Go.Proofs.Yticdhdpfimpmoaa.Proc.one_ H _ _ ?_ ?_) ?_)
      · omega
      · exact hok1.2.2.1
      clear H
      rintro _ w4 ⟨k2, ⟨rfl, ⟨h6, ⟨h7, ⟨h8, H⟩⟩⟩⟩⟩
      refine rStAS H 0 rfl rfl rfl rfl ?_
      clear H
      intro w5 H
      clear w4
      refine rStAS H 1 rfl rfl rfl rfl ?_
      clear H
      intro w4 H
      clear w5
      refine Jn.mk ((k1, k2, p4, p3)) (mt_cons rfl (mt_cons rfl (mt_nil))) ?_
      refine ⟨?_, ?_⟩
      · refine ⟨?_, ?_⟩
        · assumption
        assumption
      refine ⟨?_, ?_⟩
      · refine ⟨?_, ?_⟩
        · assumption
        assumption
      exact H
    refine ⟨?_, ?_⟩
    · refine rAllocS H rfl ?_
      clear H
      intro p3 w3 H
      clear w2
      refine KeepP.mk (H.drop 0 (fun H => H)) ?_
      refine ⟨?_, ?_⟩
      · refine CallP.mk (Fc.imp (Go.Proofs.Yticdhdpfimpmoaa.Proc.one_ H _ _ ?_ ?_) ?_)
        · omega
        · exact hok1.2.1
        clear H
        rintro _ w2 ⟨k1, ⟨rfl, ⟨h3, ⟨h4, ⟨h5, H⟩⟩⟩⟩⟩
        refine KeepP.mk (H.drop 0 (fun H => H)) ?_
        refine ⟨?_, ?_⟩
        · refine CallP.mk (Fc.imp (Go.Proofs.Yticdhdpfimpmoaa.Proc.one_ H _ _ ?_ ?_) ?_)
          · omega
          · exact hok1.2.2.1
          clear H
          rintro _ w4 ⟨k2, ⟨rfl, ⟨h6, ⟨h7, ⟨h8, H⟩⟩⟩⟩⟩
          refine KeepP.mk (H.drop 0 (fun H => H)) ?_
          refine rAllocS H rfl ?_
          clear H
          intro p4 w5 H
          clear w4
          refine KeepP.mk (H.drop 1 (fun H => H.drop 0 (fun H => H))) ?_
          refine rStAS H 1 rfl rfl rfl rfl ?_
          clear H
          intro w4 H
          clear w5
          refine rStAS H 0 rfl rfl rfl rfl ?_
          clear H
          intro w5 H
          clear w4
          refine Jn.mk ((k1, k2, p3, p4)) (mt_cons rfl (mt_cons rfl (mt_nil))) ?_
          refine ⟨?_, ?_⟩
          · refine ⟨?_, ?_⟩
            · assumption
            assumption
          refine ⟨?_, ?_⟩
          · refine ⟨?_, ?_⟩
            · assumption
            assumption
          refine H.fronts [5, 5, 5, 5, 4, 5] ?_
          clear H
          intro H
          exact H
        refine rAllocS H rfl ?_
        clear H
        intro p4 w4 H
        clear w2
        refine KeepP.mk (H.drop 1 (fun H => H.drop 0 (fun H => H))) ?_
        refine CallP.mk (Fc.imp (Go.Proofs.Yticdhdpfimpmoaa.Proc.one_ H _ _ ?_ ?_) ?_)
        · omega
        · exact hok1.2.2.1
        clear H
        rintro _ w2 ⟨k2, ⟨rfl, ⟨h6, ⟨h7, ⟨h8, H⟩⟩⟩⟩⟩
        refine rStAS H 1 rfl rfl rfl rfl ?_
        clear H
        intro w5 H
        clear w2
        refine rStAS H 0 rfl rfl rfl rfl ?_
        clear H
        intro w2 H
        clear w5
        refine Jn.mk ((k1, k2, p3, p4)) (mt_cons rfl (mt_cons rfl (mt_nil))) ?_
        refine ⟨?_, ?_⟩
        · refine ⟨?_, ?_⟩
          · assumption
          assumption
        refine ⟨?_, ?_⟩
        · refine ⟨?_, ?_⟩
          · assumption
          assumption
        refine H.fronts [5, 5, 5, 5, 4, 5] ?_
        clear H
        intro H
        exact H
      refine rAllocS H rfl ?_
      clear H
      intro p4 w2 H
      clear w3
      refine KeepP.mk (H.drop 1 (fun H => H.drop 0 (fun H => H))) ?_
      refine CallP.mk (Fc.imp (Go.Proofs.Yticdhdpfimpmoaa.Proc.one_ H _ _ ?_ ?_) ?_)
      · omega
      · exact hok1.2.1
      clear H
      rintro _ w3 ⟨k1, ⟨rfl, ⟨h3, ⟨h4, ⟨h5, H⟩⟩⟩⟩⟩
      refine KeepP.mk (H.drop 1 (fun H => H.drop 0 (fun H => H))) ?_
      refine CallP.mk (Fc.imp (Go.Proofs.Yticdhdpfimpmoaa.Proc.one_ H _ _ ?_ ?_) ?_)
      · omega
      · exact hok1.2.2.1
      clear H
      rintro _ w4 ⟨k2, ⟨rfl, ⟨h6, ⟨h7, ⟨h8, H⟩⟩⟩⟩⟩
      refine rStAS H 1 rfl rfl rfl rfl ?_
      clear H
      intro w5 H
      clear w4
      refine rStAS H 0 rfl rfl rfl rfl ?_
      clear H
      intro w4 H
      clear w5
      refine Jn.mk ((k1, k2, p3, p4)) (mt_cons rfl (mt_cons rfl (mt_nil))) ?_
      refine ⟨?_, ?_⟩
      · refine ⟨?_, ?_⟩
        · assumption
        assumption
      refine ⟨?_, ?_⟩
      · refine ⟨?_, ?_⟩
        · assumption
        assumption
      refine H.fronts [5, 5, 5, 5, 4, 5] ?_
      clear H
      intro H
      exact H
    refine rAllocS H rfl ?_
    clear H
    intro p3 w3 H
    clear w2
    refine KeepP.mk (H.drop 0 (fun H => H)) ?_
    refine ⟨?_, ?_⟩
    · refine CallP.mk (Fc.imp (Go.Proofs.Yticdhdpfimpmoaa.Proc.one_ H _ _ ?_ ?_) ?_)
      · omega
      · exact hok1.2.1
      clear H
      rintro _ w2 ⟨k1, ⟨rfl, ⟨h3, ⟨h4, ⟨h5, H⟩⟩⟩⟩⟩
      refine KeepP.mk (H.drop 0 (fun H => H)) ?_
      refine ⟨?_, ?_⟩
      · refine CallP.mk (Fc.imp (Go.Proofs.Yticdhdpfimpmoaa.Proc.one_ H _ _ ?_ ?_) ?_)
        · omega
        · exact hok1.2.2.1
        clear H
        rintro _ w4 ⟨k2, ⟨rfl, ⟨h6, ⟨h7, ⟨h8, H⟩⟩⟩⟩⟩
        refine KeepP.mk (H.drop 0 (fun H => H)) ?_
        refine rAllocS H rfl ?_
        clear H
        intro p4 w5 H
        clear w4
        refine KeepP.mk (H.drop 1 (fun H => H.drop 0 (fun H => H))) ?_
        refine rStAS H 0 rfl rfl rfl rfl ?_
        clear H
        intro w4 H
        clear w5
        refine rStAS H 1 rfl rfl rfl rfl ?_
        clear H
        intro w5 H
        clear w4
        refine Jn.mk ((k1, k2, p4, p3)) (mt_cons rfl (mt_cons rfl (mt_nil))) ?_
        refine ⟨?_, ?_⟩
        · refine ⟨?_, ?_⟩
          · assumption
          assumption
        refine ⟨?_, ?_⟩
        · refine ⟨?_, ?_⟩
          · assumption
          assumption
        exact H
      refine rAllocS H rfl ?_
      clear H
      intro p4 w4 H
      clear w2
      refine KeepP.mk (H.drop 1 (fun H => H.drop 0 (fun H => H))) ?_
      refine CallP.mk (Fc.imp (Go.Proofs.Yticdhdpfimpmoaa.Proc.one_ H _ _ ?_ ?_) ?_)
      · omega
      · exact hok1.2.2.1
      clear H
      rintro _ w2 ⟨k2, ⟨rfl, ⟨h6, ⟨h7, ⟨h8, H⟩⟩⟩⟩⟩
      refine rStAS H 0 rfl rfl rfl rfl ?_
      clear H
      intro w5 H
      clear w2
      refine rStAS H 1 rfl rfl rfl rfl ?_
      clear H
      intro w2 H
      clear w5
      refine Jn.mk ((k1, k2, p4, p3)) (mt_cons rfl (mt_cons rfl (mt_nil))) ?_
      refine ⟨?_, ?_⟩
      · refine ⟨?_, ?_⟩
        · assumption
        assumption
      refine ⟨?_, ?_⟩
      · refine ⟨?_, ?_⟩
        · assumption
        assumption
      exact H
    refine rAllocS H rfl ?_
    clear H
    intro p4 w2 H
    clear w3
    refine KeepP.mk (H.drop 1 (fun H => H.drop 0 (fun H => H))) ?_
    refine CallP.mk (Fc.imp (Go.Proofs.Yticdhdpfimpmoaa.Proc.one_ H _ _ ?_ ?_) ?_)
    · omega
    · exact hok1.2.1
    clear H
    rintro _ w3 ⟨k1, ⟨rfl, ⟨h3, ⟨h4, ⟨h5, H⟩⟩⟩⟩⟩
    refine KeepP.mk (H.drop 1 (fun H => H.drop 0 (fun H => H))) ?_
    refine CallP.mk (Fc.imp (Go.Proofs.Yticdhdpfimpmoaa.Proc.one_ H _ _ ?_ ?_) ?_)
    · omega
    · exact hok1.2.2.1
    clear H
    rintro _ w4 ⟨k2, ⟨rfl, ⟨h6, ⟨h7, ⟨h8, H⟩⟩⟩⟩⟩
    refine rStAS H 0 rfl rfl rfl rfl ?_
    clear H
    intro w5 H
    clear w4
    refine rStAS H 1 rfl rfl rfl rfl ?_
    clear H
    intro w4 H
    clear w5
    refine Jn.mk ((k1, k2, p4, p3)) (mt_cons rfl (mt_cons rfl (mt_nil))) ?_
    refine ⟨?_, ?_⟩
    · refine ⟨?_, ?_⟩
      · assumption
      assumption
    refine ⟨?_, ?_⟩
    · refine ⟨?_, ?_⟩
      · assumption
      assumption
    exact H
  clear H
  rintro ⟨k1, k2, p3, p4⟩ f_ w_ ⟨hk1, hk2, H⟩
  try simp only at hk1 hk2 H ⊢
  refine rFieldAt rfl ?_
  refine rLd (H.at 2 rfl) 0 rfl rfl rfl ?_
  refine CallP.mk (Fc.imp (Go.Proofs.Yticdhdpfimpmoaa.Proc.step_ H _ _ ?_ ?_) ?_)
  · omega
  · exact hok1.1
  clear H
  rintro _ w2 ⟨k3, ⟨rfl, ⟨h3, ⟨h4, ⟨h5, H⟩⟩⟩⟩⟩
  replace H := H.sl0 (en := enSi) (s := 9) 40 (fun _ => rfl)
  refine block_join (α := Value × List ActV × List SigD) (fun x_ => [(9, x_.1)]) (fun x_ w_ => (LkI [] x_.2.1 x_.2.2) ∧ (x_.2.2.length ≤ 100) ∧ Sat (froz w) w_ ([Sl 40 9 enSi x_.1 x_.2.2, Pt p1 [.int .i64 0, va1, .int .i64 refs] 100, Sl 82 5 enAc va1 x_.2.1, Acts x_.2.1])) ?_ ?_
  · refine cI (fun c2 => ?_) (fun c2 => ?_)
    · replace c2 := vEq_t (c2)
      refine rLdA (H.at 1 rfl) 0 rfl rfl rfl ?_
      refine rLdA (H.at 2 rfl) 0 rfl rfl rfl ?_
      refine H.fronts [6, 6, 6] ?_
      clear H
      intro H
      refine CallP.mk (Fc.imp (Go.Proofs.Yticdhdpfimpmoaa.Proc.linkL H ?_ _ _ ?_ ?_) ?_)
      · assumption
      · omega
      · omega
      clear H
      rintro _ w4 ⟨v1, ⟨xa'1, ⟨sg1, ⟨e1, ⟨rfl, ⟨h6, ⟨h7, ⟨h8, H⟩⟩⟩⟩⟩⟩⟩⟩
      refine Jn.mk ((v1, xa'1, sg1)) (mt_cons rfl (mt_nil)) ?_
      refine ⟨?_, ?_⟩
      · assumption
      refine ⟨?_, ?_⟩
      · assumption
      refine H.firsts 4 ?_
      clear H
      intro H
      exact H
    replace c2 := vEq_f (c2)
    refine cI (fun c3 => ?_) (fun c3 => ?_)
    · replace c3 := vEq_t (c3)
      refine rLdA (H.at 1 rfl) 0 rfl rfl rfl ?_
      refine rLdA (H.at 2 rfl) 0 rfl rfl rfl ?_
      refine H.fronts [6, 6, 6] ?_
      clear H
      intro H
      refine CallP.mk (Fc.imp (Go.Proofs.Yticdhdpfimpmoaa.Proc.unlinkL H ?_ _ _ ?_ ?_) ?_)
      · assumption
      · omega
      · omega
      clear H
      rintro _ w4 ⟨v1, ⟨xa'1, ⟨sg1, ⟨e1, ⟨rfl, ⟨h6, ⟨h7, ⟨h8, H⟩⟩⟩⟩⟩⟩⟩⟩
      refine Jn.mk ((v1, xa'1, sg1)) (mt_cons rfl (mt_nil)) ?_
      refine ⟨?_, ?_⟩
      · assumption
      refine ⟨?_, ?_⟩
      · assumption
      refine H.firsts 4 ?_
      clear H
      intro H
      exact H
    replace c3 := vEq_f (c3)
    refine cI (fun c4 => ?_) (fun c4 => ?_)
    · replace c4 := vEq_t (c4)
      refine rLdA (H.at 1 rfl) 0 rfl rfl rfl ?_
      refine rFieldAt rfl ?_
      refine rLd (H.at 3 rfl) 5 rfl rfl rfl ?_
      refine H.fronts [6, 6, 6] ?_
      clear H
      intro H
      refine CallP.mk (Fc.imp (Go.Proofs.Yticdhdpfimpmoaa.Proc.trapL H ?_ _ _ ?_) ?_)
      · assumption
      · omega
      clear H
      rintro _ w4 ⟨b2, ⟨xa'1, ⟨rfl, ⟨h6, ⟨h7, H⟩⟩⟩⟩⟩
      refine Jn.mk ((Value.slice none 0 0, xa'1, [])) (mt_cons rfl (mt_nil)) ?_
      refine ⟨?_, ?_⟩
      · assumption
      refine ⟨?_, ?_⟩
      · (simp only [List.length_append, List.length_set, List.length_cons, List.length_nil]; omega)
      refine H.fronts [2, 2, 2, 3] ?_
      clear H
      intro H
      refine H.firsts 4 ?_
      clear H
      intro H
      exact H
    replace c4 := vEq_f (c4)
    refine cT (vEq_T (by omega)) ?_
    refine drawzS H [] [(0, .pure), (1, .held), (2, .pure), (3, .held), (4, .forced), (5, .free), (6, .pure), (7, .pure), (8, .pure), (9, .pure)] mixed (by kernel_rfl) (by kernel_rfl) ?_
    clear H
    intro w4 H
    clear w2
    refine tk (fun wx HS => rLdA (HS.at 1 rfl) 0 rfl rfl rfl ⟨rfl, rfl⟩) ?_
    refine tk (fun wx HS => rFieldAt rfl ⟨rfl, rfl⟩) ?_
    refine tk (fun wx HS => rLd (HS.at 3 rfl) 6 rfl rfl rfl ⟨rfl, rfl⟩) ?_
    refine CallP.mk (Fc.imp (Go.Proofs.Yticdhdpfimpmoaa.Proc.rest_ H _ _ ?_ ?_) ?_)
    · omega
    · exact hok1.2.2.2
    clear H
    rintro _ w2 ⟨k4, ⟨rfl, ⟨h6, ⟨h7, ⟨h8, H⟩⟩⟩⟩⟩
    refine KeepP.mk (H) ?_
    refine H.fronts [6, 6, 6] ?_
    clear H
    intro H
    refine CallP.mk (Fc.imp (Go.Proofs.Yticdhdpfimpmoaa.Proc.endL H ?_ _ _ ?_ ?_) ?_)
    · assumption
    · omega
    · omega
    clear H
    rintro _ w5 ⟨v1, ⟨xa'1, ⟨sg1, ⟨e1, ⟨rfl, ⟨h9, ⟨h10, ⟨h11, H⟩⟩⟩⟩⟩⟩⟩⟩
    refine Jn.mk ((v1, xa'1, sg1)) (mt_cons rfl (mt_nil)) ?_
    refine ⟨?_, ?_⟩
    · assumption
    refine ⟨?_, ?_⟩
    · assumption
    refine H.firsts 4 ?_
    clear H
    intro H
    exact H
  clear H
  rintro ⟨vo, xb, sg⟩ f_ w_ ⟨hL, hs, H⟩
  try simp only at hL hs H ⊢
  
  have Hs := ((((Sat.sts0 H).front (j := 4) rfl).front (j := 4) rfl).front (j := 4) rfl).front (j := 4) rfl
  refine CallP.mk (Fc.imp (signals_ (Z := fun _ => sts []) lkI see0_ hL (by omega) Hs) ?_)
  clear H Hs
  rintro r1 w6 ⟨b6, tr, xc, rfl, hb6, hN, H⟩
  replace H := (H.front (j := 3) rfl).spread
  simp only [List.cons_append, List.nil_append, List.eraseIdx] at H
  have hE6 := hN.fin
  have hl8 := hE6.len
  refine cF (not_F ((by assumption))) ?_
  refine LoopP.rule (α := Nat) (0) (fun x_ => [(80, .int .i64 x_)]) (fun x_ w_ => (x_ ≤ 6) ∧ Sat (froz w) w_ ([Pt p1 [.int .i64 0, va1, .int .i64 refs] 100, Sl 82 5 enAc va1 xc, Acts xc])) (fun x_ => 6 - x_) ?_ ?_ ?_
  · repeat first | exact mt_nil | refine mt_cons rfl ?_ | refine mt_i rfl (by first | omega | (simp only; omega) | (simp; omega) | (simp; done)) ?_
  · try simp only
    refine ⟨?_, ?_⟩
    · omega
    exact H
  clear H
  rintro i2 f_ w_ ⟨hi2, H⟩
  try simp only at hi2 H ⊢
  refine cI (fun c2 => ?_) (fun c2 => ?_)
  rotate_left
  · replace c2 := vLt_f (c2)
    refine eqI64 (by omega) ?_
    refine Nxt.mk ((i + 1, xc, refs)) (mt_i rfl (by first | omega | (simp only; omega) | (simp; omega)) (mt_nil)) ?_ ?_
    · refine ⟨?_, ?_⟩
      · omega
      refine ⟨?_, ?_⟩
      · assumption
      exact H
    omega
  replace c2 := vLt_t (c2)
  refine bk ?_
  refine CallP.mk (Fc.imp (Go.Proofs.Yticdhdpfimpmoaa.Proc.one_ H _ _ ?_ ?_) ?_)
  · omega
  · omega
  clear H
  rintro _ w4 ⟨k4, ⟨rfl, ⟨h6, ⟨h7, ⟨h8, H⟩⟩⟩⟩⟩
  refine rAllocS H rfl ?_
  clear H
  intro p5 w5 H
  clear w4
  refine rStAS H 0 rfl rfl rfl rfl ?_
  clear H
  intro w4 H
  clear w5
  refine rLdA (H.at 0 rfl) 0 rfl rfl rfl ?_
  refine H.fronts [3, 3, 3] ?_
  clear H
  intro H
  refine CallP.mk (Fc.imp (Go.Proofs.Yticdhdpfimpmoaa.Proc.linksA H ?_ _ _ ?_) ?_)
  · assumption
  · omega
  clear H
  rintro v' w5 ⟨ks1, ⟨h9, ⟨h10, H⟩⟩⟩
  refine rLenS H 0 rfl rfl ?_
  refine LoopP.rule (α := Nat) (0) (fun x_ => [(89, .int .i64 x_)]) (fun x_ w_ => (x_ ≤ ks1.length) ∧ Sat (froz w) w_ ([Sl 31 2 enPd v' ks1, Pt p1 [.int .i64 0, va1, .int .i64 refs] 100, Sl 82 5 enAc va1 xc, Acts xc, Pt p5 [.int .i64 0, .int .i64 k4] 31])) (fun x_ => ks1.length - x_) ?_ ?_ ?_
  · repeat first | exact mt_nil | refine mt_cons rfl ?_ | refine mt_i rfl (by first | omega | (simp only; omega) | (simp; omega) | (simp; done)) ?_
  · try simp only
    refine ⟨?_, ?_⟩
    · omega
    exact H
  clear H
  rintro j f_ w_ ⟨hj, H⟩
  try simp only at hj H ⊢
  rcases Nat.lt_or_ge j ks1.length with hlt | hge
  · obtain ⟨q, hq⟩ : ∃ q, ks1[j]? = some q := ⟨_, List.getElem?_eq_getElem hlt⟩
    obtain ⟨x, hx5, hlx⟩ := (h9 q).1 (List.mem_of_getElem? hq)
    obtain ⟨y, hy5, hly⟩ := hE6.both hx5 hlx
    obtain ⟨hq1, hq2⟩ := ((hE6.wf _ _ hx5).keys q hlx).1
    obtain ⟨q1, q2⟩ := q
    simp only at hq1 hq2
    subst hq1
    refine cT (vLt_T (by omega)) ?_
    refine bk ?_
    obtain ⟨b2, o2, E2⟩ := H.elt 0 rfl (j) (by omega)
    refine rIxE E2 rfl rfl rfl ?_
    refine rLdA (H.el 0 rfl E2 hq) 0 rfl rfl rfl ?_
    refine rAllocS H rfl ?_
    clear H
    intro p6 w7 H
    clear w_
    refine rStAS H 0 rfl rfl rfl rfl ?_
    clear H
    intro w8 H
    clear w7
    refine rLdA (H.at 0 rfl) 0 rfl rfl rfl ?_
    refine H.fronts [4, 4, 4] ?_
    clear H
    intro H
    refine CallP.mk (Fc.imp (Go.Proofs.Yticdhdpfimpmoaa.Proc.linksA H ?_ _ _ ?_) ?_)
    · assumption
    · assumption
    clear H
    rintro va' w7 ⟨ks2, ⟨h11, ⟨h12, H⟩⟩⟩
    refine rLenS H 0 rfl rfl ?_
    have hp2 : ((0, k4) : PidD) ∈ ks2 := (h11 (0, k4)).2 ⟨y, hy5, hly⟩
    refine LoopP.rule (α := Nat × Bool) (0, false) (fun x_ => [(97, .int .i64 x_.1), (14, .bool x_.2)]) (fun x_ w_ => (x_.1 ≤ ks2.length) ∧ (x_.2 = true ↔ ((0, k4) : PidD) ∈ ks2.take x_.1) ∧ Sat (froz w) w_ ([Sl 31 2 enPd va' ks2, Pt p1 [.int .i64 0, va1, .int .i64 refs] 100, Sl 82 5 enAc va1 xc, Acts xc, Pt p6 [.int .i64 0, .int .i64 q2] 31, Sl 31 2 enPd v' ks1, Pt p5 [.int .i64 0, .int .i64 k4] 31])) (fun x_ => ks2.length - x_.1) ?_ ?_ ?_
    · repeat first | exact mt_nil | refine mt_cons rfl ?_ | refine mt_i rfl (by first | omega | (simp only; omega) | (simp; omega) | (simp; done)) ?_
    · try simp only
      refine ⟨?_, ?_⟩
      · (simp)
      refine ⟨?_, ?_⟩
      · (simp)
      exact H
    clear H
    rintro ⟨m, back⟩ f_ w_ ⟨hm, hbk, H⟩
    try simp only at hm hbk H ⊢
    rcases Nat.lt_or_ge m ks2.length with hlt2 | hge2
    · obtain ⟨r, hr⟩ : ∃ r, ks2[m]? = some r := ⟨_, List.getElem?_eq_getElem hlt2⟩
      cases back with
      | true =>
        refine cT (vLt_T (by omega)) ?_
        refine bk ?_
        obtain ⟨b3, o3, E3⟩ := H.elt 0 rfl (m) (by omega)
        refine rIxE E3 rfl rfl rfl ?_
        refine rLdA (H.el 0 rfl E3 hr) 0 rfl rfl rfl ?_
        refine rAllocS H rfl ?_
        clear H
        intro p7 w9 H
        clear w_
        refine rStAS H 0 rfl rfl rfl rfl ?_
        clear H
        intro w10 H
        clear w9
        refine eqI64 (by omega) ?_
        refine Nxt.mk ((m + 1, true)) (mt_i rfl (by first | omega | (simp only; omega) | (simp; omega)) (mt_cons rfl (mt_nil))) ?_ ?_
        · refine ⟨?_, ?_⟩
          · assumption
          refine ⟨?_, ?_⟩
          · exact bk_t hr hbk rfl
          refine H.fronts [7, 7, 7, 7, 7, 7, 7] ?_
          clear H
          intro H
          refine H.firsts 7 ?_
          clear H
          intro H
          exact H
        omega
      | false =>
        refine cT (vLt_T (by omega)) ?_
        refine bk ?_
        obtain ⟨b3, o3, E3⟩ := H.elt 0 rfl (m) (by omega)
        refine rIxE E3 rfl rfl rfl ?_
        refine rLdA (H.el 0 rfl E3 hr) 0 rfl rfl rfl ?_
        refine rAllocS H rfl ?_
        clear H
        intro p7 w9 H
        clear w_
        refine rStAS H 0 rfl rfl rfl rfl ?_
        clear H
        intro w10 H
        clear w9
        refine rLdA (H.at 0 rfl) 0 rfl rfl rfl ?_
        refine rLdA (H.at 7 rfl) 0 rfl rfl rfl ?_
        refine rStructEq (by kernel_rfl) (by kernel_rfl) ?_
        refine eqI64 (by omega) ?_
        refine Nxt.mk ((m + 1,
          match vEq r.fst 0 with
          | false => false
          | true => vEq r.snd k4 && true)) (mt_i rfl (by first | omega | (simp only; omega) | (simp; omega)) (mt_cons rfl (mt_nil))) ?_ ?_
        · refine ⟨?_, ?_⟩
          · assumption
          refine ⟨?_, ?_⟩
          · exact bk_f hr hbk rfl
          refine H.fronts [7, 7, 7, 7, 7, 7, 7] ?_
          clear H
          intro H
          refine H.firsts 7 ?_
          clear H
          intro H
          exact H
        omega
    · rw [List.take_of_length_le hge2] at hbk
      have hbt := hbk.2 hp2
      refine cF (vLt_F (by omega)) ?_
      refine rLdA (H.at 6 rfl) 0 rfl rfl rfl ?_
      refine H.fronts [2, 2] ?_
      clear H
      intro H
      refine CallP.mk (Fc.imp (Go.Proofs.Yticdhdpfimpmoaa.Proc.aliveY H _ _ ?_ _ hx5) ?_)
      · omega
      clear H
      rintro _ w9 ⟨b3, ⟨rfl, ⟨h13, H⟩⟩⟩
      refine br_f (not_F ((by assumption))) ?_
      refine rLdA (H.at 4 rfl) 0 rfl rfl rfl ?_
      refine CallP.mk (Fc.imp (Go.Proofs.Yticdhdpfimpmoaa.Proc.aliveY H _ _ ?_ _ hy5) ?_)
      · omega
      clear H
      rintro _ w10 ⟨b4, ⟨rfl, ⟨h14, H⟩⟩⟩
      refine br_f (not_F ((by assumption))) ?_
      refine cF (not_F (hbk.2 (by assumption))) ?_
      refine eqI64 (by omega) ?_
      refine Nxt.mk (j + 1) (mt_i rfl (by first | omega | (simp only; omega) | (simp; omega)) (mt_nil)) ?_ ?_
      · refine ⟨?_, ?_⟩
        · assumption
        refine H.fronts [6, 4, 3, 3, 6] ?_
        clear H
        intro H
        refine H.firsts 5 ?_
        clear H
        intro H
        exact H
      omega
  · refine cF (vLt_F (by omega)) ?_
    refine eqI64 (by omega) ?_
    refine Nxt.mk (i2 + 1) (mt_i rfl (by first | omega | (simp only; omega) | (simp; omega)) (mt_nil)) ?_ ?_
    · refine ⟨?_, ?_⟩
      · omega
      refine H.fronts [3, 3, 3] ?_
      clear H
      intro H
      refine H.firsts 3 ?_
      clear H
      intro H
      exact H
    omega
