/- Texts of this claim, one behind the other. -/
import Derived.Shelf.SlIterI.Sorted
import Derived.Shelf.SortM.Plain
import Derived.Shelf.SortM.SortNone
import Derived.Ground.GgzProg
import Derived.Ground.SlgmProg
import Derived.Test.YticdhdpfimpmoaaProg
import Derived.Test.YticdhdpfimpmoaaM3
import Derived.Test.YticdhdpfimpmoaaM4
/-
  DERIVED: THE SHELF's CONTRACTS AT THIS DUMP, IN PLAIN WORDS (tools/lay-plain.mjs out of 'TryShelf.lean', which tools/lay-shelf.mjs wrote): THE SAME DECLARATIONS UNDER THE SAME NAMES: 'import', 'namespace', 'open', 'def', 'theorem' AND NOTHING ELSE: no command of the shelf's: FOR A HAND-IN. Each laying: the table of numbers ('.._ren') and one theorem, a field a fact of the dump's own or the kernel's comparison; each contract: ONE APPLICATION.
-/
namespace Go.Proofs
open Go.Shelf
def Try.sortedR_ren : Go.Shelf.Ren := ⟨fun | 6 => 41 | 8 => 50 | 9 => 51 | 11 => 57 | 13 => 55 | 12 => 58 | 23 => 67 | 24 => 68 | 14 => 69 | 15 => 70 | 16 => 71 | 17 => 72 | 18 => 73 | 19 => 74 | 20 => 75 | 21 => 76 | 22 => 77 | 25 => 83 | 26 => 79 | 27 => 80 | 28 => 84 | 29 => 85 | 30 => 56 | 31 => 87 | n => n, fun | 26 => 3 | 28 => 103 | 24 => 61 | 0 => 0 | 3 => 3 | 37 => 116 | 48 => 127 | 50 => 129 | 4 => 4 | 40 => 121 | 39 => 120 | 45 => 92 | 5 => 5 | 9 => 9 | 51 => 136 | 55 => 140 | 57 => 144 | 58 => 145 | 33 => 112 | n => n, fun | n => n⟩
theorem Try.sortedR : Go.Proofs.SlLaysZI.n6 Try.prog Try.sortedR_ren := {
  mixed := by kernel_rfl
  f6 := ⟨Try.f41.name, by decide, Try.func41.trans (congrArg some (by kernel_rfl))⟩
  f8 := ⟨Try.f50.name, by decide, Try.func50.trans (congrArg some (by kernel_rfl))⟩
  f11 := ⟨Try.f57.name, by decide, Try.func57.trans (congrArg some (by kernel_rfl))⟩
  t0 := Try.underlying0
  a0 := Try.isAgg0
  z0 := Try.sizeOf0
  v0 := Try.zeroValue0
  t24 := Try.underlying61
  a24 := Try.isAgg61
  z24 := Try.sizeOf61
  v24 := Try.zeroValue61
  t26 := Try.underlying3
  a26 := Try.isAgg3
  z26 := Try.sizeOf3
  v26 := Try.zeroValue3
  t28 := Try.underlying103
  a28 := Try.isAgg103
  z28 := Try.sizeOf103
  v28 := Try.zeroValue103
  i26 := by kernel_rfl }
def Try.sortR_ren : Go.Shelf.Ren := ⟨fun | 5 => 51 | 8 => 55 | 7 => 58 | 19 => 67 | 20 => 68 | 10 => 69 | 11 => 70 | 12 => 71 | 13 => 72 | 14 => 73 | 15 => 74 | 16 => 75 | 17 => 76 | 18 => 77 | 30 => 83 | 31 => 79 | 32 => 80 | 33 => 84 | 34 => 85 | 35 => 56 | 40 => 87 | n => n, fun | 23 => 61 | 25 => 3 | 3 => 3 | 32 => 116 | 22 => 61 | 0 => 0 | 44 => 127 | 46 => 129 | 4 => 4 | 36 => 121 | 35 => 120 | 41 => 92 | 5 => 5 | 9 => 9 | 53 => 136 | 57 => 140 | 63 => 144 | 64 => 145 | n => n, fun | n => n⟩
theorem Try.sortR : Go.Proofs.SlLaysM.n5 Try.prog Try.sortR_ren := {
  mixed := by kernel_rfl
  f5 := ⟨Try.f51.name, by decide, Try.func51.trans (congrArg some (by kernel_rfl))⟩
  f7 := ⟨Try.f58.name, by decide, Try.func58.trans (congrArg some (by kernel_rfl))⟩
  f8 := Try.func55.trans (congrArg some (by kernel_rfl))
  f10 := ⟨Try.f69.name, by decide, Try.func69.trans (congrArg some (by kernel_rfl))⟩
  f11 := ⟨Try.f70.name, by decide, Try.func70.trans (congrArg some (by kernel_rfl))⟩
  f12 := ⟨Try.f71.name, by decide, Try.func71.trans (congrArg some (by kernel_rfl))⟩
  f13 := ⟨Try.f72.name, by decide, Try.func72.trans (congrArg some (by kernel_rfl))⟩
  f14 := ⟨Try.f73.name, by decide, Try.func73.trans (congrArg some (by kernel_rfl))⟩
  f15 := ⟨Try.f74.name, by decide, Try.func74.trans (congrArg some (by kernel_rfl))⟩
  f16 := ⟨Try.f75.name, by decide, Try.func75.trans (congrArg some (by kernel_rfl))⟩
  f17 := ⟨Try.f76.name, by decide, Try.func76.trans (congrArg some (by kernel_rfl))⟩
  f18 := ⟨Try.f77.name, by decide, Try.func77.trans (congrArg some (by kernel_rfl))⟩
  f19 := Try.func67.trans (congrArg some (by kernel_rfl))
  f20 := Try.func68.trans (congrArg some (by kernel_rfl))
  f30 := ⟨Try.f83.name, by decide, Try.func83.trans (congrArg some (by kernel_rfl))⟩
  f31 := Try.func79.trans (congrArg some (by kernel_rfl))
  f32 := Try.func80.trans (congrArg some (by kernel_rfl))
  f33 := ⟨Try.f84.name, by decide, Try.func84.trans (congrArg some (by kernel_rfl))⟩
  f34 := ⟨Try.f85.name, by decide, Try.func85.trans (congrArg some (by kernel_rfl))⟩
  f35 := ⟨Try.f56.name, by decide, Try.func56.trans (congrArg some (by kernel_rfl))⟩
  f40 := ⟨Try.f87.name, by decide, Try.func87.trans (congrArg some (by kernel_rfl))⟩
  t0 := Try.underlying0
  a0 := Try.isAgg0
  z0 := Try.sizeOf0
  v0 := Try.zeroValue0
  t3 := Try.underlying3
  a3 := Try.isAgg3
  z3 := Try.sizeOf3
  v3 := Try.zeroValue3
  t4 := Try.underlying4
  a4 := Try.isAgg4
  z4 := Try.sizeOf4
  v4 := Try.zeroValue4
  t5 := Try.underlying5
  a5 := Try.isAgg5
  z5 := Try.sizeOf5
  v5 := Try.zeroValue5
  t9 := Try.underlying9
  a9 := Try.isAgg9
  z9 := Try.sizeOf9
  v9 := Try.zeroValue9
  t22 := Try.underlying61
  a22 := Try.isAgg61
  z22 := Try.sizeOf61
  v22 := Try.zeroValue61
  t23 := Try.underlying61
  a23 := Try.isAgg61
  z23 := Try.sizeOf61
  v23 := Try.zeroValue61
  t25 := Try.underlying3
  a25 := Try.isAgg3
  z25 := Try.sizeOf3
  v25 := Try.zeroValue3
  t32 := Try.underlying116
  a32 := Try.isAgg116
  z32 := Try.sizeOf116
  v32 := Try.zeroValue116
  t35 := Try.underlying120
  a35 := Try.isAgg120
  z35 := Try.sizeOf120
  v35 := Try.zeroValue120
  t36 := Try.underlying121
  a36 := Try.isAgg121
  z36 := Try.sizeOf121
  v36 := Try.zeroValue121
  t41 := Try.underlying92
  a41 := Try.isAgg92
  z41 := Try.sizeOf92
  v41 := Try.zeroValue92
  t44 := Try.underlying127
  a44 := Try.isAgg127
  z44 := Try.sizeOf127
  v44 := Try.zeroValue127
  t46 := Try.underlying129
  a46 := Try.isAgg129
  z46 := Try.sizeOf129
  v46 := Try.zeroValue129
  t53 := Try.underlying136
  a53 := Try.isAgg136
  z53 := Try.sizeOf136
  v53 := Try.zeroValue136
  t57 := Try.underlying140
  a57 := Try.isAgg140
  z57 := Try.sizeOf140
  v57 := Try.zeroValue140
  t63 := Try.underlying144
  a63 := Try.isAgg144
  z63 := Try.sizeOf144
  v63 := Try.zeroValue144
  t64 := Try.underlying145
  a64 := Try.isAgg145
  z64 := Try.sizeOf145
  v64 := Try.zeroValue145 }
end Go.Proofs
/- maps.Keys over ints; slices.Sorted of it as a contract of mine. -/
set_option maxRecDepth 100000
set_option linter.unusedVariables false
set_option linter.unusedSimpArgs false
namespace Go.Proofs.Yticdhdpfimpmoaa.Proc
open Go Go.RowKit Go.Maps Go.Sort Go.Shelf Go.Proofs.Yticdhdpfimpmoaa.Eng Go.Proofs.Yticdhdpfimpmoaa.Eng.MG
set_option maxHeartbeats 1000000 in
theorem keysI_in (F : Fence) (n : Nat) (hF : F.fn 52) (hro : F.round = none) (hn : 1 ≤ n) (l Bm b clock : Nat) (es : Array MapEntry) (ev : PidD → Value) (m : List (Int × PidD)) (row : es.toList.map kv = m.map (enM ekI ev))
    (born : ∀ e ∈ es.toList, e.born < clock) (apart : (es.toList.map (·.born)).Nodup) (J : List Int → World → Prop)
    (hY : ∀ pre x W, J pre W → pre.length < m.length → YieldAt F (n - 1) Try.prog l #[ekI x] W fun e W' => e = .returned (.bool true) ∧ J (pre ++ [x]) W' ∧ KeepsWalks W W')
    (W : World) (hJ : AbidesFrom W.heap.size J) (hm : W.cell? ⟨Bm, 0, none⟩ = some (.map (some b))) (hb : W.heap[b]? = some (.map es clock)) (h0 : J [] W) :
    CallsIn F n Try.prog 52 #[.func (.yield l) #[] #[], .pointer (some ⟨Bm, 0, none⟩)] W fun e W' => (∃ v, e = .returned v) ∧ ∃ ss : List Int, ss.Perm (m.map (·.1)) ∧ J ss W' := by
  refine callsIn_of_wp Try.func52 rfl hF ?_ hro
  simp only [Try.ntmps52, List.size_toArray, List.length_cons, List.length_nil, Nat.reduceAdd, Nat.reduceSub, Array.replicate_succ, Array.replicate_zero, List.push_toArray, List.append_toArray, List.nil_append, List.cons_append]
  gi_wp2_with (first
    | (gi_at_range; refine wpListIn_range_raw rfl _ _ rfl _ _ Try.underlying80 b es clock rfl hb ?_; intro w0 hb0 hp0 hg0)
    | gi_in)
  go_frame
  gi_loopw [3] (fun _ wr => ∃ (seen : Array Nat) (ss : List Int), wr.heap[b]? = some (.map es clock) ∧ wr.heap[W.heap.size]? = some (.mapIter (some b) clock seen clock) ∧ Got es m seen ss ∧ J ss wr)
    (fun _ wr => leftAt es W.heap.size wr)
  case atStart =>
    exact ⟨_, [], hb0, hp0, Got.start es m, hJ [] W w0 none h0 hg0 (fun r e => by cases e)⟩
  case round =>
    obtain ⟨seen, ss, hbr, hpr, hG, hJs⟩ := hrel
    gi_wp2_with (first
      | (gi_at_next; refine wpListIn_next_raw rfl _ rfl W.heap.size b es clock seen rfl hbr hpr born apart ?_ ?_)
      | gi_in)
    · intro hl0
      gi_wp2
      go_end0
      exact ⟨⟨_, rfl⟩, ss, hG.done (by simpa using congrArg List.length row) apart (by rw [hl0]; rfl), hJs⟩
    · intro j e w2 hj hne hb2 hp2 hlt hg2 hs2 hen
      obtain ⟨q, hq, hqe⟩ : ∃ q, m[j]? = some q ∧ kv e = enM ekI ev q := by
        have hj' : es.toList[j]? = some e := by simpa using hj
        have hrow : (es.toList.map kv)[j]? = (m.map (enM ekI ev))[j]? := congrArg (·[j]?) row
        rw [List.getElem?_map, List.getElem?_map, hj', Option.map_some] at hrow
        cases hm : m[j]? with
        | none => rw [hm] at hrow; cases hrow
        | some q => rw [hm] at hrow; exact ⟨q, rfl, Option.some.inj hrow⟩
      have hk1 : e.key = ekI q.1 := congrArg Prod.fst hqe
      obtain ⟨x1, xv⟩ := q
      rw [show e.key = .int .i64 x1 from hk1] at hen ⊢
      obtain ⟨hG2, hlen⟩ := hG.step (by simpa using hj) hq (by simpa using hne)
      have hJ2 : J ss w2 := hJ ss wr w2 (some W.heap.size) hJs hg2 (fun r e => by cases e; exact ⟨Nat.le_refl _, _, hpr, rfl⟩)
      obtain ⟨fn, tmps, assign, body, hy, hR⟩ := hY ss x1 _ hJ2 hlen
      rw [show ekI x1 = .int .i64 x1 from rfl] at hy
      clear hs2
      gi_wp2
      refine hR.mono ?_
      rintro e' W3 ⟨rfl, hJ4, hk3⟩
      gi_wp2
      have hb4 := hk3.same _ _ hb2 rfl
      have hp4 := hk3.same _ _ hp2 rfl
      go_roundw
      case rel => exact ⟨_, ss ++ [x1], hb4, hp4, hG2, hJ4⟩
      case measure =>
        show leftAt es W.heap.size W3 < leftAt es W.heap.size wr
        unfold leftAt
        rw [hp4, hpr]
        exact hlt
/-- maps.Keys(m) hands back an iterator over m's keys: in the world behind the call. -/
theorem keysI_gives (F : Fence) (n : Nat) (hF : F.fn 52) (hro : F.round = none) (hn : 1 ≤ n) (Bm b clock : Nat) (es : Array MapEntry) (ev : PidD → Value) (m : List (Int × PidD)) (row : es.toList.map kv = m.map (enM ekI ev))
    (born : ∀ e ∈ es.toList, e.born < clock) (apart : (es.toList.map (·.born)).Nodup) (w : World) (hBm : Bm < w.heap.size) (hm : w.cell? ⟨Bm, 0, none⟩ = some (.map (some b))) (hb : w.heap[b]? = some (.map es clock)) :
    SeqGives F n Try.prog 52 #[.pointer (some ⟨Bm, 0, none⟩)] ekI (fun ss => ss.Perm (m.map (·.1))) m.length w := fun l J W hW hJ hY h0 =>
  keysI_in F n hF hro hn l Bm b clock es ev m row born apart J hY W hJ ((hW.cell (p := ⟨Bm, 0, none⟩) hBm).trans hm) ((hW.block b (Array.getElem?_eq_some_iff.1 hb).1).trans hb) h0
/-- slices.Sort's two contracts at this dump. -/
theorem sortsR (m : Nat) : AnyZI.SortsIn Try.prog Try.sortedR_ren Fence.wide m :=
  ⟨fun blk off cap ss W hH hblk hsz => callsIn_wide.2 (AnyM.slices_Sort_int Try.sortR blk off cap ss W hH hblk hsz),
   fun p cap W => callsIn_wide.2 (AnyM.slices_Sort_int_none Try.sortR p cap W)⟩
theorem flat_encZ : ∀ (xs : List Int), xs.map encZ = xs.flatMap enZ
  | [] => rfl
  | x :: r => by rw [List.map_cons, List.flatMap_cons, flat_encZ r]; rfl
section
variable {g : Glob} {w : World} {l : List As}
theorem sortedI_ {p b nn : Nat} {ev : PidD → Value} {z0 : PidD} {f : HF} (H : Sat g w (Pt p [.map (some b)] 80 :: Mg ekI ev z0 b f nn :: l)) (hn : nn ≤ 1000) :
    Fc Try.prog 41 #[.func (.func 52) #[] #[.pointer (some ⟨p, 0, none⟩)]] w (fun r w' => ∃ ks : List Int, (∀ k, k ∈ ks ↔ f k ≠ none) ∧ ks.length = nn ∧ Sat g w' (Sl 3 1 enZ r ks :: Pt p [.map (some b)] 80 :: Mg ekI ev z0 b f nn :: l)) := by
  obtain ⟨es, clock, m, hb, ok, hm⟩ := mp H 1 rfl
  have hcell : w.cell? ⟨p, 0, none⟩ = some (.map (some b)) := by
    obtain ⟨cs, fz, h1, h2⟩ : ∃ cs fz, w.heap[p]? = some (.cells cs 80 fz) ∧ cs = #[.map (some b)] := by
      obtain ⟨a, ha, hs⟩ := H.part (j := 0) rfl
      exact ⟨_, _, hs _ _ ha, rfl⟩
    subst h2
    rw [World.cell?, h1]; rfl
  have hlt : p < w.heap.size := by
    obtain ⟨a, ha, hs⟩ := H.part (j := 0) rfl
    exact (Array.getElem?_eq_some_iff.1 (hs _ _ ha)).1
  refine Fc.ofCalls Try.func41 rfl rfl ?_
  refine (callsIn_wide (n := 6)).1 ?_
  have hseq := keysI_gives Fence.wide (6 - 1 - 1 - 1) trivial rfl (by omega) p b clock es ev m ok.row ok.born ok.apart w hlt hcell hb
  have cS := AnyZI.sorted_in Try.sortedR Fence.wide 6 trivial trivial trivial trivial rfl (by omega) (sortsR _) (enters_of Try.func51 (by kernel_rfl) rfl) 52 #[.pointer (some ⟨p, 0, none⟩)] trivial (enters_of Try.func52 (by kernel_rfl) rfl) _ _ (by rw [hm]; simp only [maxLen]; omega) (by rw [hm]; omega) w hseq
  change CallsIn _ _ Try.prog 41 _ _ _ at cS
  refine cS.mono ?_
  rintro e w' ⟨v, ss, rfl, hS, hrow, _, hbl⟩
  have hlen : (ss.mergeSort (fun x y => decide (x ≤ y))).length = ss.length := (List.mergeSort_perm _ _).length_eq
  rw [flat_encZ, ← hlen] at hrow
  obtain ⟨a, ha, hs, hn⟩ := own_sl (en := enZ) (e := 3) (fun _ => rfl) hrow
  refine ⟨v, rfl, _, fun k => ?_, by rw [hlen, hS.length_eq, List.length_map, hm], H.more hbl ha hs hn⟩
  rw [(List.mergeSort_perm _ _).mem_iff, hS.mem_iff, ← ok.lk k]
  constructor
  · intro hk h0
    obtain ⟨q, hq, rfl⟩ := List.mem_map.1 hk
    exact lk_none.1 h0 q hq rfl
  · intro h0
    cases hv : lk m k with
    | none => exact absurd hv h0
    | some v => exact List.mem_map.2 ⟨_, (lk_mem ok.keys).1 hv, rfl⟩
end
end Go.Proofs.Yticdhdpfimpmoaa.Proc
/- Package proc: Refs. -/
set_option maxRecDepth 100000
set_option maxHeartbeats 4000000
set_option linter.unusedVariables false
set_option linter.unusedSimpArgs false
namespace Go.Proofs.Yticdhdpfimpmoaa.Proc
open Go Go.Proofs.Yticdhdpfimpmoaa.Eng Go.RowKit
open Go.Proofs.Yticdhdpfimpmoaa.Eng.MG
section
variable {g : Glob} {w : World} {l : List As} {p : Nat} {va : Value} {refs nd : Int} {xa : List ActV}
theorem keysI_ (H : Sat g w l) (mb : Option Nat) : Fc Try.prog 42 #[.map mb] w (fun r w' => ∃ p, r = .func (.func 52) #[] #[.pointer (some ⟨p, 0, none⟩)] ∧ Sat g w' (Pt p [.map mb] 80 :: l)) := by
  refine Fc.of Try.func42 rfl (by kernel_rfl) ?_
  refine rBoxS H ?_
  clear H
  intro p1 w1 H
  refine Done.mk ?_
  exact ⟨_, rfl, H⟩
theorem refsY (H : Sat g w (Pt p [.int .i64 nd, va, .int .i64 refs] 100 :: Sl 82 5 enAc va xa :: Acts xa :: l)) (q1 q2 : Int) (hl : xa.length ≤ 16) (x : ActV) (hn : liveAt nd xa (q1, q2) = some x) (hln : x.hn ≤ 1000) : Fc Try.prog 26 #[.pointer (some ⟨p, 0, none⟩), .agg #[.int .i64 q1, .int .i64 q2]] w (fun r w' => ∃ ks, (∀ k, k ∈ ks ↔ x.hf k ≠ none) ∧ ks.length = x.hn ∧ Sat g w' (Sl 3 1 enZ r ks :: Pt p [.int .i64 nd, va, .int .i64 refs] 100 :: Sl 82 5 enAc va xa :: Acts xa :: l)) := by
  obtain ⟨hx, hal, hr⟩ := live_inv hn
  obtain ⟨t, lb, lf, ln, wa, wc, ws, hb, hf, hnn, rfl⟩ := live_is hal
  have hln2 : hnn ≤ 1000 := hln
  replace H := opened H hx
  simp only [pcs, List.cons_append, List.nil_append] at H
  refine Fc.of Try.func26 rfl (by kernel_rfl) ?_
  refine rBoxS H ?_
  clear H
  intro p1 w1 H
  refine rLdA (H.at 0 rfl) 0 rfl rfl rfl ?_
  refine H.fronts [6, 6] ?_
  clear H
  intro H
  refine CallP.mk (Fc.imp (Go.Proofs.Yticdhdpfimpmoaa.Proc.findY H _ _ ?_ _ hn) ?_)
  · assumption
  clear H
  rintro _ w2 ⟨b1, ⟨o1, ⟨rfl, ⟨h1, H⟩⟩⟩⟩
  refine rPtrNil rfl ?_
  refine cF rfl ?_
  refine rFieldAt rfl ?_
  refine rLd (H.el 1 rfl h1 hx) 4 rfl rfl rfl ?_
  refine CallP.mk (Fc.imp (Go.Proofs.Yticdhdpfimpmoaa.Proc.keysI_ H _) ?_)
  clear H
  rintro _ w3 ⟨p2, ⟨rfl, H⟩⟩
  
  refine H.fronts [6, 1] ?_
  clear H
  intro H
  refine CallP.mk (Fc.imp (Go.Proofs.Yticdhdpfimpmoaa.Proc.sortedI_ H ?_) ?_)
  · assumption
  clear H
  rintro v' w4 ⟨ks1, ⟨h2, ⟨h3, H⟩⟩⟩
  replace H := (((((((H.del 5).del 1).front (j := 3) rfl).front (j := 3) rfl).front (j := 6) rfl).front (j := 4) rfl).front (j := 6) rfl).front (j := 6) rfl
  exact Done.mk ⟨ks1, h2, h3, (shut0 hx H).front (j := 3) rfl⟩
theorem refsN (H : Sat g w (Pt p [.int .i64 nd, va, .int .i64 refs] 100 :: Sl 82 5 enAc va xa :: Acts xa :: l)) (q1 q2 : Int) (hl : xa.length ≤ 16) (hn : liveAt nd xa (q1, q2) = none) (hq : -9223372036854775807 ≤ q2 ∧ q2 ≤ 9223372036854775807) : Fc Try.prog 26 #[.pointer (some ⟨p, 0, none⟩), .agg #[.int .i64 q1, .int .i64 q2]] w (fun r w' => r = .slice none 0 0 ∧ Sat g w' (Pt p [.int .i64 nd, va, .int .i64 refs] 100 :: Sl 82 5 enAc va xa :: Acts xa :: l)) := by
  refine Fc.of Try.func26 rfl (by kernel_rfl) ?_
  refine rBoxS H ?_
  clear H
  intro p1 w1 H
  refine rLdA (H.at 0 rfl) 0 rfl rfl rfl ?_
  refine H.fronts [2, 2] ?_
  clear H
  intro H
  refine CallP.mk (Fc.imp (Go.Proofs.Yticdhdpfimpmoaa.Proc.findN H _ _ ?_ ?_ ?_) ?_)
  · assumption
  · assumption
  · assumption
  clear H
  rintro _ w2 ⟨rfl, H⟩
  refine rPtrNil rfl ?_
  refine cT rfl ?_
  refine Done.mk ?_
  exact ⟨rfl, H.del 2⟩
end
end Go.Proofs.Yticdhdpfimpmoaa.Proc
/- The law ProcNobody: what is told. -/
set_option maxRecDepth 100000
set_option maxHeartbeats 4000000
set_option linter.unusedVariables false
set_option linter.unusedSimpArgs false
namespace Go.Proofs.Yticdhdpfimpmoaa.Proc
open Go Go.Proofs.Yticdhdpfimpmoaa.Eng Go.RowKit
open Go.Proofs.Yticdhdpfimpmoaa.Eng.MG
def cnt (h : SigD × EffD → Bool) (tr : Tr) : Int := ((tr.filter h).length : Int)
theorem cnt_T {h : SigD × EffD → Bool} {tr : Tr} {x : SigD × EffD} (hx : h x = true) : cnt h (tr ++ [x]) = cnt h tr + 1 := by
  unfold cnt; rw [List.filter_append, List.length_append]; simp [hx]
theorem cnt_F {h : SigD × EffD → Bool} {tr : Tr} {x : SigD × EffD} (hx : h x = false) : cnt h (tr ++ [x]) = cnt h tr := by
  unfold cnt; rw [List.filter_append, List.length_append]; simp [hx]
theorem cnt_le {h : SigD × EffD → Bool} {tr : Tr} : 0 ≤ cnt h tr ∧ cnt h tr ≤ tr.length := by
  unfold cnt; have := List.length_filter_le h tr; omega
/-- It is this letter. -/
noncomputable def leq (f : EffD) (a b tag : Int) (body : List UInt8) : Bool := vEq f.fr.1 a && (vEq f.fr.2 b && true) && (vEq f.tag tag && ((bs f.body).toList == (bs body).toList && true))
theorem leq_iff {f : EffD} {a b tag : Int} {body : List UInt8} : leq f a b tag body = true ↔ f.fr = (a, b) ∧ f.tag = tag ∧ f.body = body := by
  unfold leq
  rw [vEq_iff, vEq_iff, vEq_iff]
  have hb : ((bs f.body).toList == (bs body).toList) = decide (f.body = body) := by
    rw [bs_toList, bs_toList]
    rw [Bool.eq_iff_iff]; simp
  rw [hb]
  simp [Prod.ext_iff, and_assoc]
noncomputable def hit1 (b2 : Int) (x : SigD × EffD) : Bool := x.2.got && leq x.2 0 b2 61 [UInt8.ofNat 1, UInt8.ofNat 28]
theorem zfin {g : Glob} {w : World} {l L L' : List As} (he : L = L') (H : Sat g w (L ++ l)) : Sat g w (sts L' :: l) := by subst he; exact Sat.gather H
noncomputable def hit2 (on : Bool) (b2 : Int) (x : SigD × EffD) : Bool := (x.2.got && on && leq x.2 0 b2 62 [UInt8.ofNat 28]) || (x.2.died && !on && vEq x.2.why 28)
section
theorem see1_ {Inv : Tr → List ActV → List SigD → Prop} (hI : SInv Inv) (p8 p12 : Nat) (b2 : Int) : SeeC 30 [.pointer (some ⟨p8, 0, none⟩), .pointer (some ⟨p12, 0, none⟩)] Inv (fun tr => sts [Pt p8 [.int .i64 0, .int .i64 b2] 31, Pt p12 [.int .i64 (cnt (hit1 b2) tr)] 3]) := by
  intro g w l tr s f vo q xa xa' h0 hT H
  obtain ⟨_, _, htl, _⟩ := hI.room _ _ _ _ h0
  have hc := cnt_le (h := hit1 b2) (tr := tr)
  replace H := H.spread
  simp only [List.cons_append, List.nil_append] at H
  refine Fc.of Try.func30 rfl (by kernel_rfl) ?_
  have hT : f.got = true → leq f 0 b2 61 [UInt8.ofNat 1, UInt8.ofNat 28] = true → cnt (hit1 b2) (tr ++ [(s, f)]) = cnt (hit1 b2) tr + 1 := fun h1 h2 => cnt_T (by unfold hit1; rw [h1, h2]; rfl)
  have hF : f.got = true → leq f 0 b2 61 [UInt8.ofNat 1, UInt8.ofNat 28] = false → cnt (hit1 b2) (tr ++ [(s, f)]) = cnt (hit1 b2) tr := fun h1 h2 => cnt_F (by unfold hit1; rw [h1, h2]; rfl)
  have hF2 : f.got = false → cnt (hit1 b2) (tr ++ [(s, f)]) = cnt (hit1 b2) tr := fun h1 => cnt_F (by unfold hit1; rw [h1]; rfl)
  refine rBoxS H ?_
  clear H
  intro p1 w1 H
  refine rBoxS H ?_
  clear H
  intro p2 w2 H
  clear w1
  refine rFieldAt rfl ?_
  refine rLd (H.at 0 rfl) 4 rfl rfl rfl ?_
  refine br (fun c1 => ?_) (fun c1 => ?_)
  · refine rFieldAt rfl ?_
    refine rLdA (H.at 0 rfl) 0 rfl rfl rfl ?_
    refine rLdA (H.at 2 rfl) 0 rfl rfl rfl ?_
    refine rBuildSliceS H rfl rfl rfl rfl ?_
    clear H
    intro p3 w1 H
    clear w2
    have hbk1 := byteIs (x := 1) (n := 1) (by omega)
    rw [hbk1] at H
    clear hbk1
    have hbk1 := byteIs (x := 28) (n := 28) (by omega)
    rw [hbk1] at H
    clear hbk1
    refine H.ptSl (n := 2) (en := enY) (s := 1) 0 rfl [_, _] rfl rfl (fun _ => rfl) rfl ?_
    clear H
    intro H
    refine rBytesStrS H 0 rfl rfl rfl rfl ?_
    refine rBuild rfl rfl rfl ?_
    refine rStructEq (by kernel_rfl) (by kernel_rfl) ?_
    refine cI (fun c2 => ?_) (fun c2 => ?_)
    · refine rLd (H.at 4 rfl) 0 rfl rfl rfl ?_
      refine eqI64 (by omega) ?_
      refine rStS H 4 rfl rfl rfl rfl ?_
      clear H
      intro w2 H
      clear w1
      refine Done.mk ?_
      exact zfin (by rw [hT c1 c2]) (((H.del 0).del 0).del 0)
    refine Done.mk ?_
    exact zfin (by rw [hF c1 c2]) (((H.del 0).del 0).del 0)
  refine cF rfl ?_
  refine Done.mk ?_
  exact zfin (by rw [hF2 c1]) ((H.del 0).del 0)
theorem see2_ {Inv : Tr → List ActV → List SigD → Prop} (hI : SInv Inv) (p3 p8 p12 : Nat) (on : Bool) (b2 c0 : Int) (hc0 : 0 ≤ c0 ∧ c0 ≤ 5) : SeeC 31 [.pointer (some ⟨p3, 0, none⟩), .pointer (some ⟨p8, 0, none⟩), .pointer (some ⟨p12, 0, none⟩)] Inv (fun tr => sts [Pt p3 [.bool on] 4, Pt p8 [.int .i64 0, .int .i64 b2] 31, Pt p12 [.int .i64 (c0 + cnt (hit2 on b2) tr)] 3]) := by
  intro g w l tr s f vo q xa xa' h0 hT H
  obtain ⟨_, _, htl, _⟩ := hI.room _ _ _ _ h0
  have hc := cnt_le (h := hit2 on b2) (tr := tr)
  replace H := H.spread
  simp only [List.cons_append, List.nil_append] at H
  refine Fc.of Try.func31 rfl (by kernel_rfl) ?_
  cases hon : on with
  | true =>
    subst hon
    have hT : f.got = true → leq f 0 b2 62 [UInt8.ofNat 28] = true → c0 + cnt (hit2 true b2) (tr ++ [(s, f)]) = c0 + cnt (hit2 true b2) tr + 1 := fun h1 h2 => by rw [cnt_T (by unfold hit2; rw [h1, h2]; rfl), Int.add_assoc]
    have hF : f.got = true → leq f 0 b2 62 [UInt8.ofNat 28] = false → cnt (hit2 true b2) (tr ++ [(s, f)]) = cnt (hit2 true b2) tr := fun h1 h2 => cnt_F (by unfold hit2; rw [h1, h2]; simp)
    have hF2 : f.got = false → cnt (hit2 true b2) (tr ++ [(s, f)]) = cnt (hit2 true b2) tr := fun h1 => cnt_F (by unfold hit2; rw [h1]; simp)
    refine rBoxS H ?_
    clear H
    intro p1 w1 H
    refine rBoxS H ?_
    clear H
    intro p2 w2 H
    clear w1
    refine rFieldAt rfl ?_
    refine rLd (H.at 0 rfl) 4 rfl rfl rfl ?_
    refine br (fun c1 => ?_) (fun c1 => ?_)
    · refine rLd (H.at 2 rfl) 0 rfl rfl rfl ?_
      refine rFieldAt rfl ?_
      refine rLdA (H.at 0 rfl) 0 rfl rfl rfl ?_
      refine rLdA (H.at 3 rfl) 0 rfl rfl rfl ?_
      refine rBuildSliceS H rfl rfl rfl rfl ?_
      clear H
      intro p4 w1 H
      clear w2
      have hbk1 := byteIs (x := 28) (n := 28) (by omega)
      rw [hbk1] at H
      clear hbk1
      refine H.ptSl (n := 1) (en := enY) (s := 1) 0 rfl [_] rfl rfl (fun _ => rfl) rfl ?_
      clear H
      intro H
      refine rBytesStrS H 0 rfl rfl rfl rfl ?_
      refine rBuild rfl rfl rfl ?_
      refine rStructEq (by kernel_rfl) (by kernel_rfl) ?_
      refine br (fun c2 => ?_) (fun c2 => ?_)
      · refine cT rfl ?_
        refine rLd (H.at 5 rfl) 0 rfl rfl rfl ?_
        refine eqI64 (by omega) ?_
        refine rStS H 5 rfl rfl rfl rfl ?_
        clear H
        intro w2 H
        clear w1
        refine Done.mk ?_
        exact zfin (by rw [hT c1 c2]) (((H.del 0).del 0).del 0)
      refine rFieldAt rfl ?_
      refine rLd (H.at 1 rfl) 6 rfl rfl rfl ?_
      refine br (fun c3 => ?_) (fun c3 => ?_)
      · refine rLd (H.at 3 rfl) 0 rfl rfl rfl ?_
        refine cF rfl ?_
        refine Done.mk ?_
        exact zfin (by rw [hF c1 c2]) (((H.del 0).del 0).del 0)
      refine cF rfl ?_
      refine Done.mk ?_
      exact zfin (by rw [hF c1 c2]) (((H.del 0).del 0).del 0)
    refine rFieldAt rfl ?_
    refine rLd (H.at 0 rfl) 6 rfl rfl rfl ?_
    refine br (fun c2 => ?_) (fun c2 => ?_)
    · refine rLd (H.at 2 rfl) 0 rfl rfl rfl ?_
      refine cF rfl ?_
      refine Done.mk ?_
      exact zfin (by rw [hF2 c1]) ((H.del 0).del 0)
    refine cF rfl ?_
    refine Done.mk ?_
    exact zfin (by rw [hF2 c1]) ((H.del 0).del 0)
  | false =>
    subst hon
    have hT : f.died = true → f.why = 28 → c0 + cnt (hit2 false b2) (tr ++ [(s, f)]) = c0 + cnt (hit2 false b2) tr + 1 := fun h1 h2 => by rw [cnt_T (by unfold hit2; rw [h1, vEq_iff]; simp [h2]), Int.add_assoc]
    have hF : f.died = true → f.why ≠ 28 → cnt (hit2 false b2) (tr ++ [(s, f)]) = cnt (hit2 false b2) tr := fun h1 h2 => cnt_F (by unfold hit2; rw [h1, vEq_iff]; simp [h2])
    have hF2 : f.died = false → cnt (hit2 false b2) (tr ++ [(s, f)]) = cnt (hit2 false b2) tr := fun h1 => cnt_F (by unfold hit2; rw [h1]; simp)
    refine rBoxS H ?_
    clear H
    intro p1 w1 H
    refine rBoxS H ?_
    clear H
    intro p2 w2 H
    clear w1
    refine rFieldAt rfl ?_
    refine rLd (H.at 0 rfl) 4 rfl rfl rfl ?_
    refine br (fun c1 => ?_) (fun c1 => ?_)
    · refine rLd (H.at 2 rfl) 0 rfl rfl rfl ?_
      refine rFieldAt rfl ?_
      refine rLd (H.at 0 rfl) 6 rfl rfl rfl ?_
      refine br (fun c2 => ?_) (fun c2 => ?_)
      · refine rLd (H.at 2 rfl) 0 rfl rfl rfl ?_
        refine rFieldAt rfl ?_
        refine rLd (H.at 0 rfl) 7 rfl rfl rfl ?_
        refine cI (fun c3 => ?_) (fun c3 => ?_)
        · replace c3 := vEq_t (c3)
          refine rLd (H.at 4 rfl) 0 rfl rfl rfl ?_
          refine eqI64 (by omega) ?_
          refine rStS H 4 rfl rfl rfl rfl ?_
          clear H
          intro w1 H
          clear w2
          refine Done.mk ?_
          exact zfin (by rw [hT (by assumption) (by assumption)]) ((H.del 0).del 0)
        replace c3 := vEq_f (c3)
        refine Done.mk ?_
        exact zfin (by rw [hF (by assumption) (by assumption)]) ((H.del 0).del 0)
      refine cF rfl ?_
      refine Done.mk ?_
      exact zfin (by rw [hF2 (by assumption)]) ((H.del 0).del 0)
    refine rFieldAt rfl ?_
    refine rLd (H.at 0 rfl) 6 rfl rfl rfl ?_
    refine br (fun c2 => ?_) (fun c2 => ?_)
    · refine rLd (H.at 2 rfl) 0 rfl rfl rfl ?_
      refine rFieldAt rfl ?_
      refine rLd (H.at 0 rfl) 7 rfl rfl rfl ?_
      refine cI (fun c3 => ?_) (fun c3 => ?_)
      · replace c3 := vEq_t (c3)
        refine rLd (H.at 4 rfl) 0 rfl rfl rfl ?_
        refine eqI64 (by omega) ?_
        refine rStS H 4 rfl rfl rfl rfl ?_
        clear H
        intro w1 H
        clear w2
        refine Done.mk ?_
        exact zfin (by rw [hT (by assumption) (by assumption)]) ((H.del 0).del 0)
      replace c3 := vEq_f (c3)
      refine Done.mk ?_
      exact zfin (by rw [hF (by assumption) (by assumption)]) ((H.del 0).del 0)
    refine cF rfl ?_
    refine Done.mk ?_
    exact zfin (by rw [hF2 (by assumption)]) ((H.del 0).del 0)
end
end Go.Proofs.Yticdhdpfimpmoaa.Proc
/- The law ProcNobody: the two runs of signals. -/
set_option maxRecDepth 100000
set_option maxHeartbeats 4000000
set_option linter.unusedVariables false
set_option linter.unusedSimpArgs false
namespace Go.Proofs.Yticdhdpfimpmoaa.Proc
open Go Go.Proofs.Yticdhdpfimpmoaa.Eng Go.RowKit
open Go.Proofs.Yticdhdpfimpmoaa.Eng.MG
def hf0 : HF := fun _ => none
def lf0 : LF := fun _ => none
def wtS (b2 : Int) : SigD := ⟨5, (0, 1), (0, b2), 1, 0, 0, []⟩
def dn0 (b2 : Int) : SigD := ⟨6, (0, b2), (0, 1), 1, 28, 0, []⟩
def lkS (b2 : Int) : SigD := ⟨2, (0, 1), (0, b2), 0, 0, 0, []⟩
def ex0 (b2 : Int) : SigD := ⟨4, (0, b2), (0, 1), 0, 28, 0, []⟩
/-- Two actors, of which the first is so. -/
def two (x y : ActV) : List ActV := [x, y]
theorem two_live {x y : ActV} (h : x.alive = true) : liveAt 0 (two x y) (0, 1) = some x := liveAt_some (i := 0) ⟨rfl, by omega, by show (1 : Int) ≤ ((2 : Nat) : Int); omega⟩ (by omega) rfl h
theorem two_dead {x y : ActV} (h : x.alive = false) : liveAt 0 (two x y) (0, 1) = none := liveAt_dead (i := 0) (by omega) rfl h
theorem two_far {x y : ActV} {b2 : Int} (h : 3 ≤ b2) : liveAt 0 (two x y) (0, b2) = none := liveAt_none (by rintro ⟨_, _, h3⟩; have : ((two x y).length : Int) = 2 := rfl; omega)
theorem two_set {x y z : ActV} : (two x y).set (ix (0, 1)) z = two z y := rfl
inductive Nob1 (x0 x1 y : ActV) (b2 : Int) : Tr → List ActV → List SigD → Prop
  | a : Nob1 x0 x1 y b2 [] (two x0 y) [wtS b2]
  | b {tr : Tr} (h1 : tr.length = 1) (h2 : cnt (hit1 b2) tr = 0) : Nob1 x0 x1 y b2 tr (two x0 y) [dn0 b2]
  | c {tr : Tr} (h1 : tr.length = 2) (h2 : cnt (hit1 b2) tr = 1) : Nob1 x0 x1 y b2 tr (two x1 y) []
theorem nb_ok {s : SigD} {b2 : Int} (hb : 3 ≤ b2 ∧ b2 ≤ 16) (h : s = wtS b2 ∨ s = dn0 b2 ∨ s = lkS b2 ∨ s = ex0 b2) : ¬ takeBad 0 s := by
  unfold takeBad
  rcases h with rfl | rfl | rfl | rfl <;> (simp only [wtS, dn0, lkS, ex0]; omega)
theorem nob1 {t : Bool} {lb hb : Nat} {y : ActV} {b2 : Int} (hb2 : 3 ≤ b2 ∧ b2 ≤ 16) : SInv (Nob1 (.live t lb lf0 0 none 0 [] hb (upd hf0 1 (some (0, b2))) 1) (.live t lb lf0 0 none 0 [] hb hf0 0) y b2) where
  ok := fun tr xa s q h => by cases h with
    | a => exact nb_ok hb2 (.inl rfl)
    | b h1 h2 => exact nb_ok hb2 (.inr (.inl rfl))
  room := fun tr xa s q h => by cases h with
    | a => exact ⟨Nat.le_of_ble_eq_true rfl, by show (-9223372036854775808 : Int) ≤ 0 ∧ (0 : Int) ≤ 9223372036854775807; omega, Nat.le_of_ble_eq_true rfl, Nat.le_of_ble_eq_true rfl⟩
    | b h1 h2 => exact ⟨Nat.le_of_ble_eq_true rfl, by show (-9223372036854775808 : Int) ≤ 28 ∧ (28 : Int) ≤ 9223372036854775807; omega, by omega, Nat.le_of_ble_eq_true rfl⟩
  lim := fun tr xa s q h x hx => by cases h with
    | a => rw [show (wtS b2).to_ = (0, b2) from rfl, two_far hb2.1] at hx; cases hx
    | b h1 h2 => rw [show (dn0 b2).to_ = (0, 1) from rfl, two_live rfl] at hx; obtain rfl := Option.some.inj hx; exact ⟨Nat.zero_le _, Nat.zero_le _, by show 1 ≤ 1000; omega⟩
  step := fun tr xa s q xa' f h hT => by cases h with
    | a =>
      obtain ⟨rfl, rfl⟩ := hT.gone' (nb_ok hb2 (.inl rfl)) (two_far hb2.1)
      rw [ms5 (s := wtS b2) rfl]
      exact ⟨.b rfl (cnt_F rfl), Nat.le_of_ble_eq_true rfl⟩
    | b h1 h2 =>
      obtain ⟨rfl, rfl⟩ := hT.down' (nb_ok hb2 (.inr (.inl rfl))) (two_live rfl) rfl (upd_same hf0 1 (some (0, b2)))
      refine ⟨?_, Nat.zero_le _⟩
      have e1 : ActV.setH (.live t lb lf0 0 none 0 [] hb (upd hf0 1 (some (0, b2))) 1) (upd (upd hf0 1 (some (0, b2))) 1 none) (1 - 1) = .live t lb lf0 0 none 0 [] hb hf0 0 := by
        rw [upd_upd_none rfl]; rfl
      show Nob1 _ _ _ _ _ ((two _ y).set (ix (0, 1)) (ActV.setH (.live t lb lf0 0 none 0 [] hb (upd hf0 1 (some (0, b2))) 1) (upd (upd hf0 1 (some (0, b2))) 1 none) (1 - 1))) []
      rw [e1]
      refine .c (by rw [List.length_append, h1]; rfl) ?_
      rw [cnt_T, h2]
      · rfl
      · show (true && leq _ 0 b2 61 _) = true
        rw [Bool.true_and, leq_iff]
        exact ⟨rfl, rfl, rfl⟩
inductive Nob2 (x0 : ActV) (ys : ActV) (y : ActV) (on : Bool) (b2 : Int) : Tr → List ActV → List SigD → Prop
  | a : Nob2 x0 ys y on b2 [] (two x0 y) [lkS b2]
  | b {tr : Tr} (h1 : tr.length = 1) (h2 : cnt (hit2 on b2) tr = 0) : Nob2 x0 ys y on b2 tr (two x0 y) [ex0 b2]
  | c {tr : Tr} (h1 : tr.length = 2) (h2 : cnt (hit2 on b2) tr = 1) : Nob2 x0 ys y on b2 tr (two ys y) []
theorem nob2 {t : Bool} {lb hb : Nat} {y : ActV} {b2 : Int} (hb2 : 3 ≤ b2 ∧ b2 ≤ 16) : SInv (Nob2 (.live t lb (upd lf0 (0, b2) (some 1)) 1 none 0 [] hb hf0 0) (if t = true then .live t lb lf0 0 none 0 [] hb hf0 0 else .dead) y t b2) where
  ok := fun tr xa s q h => by cases h with
    | a => exact nb_ok hb2 (.inr (.inr (.inl rfl)))
    | b h1 h2 => exact nb_ok hb2 (.inr (.inr (.inr rfl)))
  room := fun tr xa s q h => by cases h with
    | a => exact ⟨Nat.le_of_ble_eq_true rfl, by show (-9223372036854775808 : Int) ≤ 0 ∧ (0 : Int) ≤ 9223372036854775807; omega, Nat.le_of_ble_eq_true rfl, Nat.le_of_ble_eq_true rfl⟩
    | b h1 h2 => exact ⟨Nat.le_of_ble_eq_true rfl, by show (-9223372036854775808 : Int) ≤ 28 ∧ (28 : Int) ≤ 9223372036854775807; omega, by omega, Nat.le_of_ble_eq_true rfl⟩
  lim := fun tr xa s q h x hx => by cases h with
    | a => rw [show (lkS b2).to_ = (0, b2) from rfl, two_far hb2.1] at hx; cases hx
    | b h1 h2 => rw [show (ex0 b2).to_ = (0, 1) from rfl, two_live rfl] at hx; obtain rfl := Option.some.inj hx; exact ⟨by show 1 ≤ 12; omega, Nat.zero_le _, Nat.zero_le _⟩
  step := fun tr xa s q xa' f h hT => by cases h with
    | a =>
      obtain ⟨rfl, rfl⟩ := hT.gone' (nb_ok hb2 (.inr (.inr (.inl rfl)))) (two_far hb2.1)
      rw [ms2 (s := lkS b2) rfl]
      exact ⟨.b rfl (cnt_F rfl), Nat.le_of_ble_eq_true rfl⟩
    | b h1 h2 =>
      have hE := hT.exit' (nb_ok hb2 (.inr (.inr (.inr rfl)))) (two_live rfl) rfl
      have hne : upd lf0 (0, b2) (some 1) (ex0 b2).fr ≠ none := by rw [show (ex0 b2).fr = (0, b2) from rfl, upd_same]; nofun
      have e2 : upd (upd lf0 (0, b2) (some (1 : Int))) (ex0 b2).fr none = lf0 := upd_upd_none rfl
      cases t with
      | true =>
        obtain ⟨rfl, rfl⟩ := hE.trap hne rfl
        refine ⟨?_, Nat.zero_le _⟩
        show Nob2 _ _ _ _ _ _ ((two _ y).set (ix (0, 1)) (.live true lb (upd (upd lf0 (0, b2) (some 1)) (ex0 b2).fr none) (1 - 1) none 0 [] hb hf0 0)) []
        rw [e2]
        refine .c (by rw [List.length_append, h1]; rfl) ?_
        rw [cnt_T, h2]
        · rfl
        · have hq : leq { eff0 with fr := (ex0 b2).fr, tag := 62, body := [UInt8.ofNat ((ex0 b2).why % 256).toNat], got := true } 0 b2 62 [UInt8.ofNat 28] = true := leq_iff.2 ⟨rfl, rfl, rfl⟩
          unfold hit2
          show ((true && true && leq { eff0 with fr := (ex0 b2).fr, tag := 62, body := [UInt8.ofNat ((ex0 b2).why % 256).toNat], got := true } 0 b2 62 [UInt8.ofNat 28]) || _) = true
          rw [hq]
          rfl
      | false =>
        obtain ⟨sg, e, hR, rfl⟩ := hE.dies hne rfl (by show (28 : Int) ≠ 0; omega)
        have hl2 : liveAt 0 ((two (.live false lb (upd lf0 (0, b2) (some 1)) 1 none 0 [] hb hf0 0) y).set (ix (ex0 b2).to_) (ActV.setL (.live false lb (upd lf0 (0, b2) (some 1)) 1 none 0 [] hb hf0 0) (upd (upd lf0 (0, b2) (some 1)) (ex0 b2).fr none) (1 - 1))) (ex0 b2).to_ = some (.live false lb lf0 0 none 0 [] hb hf0 0) := by
          rw [e2]; exact two_live rfl
        obtain ⟨ks, hk, hx, hsg, _⟩ := hR.yes _ hl2
        have hks : ks = [] := keys_nil hk (fun _ => rfl)
        subst hks
        have hsg : sg = [] := hsg
        subst hsg
        subst hx
        refine ⟨?_, Nat.zero_le _⟩
        refine .c (by rw [List.length_append, h1]; rfl) ?_
        rw [cnt_T, h2]
        · rfl
        · show ((_ && false && _) || (true && true && vEq 28 28)) = true
          rw [vEq_iff]; simp
end Go.Proofs.Yticdhdpfimpmoaa.Proc
/- The law ProcNobody. -/
set_option maxRecDepth 100000
set_option maxHeartbeats 4000000
set_option linter.unusedVariables false
set_option linter.unusedSimpArgs false
namespace Go.Proofs.Yticdhdpfimpmoaa.Proc
open Go Go.Proofs.Yticdhdpfimpmoaa.Eng Go.RowKit
open Go.Proofs.Yticdhdpfimpmoaa.Eng.MG
theorem two_new {xa : List ActV} (hl : xa.length = 2) (hA : AllNew xa) : ∃ lb1 hb1 lb2 hb2, xa = two (new0 lb1 hb1) (new0 lb2 hb2) := by
  match xa, hl with
  | [a, b], _ =>
    obtain ⟨lb1, hb1, rfl⟩ := hA a (by simp)
    obtain ⟨lb2, hb2, rfl⟩ := hA b (by simp)
    exact ⟨lb1, hb1, lb2, hb2, rfl⟩
theorem two_trap {lb hb : Nat} {y : ActV} {on b : Bool} {xa' : List ActV} (h : trapF 0 (two (new0 lb hb) y) (0, 1) on = (xa', b)) : xa' = two (.live on lb lf0 0 none 0 [] hb hf0 0) y := by
  have h2 : trapF 0 (two (new0 lb hb) y) (0, 1) on = (two (.live on lb lf0 0 none 0 [] hb hf0 0) y, false) := trapF_yes (two_live rfl)
  rw [h2] at h
  exact (congrArg Prod.fst h).symm
theorem two_watch {t : Bool} {lb hb : Nat} {y : ActV} {b2 : Int} (hb2 : 3 ≤ b2 ∧ b2 ≤ 16) {refs' ref e : Int} {xa' : List ActV} {sg : List SigD} (h : watchF 0 0 (two (.live t lb lf0 0 none 0 [] hb hf0 0) y) (0, 1) (0, b2) = (refs', xa', ref, sg, e)) : xa' = two (.live t lb lf0 0 none 0 [] hb (upd hf0 1 (some (0, b2))) 1) y ∧ ref = 1 ∧ sg = [wtS b2] ∧ e = 0 := by
  have h2 : watchF 0 0 (two (.live t lb lf0 0 none 0 [] hb hf0 0) y) (0, 1) (0, b2) = (1, two (.live t lb lf0 0 none 0 [] hb (upd hf0 1 (some (0, b2))) 1) y, 1, [wtS b2], 0) :=
    watchF_yes (two_live rfl) (by unfold badP; simp only; omega) (by omega)
  rw [h2] at h
  simp only [Prod.mk.injEq] at h
  obtain ⟨_, rfl, rfl, rfl, rfl⟩ := h
  exact ⟨rfl, rfl, rfl, rfl⟩
theorem two_link {t : Bool} {lb hb : Nat} {y : ActV} {b2 : Int} (hb2 : 3 ≤ b2 ∧ b2 ≤ 16) {e : Int} {xa' : List ActV} {sg : List SigD} (h : linkF 0 (two (.live t lb lf0 0 none 0 [] hb hf0 0) y) (0, 1) (0, b2) = (xa', sg, e)) : xa' = two (.live t lb (upd lf0 (0, b2) (some 1)) 1 none 0 [] hb hf0 0) y ∧ sg = [lkS b2] ∧ e = 0 := by
  have h2 : linkF 0 (two (.live t lb lf0 0 none 0 [] hb hf0 0) y) (0, 1) (0, b2) = (two (.live t lb (upd lf0 (0, b2) (some 1)) 1 none 0 [] hb hf0 0) y, [lkS b2], 0) :=
    linkF_new (two_live rfl) (by unfold badP; simp only; omega) (fun h => by have := congrArg Prod.snd h; simp only at this; omega) rfl
  rw [h2] at h
  simp only [Prod.mk.injEq] at h
  obtain ⟨rfl, rfl, rfl⟩ := h
  exact ⟨rfl, rfl, rfl⟩
theorem two_len {x y : ActV} : (two x y).length = 2 := rfl
theorem procNobody (w : World) (num : Int) (on : Bool) (hn : -9223372036854775808 ≤ num ∧ num ≤ 9223372036854775807) : Fc Try.prog 8 #[.int .i64 num, .bool on] w (fun v w' => v = .bool true ∧ Below w.heap.size w w') := by
  refine Fc.of Try.func8 rfl (by kernel_rfl) ?_
  have H := Sat.start w
  have hrf0 : (0 : Int) ≤ 0 ∧ (0 : Int) ≤ 64 := by omega
  have hq1 : (-9223372036854775807 : Int) ≤ 1 ∧ (1 : Int) ≤ 9223372036854775807 := by omega
  refine rBoxS H ?_
  clear H
  intro p1 w1 H
  refine CallP.mk (Fc.imp (Go.Proofs.Yticdhdpfimpmoaa.Proc.crowd_ H (2) ?_) ?_)
  · omega
  clear H
  rintro _ w2 ⟨p2, ⟨va1, ⟨xa1, ⟨rfl, ⟨h1, ⟨h2, H⟩⟩⟩⟩⟩⟩
  obtain ⟨lb1, hb1, lb2, hb2, rfl⟩ := two_new (by assumption) (by assumption)
  refine cF rfl ?_
  refine rBuild rfl rfl rfl ?_
  refine CallP.mk (Fc.imp (Go.Proofs.Yticdhdpfimpmoaa.Proc.rest_ H _ _ ?_ ?_) ?_)
  · omega
  · assumption
  clear H
  rintro _ w3 ⟨k1, ⟨rfl, ⟨h3, ⟨h4, ⟨h5, H⟩⟩⟩⟩⟩
  refine eqI64 (by omega) ?_
  refine rBuild rfl rfl rfl ?_
  refine rAllocS H rfl ?_
  clear H
  intro p3 w4 H
  clear w3
  refine rAllocS H rfl ?_
  clear H
  intro p4 w3 H
  clear w4
  refine rStAS H 1 rfl rfl rfl rfl ?_
  clear H
  intro w4 H
  clear w3
  refine rStAS H 0 rfl rfl rfl rfl ?_
  clear H
  intro w3 H
  clear w4
  refine rLdA (H.at 1 rfl) 0 rfl rfl rfl ?_
  refine rLd (H.at 5 rfl) 0 rfl rfl rfl ?_
  refine H.fronts [4, 4, 4] ?_
  clear H
  intro H
  refine CallP.mk (Fc.imp (Go.Proofs.Yticdhdpfimpmoaa.Proc.trap_ H _ _ _ ?_ ?_) ?_)
  · omega
  · assumption
  clear H
  rintro _ w4 ⟨b1, ⟨xa'1, ⟨rfl, ⟨h6, H⟩⟩⟩⟩
  obtain rfl := two_trap (by assumption)
  have hl2 : (two (.live on lb1 lf0 0 none 0 [] hb1 hf0 0) (new0 lb2 hb2)).length ≤ 16 := Nat.le_of_ble_eq_true rfl
  refine rLdA (H.at 4 rfl) 0 rfl rfl rfl ?_
  refine rLdA (H.at 3 rfl) 0 rfl rfl rfl ?_
  refine CallP.mk (Fc.imp (Go.Proofs.Yticdhdpfimpmoaa.Proc.watch_ H _ _ _ _ ?_ ?_ ?_) ?_)
  · assumption
  · assumption
  · assumption
  clear H
  rintro _ w5 ⟨v1, ⟨refs'1, ⟨xa'1, ⟨ref1, ⟨sg1, ⟨e1, ⟨rfl, ⟨h7, H⟩⟩⟩⟩⟩⟩⟩⟩
  obtain ⟨rfl, hr1, rfl, he0⟩ := two_watch (b2 := 3 + k1) (by omega) (by assumption)
  refine rAllocS H rfl ?_
  clear H
  intro p5 w6 H
  clear w5
  refine rStS H 0 rfl rfl rfl rfl ?_
  clear H
  intro w5 H
  clear w6
  have hk : 3 ≤ 3 + k1 ∧ 3 + k1 ≤ 16 := by omega
  have Hs := ((((zfin (L' := [Pt p4 [.int .i64 0, .int .i64 (3 + k1)] 31, Pt p5 [.int .i64 (cnt (hit1 (3 + k1)) [])] 3]) rfl (H.front (j := 5) rfl)).front (j := 4) rfl).front (j := 4) rfl).front (j := 4) rfl).front (j := 4) rfl
  refine CallP.mk (Fc.imp (signals_ (nob1 hk) (see1_ (nob1 hk) p4 p5 (3 + k1)) .a (Nat.le_of_ble_eq_true rfl) Hs) ?_)
  clear H Hs
  rintro r1 w6 ⟨b, tr, xa', rfl, hbt, hN, H⟩
  cases hN with
  | c hN1 hN2 =>
  replace H := (H.front (j := 3) rfl).spread
  simp only [List.cons_append, List.nil_append, List.eraseIdx] at H
  rw [hN2] at H
  have hlv1 := two_live (x := .live on lb1 lf0 0 none 0 [] hb1 hf0 0) (y := new0 lb2 hb2) rfl
  have hln1 : ActV.hn (.live on lb1 lf0 0 none 0 [] hb1 hf0 0) ≤ 1000 := Nat.zero_le _
  have hl3 : (two (.live on lb1 lf0 0 none 0 [] hb1 hf0 0) (new0 lb2 hb2)).length ≤ 16 := Nat.le_of_ble_eq_true rfl
  refine br_f (not_F ((by assumption))) ?_
  refine br_f (vNe_F (by assumption)) ?_
  refine br_f (vNe_F (by assumption)) ?_
  refine rLd (H.at 1 rfl) 0 rfl rfl rfl ?_
  refine br_f (vNe_F (by omega)) ?_
  refine rLdA (H.at 5 rfl) 0 rfl rfl rfl ?_
  refine H.fronts [4, 4, 4] ?_
  clear H
  intro H
  refine CallP.mk (Fc.imp (Go.Proofs.Yticdhdpfimpmoaa.Proc.refsY H _ _ ?_ _ hlv1 ?_) ?_)
  · assumption
  · assumption
  clear H
  rintro v' w7 ⟨ks1, ⟨h8, ⟨h9, H⟩⟩⟩
  have hk0 : ks1.length = 0 := by assumption
  refine rLenS H 0 rfl rfl ?_
  refine cF (vLt_F (by omega)) ?_
  refine rLdA (H.at 6 rfl) 0 rfl rfl rfl ?_
  refine rLdA (H.at 4 rfl) 0 rfl rfl rfl ?_
  refine H.fronts [3, 3, 3] ?_
  clear H
  intro H
  refine CallP.mk (Fc.imp (Go.Proofs.Yticdhdpfimpmoaa.Proc.link_ H _ _ _ _ ?_ ?_) ?_)
  · assumption
  · assumption
  clear H
  rintro _ w8 ⟨v2, ⟨xa'1, ⟨sg1, ⟨e2, ⟨rfl, ⟨h10, H⟩⟩⟩⟩⟩⟩
  obtain ⟨rfl, rfl, he2⟩ := two_link hk (by assumption)
  have Hs := ((((zfin (L' := [Pt p1 [.bool on] 4, Pt p4 [.int .i64 0, .int .i64 (3 + k1)] 31, Pt p5 [.int .i64 (1 + cnt (hit2 on (3 + k1)) [])] 3]) rfl (((H.front (j := 6) rfl).front (j := 6) rfl).front (j := 8) rfl)).front (j := 4) rfl).front (j := 4) rfl).front (j := 4) rfl).front (j := 4) rfl
  refine CallP.mk (Fc.imp (signals_ (nob2 hk) (see2_ (nob2 hk) p1 p4 p5 on (3 + k1) 1 (by omega)) .a (Nat.le_of_ble_eq_true rfl) Hs) ?_)
  clear H Hs hlv1 hl3
  rintro r2 w9 ⟨b9, tr9, xa9, rfl, hbt9, hN, H⟩
  cases hN with
  | c hN3 hN4 =>
  replace H := (H.front (j := 3) rfl).spread
  simp only [List.cons_append, List.nil_append, List.eraseIdx] at H
  rw [hN4] at H
  cases hon : on with
  | true =>
    subst hon
    rw [if_pos rfl] at H
    have hlv1 := two_live (x := .live true lb1 lf0 0 none 0 [] hb1 hf0 0) (y := new0 lb2 hb2) rfl
    have hln2 : ActV.ln (.live true lb1 lf0 0 none 0 [] hb1 hf0 0) ≤ 12 := Nat.zero_le _
    have hl3 : (two (.live true lb1 lf0 0 none 0 [] hb1 hf0 0) (new0 lb2 hb2)).length ≤ 16 := Nat.le_of_ble_eq_true rfl
    refine drawzS H [] [(0, .pure), (1, .pure), (2, .pure), (3, .pure), (4, .pure), (5, .pure), (6, .held), (7, .pure), (8, .pure), (9, .pure), (10, .pure), (11, .held), (13, .held), (12, .forced), (14, .pure), (15, .pure), (16, .pure), (17, .pure), (18, .held), (19, .free), (20, .pure), (21, .pure), (22, .pure), (23, .pure)] mixed (by kernel_rfl) (by kernel_rfl) ?_
    clear H
    intro w10 H
    clear w9
    refine br_t ((by assumption)) ?_
    refine br_t (vEq_T (by assumption)) ?_
    refine tk (fun wx HS => rLd (HS.at 2 rfl) 0 rfl rfl rfl ⟨rfl, rfl⟩) ?_
    refine br_t (vEq_T (by omega)) ?_
    refine tk (fun wx HS => rLdA (HS.at 7 rfl) 0 rfl rfl rfl ⟨rfl, rfl⟩) ?_
    refine tk (fun wx HS => rLd (HS.at 0 rfl) 0 rfl rfl rfl ⟨rfl, rfl⟩) ?_
    refine H.fronts [4, 4] ?_
    clear H
    intro H
    refine CallP.mk (Fc.imp (Go.Proofs.Yticdhdpfimpmoaa.Proc.alive_ H _ _ ?_ ?_) ?_)
    · assumption
    · assumption
    clear H
    rintro _ w9 ⟨b2, ⟨rfl, ⟨h11, H⟩⟩⟩
    refine H.fronts [7, 7, 7, 4, 4, 7, 7, 7] ?_
    clear H
    intro H
    refine KeepP.mk (H) ?_
    refine tk (fun wx HS => rBoolEq rfl ⟨rfl, rfl⟩) ?_
    refine br_t (bt_T ((by assumption))) ?_
    refine tk (fun wx HS => rLdA (HS.at 7 rfl) 0 rfl rfl rfl ⟨rfl, rfl⟩) ?_
    refine H.fronts [5, 5, 5] ?_
    clear H
    intro H
    refine CallP.mk (Fc.imp (Go.Proofs.Yticdhdpfimpmoaa.Proc.linksY H _ _ ?_ _ hlv1 ?_) ?_)
    · assumption
    · assumption
    clear H
    rintro va' w11 ⟨ks2, ⟨h12, ⟨h13, H⟩⟩⟩
    obtain rfl := keys_nil (by assumption) (fun _ => rfl)
    obtain ⟨a1, c1, V1⟩ := H.form 0 rfl
    refine tk (fun wx HS => rLenV V1 rfl ⟨rfl, rfl⟩) ?_
    refine Done.mk ?_
    refine ⟨?_, ?_⟩
    · exact congrArg Value.bool (vEq_T (by (simp only [List.length_append, List.length_set, List.length_cons, List.length_nil]; omega)))
    exact H.finish
  | false =>
    subst hon
    rw [if_neg nofun] at H
    have hlv1 := two_dead (x := .dead) (y := new0 lb2 hb2) rfl
    have hl3 : (two .dead (new0 lb2 hb2)).length ≤ 16 := Nat.le_of_ble_eq_true rfl
    refine drawzS H [] [(0, .pure), (1, .pure), (2, .pure), (3, .pure), (4, .pure), (5, .pure), (6, .held), (7, .pure), (8, .pure), (9, .pure), (10, .pure), (11, .held), (13, .held), (12, .forced), (14, .pure), (15, .pure), (16, .pure), (17, .pure), (18, .held), (19, .free), (20, .pure), (21, .pure), (22, .pure), (23, .pure)] mixed (by kernel_rfl) (by kernel_rfl) ?_
    clear H
    intro w10 H
    clear w9
    refine br_t ((by assumption)) ?_
    refine br_t (vEq_T (by assumption)) ?_
    refine tk (fun wx HS => rLd (HS.at 2 rfl) 0 rfl rfl rfl ⟨rfl, rfl⟩) ?_
    refine br_t (vEq_T (by omega)) ?_
    refine tk (fun wx HS => rLdA (HS.at 7 rfl) 0 rfl rfl rfl ⟨rfl, rfl⟩) ?_
    refine tk (fun wx HS => rLd (HS.at 0 rfl) 0 rfl rfl rfl ⟨rfl, rfl⟩) ?_
    refine H.fronts [4, 4] ?_
    clear H
    intro H
    refine CallP.mk (Fc.imp (Go.Proofs.Yticdhdpfimpmoaa.Proc.alive_ H _ _ ?_ ?_) ?_)
    · assumption
    · assumption
    clear H
    rintro _ w9 ⟨b2, ⟨rfl, ⟨h11, H⟩⟩⟩
    refine H.fronts [7, 7, 7, 4, 4, 7, 7, 7] ?_
    clear H
    intro H
    refine KeepP.mk (H) ?_
    refine tk (fun wx HS => rBoolEq rfl ⟨rfl, rfl⟩) ?_
    refine br_t (bf_T ((by assumption))) ?_
    refine tk (fun wx HS => rLdA (HS.at 7 rfl) 0 rfl rfl rfl ⟨rfl, rfl⟩) ?_
    refine H.fronts [5, 5, 5] ?_
    clear H
    intro H
    refine CallP.mk (Fc.imp (Go.Proofs.Yticdhdpfimpmoaa.Proc.linksN H _ _ ?_ ?_ ?_) ?_)
    · assumption
    · assumption
    · assumption
    clear H
    rintro _ w11 ⟨rfl, H⟩
    refine tk (fun wx HS => rLenSl rfl ⟨rfl, rfl⟩) ?_
    refine Done.mk ?_
    refine ⟨?_, ?_⟩
    · exact congrArg Value.bool (vEq_T (by omega))
    exact H.finish
end Go.Proofs.Yticdhdpfimpmoaa.Proc
