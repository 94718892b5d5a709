/- Texts of this claim, one behind the other. -/
import Derived.Shelf.SlIterI.Sorted
import Derived.Shelf.SortM.Plain
import Derived.Shelf.SortM.SortNone
import Derived.Ground.GgzProg
import Derived.Ground.SlgmProg
import Derived.Test.YticdhdpfimpmoaaProg
import Derived.Test.YticdhdpfimpmoaaM3
import Derived.Test.YticdhdpfimpmoaaM4
/-
  DERIVED: THE SHELF's CONTRACTS AT THIS DUMP, IN PLAIN WORDS (tools/lay-plain.mjs out of 'TryShelf.lean', which tools/lay-shelf.mjs wrote): THE SAME DECLARATIONS UNDER THE SAME NAMES: 'import', 'namespace', 'open', 'def', 'theorem' AND NOTHING ELSE: no command of the shelf's: FOR A HAND-IN. Each laying: the table of numbers ('.._ren') and one theorem, a field a fact of the dump's own or the kernel's comparison; each contract: ONE APPLICATION.
-/
namespace Go.Proofs
open Go.Shelf
def Try.sortedR_ren : Go.Shelf.Ren := ⟨fun | 6 => 41 | 8 => 50 | 9 => 51 | 11 => 57 | 13 => 55 | 12 => 58 | 23 => 67 | 24 => 68 | 14 => 69 | 15 => 70 | 16 => 71 | 17 => 72 | 18 => 73 | 19 => 74 | 20 => 75 | 21 => 76 | 22 => 77 | 25 => 83 | 26 => 79 | 27 => 80 | 28 => 84 | 29 => 85 | 30 => 56 | 31 => 87 | n => n, fun | 26 => 3 | 28 => 103 | 24 => 61 | 0 => 0 | 3 => 3 | 37 => 116 | 48 => 127 | 50 => 129 | 4 => 4 | 40 => 121 | 39 => 120 | 45 => 92 | 5 => 5 | 9 => 9 | 51 => 136 | 55 => 140 | 57 => 144 | 58 => 145 | 33 => 112 | n => n, fun | n => n⟩
theorem Try.sortedR : Go.Proofs.SlLaysZI.n6 Try.prog Try.sortedR_ren := {
  mixed := by kernel_rfl
  f6 := ⟨Try.f41.name, by decide, Try.func41.trans (congrArg some (by kernel_rfl))⟩
  f8 := ⟨Try.f50.name, by decide, Try.func50.trans (congrArg some (by kernel_rfl))⟩
  f11 := ⟨Try.f57.name, by decide, Try.func57.trans (congrArg some (by kernel_rfl))⟩
  t0 := Try.underlying0
  a0 := Try.isAgg0
  z0 := Try.sizeOf0
  v0 := Try.zeroValue0
  t24 := Try.underlying61
  a24 := Try.isAgg61
  z24 := Try.sizeOf61
  v24 := Try.zeroValue61
  t26 := Try.underlying3
  a26 := Try.isAgg3
  z26 := Try.sizeOf3
  v26 := Try.zeroValue3
  t28 := Try.underlying103
  a28 := Try.isAgg103
  z28 := Try.sizeOf103
  v28 := Try.zeroValue103
  i26 := by kernel_rfl }
def Try.sortR_ren : Go.Shelf.Ren := ⟨fun | 5 => 51 | 8 => 55 | 7 => 58 | 19 => 67 | 20 => 68 | 10 => 69 | 11 => 70 | 12 => 71 | 13 => 72 | 14 => 73 | 15 => 74 | 16 => 75 | 17 => 76 | 18 => 77 | 30 => 83 | 31 => 79 | 32 => 80 | 33 => 84 | 34 => 85 | 35 => 56 | 40 => 87 | n => n, fun | 23 => 61 | 25 => 3 | 3 => 3 | 32 => 116 | 22 => 61 | 0 => 0 | 44 => 127 | 46 => 129 | 4 => 4 | 36 => 121 | 35 => 120 | 41 => 92 | 5 => 5 | 9 => 9 | 53 => 136 | 57 => 140 | 63 => 144 | 64 => 145 | n => n, fun | n => n⟩
theorem Try.sortR : Go.Proofs.SlLaysM.n5 Try.prog Try.sortR_ren := {
  mixed := by kernel_rfl
  f5 := ⟨Try.f51.name, by decide, Try.func51.trans (congrArg some (by kernel_rfl))⟩
  f7 := ⟨Try.f58.name, by decide, Try.func58.trans (congrArg some (by kernel_rfl))⟩
  f8 := Try.func55.trans (congrArg some (by kernel_rfl))
  f10 := ⟨Try.f69.name, by decide, Try.func69.trans (congrArg some (by kernel_rfl))⟩
  f11 := ⟨Try.f70.name, by decide, Try.func70.trans (congrArg some (by kernel_rfl))⟩
  f12 := ⟨Try.f71.name, by decide, Try.func71.trans (congrArg some (by kernel_rfl))⟩
  f13 := ⟨Try.f72.name, by decide, Try.func72.trans (congrArg some (by kernel_rfl))⟩
  f14 := ⟨Try.f73.name, by decide, Try.func73.trans (congrArg some (by kernel_rfl))⟩
  f15 := ⟨Try.f74.name, by decide, Try.func74.trans (congrArg some (by kernel_rfl))⟩
  f16 := ⟨Try.f75.name, by decide, Try.func75.trans (congrArg some (by kernel_rfl))⟩
  f17 := ⟨Try.f76.name, by decide, Try.func76.trans (congrArg some (by kernel_rfl))⟩
  f18 := ⟨Try.f77.name, by decide, Try.func77.trans (congrArg some (by kernel_rfl))⟩
  f19 := Try.func67.trans (congrArg some (by kernel_rfl))
  f20 := Try.func68.trans (congrArg some (by kernel_rfl))
  f30 := ⟨Try.f83.name, by decide, Try.func83.trans (congrArg some (by kernel_rfl))⟩
  f31 := Try.func79.trans (congrArg some (by kernel_rfl))
  f32 := Try.func80.trans (congrArg some (by kernel_rfl))
  f33 := ⟨Try.f84.name, by decide, Try.func84.trans (congrArg some (by kernel_rfl))⟩
  f34 := ⟨Try.f85.name, by decide, Try.func85.trans (congrArg some (by kernel_rfl))⟩
  f35 := ⟨Try.f56.name, by decide, Try.func56.trans (congrArg some (by kernel_rfl))⟩
  f40 := ⟨Try.f87.name, by decide, Try.func87.trans (congrArg some (by kernel_rfl))⟩
  t0 := Try.underlying0
  a0 := Try.isAgg0
  z0 := Try.sizeOf0
  v0 := Try.zeroValue0
  t3 := Try.underlying3
  a3 := Try.isAgg3
  z3 := Try.sizeOf3
  v3 := Try.zeroValue3
  t4 := Try.underlying4
  a4 := Try.isAgg4
  z4 := Try.sizeOf4
  v4 := Try.zeroValue4
  t5 := Try.underlying5
  a5 := Try.isAgg5
  z5 := Try.sizeOf5
  v5 := Try.zeroValue5
  t9 := Try.underlying9
  a9 := Try.isAgg9
  z9 := Try.sizeOf9
  v9 := Try.zeroValue9
  t22 := Try.underlying61
  a22 := Try.isAgg61
  z22 := Try.sizeOf61
  v22 := Try.zeroValue61
  t23 := Try.underlying61
  a23 := Try.isAgg61
  z23 := Try.sizeOf61
  v23 := Try.zeroValue61
  t25 := Try.underlying3
  a25 := Try.isAgg3
  z25 := Try.sizeOf3
  v25 := Try.zeroValue3
  t32 := Try.underlying116
  a32 := Try.isAgg116
  z32 := Try.sizeOf116
  v32 := Try.zeroValue116
  t35 := Try.underlying120
  a35 := Try.isAgg120
  z35 := Try.sizeOf120
  v35 := Try.zeroValue120
  t36 := Try.underlying121
  a36 := Try.isAgg121
  z36 := Try.sizeOf121
  v36 := Try.zeroValue121
  t41 := Try.underlying92
  a41 := Try.isAgg92
  z41 := Try.sizeOf92
  v41 := Try.zeroValue92
  t44 := Try.underlying127
  a44 := Try.isAgg127
  z44 := Try.sizeOf127
  v44 := Try.zeroValue127
  t46 := Try.underlying129
  a46 := Try.isAgg129
  z46 := Try.sizeOf129
  v46 := Try.zeroValue129
  t53 := Try.underlying136
  a53 := Try.isAgg136
  z53 := Try.sizeOf136
  v53 := Try.zeroValue136
  t57 := Try.underlying140
  a57 := Try.isAgg140
  z57 := Try.sizeOf140
  v57 := Try.zeroValue140
  t63 := Try.underlying144
  a63 := Try.isAgg144
  z63 := Try.sizeOf144
  v63 := Try.zeroValue144
  t64 := Try.underlying145
  a64 := Try.isAgg145
  z64 := Try.sizeOf145
  v64 := Try.zeroValue145 }
end Go.Proofs
/- maps.Keys over ints; slices.Sorted of it as a contract of mine. -/
set_option maxRecDepth 100000
set_option linter.unusedVariables false
set_option linter.unusedSimpArgs false
namespace Go.Proofs.Yticdhdpfimpmoaa.Proc
open Go Go.RowKit Go.Maps Go.Sort Go.Shelf Go.Proofs.Yticdhdpfimpmoaa.Eng Go.Proofs.Yticdhdpfimpmoaa.Eng.MG
set_option maxHeartbeats 1000000 in
theorem keysI_in (F : Fence) (n : Nat) (hF : F.fn 52) (hro : F.round = none) (hn : 1 ≤ n) (l Bm b clock : Nat) (es : Array MapEntry) (ev : PidD → Value) (m : List (Int × PidD)) (row : es.toList.map kv = m.map (enM ekI ev))
    (born : ∀ e ∈ es.toList, e.born < clock) (apart : (es.toList.map (·.born)).Nodup) (J : List Int → World → Prop)
    (hY : ∀ pre x W, J pre W → pre.length < m.length → YieldAt F (n - 1) Try.prog l #[ekI x] W fun e W' => e = .returned (.bool true) ∧ J (pre ++ [x]) W' ∧ KeepsWalks W W')
    (W : World) (hJ : AbidesFrom W.heap.size J) (hm : W.cell? ⟨Bm, 0, none⟩ = some (.map (some b))) (hb : W.heap[b]? = some (.map es clock)) (h0 : J [] W) :
    CallsIn F n Try.prog 52 #[.func (.yield l) #[] #[], .pointer (some ⟨Bm, 0, none⟩)] W fun e W' => (∃ v, e = .returned v) ∧ ∃ ss : List Int, ss.Perm (m.map (·.1)) ∧ J ss W' := by
  refine callsIn_of_wp Try.func52 rfl hF ?_ hro
  simp only [Try.ntmps52, List.size_toArray, List.length_cons, List.length_nil, Nat.reduceAdd, Nat.reduceSub, Array.replicate_succ, Array.replicate_zero, List.push_toArray, List.append_toArray, List.nil_append, List.cons_append]
  gi_wp2_with (first
    | (gi_at_range; refine wpListIn_range_raw rfl _ _ rfl _ _ Try.underlying80 b es clock rfl hb ?_; intro w0 hb0 hp0 hg0)
    | gi_in)
  go_frame
  gi_loopw [3] (fun _ wr => ∃ (seen : Array Nat) (ss : List Int), wr.heap[b]? = some (.map es clock) ∧ wr.heap[W.heap.size]? = some (.mapIter (some b) clock seen clock) ∧ Got es m seen ss ∧ J ss wr)
    (fun _ wr => leftAt es W.heap.size wr)
  case atStart =>
    exact ⟨_, [], hb0, hp0, Got.start es m, hJ [] W w0 none h0 hg0 (fun r e => by cases e)⟩
  case round =>
    obtain ⟨seen, ss, hbr, hpr, hG, hJs⟩ := hrel
    gi_wp2_with (first
      | (gi_at_next; refine wpListIn_next_raw rfl _ rfl W.heap.size b es clock seen rfl hbr hpr born apart ?_ ?_)
      | gi_in)
    · intro hl0
      gi_wp2
      go_end0
      exact ⟨⟨_, rfl⟩, ss, hG.done (by simpa using congrArg List.length row) apart (by rw [hl0]; rfl), hJs⟩
    · intro j e w2 hj hne hb2 hp2 hlt hg2 hs2 hen
      obtain ⟨q, hq, hqe⟩ : ∃ q, m[j]? = some q ∧ kv e = enM ekI ev q := by
        have hj' : es.toList[j]? = some e := by simpa using hj
        have hrow : (es.toList.map kv)[j]? = (m.map (enM ekI ev))[j]? := congrArg (·[j]?) row
        rw [List.getElem?_map, List.getElem?_map, hj', Option.map_some] at hrow
        cases hm : m[j]? with
        | none => rw [hm] at hrow; cases hrow
        | some q => rw [hm] at hrow; exact ⟨q, rfl, Option.some.inj hrow⟩
      have hk1 : e.key = ekI q.1 := congrArg Prod.fst hqe
      obtain ⟨x1, xv⟩ := q
      rw [show e.key = .int .i64 x1 from hk1] at hen ⊢
      obtain ⟨hG2, hlen⟩ := hG.step (by simpa using hj) hq (by simpa using hne)
      have hJ2 : J ss w2 := hJ ss wr w2 (some W.heap.size) hJs hg2 (fun r e => by cases e; exact ⟨Nat.le_refl _, _, hpr, rfl⟩)
      obtain ⟨fn, tmps, assign, body, hy, hR⟩ := hY ss x1 _ hJ2 hlen
      rw [show ekI x1 = .int .i64 x1 from rfl] at hy
      clear hs2
      gi_wp2
      refine hR.mono ?_
      rintro e' W3 ⟨rfl, hJ4, hk3⟩
      gi_wp2
      have hb4 := hk3.same _ _ hb2 rfl
      have hp4 := hk3.same _ _ hp2 rfl
      go_roundw
      case rel => exact ⟨_, ss ++ [x1], hb4, hp4, hG2, hJ4⟩
      case measure =>
        show leftAt es W.heap.size W3 < leftAt es W.heap.size wr
        unfold leftAt
        rw [hp4, hpr]
        exact hlt
/-- maps.Keys(m) hands back an iterator over m's keys: in the world behind the call. -/
theorem keysI_gives (F : Fence) (n : Nat) (hF : F.fn 52) (hro : F.round = none) (hn : 1 ≤ n) (Bm b clock : Nat) (es : Array MapEntry) (ev : PidD → Value) (m : List (Int × PidD)) (row : es.toList.map kv = m.map (enM ekI ev))
    (born : ∀ e ∈ es.toList, e.born < clock) (apart : (es.toList.map (·.born)).Nodup) (w : World) (hBm : Bm < w.heap.size) (hm : w.cell? ⟨Bm, 0, none⟩ = some (.map (some b))) (hb : w.heap[b]? = some (.map es clock)) :
    SeqGives F n Try.prog 52 #[.pointer (some ⟨Bm, 0, none⟩)] ekI (fun ss => ss.Perm (m.map (·.1))) m.length w := fun l J W hW hJ hY h0 =>
  keysI_in F n hF hro hn l Bm b clock es ev m row born apart J hY W hJ ((hW.cell (p := ⟨Bm, 0, none⟩) hBm).trans hm) ((hW.block b (Array.getElem?_eq_some_iff.1 hb).1).trans hb) h0
/-- slices.Sort's two contracts at this dump. -/
theorem sortsR (m : Nat) : AnyZI.SortsIn Try.prog Try.sortedR_ren Fence.wide m :=
  ⟨fun blk off cap ss W hH hblk hsz => callsIn_wide.2 (AnyM.slices_Sort_int Try.sortR blk off cap ss W hH hblk hsz),
   fun p cap W => callsIn_wide.2 (AnyM.slices_Sort_int_none Try.sortR p cap W)⟩
theorem flat_encZ : ∀ (xs : List Int), xs.map encZ = xs.flatMap enZ
  | [] => rfl
  | x :: r => by rw [List.map_cons, List.flatMap_cons, flat_encZ r]; rfl
section
variable {g : Glob} {w : World} {l : List As}
theorem sortedI_ {p b nn : Nat} {ev : PidD → Value} {z0 : PidD} {f : HF} (H : Sat g w (Pt p [.map (some b)] 80 :: Mg ekI ev z0 b f nn :: l)) (hn : nn ≤ 1000) :
    Fc Try.prog 41 #[.func (.func 52) #[] #[.pointer (some ⟨p, 0, none⟩)]] w (fun r w' => ∃ ks : List Int, (∀ k, k ∈ ks ↔ f k ≠ none) ∧ ks.length = nn ∧ Sat g w' (Sl 3 1 enZ r ks :: Pt p [.map (some b)] 80 :: Mg ekI ev z0 b f nn :: l)) := by
  obtain ⟨es, clock, m, hb, ok, hm⟩ := mp H 1 rfl
  have hcell : w.cell? ⟨p, 0, none⟩ = some (.map (some b)) := by
    obtain ⟨cs, fz, h1, h2⟩ : ∃ cs fz, w.heap[p]? = some (.cells cs 80 fz) ∧ cs = #[.map (some b)] := by
      obtain ⟨a, ha, hs⟩ := H.part (j := 0) rfl
      exact ⟨_, _, hs _ _ ha, rfl⟩
    subst h2
    rw [World.cell?, h1]; rfl
  have hlt : p < w.heap.size := by
    obtain ⟨a, ha, hs⟩ := H.part (j := 0) rfl
    exact (Array.getElem?_eq_some_iff.1 (hs _ _ ha)).1
  refine Fc.ofCalls Try.func41 rfl rfl ?_
  refine (callsIn_wide (n := 6)).1 ?_
  have hseq := keysI_gives Fence.wide (6 - 1 - 1 - 1) trivial rfl (by omega) p b clock es ev m ok.row ok.born ok.apart w hlt hcell hb
  have cS := AnyZI.sorted_in Try.sortedR Fence.wide 6 trivial trivial trivial trivial rfl (by omega) (sortsR _) (enters_of Try.func51 (by kernel_rfl) rfl) 52 #[.pointer (some ⟨p, 0, none⟩)] trivial (enters_of Try.func52 (by kernel_rfl) rfl) _ _ (by rw [hm]; simp only [maxLen]; omega) (by rw [hm]; omega) w hseq
  change CallsIn _ _ Try.prog 41 _ _ _ at cS
  refine cS.mono ?_
  rintro e w' ⟨v, ss, rfl, hS, hrow, _, hbl⟩
  have hlen : (ss.mergeSort (fun x y => decide (x ≤ y))).length = ss.length := (List.mergeSort_perm _ _).length_eq
  rw [flat_encZ, ← hlen] at hrow
  obtain ⟨a, ha, hs, hn⟩ := own_sl (en := enZ) (e := 3) (fun _ => rfl) hrow
  refine ⟨v, rfl, _, fun k => ?_, by rw [hlen, hS.length_eq, List.length_map, hm], H.more hbl ha hs hn⟩
  rw [(List.mergeSort_perm _ _).mem_iff, hS.mem_iff, ← ok.lk k]
  constructor
  · intro hk h0
    obtain ⟨q, hq, rfl⟩ := List.mem_map.1 hk
    exact lk_none.1 h0 q hq rfl
  · intro h0
    cases hv : lk m k with
    | none => exact absurd hv h0
    | some v => exact List.mem_map.2 ⟨_, (lk_mem ok.keys).1 hv, rfl⟩
end
end Go.Proofs.Yticdhdpfimpmoaa.Proc
/- Package proc: Refs. -/
set_option maxRecDepth 100000
set_option maxHeartbeats 4000000
set_option linter.unusedVariables false
set_option linter.unusedSimpArgs false
namespace Go.Proofs.Yticdhdpfimpmoaa.Proc
open Go Go.Proofs.Yticdhdpfimpmoaa.Eng Go.RowKit
open Go.Proofs.Yticdhdpfimpmoaa.Eng.MG
section
variable {g : Glob} {w : World} {l : List As} {p : Nat} {va : Value} {refs nd : Int} {xa : List ActV}
theorem keysI_ (H : Sat g w l) (mb : Option Nat) : Fc Try.prog 42 #[.map mb] w (fun r w' => ∃ p, r = .func (.func 52) #[] #[.pointer (some ⟨p, 0, none⟩)] ∧ Sat g w' (Pt p [.map mb] 80 :: l)) := by
  refine Fc.of Try.func42 rfl (by kernel_rfl) ?_
  refine rBoxS H ?_
  clear H
  intro p1 w1 H
  refine Done.mk ?_
  exact ⟨_, rfl, H⟩
theorem refsY (H : Sat g w (Pt p [.int .i64 nd, va, .int .i64 refs] 100 :: Sl 82 5 enAc va xa :: Acts xa :: l)) (q1 q2 : Int) (hl : xa.length ≤ 16) (x : ActV) (hn : liveAt nd xa (q1, q2) = some x) (hln : x.hn ≤ 1000) : Fc Try.prog 26 #[.pointer (some ⟨p, 0, none⟩), .agg #[.int .i64 q1, .int .i64 q2]] w (fun r w' => ∃ ks, (∀ k, k ∈ ks ↔ x.hf k ≠ none) ∧ ks.length = x.hn ∧ Sat g w' (Sl 3 1 enZ r ks :: Pt p [.int .i64 nd, va, .int .i64 refs] 100 :: Sl 82 5 enAc va xa :: Acts xa :: l)) := by
  obtain ⟨hx, hal, hr⟩ := live_inv hn
  obtain ⟨t, lb, lf, ln, wa, wc, ws, hb, hf, hnn, rfl⟩ := live_is hal
  have hln2 : hnn ≤ 1000 := hln
  replace H := opened H hx
  simp only [pcs, List.cons_append, List.nil_append] at H
  refine Fc.of Try.func26 rfl (by kernel_rfl) ?_
  refine rBoxS H ?_
  clear H
  intro p1 w1 H
  refine rLdA (H.at 0 rfl) 0 rfl rfl rfl ?_
  refine H.fronts [6, 6] ?_
  clear H
  intro H
  refine CallP.mk (Fc.imp (Go.Proofs.Yticdhdpfimpmoaa.Proc.findY H _ _ ?_ _ hn) ?_)
  · assumption
  clear H
  rintro _ w2 ⟨b1, ⟨o1, ⟨rfl, ⟨h1, H⟩⟩⟩⟩
  refine rPtrNil rfl ?_
  refine cF rfl ?_
  refine rFieldAt rfl ?_
  refine rLd (H.el 1 rfl h1 hx) 4 rfl rfl rfl ?_
  refine CallP.mk (Fc.imp (Go.Proofs.Yticdhdpfimpmoaa.Proc.keysI_ H _) ?_)
  clear H
  rintro _ w3 ⟨p2, ⟨rfl, H⟩⟩
  
  refine H.fronts [6, 1] ?_
  clear H
  intro H
  refine CallP.mk (Fc.imp (Go.Proofs.Yticdhdpfimpmoaa.Proc.sortedI_ H ?_) ?_)
  · assumption
  clear H
  rintro v' w4 ⟨ks1, ⟨h2, ⟨h3, H⟩⟩⟩
  replace H := (((((((H.del 5).del 1).front (j := 3) rfl).front (j := 3) rfl).front (j := 6) rfl).front (j := 4) rfl).front (j := 6) rfl).front (j := 6) rfl
  exact Done.mk ⟨ks1, h2, h3, (shut0 hx H).front (j := 3) rfl⟩
theorem refsN (H : Sat g w (Pt p [.int .i64 nd, va, .int .i64 refs] 100 :: Sl 82 5 enAc va xa :: Acts xa :: l)) (q1 q2 : Int) (hl : xa.length ≤ 16) (hn : liveAt nd xa (q1, q2) = none) (hq : -9223372036854775807 ≤ q2 ∧ q2 ≤ 9223372036854775807) : Fc Try.prog 26 #[.pointer (some ⟨p, 0, none⟩), .agg #[.int .i64 q1, .int .i64 q2]] w (fun r w' => r = .slice none 0 0 ∧ Sat g w' (Pt p [.int .i64 nd, va, .int .i64 refs] 100 :: Sl 82 5 enAc va xa :: Acts xa :: l)) := by
  refine Fc.of Try.func26 rfl (by kernel_rfl) ?_
  refine rBoxS H ?_
  clear H
  intro p1 w1 H
  refine rLdA (H.at 0 rfl) 0 rfl rfl rfl ?_
  refine H.fronts [2, 2] ?_
  clear H
  intro H
  refine CallP.mk (Fc.imp (Go.Proofs.Yticdhdpfimpmoaa.Proc.findN H _ _ ?_ ?_ ?_) ?_)
  · assumption
  · assumption
  · assumption
  clear H
  rintro _ w2 ⟨rfl, H⟩
  refine rPtrNil rfl ?_
  refine cT rfl ?_
  refine Done.mk ?_
  exact ⟨rfl, H.del 2⟩
end
end Go.Proofs.Yticdhdpfimpmoaa.Proc
/- The law ProcLinked. -/
set_option maxRecDepth 100000
set_option maxHeartbeats 4000000
set_option linter.unusedVariables false
set_option linter.unusedSimpArgs false
namespace Go.Proofs.Yticdhdpfimpmoaa.Proc
open Go Go.Proofs.Yticdhdpfimpmoaa.Eng Go.RowKit
open Go.Proofs.Yticdhdpfimpmoaa.Eng.MG
structure StepD where
  kind : Int
  a : PidD
  b : PidD
  on : Bool
  why : Int
  s : SigD
def enSt (x : StepD) : List Value := [.int .i64 x.kind, .int .i64 x.a.1, .int .i64 x.a.2, .int .i64 x.b.1, .int .i64 x.b.2, .bool x.on, .int .i64 x.why, .int .i64 x.s.kind, .int .i64 x.s.fr.1, .int .i64 x.s.fr.2, .int .i64 x.s.to_.1, .int .i64 x.s.to_.2, .int .i64 x.s.ref, .int .i64 x.s.why, .int .i64 x.s.tag, .string (bs x.s.body)]
abbrev r64 (n : Int) : Prop := -9223372036854775808 ≤ n ∧ n ≤ 9223372036854775807
def okSt (x : StepD) : Prop := r64 x.kind ∧ r64 x.a.2 ∧ r64 x.b.2 ∧ r64 x.why
theorem fitsSt (cs : List Value) (h : fitsL [.int .i64, .int .i64, .int .i64, .int .i64, .int .i64, .bool, .int .i64, .int .i64, .int .i64, .int .i64, .int .i64, .int .i64, .int .i64, .int .i64, .int .i64, .str] cs) : ∃ x, cs = enSt x ∧ okSt x := by
  obtain ⟨_, _, rfl, ⟨k, rfl, hk⟩, _, _, rfl, ⟨a1, rfl, _⟩, _, _, rfl, ⟨a2, rfl, ha⟩, _, _, rfl, ⟨b1, rfl, _⟩, _, _, rfl, ⟨b2, rfl, hb⟩, _, _, rfl, ⟨on, rfl⟩, _, _, rfl, ⟨y, rfl, hy⟩, _, _, rfl, ⟨s1, rfl, _⟩, _, _, rfl, ⟨s2, rfl, _⟩, _, _, rfl, ⟨s3, rfl, _⟩, _, _, rfl, ⟨s4, rfl, _⟩, _, _, rfl, ⟨s5, rfl, _⟩, _, _, rfl, ⟨s6, rfl, _⟩, _, _, rfl, ⟨s7, rfl, _⟩, _, _, rfl, ⟨s8, rfl, _⟩, _, _, rfl, ⟨st, rfl, _⟩, rfl⟩ := h
  exact ⟨⟨k, (a1, a2), (b1, b2), on, y, ⟨s1, (s2, s3), (s4, s5), s6, s7, s8, st⟩⟩, rfl, hk, ha, hb, hy⟩
section
variable {g : Glob} {w : World} {l : List As}
theorem step_ (H : Sat g w l) (n m : Int) (hm : 0 < m ∧ m ≤ 1000) (hn : -9223372036854775808 ≤ n ∧ n ≤ 9223372036854775807) : Fc Try.prog 18 #[.int .i64 n, .int .i64 m] w (fun v w' => ∃ k, v = .int .i64 k ∧ k = n % m ∧ 0 ≤ k ∧ k < m ∧ Sat g w' l) := by
  refine Fc.of Try.func18 rfl (by kernel_rfl) ?_
  refine CallP.mk (Fc.imp (Go.Proofs.Yticdhdpfimpmoaa.Proc.rest_ H _ _ ?_ ?_) ?_)
  · assumption
  · assumption
  clear H
  rintro _ w1 ⟨k1, ⟨rfl, ⟨h1, ⟨h2, ⟨h3, H⟩⟩⟩⟩⟩
  refine Done.mk ?_
  refine ⟨k1, ?_⟩
  refine ⟨?_, ?_⟩
  · refine int_eq ?_
    omega
  refine ⟨?_, ?_⟩
  · assumption
  refine ⟨?_, ?_⟩
  · assumption
  refine ⟨?_, ?_⟩
  · assumption
  exact H
theorem see0_ {Inv : Tr → List ActV → List SigD → Prop} : SeeC 22 [] Inv (fun tr => sts []) := by
  intro g w l tr s f vo q xa xa' h0 hT H
  refine Fc.of Try.func22 rfl (by kernel_rfl) ?_
  refine rBoxS H ?_
  clear H
  intro p1 w1 H
  refine rBoxS H ?_
  clear H
  intro p2 w2 H
  clear w1
  refine Done.mk ?_
  exact (H.del 0).del 0
theorem linkF_len {nd : Int} {xa xa' : List ActV} {a b : PidD} {sg : List SigD} {e : Int} (h : linkF nd xa a b = (xa', sg, e)) : xa'.length = xa.length := by
  unfold linkF at h
  split at h
  · obtain rfl := (Prod.mk.inj h).1; rfl
  · (repeat' split at h) <;> (obtain rfl := (Prod.mk.inj h).1) <;> first | rfl | exact List.length_set
theorem unlinkF_len {nd : Int} {xa xa' : List ActV} {a b : PidD} {sg : List SigD} {e : Int} (h : unlinkF nd xa a b = (xa', sg, e)) : xa'.length = xa.length := by
  unfold unlinkF at h
  split at h
  · obtain rfl := (Prod.mk.inj h).1; rfl
  · (repeat' split at h) <;> (obtain rfl := (Prod.mk.inj h).1) <;> first | rfl | exact List.length_set
theorem trapF_len {nd : Int} {xa xa' : List ActV} {a : PidD} {on b : Bool} (h : trapF nd xa a on = (xa', b)) : xa'.length = xa.length := by
  unfold trapF at h
  split at h
  · obtain rfl := (Prod.mk.inj h).1; rfl
  · obtain rfl := (Prod.mk.inj h).1; exact List.length_set
theorem endR_len {nd : Int} {xa xa' : List ActV} {a : PidD} {sg : List SigD} {why e : Int} (h : EndR nd xa a why xa' sg e) : xa'.length = xa.length := by
  cases hn : liveAt nd xa a with
  | none => rw [(h.no hn).1]
  | some x => obtain ⟨ks, _, rfl, _⟩ := h.yes x hn; exact List.length_set
section
variable {p : Nat} {va : Value} {refs : Int} {xa : List ActV}
theorem linkL (H : Sat g w (Pt p [.int .i64 0, va, .int .i64 refs] 100 :: Sl 82 5 enAc va xa :: Acts xa :: l)) (hE : EP xa []) (a2 b2 : Int) (ha : 1 ≤ a2 ∧ a2 ≤ 8) (hb : 1 ≤ b2 ∧ b2 ≤ 8) : Fc Try.prog 19 #[.pointer (some ⟨p, 0, none⟩), .agg #[.int .i64 0, .int .i64 a2], .agg #[.int .i64 0, .int .i64 b2]] w (fun r w' => ∃ v xa' sg e, r = .tuple #[v, .int .i64 e] ∧ LkI [] xa' sg ∧ sg.length ≤ 100 ∧ xa'.length = xa.length ∧ Sat g w' (Sl 40 9 enSi v sg :: Pt p [.int .i64 0, va, .int .i64 refs] 100 :: Sl 82 5 enAc va xa' :: Acts xa' :: l)) := by
  have := hE.len
  refine Fc.imp (link_ H 0 a2 0 b2 (by omega) (by omega)) ?_
  rintro r w' ⟨v, xa', sg, e, hr, hF, H⟩
  obtain ⟨h1, h2⟩ := ep_link hE ⟨rfl, ha⟩ ⟨rfl, hb⟩ hF
  exact ⟨v, xa', sg, e, hr, h1, by omega, linkF_len hF, H⟩
theorem unlinkL (H : Sat g w (Pt p [.int .i64 0, va, .int .i64 refs] 100 :: Sl 82 5 enAc va xa :: Acts xa :: l)) (hE : EP xa []) (a2 b2 : Int) (ha : 1 ≤ a2 ∧ a2 ≤ 8) (hb : 1 ≤ b2 ∧ b2 ≤ 8) : Fc Try.prog 20 #[.pointer (some ⟨p, 0, none⟩), .agg #[.int .i64 0, .int .i64 a2], .agg #[.int .i64 0, .int .i64 b2]] w (fun r w' => ∃ v xa' sg e, r = .tuple #[v, .int .i64 e] ∧ LkI [] xa' sg ∧ sg.length ≤ 100 ∧ xa'.length = xa.length ∧ Sat g w' (Sl 40 9 enSi v sg :: Pt p [.int .i64 0, va, .int .i64 refs] 100 :: Sl 82 5 enAc va xa' :: Acts xa' :: l)) := by
  have := hE.len
  refine Fc.imp (unlink_ H 0 a2 0 b2 (by omega) (by omega)) ?_
  rintro r w' ⟨v, xa', sg, e, hr, hF, H⟩
  obtain ⟨h1, h2⟩ := ep_unlink hE ⟨rfl, ha⟩ ⟨rfl, hb⟩ hF
  exact ⟨v, xa', sg, e, hr, h1, by omega, unlinkF_len hF, H⟩
theorem trapL (H : Sat g w (Pt p [.int .i64 0, va, .int .i64 refs] 100 :: Sl 82 5 enAc va xa :: Acts xa :: l)) (hE : EP xa []) (a2 : Int) (on : Bool) (ha : 1 ≤ a2 ∧ a2 ≤ 8) : Fc Try.prog 21 #[.pointer (some ⟨p, 0, none⟩), .agg #[.int .i64 0, .int .i64 a2], .bool on] w (fun r w' => ∃ b xa', r = .bool b ∧ LkI [] xa' [] ∧ xa'.length = xa.length ∧ Sat g w' (Pt p [.int .i64 0, va, .int .i64 refs] 100 :: Sl 82 5 enAc va xa' :: Acts xa' :: l)) := by
  have := hE.len
  refine Fc.imp (trap_ H 0 a2 on (by omega) (by omega)) ?_
  rintro r w' ⟨b, xa', hr, hF, H⟩
  exact ⟨b, xa', hr, LkI.start (ep_trap hE hF) (Nat.zero_le _), trapF_len hF, H⟩
theorem endL (H : Sat g w (Pt p [.int .i64 0, va, .int .i64 refs] 100 :: Sl 82 5 enAc va xa :: Acts xa :: l)) (hE : EP xa []) (a2 why : Int) (ha : 1 ≤ a2 ∧ a2 ≤ 8) (hw : 0 ≤ why ∧ why ≤ 255) : Fc Try.prog 12 #[.pointer (some ⟨p, 0, none⟩), .agg #[.int .i64 0, .int .i64 a2], .int .i64 why] w (fun r w' => ∃ v xa' sg e, r = .tuple #[v, .int .i64 e] ∧ LkI [] xa' sg ∧ sg.length ≤ 100 ∧ xa'.length = xa.length ∧ Sat g w' (Sl 40 9 enSi v sg :: Pt p [.int .i64 0, va, .int .i64 refs] 100 :: Sl 82 5 enAc va xa' :: Acts xa' :: l)) := by
  have := hE.len
  refine Fc.imp (end_ linksC H 0 a2 why (by omega) (by omega) (fun x hx => by have := wf_lim (xa := xa) (hE.wf _ _ hx); exact ⟨this.1, this.2.1⟩)) ?_
  rintro r w' ⟨v, xa', sg, e, hr, hR, H⟩
  obtain ⟨h1, h2⟩ := ep_end hE hw hR
  exact ⟨v, xa', sg, e, hr, h1, h2, endR_len hR, H⟩
theorem aliveY (H : Sat g w (Pt p [.int .i64 0, va, .int .i64 refs] 100 :: Sl 82 5 enAc va xa :: l)) (q1 q2 : Int) (hl : xa.length ≤ 16) (x : ActV) (hn : liveAt 0 xa (q1, q2) = some x) : Fc Try.prog 15 #[.pointer (some ⟨p, 0, none⟩), .agg #[.int .i64 q1, .int .i64 q2]] w (fun r w' => ∃ b, r = .bool b ∧ b = true ∧ Sat g w' (Pt p [.int .i64 0, va, .int .i64 refs] 100 :: Sl 82 5 enAc va xa :: l)) := by
  refine Fc.imp (alive_ H q1 q2 hl (live_rng hn hl)) ?_
  rintro r w' ⟨b, hr, hb, H⟩
  exact ⟨b, hr, by rw [hb, hn]; rfl, H⟩
theorem take_mem {ks : List PidD} {m : Nat} {r x : PidD} (hr : ks[m]? = some r) : x ∈ ks.take (m + 1) ↔ x ∈ ks.take m ∨ x = r := by
  rw [List.take_add_one, hr]
  simp
theorem bk_t {ks : List PidD} {m : Nat} {r x : PidD} {b : Bool} (hr : ks[m]? = some r) (h : b = true ↔ x ∈ ks.take m) (hb : b = true) : true = true ↔ x ∈ ks.take (m + 1) := by
  rw [take_mem hr]
  exact ⟨fun _ => .inl (h.1 hb), fun _ => rfl⟩
theorem bk_f {ks : List PidD} {m : Nat} {r : PidD} {b : Bool} {x1 x2 : Int} (hr : ks[m]? = some r) (h : b = true ↔ (x1, x2) ∈ ks.take m) (hb : b = false) : (vEq r.1 x1 && (vEq r.2 x2 && true)) = true ↔ (x1, x2) ∈ ks.take (m + 1) := by
  rw [take_mem hr, vEq_iff, vEq_iff]
  have hn : ¬ ((x1, x2) ∈ ks.take m) := fun hm => by rw [h.2 hm] at hb; cases hb
  simp only [hn, false_or]
  rw [show ((x1, x2) = r ↔ r.1 = x1 ∧ r.2 = x2) from ⟨fun e => by subst e; exact ⟨rfl, rfl⟩, fun e => Prod.ext e.1.symm e.2.symm⟩]
  simp
/-- With whom p is linked. -/
def KsOf (xa : List ActV) (p : PidD) (ks : List PidD) : Prop := ∀ k, k ∈ ks ↔ ∃ x, liveAt 0 xa p = some x ∧ x.lf k ≠ none
theorem linksA (H : Sat g w (Pt p [.int .i64 0, va, .int .i64 refs] 100 :: Sl 82 5 enAc va xa :: Acts xa :: l)) (hE : EP xa []) (q1 q2 : Int) (hq : 1 ≤ q2 ∧ q2 ≤ 8) : Fc Try.prog 23 #[.pointer (some ⟨p, 0, none⟩), .agg #[.int .i64 q1, .int .i64 q2]] w (fun r w' => ∃ ks, KsOf xa (q1, q2) ks ∧ ks.length ≤ 12 ∧ Sat g w' (Sl 31 2 enPd r ks :: Pt p [.int .i64 0, va, .int .i64 refs] 100 :: Sl 82 5 enAc va xa :: Acts xa :: l)) := by
  have hl := hE.len
  cases hn : liveAt 0 xa (q1, q2) with
  | none =>
    refine Fc.imp (linksN H q1 q2 (by omega) hn (by omega)) ?_
    rintro r w' ⟨rfl, H⟩
    exact ⟨[], fun k => ⟨(fun h => by cases h), fun ⟨x, hx, _⟩ => by rw [hn] at hx; cases hx⟩, Nat.zero_le _, H.sl0 (en := enPd) (s := 2) 31 (fun _ => rfl)⟩
  | some x =>
    refine Fc.imp (linksY H q1 q2 (by omega) x hn (wf_lim (xa := xa) (hE.wf _ _ hn)).1) ?_
    rintro r w' ⟨ks, hk, hl, H⟩
    exact ⟨ks, fun k => (hk.mem k).trans ⟨fun h => ⟨x, hn, h⟩, fun ⟨y, hy, h⟩ => by rw [hn] at hy; obtain rfl := Option.some.inj hy; exact h⟩, hl, H⟩
end
end
theorem procLinked (w : World) (vl : Value) (xs : List StepD) (hx : Rd enSt okSt 16 w vl xs) : Fc Try.prog 5 #[vl] w (fun v w' => v = .bool true ∧ Below w.heap.size w w') := by
  refine Fc.of Try.func5 rfl (by kernel_rfl) ?_
  have H := Sat.start w
  have hx := hx.fz
  have hxl := hx.len
  refine CallP.mk (Fc.imp (Go.Proofs.Yticdhdpfimpmoaa.Proc.crowd_ H (6) ?_) ?_)
  · omega
  clear H
  rintro _ w1 ⟨p1, ⟨va1, ⟨xa1, ⟨rfl, ⟨h1, ⟨h2, H⟩⟩⟩⟩⟩⟩
  refine cF rfl ?_
  refine rLenF hx rfl ?_
  refine LoopP.rule (α := Nat × List ActV × Int) (0, xa1, 0) (fun x_ => [(25, .int .i64 x_.1)]) (fun x_ w_ => (x_.1 ≤ xs.length) ∧ (EP x_.2.1 []) ∧ Sat (froz w) w_ ([Pt p1 [.int .i64 0, va1, .int .i64 x_.2.2] 100, Sl 82 5 enAc va1 x_.2.1, Acts x_.2.1])) (fun x_ => xs.length - x_.1) ?_ ?_ ?_
  · repeat first | exact mt_nil | refine mt_cons rfl ?_ | refine mt_i rfl (by first | omega | (simp only; omega) | (simp; omega) | (simp; done)) ?_
  · try simp only
    refine ⟨?_, ?_⟩
    · omega
    refine ⟨?_, ?_⟩
    · exact ep_new (by omega) (by assumption)
    exact H
  clear H
  rintro ⟨i, xa, refs⟩ f_ w_ ⟨hi, hE, H⟩
  try simp only at hi hE H ⊢
  refine cI (fun c1 => ?_) (fun c1 => ?_)
  rotate_left
  · replace c1 := vLt_f (c1)
    refine Done.mk ?_
    exact ⟨rfl, H.finish⟩
  replace c1 := vLt_t (c1)
  refine bk ?_
  obtain ⟨x1, hx1⟩ : ∃ x, (xs)[(i)]? = some x := ⟨_, List.getElem?_eq_getElem (by omega)⟩
  obtain ⟨b1, o1, E1, F1, hok1⟩ := FSl.elt hx hx1
  refine rIxE E1 rfl rfl rfl ?_
  refine rLdA (H.fat F1) 0 rfl rfl rfl ?_
  refine rAllocS H rfl ?_
  clear H
  intro p2 w2 H
  clear w_
  refine rStAS H 0 rfl rfl rfl rfl ?_
  clear H
  intro w3 H
  clear w2
  refine drawJoin (α := Int × Int × Nat × Nat) (fun x_ => [(7, .pointer (some ⟨x_.2.2.1, 0, none⟩)), (8, .pointer (some ⟨x_.2.2.2, 0, none⟩))]) (fun x_ w_ => (1 ≤ x_.1 ∧ x_.1 ≤ 6) ∧ (1 ≤ x_.2.1 ∧ x_.2.1 ≤ 7) ∧ Sat (froz w) w_ ([Pt x_.2.2.1 [.int .i64 0, .int .i64 x_.1] 31, Pt x_.2.2.2 [.int .i64 0, .int .i64 x_.2.1] 31, Pt p2 (enSt x1) 54, Pt p1 [.int .i64 0, va1, .int .i64 refs] 100, Sl 82 5 enAc va1 xa, Acts xa])) ?_ ?_
  · refine drawtS H [] (.op 0 .pure (.op 1 .pure (.op 2 .held (.op 4 .pure (.op 5 .pure (.op 6 .held (.fork (.op 3 .forced (.fork (.op 7 .forced (.fork (.op 8 .forced (.op 9 .forced (.op 10 .free (.op 11 .free .nil)))) (.op 9 .forced (.op 8 .forced (.op 10 .free (.op 11 .free .nil)))))) (.fork (.op 8 .forced (.fork (.op 7 .forced (.op 9 .forced (.op 10 .free (.op 11 .free .nil)))) (.op 9 .forced (.op 7 .free (.op 10 .free (.op 11 .free .nil)))))) (.op 9 .forced (.fork (.op 7 .forced (.op 8 .forced (.op 10 .free (.op 11 .free .nil)))) (.op 8 .forced (.op 7 .free (.op 10 .free (.op 11 .free .nil))))))))) (.fork (.op 8 .forced (.fork (.op 3 .forced (.fork (.op 7 .forced (.op 9 .forced (.op 10 .free (.op 11 .free .nil)))) (.op 9 .forced (.op 7 .free (.op 10 .free (.op 11 .free .nil)))))) (.op 9 .forced (.op 3 .forced (.op 7 .free (.op 10 .free (.op 11 .free .nil))))))) (.op 9 .forced (.fork (.op 3 .forced (.fork (.op 7 .forced (.op 8 .forced (.op 10 .free (.op 11 .free .nil)))) (.op 8 .forced (.op 7 .free (.op 10 .free (.op 11 .free .nil)))))) (.op 8 .forced (.op 3 .forced (.op 7 .free (.op 10 .free (.op 11 .free .nil))))))))))))))) mixed (by kernel_rfl) ?_
    clear H
    intro w2 H
    clear w3
    refine tk (fun wx HS => rFieldAt rfl ⟨rfl, rfl⟩) ?_
    refine tk (fun wx HS => rFieldAt rfl ⟨rfl, rfl⟩) ?_
    refine tk (fun wx HS => rLd (HS.at 0 rfl) 2 rfl rfl rfl ⟨rfl, rfl⟩) ?_
    refine tk (fun wx HS => rFieldAt rfl ⟨rfl, rfl⟩) ?_
    refine tk (fun wx HS => rFieldAt rfl ⟨rfl, rfl⟩) ?_
    refine tk (fun wx HS => rLd (HS.at 0 rfl) 4 rfl rfl rfl ⟨rfl, rfl⟩) ?_
    refine ⟨?_, ?_⟩
    · refine CallP.mk (Fc.imp (Go.Proofs.Yticdhdpfimpmoaa.Proc.one_ H _ _ ?_ ?_) ?_)
      · omega
      · exact hok1.2.1
      clear H
      rintro _ w3 ⟨k1, ⟨rfl, ⟨h3, ⟨h4, ⟨h5, H⟩⟩⟩⟩⟩
      refine KeepP.mk (H) ?_
      refine ⟨?_, ?_⟩
      · refine CallP.mk (Fc.imp (Go.Proofs.Yticdhdpfimpmoaa.Proc.one_ H _ _ ?_ ?_) ?_)
        · omega
        · exact hok1.2.2.1
        clear H
        rintro _ w4 ⟨k2, ⟨rfl, ⟨h6, ⟨h7, ⟨h8, H⟩⟩⟩⟩⟩
        refine KeepP.mk (H) ?_
        refine ⟨?_, ?_⟩
        · refine rAllocS H rfl ?_
          clear H
          intro p3 w5 H
          clear w4
          refine KeepP.mk (H.drop 0 (fun H => H)) ?_
          refine rAllocS H rfl ?_
          clear H
          intro p4 w4 H
          clear w5
          refine KeepP.mk (H.drop 1 (fun H => H.drop 0 (fun H => H))) ?_
          refine rStAS H 1 rfl rfl rfl rfl ?_
          clear H
          intro w5 H
          clear w4
          refine rStAS H 0 rfl rfl rfl rfl ?_
          clear H
          intro w4 H
          clear w5
          refine Jn.mk ((k1, k2, p3, p4)) (mt_cons rfl (mt_cons rfl (mt_nil))) ?_
          refine ⟨?_, ?_⟩
          · refine ⟨?_, ?_⟩
            · assumption
            assumption
          refine ⟨?_, ?_⟩
          · refine ⟨?_, ?_⟩
            · assumption
            assumption
          refine H.fronts [5, 5, 5, 5, 4, 5] ?_
          clear H
          intro H
          exact H
        refine rAllocS H rfl ?_
        clear H
        intro p3 w5 H
        clear w4
        refine KeepP.mk (H.drop 0 (fun H => H)) ?_
        refine rAllocS H rfl ?_
        clear H
        intro p4 w4 H
        clear w5
        refine KeepP.mk (H.drop 1 (fun H => H.drop 0 (fun H => H))) ?_
        refine rStAS H 0 rfl rfl rfl rfl ?_
        clear H
        intro w5 H
        clear w4
        refine rStAS H 1 rfl rfl rfl rfl ?_
        clear H
        intro w4 H
        clear w5
        refine Jn.mk ((k1, k2, p4, p3)) (mt_cons rfl (mt_cons rfl (mt_nil))) ?_
        refine ⟨?_, ?_⟩
        · refine ⟨?_, ?_⟩
          · assumption
          assumption
        refine ⟨?_, ?_⟩
        · refine ⟨?_, ?_⟩
          · assumption
          assumption
        exact H
      refine ⟨?_, ?_⟩
      · refine rAllocS H rfl ?_
        clear H
        intro p3 w4 H
        clear w3
        refine KeepP.mk (H.drop 0 (fun H => H)) ?_
        refine ⟨?_, ?_⟩
        · refine CallP.mk (Fc.imp (Go.Proofs.Yticdhdpfimpmoaa.Proc.one_ H _ _ ?_ ?_) ?_)
          · omega
          · exact hok1.2.2.1
          clear H
          rintro _ w3 ⟨k2, ⟨rfl, ⟨h6, ⟨h7, ⟨h8, H⟩⟩⟩⟩⟩
          refine KeepP.mk (H.drop 0 (fun H => H)) ?_
          refine rAllocS H rfl ?_
          clear H
          intro p4 w5 H
          clear w3
          refine KeepP.mk (H.drop 1 (fun H => H.drop 0 (fun H => H))) ?_
          refine rStAS H 1 rfl rfl rfl rfl ?_
          clear H
          intro w3 H
          clear w5
          refine rStAS H 0 rfl rfl rfl rfl ?_
          clear H
          intro w5 H
          clear w3
          refine Jn.mk ((k1, k2, p3, p4)) (mt_cons rfl (mt_cons rfl (mt_nil))) ?_
          refine ⟨?_, ?_⟩
          · refine ⟨?_, ?_⟩
            · assumption
            assumption
          refine ⟨?_, ?_⟩
          · refine ⟨?_, ?_⟩
            · assumption
            assumption
          refine H.fronts [5, 5, 5, 5, 4, 5] ?_
          clear H
          intro H
          exact H
        refine rAllocS H rfl ?_
        clear H
        intro p4 w3 H
        clear w4
        refine KeepP.mk (H.drop 1 (fun H => H.drop 0 (fun H => H))) ?_
        refine CallP.mk (Fc.imp (Go.Proofs.Yticdhdpfimpmoaa.Proc.one_ H _ _ ?_ ?_) ?_)
        · omega
        · exact hok1.2.2.1
        clear H
        rintro _ w4 ⟨k2, ⟨rfl, ⟨h6, ⟨h7, ⟨h8, H⟩⟩⟩⟩⟩
        refine rStAS H 1 rfl rfl rfl rfl ?_
        clear H
        intro w5 H
        clear w4
        refine rStAS H 0 rfl rfl rfl rfl ?_
        clear H
        intro w4 H
        clear w5
        refine Jn.mk ((k1, k2, p3, p4)) (mt_cons rfl (mt_cons rfl (mt_nil))) ?_
        refine ⟨?_, ?_⟩
        · refine ⟨?_, ?_⟩
          · assumption
          assumption
        refine ⟨?_, ?_⟩
        · refine ⟨?_, ?_⟩
          · assumption
          assumption
        refine H.fronts [5, 5, 5, 5, 4, 5] ?_
        clear H
        intro H
        exact H
      refine rAllocS H rfl ?_
      clear H
      intro p3 w4 H
      clear w3
      refine KeepP.mk (H.drop 0 (fun H => H)) ?_
      refine ⟨?_, ?_⟩
      · refine CallP.mk (Fc.imp (Go.Proofs.Yticdhdpfimpmoaa.Proc.one_ H _ _ ?_ ?_) ?_)
        · omega
        · exact hok1.2.2.1
        clear H
        rintro _ w3 ⟨k2, ⟨rfl, ⟨h6, ⟨h7, ⟨h8, H⟩⟩⟩⟩⟩
        refine KeepP.mk (H.drop 0 (fun H => H)) ?_
        refine rAllocS H rfl ?_
        clear H
        intro p4 w5 H
        clear w3
        refine KeepP.mk (H.drop 1 (fun H => H.drop 0 (fun H => H))) ?_
        refine rStAS H 0 rfl rfl rfl rfl ?_
        clear H
        intro w3 H
        clear w5
        refine rStAS H 1 rfl rfl rfl rfl ?_
        clear H
        intro w5 H
        clear w3
        refine Jn.mk ((k1, k2, p4, p3)) (mt_cons rfl (mt_cons rfl (mt_nil))) ?_
        refine ⟨?_, ?_⟩
        · refine ⟨?_, ?_⟩
          · assumption
          assumption
        refine ⟨?_, ?_⟩
        · refine ⟨?_, ?_⟩
          · assumption
          assumption
        exact H
      refine rAllocS H rfl ?_
      clear H
      intro p4 w3 H
      clear w4
      refine KeepP.mk (H.drop 1 (fun H => H.drop 0 (fun H => H))) ?_
      refine CallP.mk (Fc.imp (Go.Proofs.Yticdhdpfimpmoaa.Proc.one_ H _ _ ?_ ?_) ?_)
      · omega
      · exact hok1.2.2.1
      clear H
      rintro _ w4 ⟨k2, ⟨rfl, ⟨h6, ⟨h7, ⟨h8, H⟩⟩⟩⟩⟩
      refine rStAS H 0 rfl rfl rfl rfl ?_
      clear H
      intro w5 H
      clear w4
      refine rStAS H 1 rfl rfl rfl rfl ?_
      clear H
      intro w4 H
      clear w5
      refine Jn.mk ((k1, k2, p4, p3)) (mt_cons rfl (mt_cons rfl (mt_nil))) ?_
      refine ⟨?_, ?_⟩
      · refine ⟨?_, ?_⟩
        · assumption
        assumption
      refine ⟨?_, ?_⟩
      · refine ⟨?_, ?_⟩
        · assumption
        assumption
      exact H
    refine ⟨?_, ?_⟩
    · refine rAllocS H rfl ?_
      clear H
      intro p3 w3 H
      clear w2
      refine KeepP.mk (H.drop 0 (fun H => H)) ?_
      refine ⟨?_, ?_⟩
      · refine CallP.mk (Fc.imp (Go.Proofs.Yticdhdpfimpmoaa.Proc.one_ H _ _ ?_ ?_) ?_)
        · omega
        · exact hok1.2.1
        clear H
        rintro _ w2 ⟨k1, ⟨rfl, ⟨h3, ⟨h4, ⟨h5, H⟩⟩⟩⟩⟩
        refine KeepP.mk (H.drop 0 (fun H => H)) ?_
        refine ⟨?_, ?_⟩
        · refine CallP.mk (Fc.imp (Go.Proofs.Yticdhdpfimpmoaa.Proc.one_ H _ _ ?_ ?_) ?_)
          · omega
          · exact hok1.2.2.1
          clear H
          rintro _ w4 ⟨k2, ⟨rfl, ⟨h6, ⟨h7, ⟨h8, H⟩⟩⟩⟩⟩
          refine KeepP.mk (H.drop 0 (fun H => H)) ?_
          refine rAllocS H rfl ?_
          clear H
          intro p4 w5 H
          clear w4
          refine KeepP.mk (H.drop 1 (fun H => H.drop 0 (fun H => H))) ?_
          refine rStAS H 1 rfl rfl rfl rfl ?_
          clear H
          intro w4 H
          clear w5
          refine rStAS H 0 rfl rfl rfl rfl ?_
          clear H
          intro w5 H
          clear w4
          refine Jn.mk ((k1, k2, p3, p4)) (mt_cons rfl (mt_cons rfl (mt_nil))) ?_
          refine ⟨?_, ?_⟩
          · refine ⟨?_, ?_⟩
            · assumption
            assumption
          refine ⟨?_, ?_⟩
          · refine ⟨?_, ?_⟩
            · assumption
            assumption
          refine H.fronts [5, 5, 5, 5, 4, 5] ?_
          clear H
          intro H
          exact H
        refine rAllocS H rfl ?_
        clear H
        intro p4 w4 H
        clear w2
        refine KeepP.mk (H.drop 1 (fun H => H.drop 0 (fun H => H))) ?_
        refine CallP.mk (Fc.imp (Go.Proofs.Yticdhdpfimpmoaa.Proc.one_ H _ _ ?_ ?_) ?_)
        · omega
        · exact hok1.2.2.1
        clear H
        rintro _ w2 ⟨k2, ⟨rfl, ⟨h6, ⟨h7, ⟨h8, H⟩⟩⟩⟩⟩
        refine rStAS H 1 rfl rfl rfl rfl ?_
        clear H
        intro w5 H
        clear w2
        refine rStAS H 0 rfl rfl rfl rfl ?_
        clear H
        intro w2 H
        clear w5
        refine Jn.mk ((k1, k2, p3, p4)) (mt_cons rfl (mt_cons rfl (mt_nil))) ?_
        refine ⟨?_, ?_⟩
        · refine ⟨?_, ?_⟩
          · assumption
          assumption
        refine ⟨?_, ?_⟩
        · refine ⟨?_, ?_⟩
          · assumption
          assumption
        refine H.fronts [5, 5, 5, 5, 4, 5] ?_
        clear H
        intro H
        exact H
      refine rAllocS H rfl ?_
      clear H
      intro p4 w2 H
      clear w3
      refine KeepP.mk (H.drop 1 (fun H => H.drop 0 (fun H => H))) ?_
      refine CallP.mk (Fc.imp (Go.Proofs.Yticdhdpfimpmoaa.Proc.one_ H _ _ ?_ ?_) ?_)
      · omega
      · exact hok1.2.1
      clear H
      rintro _ w3 ⟨k1, ⟨rfl, ⟨h3, ⟨h4, ⟨h5, H⟩⟩⟩⟩⟩
      refine KeepP.mk (H.drop 1 (fun H => H.drop 0 (fun H => H))) ?_
      refine CallP.mk (Fc.imp (Go.Proofs.Yticdhdpfimpmoaa.Proc.one_ H _ _ ?_ ?_) ?_)
      · omega
      · exact hok1.2.2.1
      clear H
      rintro _ w4 ⟨k2, ⟨rfl, ⟨h6, ⟨h7, ⟨h8, H⟩⟩⟩⟩⟩
      refine rStAS H 1 rfl rfl rfl rfl ?_
      clear H
      intro w5 H
      clear w4
      refine rStAS H 0 rfl rfl rfl rfl ?_
      clear H
      intro w4 H
      clear w5
      refine Jn.mk ((k1, k2, p3, p4)) (mt_cons rfl (mt_cons rfl (mt_nil))) ?_
      refine ⟨?_, ?_⟩
      · refine ⟨?_, ?_⟩
        · assumption
        assumption
      refine ⟨?_, ?_⟩
      · refine ⟨?_, ?_⟩
        · assumption
        assumption
      refine H.fronts [5, 5, 5, 5, 4, 5] ?_
      clear H
      intro H
      exact H
    refine rAllocS H rfl ?_
    clear H
    intro p3 w3 H
    clear w2
    refine KeepP.mk (H.drop 0 (fun H => H)) ?_
    refine ⟨?_, ?_⟩
    · refine CallP.mk (Fc.imp (Go.Proofs.Yticdhdpfimpmoaa.Proc.one_ H _ _ ?_ ?_) ?_)
      · omega
      · exact hok1.2.1
      clear H
      rintro _ w2 ⟨k1, ⟨rfl, ⟨h3, ⟨h4, ⟨h5, H⟩⟩⟩⟩⟩
      refine KeepP.mk (H.drop 0 (fun H => H)) ?_
      refine ⟨?_, ?_⟩
      · refine CallP.mk (Fc.imp (Go.Proofs.Yticdhdpfimpmoaa.Proc.one_ H _ _ ?_ ?_) ?_)
        · omega
        · exact hok1.2.2.1
        clear H
        rintro _ w4 ⟨k2, ⟨rfl, ⟨h6, ⟨h7, ⟨h8, H⟩⟩⟩⟩⟩
        refine KeepP.mk (H.drop 0 (fun H => H)) ?_
        refine rAllocS H rfl ?_
        clear H
        intro p4 w5 H
        clear w4
        refine KeepP.mk (H.drop 1 (fun H => H.drop 0 (fun H => H))) ?_
        refine rStAS H 0 rfl rfl rfl rfl ?_
        clear H
        intro w4 H
        clear w5
        refine rStAS H 1 rfl rfl rfl rfl ?_
        clear H
        intro w5 H
        clear w4
        refine Jn.mk ((k1, k2, p4, p3)) (mt_cons rfl (mt_cons rfl (mt_nil))) ?_
        refine ⟨?_, ?_⟩
        · refine ⟨?_, ?_⟩
          · assumption
          assumption
        refine ⟨?_, ?_⟩
        · refine ⟨?_, ?_⟩
          · assumption
          assumption
        exact H
      refine rAllocS H rfl ?_
      clear H
      intro p4 w4 H
      clear w2
      refine KeepP.mk (H.drop 1 (fun H => H.drop 0 (fun H => H))) ?_
      refine CallP.mk (Fc.imp (Go.Proofs.Yticdhdpfimpmoaa.Proc.one_ H _ _ ?_ ?_) ?_)
      · omega
      · exact hok1.2.2.1
      clear H
      rintro _ w2 ⟨k2, ⟨rfl, ⟨h6, ⟨h7, ⟨h8, H⟩⟩⟩⟩⟩
      refine rStAS H 0 rfl rfl rfl rfl ?_
      clear H
      intro w5 H
      clear w2
      refine rStAS H 1 rfl rfl rfl rfl ?_
      clear H
      intro w2 H
      clear w5
      refine Jn.mk ((k1, k2, p4, p3)) (mt_cons rfl (mt_cons rfl (mt_nil))) ?_
      refine ⟨?_, ?_⟩
      · refine ⟨?_, ?_⟩
        · assumption
        assumption
      refine ⟨?_, ?_⟩
      · refine ⟨?_, ?_⟩
        · assumption
        assumption
      exact H
    refine rAllocS H rfl ?_
    clear H
    intro p4 w2 H
    clear w3
    refine KeepP.mk (H.drop 1 (fun H => H.drop 0 (fun H => H))) ?_
    refine CallP.mk (Fc.imp (Go.Proofs.Yticdhdpfimpmoaa.Proc.one_ H _ _ ?_ ?_) ?_)
    · omega
    · exact hok1.2.1
    clear H
    rintro _ w3 ⟨k1, ⟨rfl, ⟨h3, ⟨h4, ⟨h5, H⟩⟩⟩⟩⟩
    refine KeepP.mk (H.drop 1 (fun H => H.drop 0 (fun H => H))) ?_
    refine CallP.mk (Fc.imp (Go.Proofs.Yticdhdpfimpmoaa.Proc.one_ H _ _ ?_ ?_) ?_)
    · omega
    · exact hok1.2.2.1
    clear H
    rintro _ w4 ⟨k2, ⟨rfl, ⟨h6, ⟨h7, ⟨h8, H⟩⟩⟩⟩⟩
    refine rStAS H 0 rfl rfl rfl rfl ?_
    clear H
    intro w5 H
    clear w4
    refine rStAS H 1 rfl rfl rfl rfl ?_
    clear H
    intro w4 H
    clear w5
    refine Jn.mk ((k1, k2, p4, p3)) (mt_cons rfl (mt_cons rfl (mt_nil))) ?_
    refine ⟨?_, ?_⟩
    · refine ⟨?_, ?_⟩
      · assumption
      assumption
    refine ⟨?_, ?_⟩
    · refine ⟨?_, ?_⟩
      · assumption
      assumption
    exact H
  clear H
  rintro ⟨k1, k2, p3, p4⟩ f_ w_ ⟨hk1, hk2, H⟩
  try simp only at hk1 hk2 H ⊢
  refine rFieldAt rfl ?_
  refine rLd (H.at 2 rfl) 0 rfl rfl rfl ?_
  refine CallP.mk (Fc.imp (Go.Proofs.Yticdhdpfimpmoaa.Proc.step_ H _ _ ?_ ?_) ?_)
  · omega
  · exact hok1.1
  clear H
  rintro _ w2 ⟨k3, ⟨rfl, ⟨h3, ⟨h4, ⟨h5, H⟩⟩⟩⟩⟩
  replace H := H.sl0 (en := enSi) (s := 9) 40 (fun _ => rfl)
  refine block_join (α := Value × List ActV × List SigD) (fun x_ => [(9, x_.1)]) (fun x_ w_ => (LkI [] x_.2.1 x_.2.2) ∧ (x_.2.2.length ≤ 100) ∧ Sat (froz w) w_ ([Sl 40 9 enSi x_.1 x_.2.2, Pt p1 [.int .i64 0, va1, .int .i64 refs] 100, Sl 82 5 enAc va1 x_.2.1, Acts x_.2.1])) ?_ ?_
  · refine cI (fun c2 => ?_) (fun c2 => ?_)
    · replace c2 := vEq_t (c2)
      refine rLdA (H.at 1 rfl) 0 rfl rfl rfl ?_
      refine rLdA (H.at 2 rfl) 0 rfl rfl rfl ?_
      refine H.fronts [6, 6, 6] ?_
      clear H
      intro H
      refine CallP.mk (Fc.imp (Go.Proofs.Yticdhdpfimpmoaa.Proc.linkL H ?_ _ _ ?_ ?_) ?_)
      · assumption
      · omega
      · omega
      clear H
      rintro _ w4 ⟨v1, ⟨xa'1, ⟨sg1, ⟨e1, ⟨rfl, ⟨h6, ⟨h7, ⟨h8, H⟩⟩⟩⟩⟩⟩⟩⟩
      refine Jn.mk ((v1, xa'1, sg1)) (mt_cons rfl (mt_nil)) ?_
      refine ⟨?_, ?_⟩
      · assumption
      refine ⟨?_, ?_⟩
      · assumption
      refine H.firsts 4 ?_
      clear H
      intro H
      exact H
    replace c2 := vEq_f (c2)
    refine cI (fun c3 => ?_) (fun c3 => ?_)
    · replace c3 := vEq_t (c3)
      refine rLdA (H.at 1 rfl) 0 rfl rfl rfl ?_
      refine rLdA (H.at 2 rfl) 0 rfl rfl rfl ?_
      refine H.fronts [6, 6, 6] ?_
      clear H
      intro H
      refine CallP.mk (Fc.imp (Go.Proofs.Yticdhdpfimpmoaa.Proc.unlinkL H ?_ _ _ ?_ ?_) ?_)
      · assumption
      · omega
      · omega
      clear H
      rintro _ w4 ⟨v1, ⟨xa'1, ⟨sg1, ⟨e1, ⟨rfl, ⟨h6, ⟨h7, ⟨h8, H⟩⟩⟩⟩⟩⟩⟩⟩
      refine Jn.mk ((v1, xa'1, sg1)) (mt_cons rfl (mt_nil)) ?_
      refine ⟨?_, ?_⟩
      · assumption
      refine ⟨?_, ?_⟩
      · assumption
      refine H.firsts 4 ?_
      clear H
      intro H
      exact H
    replace c3 := vEq_f (c3)
    refine cI (fun c4 => ?_) (fun c4 => ?_)
    · replace c4 := vEq_t (c4)
      refine rLdA (H.at 1 rfl) 0 rfl rfl rfl ?_
      refine rFieldAt rfl ?_
      refine rLd (H.at 3 rfl) 5 rfl rfl rfl ?_
      refine H.fronts [6, 6, 6] ?_
      clear H
      intro H
      refine CallP.mk (Fc.imp (Go.Proofs.Yticdhdpfimpmoaa.Proc.trapL H ?_ _ _ ?_) ?_)
      · assumption
      · omega
      clear H
      rintro _ w4 ⟨b2, ⟨xa'1, ⟨rfl, ⟨h6, ⟨h7, H⟩⟩⟩⟩⟩
      refine Jn.mk ((Value.slice none 0 0, xa'1, [])) (mt_cons rfl (mt_nil)) ?_
      refine ⟨?_, ?_⟩
      · assumption
      refine ⟨?_, ?_⟩
      · (simp only [List.length_append, List.length_set, List.length_cons, List.length_nil]; omega)
      refine H.fronts [2, 2, 2, 3] ?_
      clear H
      intro H
      refine H.firsts 4 ?_
      clear H
      intro H
      exact H
    replace c4 := vEq_f (c4)
    refine cT (vEq_T (by omega)) ?_
    refine drawzS H [] [(0, .pure), (1, .held), (2, .pure), (3, .held), (4, .forced), (5, .free), (6, .pure), (7, .pure), (8, .pure), (9, .pure)] mixed (by kernel_rfl) (by kernel_rfl) ?_
    clear H
    intro w4 H
    clear w2
    refine tk (fun wx HS => rLdA (HS.at 1 rfl) 0 rfl rfl rfl ⟨rfl, rfl⟩) ?_
    refine tk (fun wx HS => rFieldAt rfl ⟨rfl, rfl⟩) ?_
    refine tk (fun wx HS => rLd (HS.at 3 rfl) 6 rfl rfl rfl ⟨rfl, rfl⟩) ?_
    refine CallP.mk (Fc.imp (Go.Proofs.Yticdhdpfimpmoaa.Proc.rest_ H _ _ ?_ ?_) ?_)
    · omega
    · exact hok1.2.2.2
    clear H
    rintro _ w2 ⟨k4, ⟨rfl, ⟨h6, ⟨h7, ⟨h8, H⟩⟩⟩⟩⟩
    refine KeepP.mk (H) ?_
    refine H.fronts [6, 6, 6] ?_
    clear H
    intro H
    refine CallP.mk (Fc.imp (Go.Proofs.Yticdhdpfimpmoaa.Proc.endL H ?_ _ _ ?_ ?_) ?_)
    · assumption
    · omega
    · omega
    clear H
    rintro _ w5 ⟨v1, ⟨xa'1, ⟨sg1, ⟨e1, ⟨rfl, ⟨h9, ⟨h10, ⟨h11, H⟩⟩⟩⟩⟩⟩⟩⟩
    refine Jn.mk ((v1, xa'1, sg1)) (mt_cons rfl (mt_nil)) ?_
    refine ⟨?_, ?_⟩
    · assumption
    refine ⟨?_, ?_⟩
    · assumption
    refine H.firsts 4 ?_
    clear H
    intro H
    exact H
  clear H
  rintro ⟨vo, xb, sg⟩ f_ w_ ⟨hL, hs, H⟩
  try simp only at hL hs H ⊢
  
  have Hs := ((((Sat.sts0 H).front (j := 4) rfl).front (j := 4) rfl).front (j := 4) rfl).front (j := 4) rfl
  refine CallP.mk (Fc.imp (signals_ (Z := fun _ => sts []) lkI see0_ hL (by omega) Hs) ?_)
  clear H Hs
  rintro r1 w6 ⟨b6, tr, xc, rfl, hb6, hN, H⟩
  replace H := (H.front (j := 3) rfl).spread
  simp only [List.cons_append, List.nil_append, List.eraseIdx] at H
  have hE6 := hN.fin
  have hl8 := hE6.len
  refine cF (not_F ((by assumption))) ?_
  refine LoopP.rule (α := Nat) (0) (fun x_ => [(80, .int .i64 x_)]) (fun x_ w_ => (x_ ≤ 6) ∧ Sat (froz w) w_ ([Pt p1 [.int .i64 0, va1, .int .i64 refs] 100, Sl 82 5 enAc va1 xc, Acts xc])) (fun x_ => 6 - x_) ?_ ?_ ?_
  · repeat first | exact mt_nil | refine mt_cons rfl ?_ | refine mt_i rfl (by first | omega | (simp only; omega) | (simp; omega) | (simp; done)) ?_
  · try simp only
    refine ⟨?_, ?_⟩
    · omega
    exact H
  clear H
  rintro i2 f_ w_ ⟨hi2, H⟩
  try simp only at hi2 H ⊢
  refine cI (fun c2 => ?_) (fun c2 => ?_)
  rotate_left
  · replace c2 := vLt_f (c2)
    refine eqI64 (by omega) ?_
    refine Nxt.mk ((i + 1, xc, refs)) (mt_i rfl (by first | omega | (simp only; omega) | (simp; omega)) (mt_nil)) ?_ ?_
    · refine ⟨?_, ?_⟩
      · omega
      refine ⟨?_, ?_⟩
      · assumption
      exact H
    omega
  replace c2 := vLt_t (c2)
  refine bk ?_
  refine CallP.mk (Fc.imp (Go.Proofs.Yticdhdpfimpmoaa.Proc.one_ H _ _ ?_ ?_) ?_)
  · omega
  · omega
  clear H
  rintro _ w4 ⟨k4, ⟨rfl, ⟨h6, ⟨h7, ⟨h8, H⟩⟩⟩⟩⟩
  refine rAllocS H rfl ?_
  clear H
  intro p5 w5 H
  clear w4
  refine rStAS H 0 rfl rfl rfl rfl ?_
  clear H
  intro w4 H
  clear w5
  refine rLdA (H.at 0 rfl) 0 rfl rfl rfl ?_
  refine H.fronts [3, 3, 3] ?_
  clear H
  intro H
  refine CallP.mk (Fc.imp (Go.Proofs.Yticdhdpfimpmoaa.Proc.linksA H ?_ _ _ ?_) ?_)
  · assumption
  · omega
  clear H
  rintro v' w5 ⟨ks1, ⟨h9, ⟨h10, H⟩⟩⟩
  refine rLenS H 0 rfl rfl ?_
  refine LoopP.rule (α := Nat) (0) (fun x_ => [(89, .int .i64 x_)]) (fun x_ w_ => (x_ ≤ ks1.length) ∧ Sat (froz w) w_ ([Sl 31 2 enPd v' ks1, Pt p1 [.int .i64 0, va1, .int .i64 refs] 100, Sl 82 5 enAc va1 xc, Acts xc, Pt p5 [.int .i64 0, .int .i64 k4] 31])) (fun x_ => ks1.length - x_) ?_ ?_ ?_
  · repeat first | exact mt_nil | refine mt_cons rfl ?_ | refine mt_i rfl (by first | omega | (simp only; omega) | (simp; omega) | (simp; done)) ?_
  · try simp only
    refine ⟨?_, ?_⟩
    · omega
    exact H
  clear H
  rintro j f_ w_ ⟨hj, H⟩
  try simp only at hj H ⊢
  rcases Nat.lt_or_ge j ks1.length with hlt | hge
  · obtain ⟨q, hq⟩ : ∃ q, ks1[j]? = some q := ⟨_, List.getElem?_eq_getElem hlt⟩
    obtain ⟨x, hx5, hlx⟩ := (h9 q).1 (List.mem_of_getElem? hq)
    obtain ⟨y, hy5, hly⟩ := hE6.both hx5 hlx
    obtain ⟨hq1, hq2⟩ := ((hE6.wf _ _ hx5).keys q hlx).1
    obtain ⟨q1, q2⟩ := q
    simp only at hq1 hq2
    subst hq1
    refine cT (vLt_T (by omega)) ?_
    refine bk ?_
    obtain ⟨b2, o2, E2⟩ := H.elt 0 rfl (j) (by omega)
    refine rIxE E2 rfl rfl rfl ?_
    refine rLdA (H.el 0 rfl E2 hq) 0 rfl rfl rfl ?_
    refine rAllocS H rfl ?_
    clear H
    intro p6 w7 H
    clear w_
    refine rStAS H 0 rfl rfl rfl rfl ?_
    clear H
    intro w8 H
    clear w7
    refine rLdA (H.at 0 rfl) 0 rfl rfl rfl ?_
    refine H.fronts [4, 4, 4] ?_
    clear H
    intro H
    refine CallP.mk (Fc.imp (Go.Proofs.Yticdhdpfimpmoaa.Proc.linksA H ?_ _ _ ?_) ?_)
    · assumption
    · assumption
    clear H
    rintro va' w7 ⟨ks2, ⟨h11, ⟨h12, H⟩⟩⟩
    refine rLenS H 0 rfl rfl ?_
    have hp2 : ((0, k4) : PidD) ∈ ks2 := (h11 (0, k4)).2 ⟨y, hy5, hly⟩
    refine LoopP.rule (α := Nat × Bool) (0, false) (fun x_ => [(97, .int .i64 x_.1), (14, .bool x_.2)]) (fun x_ w_ => (x_.1 ≤ ks2.length) ∧ (x_.2 = true ↔ ((0, k4) : PidD) ∈ ks2.take x_.1) ∧ Sat (froz w) w_ ([Sl 31 2 enPd va' ks2, Pt p1 [.int .i64 0, va1, .int .i64 refs] 100, Sl 82 5 enAc va1 xc, Acts xc, Pt p6 [.int .i64 0, .int .i64 q2] 31, Sl 31 2 enPd v' ks1, Pt p5 [.int .i64 0, .int .i64 k4] 31])) (fun x_ => ks2.length - x_.1) ?_ ?_ ?_
    · repeat first | exact mt_nil | refine mt_cons rfl ?_ | refine mt_i rfl (by first | omega | (simp only; omega) | (simp; omega) | (simp; done)) ?_
    · try simp only
      refine ⟨?_, ?_⟩
      · (simp)
      refine ⟨?_, ?_⟩
      · (simp)
      exact H
    clear H
    rintro ⟨m, back⟩ f_ w_ ⟨hm, hbk, H⟩
    try simp only at hm hbk H ⊢
    rcases Nat.lt_or_ge m ks2.length with hlt2 | hge2
    · obtain ⟨r, hr⟩ : ∃ r, ks2[m]? = some r := ⟨_, List.getElem?_eq_getElem hlt2⟩
      cases back with
      | true =>
        refine cT (vLt_T (by omega)) ?_
        refine bk ?_
        obtain ⟨b3, o3, E3⟩ := H.elt 0 rfl (m) (by omega)
        refine rIxE E3 rfl rfl rfl ?_
        refine rLdA (H.el 0 rfl E3 hr) 0 rfl rfl rfl ?_
        refine rAllocS H rfl ?_
        clear H
        intro p7 w9 H
        clear w_
        refine rStAS H 0 rfl rfl rfl rfl ?_
        clear H
        intro w10 H
        clear w9
        refine eqI64 (by omega) ?_
        refine Nxt.mk ((m + 1, true)) (mt_i rfl (by first | omega | (simp only; omega) | (simp; omega)) (mt_cons rfl (mt_nil))) ?_ ?_
        · refine ⟨?_, ?_⟩
          · assumption
          refine ⟨?_, ?_⟩
          · exact bk_t hr hbk rfl
          refine H.fronts [7, 7, 7, 7, 7, 7, 7] ?_
          clear H
          intro H
          refine H.firsts 7 ?_
          clear H
          intro H
          exact H
        omega
      | false =>
        refine cT (vLt_T (by omega)) ?_
        refine bk ?_
        obtain ⟨b3, o3, E3⟩ := H.elt 0 rfl (m) (by omega)
        refine rIxE E3 rfl rfl rfl ?_
        refine rLdA (H.el 0 rfl E3 hr) 0 rfl rfl rfl ?_
        refine rAllocS H rfl ?_
        clear H
        intro p7 w9 H
        clear w_
        refine rStAS H 0 rfl rfl rfl rfl ?_
        clear H
        intro w10 H
        clear w9
        refine rLdA (H.at 0 rfl) 0 rfl rfl rfl ?_
        refine rLdA (H.at 7 rfl) 0 rfl rfl rfl ?_
        refine rStructEq (by kernel_rfl) (by kernel_rfl) ?_
        refine eqI64 (by omega) ?_
        refine Nxt.mk ((m + 1,
          match vEq r.fst 0 with
          | false => false
          | true => vEq r.snd k4 && true)) (mt_i rfl (by first | omega | (simp only; omega) | (simp; omega)) (mt_cons rfl (mt_nil))) ?_ ?_
        · refine ⟨?_, ?_⟩
          · assumption
          refine ⟨?_, ?_⟩
          · exact bk_f hr hbk rfl
          refine H.fronts [7, 7, 7, 7, 7, 7, 7] ?_
          clear H
          intro H
          refine H.firsts 7 ?_
          clear H
          intro H
          exact H
        omega
    · rw [List.take_of_length_le hge2] at hbk
      have hbt := hbk.2 hp2
      refine cF (vLt_F (by omega)) ?_
      refine rLdA (H.at 6 rfl) 0 rfl rfl rfl ?_
      refine H.fronts [2, 2] ?_
      clear H
      intro H
      refine CallP.mk (Fc.imp (Go.Proofs.Yticdhdpfimpmoaa.Proc.aliveY H _ _ ?_ _ hx5) ?_)
      · omega
      clear H
      rintro _ w9 ⟨b3, ⟨rfl, ⟨h13, H⟩⟩⟩
      refine br_f (not_F ((by assumption))) ?_
      refine rLdA (H.at 4 rfl) 0 rfl rfl rfl ?_
      refine CallP.mk (Fc.imp (Go.Proofs.Yticdhdpfimpmoaa.Proc.aliveY H _ _ ?_ _ hy5) ?_)
      · omega
      clear H
      rintro _ w10 ⟨b4, ⟨rfl, ⟨h14, H⟩⟩⟩
      refine br_f (not_F ((by assumption))) ?_
      refine cF (not_F (hbk.2 (by assumption))) ?_
      refine eqI64 (by omega) ?_
      refine Nxt.mk (j + 1) (mt_i rfl (by first | omega | (simp only; omega) | (simp; omega)) (mt_nil)) ?_ ?_
      · refine ⟨?_, ?_⟩
        · assumption
        refine H.fronts [6, 4, 3, 3, 6] ?_
        clear H
        intro H
        refine H.firsts 5 ?_
        clear H
        intro H
        exact H
      omega
  · refine cF (vLt_F (by omega)) ?_
    refine eqI64 (by omega) ?_
    refine Nxt.mk (i2 + 1) (mt_i rfl (by first | omega | (simp only; omega) | (simp; omega)) (mt_nil)) ?_ ?_
    · refine ⟨?_, ?_⟩
      · omega
      refine H.fronts [3, 3, 3] ?_
      clear H
      intro H
      refine H.firsts 3 ?_
      clear H
      intro H
      exact H
    omega
end Go.Proofs.Yticdhdpfimpmoaa.Proc
/- The laws over linkedUp: the walk of linkedUp. -/
set_option maxRecDepth 100000
set_option maxHeartbeats 4000000
set_option linter.unusedVariables false
set_option linter.unusedSimpArgs false
namespace Go.Proofs.Yticdhdpfimpmoaa.Proc
open Go Go.Proofs.Yticdhdpfimpmoaa.Eng Go.RowKit
open Go.Proofs.Yticdhdpfimpmoaa.Eng.MG
def enP2 (x : Int × Int) : List Value := [.int .i64 x.1, .int .i64 x.2]
def okP2 (x : Int × Int) : Prop := r64 x.1 ∧ r64 x.2
def enBo (x : Bool) : List Value := [.bool x]
def okBo (_ : Bool) : Prop := True
theorem fitsP2 (cs : List Value) (h : fitsL [.int .i64, .int .i64] cs) : ∃ x, cs = enP2 x ∧ okP2 x := by
  obtain ⟨_, _, rfl, ⟨a, rfl, ha⟩, _, _, rfl, ⟨b, rfl, hb⟩, rfl⟩ := h
  exact ⟨(a, b), rfl, ha, hb⟩
theorem fitsBo (cs : List Value) (h : fitsL [.bool] cs) : ∃ x, cs = enBo x ∧ okBo x := by
  obtain ⟨_, _, rfl, ⟨a, rfl⟩, rfl⟩ := h
  exact ⟨a, rfl, trivial⟩
abbrev Mtx := Nat → Nat → Bool
abbrev Vec := Nat → Bool
def pA (x : Int) : Nat := (oneF x 8).2.toNat
def lkW (W : Nat → Nat → Bool) (x : Int × Int) : Nat → Nat → Bool := if pA x.1 = pA x.2 then W else upd2 (upd2 W (pA x.1) (pA x.2) true) (pA x.2) (pA x.1) true
def Wof (ps : List (Int × Int)) : Nat → Nat → Bool := ps.foldl lkW fun _ _ => false
def Tof (ts : List Bool) (i : Nat) : Nat → Bool := fun n => if 1 ≤ n ∧ n ≤ i then (ts[n - 1]?).getD false else false
theorem Wof_step {ps : List (Int × Int)} {i : Nat} {x : Int × Int} (hx : ps[i]? = some x) : Wof (ps.take (i + 1)) = lkW (Wof (ps.take i)) x := by
  unfold Wof
  rw [List.take_add_one, hx, List.foldl_append]; rfl
theorem Tof_step {ts : List Bool} {i : Nat} {x : Bool} (hx : ts[i]? = some x) : Tof ts (i + 1) = updN (Tof ts i) (i + 1) x := by
  funext n
  unfold Tof updN
  by_cases h : n = i + 1
  · subst h; rw [if_pos rfl, if_pos (by omega), Nat.add_sub_cancel, hx]; rfl
  · rw [if_neg h]
    show (if 1 ≤ n ∧ n ≤ i + 1 then (ts[n - 1]?).getD false else false) = (if 1 ≤ n ∧ n ≤ i then (ts[n - 1]?).getD false else false)
    by_cases h2 : 1 ≤ n ∧ n ≤ i
    · rw [if_pos h2, if_pos (by omega)]
    · rw [if_neg h2, if_neg (by omega)]
theorem pA_rng (x : Int) : 1 ≤ pA x ∧ pA x ≤ 8 := by
  have := oneF_rng (n := x) (m := 8) (by omega)
  unfold pA
  omega
theorem pA_eq {x k : Int} (h : oneF x 8 = (0, k)) : k = ((pA x : Nat) : Int) := by
  have := oneF_rng (n := x) (m := 8) (by omega)
  unfold pA
  rw [h] at this ⊢
  simp only at this ⊢
  omega
section
variable {g : Glob} {w : World} {l : List As}
theorem see32_ {Inv : Tr → List ActV → List SigD → Prop} : SeeC 32 [] Inv (fun tr => sts []) := by
  intro g w l tr s f vo q xa xa' h0 hT H
  refine Fc.of Try.func32 rfl (by kernel_rfl) ?_
  refine rBoxS H ?_
  clear H
  intro p1 w1 H
  refine rBoxS H ?_
  clear H
  intro p2 w2 H
  clear w1
  refine Done.mk ?_
  exact (H.del 0).del 0
section
variable {p : Nat} {va : Value} {refs : Int} {xa : List ActV} {W : Nat → Nat → Bool} {T : Nat → Bool}
theorem linkU (H : Sat g w (Pt p [.int .i64 0, va, .int .i64 refs] 100 :: Sl 82 5 enAc va xa :: Acts xa :: l)) (hU : LUT xa W T) (a b : Nat) (ha : 1 ≤ a ∧ a ≤ 8) (hb : 1 ≤ b ∧ b ≤ 8) : Fc Try.prog 19 #[.pointer (some ⟨p, 0, none⟩), .agg #[.int .i64 0, .int .i64 (a : Int)], .agg #[.int .i64 0, .int .i64 (b : Int)]] w (fun r w' => ∃ v xa' sg e, r = .tuple #[v, .int .i64 e] ∧ e = 0 ∧ LuI W T a b [] xa' sg ∧ sg.length ≤ 1 ∧ Sat g w' (Sl 40 9 enSi v sg :: Pt p [.int .i64 0, va, .int .i64 refs] 100 :: Sl 82 5 enAc va xa' :: Acts xa' :: l)) := by
  have := hU.len
  refine Fc.imp (link_ H 0 a 0 b (by omega) (by omega)) ?_
  rintro r w' ⟨v, xa', sg, e, hr, hF, H⟩
  obtain ⟨h1, h2, h3⟩ := hU.link ha hb hF
  exact ⟨v, xa', sg, e, hr, h1, h2, h3, H⟩
theorem trapU (H : Sat g w (Pt p [.int .i64 0, va, .int .i64 refs] 100 :: Sl 82 5 enAc va xa :: Acts xa :: l)) (hU : LUT xa W T) (a : Nat) (on : Bool) (ha : 1 ≤ a ∧ a ≤ 8) : Fc Try.prog 21 #[.pointer (some ⟨p, 0, none⟩), .agg #[.int .i64 0, .int .i64 (a : Int)], .bool on] w (fun r w' => ∃ b xa', r = .bool b ∧ LUT xa' W (updN T a on) ∧ Sat g w' (Pt p [.int .i64 0, va, .int .i64 refs] 100 :: Sl 82 5 enAc va xa' :: Acts xa' :: l)) := by
  have := hU.len
  refine Fc.imp (trap_ H 0 a on (by omega) (by omega)) ?_
  rintro r w' ⟨b, xa', hr, hF, H⟩
  exact ⟨b, xa', hr, hU.trap ha hF, H⟩
end
theorem linkedUp_ (H : Sat g w l) (v1 v2 : Value) (ps : List (Int × Int)) (ts : List Bool) (hx : FSl g enP2 okP2 2 v1 ps) (hy : FSl g enBo okBo 1 v2 ts) : Fc Try.prog 9 #[v1, v2] w (fun r w' => ∃ p va xa, r = .tuple #[.pointer (some ⟨p, 0, none⟩), .agg (a81 (Wof ps)).toArray, .agg (a9b (Tof ts (min 8 ts.length))).toArray, .bool true] ∧ LUT xa (Wof ps) (Tof ts (min 8 ts.length)) ∧ Sat g w' (Pt p [.int .i64 0, va, .int .i64 0] 100 :: Sl 82 5 enAc va xa :: Acts xa :: l)) := by
  refine Fc.of Try.func9 rfl (by kernel_rfl) ?_
  have hxl := hx.len
  have hyl := hy.len
  refine rAllocS H rfl ?_
  clear H
  intro p1 w1 H
  refine rAllocS H rfl ?_
  clear H
  intro p2 w2 H
  clear w1
  refine rAllocS H rfl ?_
  clear H
  intro p3 w1 H
  clear w2
  refine rAllocS H rfl ?_
  clear H
  intro p4 w2 H
  clear w1
  refine CallP.mk (Fc.imp (Go.Proofs.Yticdhdpfimpmoaa.Proc.crowd_ H (8) ?_) ?_)
  · omega
  clear H
  rintro _ w1 ⟨p5, ⟨va1, ⟨xa1, ⟨rfl, ⟨h1, ⟨h2, H⟩⟩⟩⟩⟩⟩
  refine cF rfl ?_
  refine rLenF hx rfl ?_
  replace H : Sat g w1 (Pt p5 [.int .i64 0, va1, .int .i64 0] 100 :: Sl 82 5 enAc va1 xa1 :: Acts xa1 :: Pt p4 (a9b fun _ => false) 26 :: Pt p3 (a81 fun _ _ => false) 27 :: Pt p2 (a9b fun _ => false) 26 :: Pt p1 (a81 fun _ _ => false) 27 :: l) := H
  have hU1 := LUT.new h1 h2
  refine LoopP.rule (α := Nat × List ActV × Mtx) (0, xa1, fun _ _ => false) (fun x_ => [(30, .int .i64 x_.1)]) (fun x_ w_ => (x_.1 ≤ ps.length) ∧ (x_.2.2 = Wof (ps.take x_.1)) ∧ (LUT x_.2.1 x_.2.2 (fun _ => false)) ∧ Sat g w_ ((Pt p5 [.int .i64 0, va1, .int .i64 0] 100 :: Sl 82 5 enAc va1 x_.2.1 :: Acts x_.2.1 :: Pt p4 (a9b fun _ => false) 26 :: Pt p3 (a81 x_.2.2) 27 :: Pt p2 (a9b fun _ => false) 26 :: Pt p1 (a81 fun _ _ => false) 27 :: l))) (fun x_ => ps.length - x_.1) ?_ ?_ ?_
  · repeat first | exact mt_nil | refine mt_cons rfl ?_ | refine mt_i rfl (by first | omega | (simp only; omega) | (simp; omega) | (simp; done)) ?_
  · try simp only
    refine ⟨?_, ?_⟩
    · omega
    refine ⟨?_, ?_⟩
    · rfl
    refine ⟨?_, ?_⟩
    · assumption
    exact H
  clear H
  rintro ⟨i, xa, W⟩ f_ w_ ⟨hi, hW, hU, H⟩
  try simp only at hi hW hU H ⊢
  rcases Nat.lt_or_ge i ps.length with hlt | hge
  · have hlt := hlt
    refine cT (vLt_T (by omega)) ?_
    refine bk ?_
    obtain ⟨x1, hx1⟩ : ∃ x, (ps)[(i)]? = some x := ⟨_, List.getElem?_eq_getElem (by omega)⟩
    obtain ⟨b1, o1, E1, F1, hok1⟩ := FSl.elt hx hx1
    refine rIxE E1 rfl rfl rfl ?_
    refine rLdA (H.fat F1) 0 rfl rfl rfl ?_
    refine rAllocS H rfl ?_
    clear H
    intro p6 w3 H
    clear w_
    refine rStAS H 0 rfl rfl rfl rfl ?_
    clear H
    intro w4 H
    clear w3
    refine drawJoin (α := Int × Int × Nat × Nat) (fun x_ => [(14, .pointer (some ⟨x_.2.2.1, 0, none⟩)), (15, .pointer (some ⟨x_.2.2.2, 0, none⟩))]) (fun x_ w_ => (oneF x1.1 8 = (0, x_.1)) ∧ (oneF x1.2 8 = (0, x_.2.1)) ∧ Sat g w_ ((Pt x_.2.2.1 [.int .i64 0, .int .i64 x_.1] 31 :: Pt x_.2.2.2 [.int .i64 0, .int .i64 x_.2.1] 31 :: Pt p5 [.int .i64 0, va1, .int .i64 0] 100 :: Sl 82 5 enAc va1 xa :: Acts xa :: Pt p4 (a9b fun _ => false) 26 :: Pt p3 (a81 W) 27 :: Pt p2 (a9b fun _ => false) 26 :: Pt p1 (a81 fun _ _ => false) 27 :: l))) ?_ ?_
    · refine drawtS H [] (.op 0 .pure (.op 1 .held (.op 3 .pure (.op 4 .held (.fork (.op 2 .forced (.fork (.op 5 .forced (.fork (.op 6 .forced (.op 7 .forced (.op 8 .free (.op 9 .free .nil)))) (.op 7 .forced (.op 6 .forced (.op 8 .free (.op 9 .free .nil)))))) (.fork (.op 6 .forced (.fork (.op 5 .forced (.op 7 .forced (.op 8 .free (.op 9 .free .nil)))) (.op 7 .forced (.op 5 .free (.op 8 .free (.op 9 .free .nil)))))) (.op 7 .forced (.fork (.op 5 .forced (.op 6 .forced (.op 8 .free (.op 9 .free .nil)))) (.op 6 .forced (.op 5 .free (.op 8 .free (.op 9 .free .nil))))))))) (.fork (.op 6 .forced (.fork (.op 2 .forced (.fork (.op 5 .forced (.op 7 .forced (.op 8 .free (.op 9 .free .nil)))) (.op 7 .forced (.op 5 .free (.op 8 .free (.op 9 .free .nil)))))) (.op 7 .forced (.op 2 .forced (.op 5 .free (.op 8 .free (.op 9 .free .nil))))))) (.op 7 .forced (.fork (.op 2 .forced (.fork (.op 5 .forced (.op 6 .forced (.op 8 .free (.op 9 .free .nil)))) (.op 6 .forced (.op 5 .free (.op 8 .free (.op 9 .free .nil)))))) (.op 6 .forced (.op 2 .forced (.op 5 .free (.op 8 .free (.op 9 .free .nil))))))))))))) mixed (by kernel_rfl) ?_
      clear H
      intro w3 H
      clear w4
      refine tk (fun wx HS => rIxArr 1 0 (by omega) (by omega) rfl rfl ⟨rfl, rfl⟩) ?_
      refine tk (fun wx HS => rLd (HS.at 0 rfl) 0 rfl rfl rfl ⟨rfl, rfl⟩) ?_
      refine tk (fun wx HS => rIxArr 1 1 (by omega) (by omega) rfl rfl ⟨rfl, rfl⟩) ?_
      refine tk (fun wx HS => rLd (HS.at 0 rfl) 1 rfl rfl rfl ⟨rfl, rfl⟩) ?_
      refine ⟨?_, ?_⟩
      · refine CallP.mk (Fc.imp (Go.Proofs.Yticdhdpfimpmoaa.Proc.one_ H _ _ ?_ ?_) ?_)
        · omega
        · exact hok1.1
        clear H
        rintro _ w4 ⟨k1, ⟨rfl, ⟨h3, ⟨h4, ⟨h5, H⟩⟩⟩⟩⟩
        refine KeepP.mk (H) ?_
        refine ⟨?_, ?_⟩
        · refine CallP.mk (Fc.imp (Go.Proofs.Yticdhdpfimpmoaa.Proc.one_ H _ _ ?_ ?_) ?_)
          · omega
          · exact hok1.2
          clear H
          rintro _ w5 ⟨k2, ⟨rfl, ⟨h6, ⟨h7, ⟨h8, H⟩⟩⟩⟩⟩
          refine KeepP.mk (H) ?_
          refine ⟨?_, ?_⟩
          · refine rAllocS H rfl ?_
            clear H
            intro p7 w6 H
            clear w5
            refine KeepP.mk (H.drop 0 (fun H => H)) ?_
            refine rAllocS H rfl ?_
            clear H
            intro p8 w5 H
            clear w6
            refine KeepP.mk (H.drop 1 (fun H => H.drop 0 (fun H => H))) ?_
            refine rStAS H 1 rfl rfl rfl rfl ?_
            clear H
            intro w6 H
            clear w5
            refine rStAS H 0 rfl rfl rfl rfl ?_
            clear H
            intro w5 H
            clear w6
            refine Jn.mk ((k1, k2, p7, p8)) (mt_cons rfl (mt_cons rfl (mt_nil))) ?_
            refine ⟨?_, ?_⟩
            · assumption
            refine ⟨?_, ?_⟩
            · assumption
            refine H.fronts [9, 9, 9, 9, 9, 9, 9, 7, 8] ?_
            clear H
            intro H
            refine H.drop 9 ?_
            clear H
            intro H
            exact H
          refine rAllocS H rfl ?_
          clear H
          intro p7 w6 H
          clear w5
          refine KeepP.mk (H.drop 0 (fun H => H)) ?_
          refine rAllocS H rfl ?_
          clear H
          intro p8 w5 H
          clear w6
          refine KeepP.mk (H.drop 1 (fun H => H.drop 0 (fun H => H))) ?_
          refine rStAS H 0 rfl rfl rfl rfl ?_
          clear H
          intro w6 H
          clear w5
          refine rStAS H 1 rfl rfl rfl rfl ?_
          clear H
          intro w5 H
          clear w6
          refine Jn.mk ((k1, k2, p8, p7)) (mt_cons rfl (mt_cons rfl (mt_nil))) ?_
          refine ⟨?_, ?_⟩
          · assumption
          refine ⟨?_, ?_⟩
          · assumption
          refine H.fronts [9, 9, 9, 9, 9, 9, 9, 8, 8] ?_
          clear H
          intro H
          refine H.drop 9 ?_
          clear H
          intro H
          exact H
        refine ⟨?_, ?_⟩
        · refine rAllocS H rfl ?_
          clear H
          intro p7 w5 H
          clear w4
          refine KeepP.mk (H.drop 0 (fun H => H)) ?_
          refine ⟨?_, ?_⟩
          · refine CallP.mk (Fc.imp (Go.Proofs.Yticdhdpfimpmoaa.Proc.one_ H _ _ ?_ ?_) ?_)
            · omega
            · exact hok1.2
            clear H
            rintro _ w4 ⟨k2, ⟨rfl, ⟨h6, ⟨h7, ⟨h8, H⟩⟩⟩⟩⟩
            refine KeepP.mk (H.drop 0 (fun H => H)) ?_
            refine rAllocS H rfl ?_
            clear H
            intro p8 w6 H
            clear w4
            refine KeepP.mk (H.drop 1 (fun H => H.drop 0 (fun H => H))) ?_
            refine rStAS H 1 rfl rfl rfl rfl ?_
            clear H
            intro w4 H
            clear w6
            refine rStAS H 0 rfl rfl rfl rfl ?_
            clear H
            intro w6 H
            clear w4
            refine Jn.mk ((k1, k2, p7, p8)) (mt_cons rfl (mt_cons rfl (mt_nil))) ?_
            refine ⟨?_, ?_⟩
            · assumption
            refine ⟨?_, ?_⟩
            · assumption
            refine H.fronts [9, 9, 9, 9, 9, 9, 9, 7, 8] ?_
            clear H
            intro H
            refine H.drop 9 ?_
            clear H
            intro H
            exact H
          refine rAllocS H rfl ?_
          clear H
          intro p8 w4 H
          clear w5
          refine KeepP.mk (H.drop 1 (fun H => H.drop 0 (fun H => H))) ?_
          refine CallP.mk (Fc.imp (Go.Proofs.Yticdhdpfimpmoaa.Proc.one_ H _ _ ?_ ?_) ?_)
          · omega
          · exact hok1.2
          clear H
          rintro _ w5 ⟨k2, ⟨rfl, ⟨h6, ⟨h7, ⟨h8, H⟩⟩⟩⟩⟩
          refine rStAS H 1 rfl rfl rfl rfl ?_
          clear H
          intro w6 H
          clear w5
          refine rStAS H 0 rfl rfl rfl rfl ?_
          clear H
          intro w5 H
          clear w6
          refine Jn.mk ((k1, k2, p7, p8)) (mt_cons rfl (mt_cons rfl (mt_nil))) ?_
          refine ⟨?_, ?_⟩
          · assumption
          refine ⟨?_, ?_⟩
          · assumption
          refine H.fronts [9, 9, 9, 9, 9, 9, 9, 7, 8] ?_
          clear H
          intro H
          refine H.drop 9 ?_
          clear H
          intro H
          exact H
        refine rAllocS H rfl ?_
        clear H
        intro p7 w5 H
        clear w4
        refine KeepP.mk (H.drop 0 (fun H => H)) ?_
        refine ⟨?_, ?_⟩
        · refine CallP.mk (Fc.imp (Go.Proofs.Yticdhdpfimpmoaa.Proc.one_ H _ _ ?_ ?_) ?_)
          · omega
          · exact hok1.2
          clear H
          rintro _ w4 ⟨k2, ⟨rfl, ⟨h6, ⟨h7, ⟨h8, H⟩⟩⟩⟩⟩
          refine KeepP.mk (H.drop 0 (fun H => H)) ?_
          refine rAllocS H rfl ?_
          clear H
          intro p8 w6 H
          clear w4
          refine KeepP.mk (H.drop 1 (fun H => H.drop 0 (fun H => H))) ?_
          refine rStAS H 0 rfl rfl rfl rfl ?_
          clear H
          intro w4 H
          clear w6
          refine rStAS H 1 rfl rfl rfl rfl ?_
          clear H
          intro w6 H
          clear w4
          refine Jn.mk ((k1, k2, p8, p7)) (mt_cons rfl (mt_cons rfl (mt_nil))) ?_
          refine ⟨?_, ?_⟩
          · assumption
          refine ⟨?_, ?_⟩
          · assumption
          refine H.fronts [9, 9, 9, 9, 9, 9, 9, 8, 8] ?_
          clear H
          intro H
          refine H.drop 9 ?_
          clear H
          intro H
          exact H
        refine rAllocS H rfl ?_
        clear H
        intro p8 w4 H
        clear w5
        refine KeepP.mk (H.drop 1 (fun H => H.drop 0 (fun H => H))) ?_
        refine CallP.mk (Fc.imp (Go.Proofs.Yticdhdpfimpmoaa.Proc.one_ H _ _ ?_ ?_) ?_)
        · omega
        · exact hok1.2
        clear H
        rintro _ w5 ⟨k2, ⟨rfl, ⟨h6, ⟨h7, ⟨h8, H⟩⟩⟩⟩⟩
        refine rStAS H 0 rfl rfl rfl rfl ?_
        clear H
        intro w6 H
        clear w5
        refine rStAS H 1 rfl rfl rfl rfl ?_
        clear H
        intro w5 H
        clear w6
        refine Jn.mk ((k1, k2, p8, p7)) (mt_cons rfl (mt_cons rfl (mt_nil))) ?_
        refine ⟨?_, ?_⟩
        · assumption
        refine ⟨?_, ?_⟩
        · assumption
        refine H.fronts [9, 9, 9, 9, 9, 9, 9, 8, 8] ?_
        clear H
        intro H
        refine H.drop 9 ?_
        clear H
        intro H
        exact H
      refine ⟨?_, ?_⟩
      · refine rAllocS H rfl ?_
        clear H
        intro p7 w4 H
        clear w3
        refine KeepP.mk (H.drop 0 (fun H => H)) ?_
        refine ⟨?_, ?_⟩
        · refine CallP.mk (Fc.imp (Go.Proofs.Yticdhdpfimpmoaa.Proc.one_ H _ _ ?_ ?_) ?_)
          · omega
          · exact hok1.1
          clear H
          rintro _ w3 ⟨k1, ⟨rfl, ⟨h3, ⟨h4, ⟨h5, H⟩⟩⟩⟩⟩
          refine KeepP.mk (H.drop 0 (fun H => H)) ?_
          refine ⟨?_, ?_⟩
          · refine CallP.mk (Fc.imp (Go.Proofs.Yticdhdpfimpmoaa.Proc.one_ H _ _ ?_ ?_) ?_)
            · omega
            · exact hok1.2
            clear H
            rintro _ w5 ⟨k2, ⟨rfl, ⟨h6, ⟨h7, ⟨h8, H⟩⟩⟩⟩⟩
            refine KeepP.mk (H.drop 0 (fun H => H)) ?_
            refine rAllocS H rfl ?_
            clear H
            intro p8 w6 H
            clear w5
            refine KeepP.mk (H.drop 1 (fun H => H.drop 0 (fun H => H))) ?_
            refine rStAS H 1 rfl rfl rfl rfl ?_
            clear H
            intro w5 H
            clear w6
            refine rStAS H 0 rfl rfl rfl rfl ?_
            clear H
            intro w6 H
            clear w5
            refine Jn.mk ((k1, k2, p7, p8)) (mt_cons rfl (mt_cons rfl (mt_nil))) ?_
            refine ⟨?_, ?_⟩
            · assumption
            refine ⟨?_, ?_⟩
            · assumption
            refine H.fronts [9, 9, 9, 9, 9, 9, 9, 7, 8] ?_
            clear H
            intro H
            refine H.drop 9 ?_
            clear H
            intro H
            exact H
          refine rAllocS H rfl ?_
          clear H
          intro p8 w5 H
          clear w3
          refine KeepP.mk (H.drop 1 (fun H => H.drop 0 (fun H => H))) ?_
          refine CallP.mk (Fc.imp (Go.Proofs.Yticdhdpfimpmoaa.Proc.one_ H _ _ ?_ ?_) ?_)
          · omega
          · exact hok1.2
          clear H
          rintro _ w3 ⟨k2, ⟨rfl, ⟨h6, ⟨h7, ⟨h8, H⟩⟩⟩⟩⟩
          refine rStAS H 1 rfl rfl rfl rfl ?_
          clear H
          intro w6 H
          clear w3
          refine rStAS H 0 rfl rfl rfl rfl ?_
          clear H
          intro w3 H
          clear w6
          refine Jn.mk ((k1, k2, p7, p8)) (mt_cons rfl (mt_cons rfl (mt_nil))) ?_
          refine ⟨?_, ?_⟩
          · assumption
          refine ⟨?_, ?_⟩
          · assumption
          refine H.fronts [9, 9, 9, 9, 9, 9, 9, 7, 8] ?_
          clear H
          intro H
          refine H.drop 9 ?_
          clear H
          intro H
          exact H
        refine rAllocS H rfl ?_
        clear H
        intro p8 w3 H
        clear w4
        refine KeepP.mk (H.drop 1 (fun H => H.drop 0 (fun H => H))) ?_
        refine CallP.mk (Fc.imp (Go.Proofs.Yticdhdpfimpmoaa.Proc.one_ H _ _ ?_ ?_) ?_)
        · omega
        · exact hok1.1
        clear H
        rintro _ w4 ⟨k1, ⟨rfl, ⟨h3, ⟨h4, ⟨h5, H⟩⟩⟩⟩⟩
        refine KeepP.mk (H.drop 1 (fun H => H.drop 0 (fun H => H))) ?_
        refine CallP.mk (Fc.imp (Go.Proofs.Yticdhdpfimpmoaa.Proc.one_ H _ _ ?_ ?_) ?_)
        · omega
        · exact hok1.2
        clear H
        rintro _ w5 ⟨k2, ⟨rfl, ⟨h6, ⟨h7, ⟨h8, H⟩⟩⟩⟩⟩
        refine rStAS H 1 rfl rfl rfl rfl ?_
        clear H
        intro w6 H
        clear w5
        refine rStAS H 0 rfl rfl rfl rfl ?_
        clear H
        intro w5 H
        clear w6
        refine Jn.mk ((k1, k2, p7, p8)) (mt_cons rfl (mt_cons rfl (mt_nil))) ?_
        refine ⟨?_, ?_⟩
        · assumption
        refine ⟨?_, ?_⟩
        · assumption
        refine H.fronts [9, 9, 9, 9, 9, 9, 9, 7, 8] ?_
        clear H
        intro H
        refine H.drop 9 ?_
        clear H
        intro H
        exact H
      refine rAllocS H rfl ?_
      clear H
      intro p7 w4 H
      clear w3
      refine KeepP.mk (H.drop 0 (fun H => H)) ?_
      refine ⟨?_, ?_⟩
      · refine CallP.mk (Fc.imp (Go.Proofs.Yticdhdpfimpmoaa.Proc.one_ H _ _ ?_ ?_) ?_)
        · omega
        · exact hok1.1
        clear H
        rintro _ w3 ⟨k1, ⟨rfl, ⟨h3, ⟨h4, ⟨h5, H⟩⟩⟩⟩⟩
        refine KeepP.mk (H.drop 0 (fun H => H)) ?_
        refine ⟨?_, ?_⟩
        · refine CallP.mk (Fc.imp (Go.Proofs.Yticdhdpfimpmoaa.Proc.one_ H _ _ ?_ ?_) ?_)
          · omega
          · exact hok1.2
          clear H
          rintro _ w5 ⟨k2, ⟨rfl, ⟨h6, ⟨h7, ⟨h8, H⟩⟩⟩⟩⟩
          refine KeepP.mk (H.drop 0 (fun H => H)) ?_
          refine rAllocS H rfl ?_
          clear H
          intro p8 w6 H
          clear w5
          refine KeepP.mk (H.drop 1 (fun H => H.drop 0 (fun H => H))) ?_
          refine rStAS H 0 rfl rfl rfl rfl ?_
          clear H
          intro w5 H
          clear w6
          refine rStAS H 1 rfl rfl rfl rfl ?_
          clear H
          intro w6 H
          clear w5
          refine Jn.mk ((k1, k2, p8, p7)) (mt_cons rfl (mt_cons rfl (mt_nil))) ?_
          refine ⟨?_, ?_⟩
          · assumption
          refine ⟨?_, ?_⟩
          · assumption
          refine H.fronts [9, 9, 9, 9, 9, 9, 9, 8, 8] ?_
          clear H
          intro H
          refine H.drop 9 ?_
          clear H
          intro H
          exact H
        refine rAllocS H rfl ?_
        clear H
        intro p8 w5 H
        clear w3
        refine KeepP.mk (H.drop 1 (fun H => H.drop 0 (fun H => H))) ?_
        refine CallP.mk (Fc.imp (Go.Proofs.Yticdhdpfimpmoaa.Proc.one_ H _ _ ?_ ?_) ?_)
        · omega
        · exact hok1.2
        clear H
        rintro _ w3 ⟨k2, ⟨rfl, ⟨h6, ⟨h7, ⟨h8, H⟩⟩⟩⟩⟩
        refine rStAS H 0 rfl rfl rfl rfl ?_
        clear H
        intro w6 H
        clear w3
        refine rStAS H 1 rfl rfl rfl rfl ?_
        clear H
        intro w3 H
        clear w6
        refine Jn.mk ((k1, k2, p8, p7)) (mt_cons rfl (mt_cons rfl (mt_nil))) ?_
        refine ⟨?_, ?_⟩
        · assumption
        refine ⟨?_, ?_⟩
        · assumption
        refine H.fronts [9, 9, 9, 9, 9, 9, 9, 8, 8] ?_
        clear H
        intro H
        refine H.drop 9 ?_
        clear H
        intro H
        exact H
      refine rAllocS H rfl ?_
      clear H
      intro p8 w3 H
      clear w4
      refine KeepP.mk (H.drop 1 (fun H => H.drop 0 (fun H => H))) ?_
      refine CallP.mk (Fc.imp (Go.Proofs.Yticdhdpfimpmoaa.Proc.one_ H _ _ ?_ ?_) ?_)
      · omega
      · exact hok1.1
      clear H
      rintro _ w4 ⟨k1, ⟨rfl, ⟨h3, ⟨h4, ⟨h5, H⟩⟩⟩⟩⟩
      refine KeepP.mk (H.drop 1 (fun H => H.drop 0 (fun H => H))) ?_
      refine CallP.mk (Fc.imp (Go.Proofs.Yticdhdpfimpmoaa.Proc.one_ H _ _ ?_ ?_) ?_)
      · omega
      · exact hok1.2
      clear H
      rintro _ w5 ⟨k2, ⟨rfl, ⟨h6, ⟨h7, ⟨h8, H⟩⟩⟩⟩⟩
      refine rStAS H 0 rfl rfl rfl rfl ?_
      clear H
      intro w6 H
      clear w5
      refine rStAS H 1 rfl rfl rfl rfl ?_
      clear H
      intro w5 H
      clear w6
      refine Jn.mk ((k1, k2, p8, p7)) (mt_cons rfl (mt_cons rfl (mt_nil))) ?_
      refine ⟨?_, ?_⟩
      · assumption
      refine ⟨?_, ?_⟩
      · assumption
      refine H.fronts [9, 9, 9, 9, 9, 9, 9, 8, 8] ?_
      clear H
      intro H
      refine H.drop 9 ?_
      clear H
      intro H
      exact H
    clear H
    rintro ⟨k1, k2, p7, p8⟩ f_ w_ ⟨hk1, hk2, H⟩
    try simp only at hk1 hk2 H ⊢
    have ha := pA_rng x1.1
    have hb := pA_rng x1.2
    have hWs := Wof_step hx1
    rw [← hW] at hWs
    unfold lkW at hWs
    obtain ⟨a, hae⟩ : ∃ a, a = pA x1.1 := ⟨_, rfl⟩
    obtain ⟨b, hbe⟩ : ∃ b, b = pA x1.2 := ⟨_, rfl⟩
    obtain rfl : k1 = ((a : Nat) : Int) := hae ▸ pA_eq hk1
    obtain rfl : k2 = ((b : Nat) : Int) := hbe ▸ pA_eq hk2
    rw [← hae] at ha
    rw [← hbe] at hb
    rw [← hae, ← hbe] at hWs
    refine rLdA (H.at 0 rfl) 0 rfl rfl rfl ?_
    refine rLdA (H.at 1 rfl) 0 rfl rfl rfl ?_
    refine H.fronts [4, 4, 4] ?_
    clear H
    intro H
    refine CallP.mk (Fc.imp (Go.Proofs.Yticdhdpfimpmoaa.Proc.linkU H hU (a) (b) ?_ ?_) ?_)
    · assumption
    · assumption
    clear H
    rintro _ w3 ⟨v3, ⟨xa'1, ⟨sg1, ⟨e1, ⟨rfl, ⟨h3, ⟨h4, ⟨h5, H⟩⟩⟩⟩⟩⟩⟩⟩
    refine br_f (vNe_F (by assumption)) ?_
    have Hs := (((((Sat.sts0 H).front (j := 4) rfl).front (j := 4) rfl).front (j := 4) rfl).front (j := 4) rfl)
    refine CallP.mk (Fc.imp (signals_ (Z := fun _ => sts []) (luI ha hb) see32_ h4 (by omega) Hs) ?_)
    clear H Hs
    rintro r1 w9 ⟨b9, tr, xc, rfl, hb9, hN, H⟩
    replace H := (H.front (j := 3) rfl).spread
    simp only [List.cons_append, List.nil_append, List.eraseIdx] at H
    obtain ⟨hF1, hF2⟩ := hN.fin ha hb
    by_cases hab : a = b
    · rw [if_pos hab] at hWs
      have hU9 := hF1 hab
      have hpe := pid_t (a1 := 0) (b1 := 0) (a2 := (a : Int)) (b2 := (b : Int)) ⟨rfl, by omega⟩
      refine cF (not_F ((by assumption))) ?_
      refine rLdA (H.at 3 rfl) 0 rfl rfl rfl ?_
      refine rLdA (H.at 4 rfl) 0 rfl rfl rfl ?_
      refine rStructNe (by kernel_rfl) (by kernel_rfl) ?_
      refine cF (not_F ((by exact hpe))) ?_
      refine eqI64 (by omega) ?_
      refine Nxt.mk ((i + 1, xc, W)) (mt_i rfl (by first | omega | (simp only; omega) | (simp; omega)) (mt_nil)) ?_ ?_
      · refine ⟨?_, ?_⟩
        · assumption
        refine ⟨?_, ?_⟩
        · exact hWs.symm
        refine ⟨?_, ?_⟩
        · assumption
        refine H.fronts [8, 8, 8, 8, 6, 6, 6] ?_
        clear H
        intro H
        refine H.drop 8 ?_
        clear H
        intro H
        refine H.drop 7 ?_
        clear H
        intro H
        exact H
      omega
    · rw [if_neg hab] at hWs
      have hU9 := hF2 hab
      have hpe := pid_f (a1 := 0) (b1 := 0) (a2 := (a : Int)) (b2 := (b : Int)) (fun h => hab (by omega))
      refine cF (not_F ((by assumption))) ?_
      refine rLdA (H.at 3 rfl) 0 rfl rfl rfl ?_
      refine rLdA (H.at 4 rfl) 0 rfl rfl rfl ?_
      refine rStructNe (by kernel_rfl) (by kernel_rfl) ?_
      refine cT (not_T ((by exact hpe))) ?_
      refine drawzS H [6] [(0, .pure), (1, .held), (2, .pure), (3, .held), (4, .pure), (5, .held), (6, .pure), (7, .held), (8, .pure), (9, .pure), (11, .pure), (10, .forced), (12, .pure), (13, .free)] mixed (by kernel_rfl) (by kernel_rfl) ?_
      clear H
      intro w5 H
      clear w9
      refine tk (fun wx HS => rFieldAt rfl ⟨rfl, rfl⟩) ?_
      refine tk (fun wx HS => rLd (HS.at 3 rfl) 1 rfl rfl rfl ⟨rfl, rfl⟩) ?_
      refine tk (fun wx HS => rFieldAt rfl ⟨rfl, rfl⟩) ?_
      refine tk (fun wx HS => rLd (HS.at 4 rfl) 1 rfl rfl rfl ⟨rfl, rfl⟩) ?_
      refine tk (fun wx HS => rFieldAt rfl ⟨rfl, rfl⟩) ?_
      refine tk (fun wx HS => rLd (HS.at 4 rfl) 1 rfl rfl rfl ⟨rfl, rfl⟩) ?_
      refine tk (fun wx HS => rFieldAt rfl ⟨rfl, rfl⟩) ?_
      refine tk (fun wx HS => rLd (HS.at 3 rfl) 1 rfl rfl rfl ⟨rfl, rfl⟩) ?_
      refine tk (fun wx HS => rIxArr 9 (a) (by omega) (by omega) rfl rfl ⟨rfl, rfl⟩) ?_
      refine tk (fun wx HS => rIxArr 1 (b) (by omega) (by omega) rfl rfl ⟨rfl, rfl⟩) ?_
      refine tk (fun wx HS => rIxArr 9 (b) (by omega) (by omega) rfl rfl ⟨rfl, rfl⟩) ?_
      refine rSt81 H 6 rfl (by omega) rfl ?_
      clear H
      intro w6 H
      clear w5
      refine KeepP.mk (H.drop 6 (fun H => H)) ?_
      refine tk (fun wx HS => rIxArr 1 (a) (by omega) (by omega) rfl rfl ⟨rfl, rfl⟩) ?_
      refine rSt81 H 6 rfl (by omega) rfl ?_
      clear H
      intro w5 H
      clear w6
      refine eqI64 (by omega) ?_
      obtain ⟨W9, hW9⟩ : ∃ W9, upd2 (upd2 W a b true) b a true = W9 := ⟨_, rfl⟩
      rw [hW9] at H hU9 hWs
      refine Nxt.mk ((i + 1, xc, W9)) (mt_i rfl (by first | omega | (simp only; omega) | (simp; omega)) (mt_nil)) ?_ ?_
      · refine ⟨?_, ?_⟩
        · assumption
        refine ⟨?_, ?_⟩
        · exact hWs.symm
        refine ⟨?_, ?_⟩
        · assumption
        refine H.fronts [8, 8, 8, 8, 6, 6, 6] ?_
        clear H
        intro H
        refine H.drop 8 ?_
        clear H
        intro H
        refine H.drop 7 ?_
        clear H
        intro H
        exact H
      omega
  · rw [List.take_of_length_le hge] at hW
    subst hW
    refine cF (vLt_F (by omega)) ?_
    refine rLenF hy rfl ?_
    refine rMin ?_
    refine rSlF hy 0 (min 8 (↑ts.length : Int)).toNat rfl rfl (by omega) (by omega) (.inl ⟨rfl, rfl⟩) (.inr ⟨_, by first | rfl | (congr 2; omega)⟩) ?_
    intro v3 hs1
    refine rLenF hs1 rfl ?_
    have ht : List.drop 0 (List.take (min 8 (ts.length : Int)).toNat ts) = ts.take (min 8 ts.length) := by rw [List.drop_zero]; congr 1; omega
    rw [ht] at hs1
    have htl : (ts.take (min 8 ts.length)).length = min 8 ts.length := by rw [List.length_take]; omega
    have hdl : (List.drop 0 (List.take (min 8 (ts.length : Int)).toNat ts)).length = min 8 ts.length := by rw [ht, htl]
    refine LoopP.rule (α := Nat × List ActV × Vec) (0, xa, fun _ => false) (fun x_ => [(79, .int .i64 x_.1)]) (fun x_ w_ => (x_.1 ≤ min 8 ts.length) ∧ (x_.2.2 = Tof ts x_.1) ∧ (LUT x_.2.1 (Wof ps) x_.2.2) ∧ Sat g w_ ((Pt p5 [.int .i64 0, va1, .int .i64 0] 100 :: Sl 82 5 enAc va1 x_.2.1 :: Acts x_.2.1 :: Pt p4 (a9b x_.2.2) 26 :: Pt p3 (a81 (Wof ps)) 27 :: Pt p2 (a9b fun _ => false) 26 :: Pt p1 (a81 fun _ _ => false) 27 :: l))) (fun x_ => min 8 ts.length - x_.1) ?_ ?_ ?_
    · repeat first | exact mt_nil | refine mt_cons rfl ?_ | refine mt_i rfl (by first | omega | (simp only; omega) | (simp; omega) | (simp; done)) ?_
    · try simp only
      refine ⟨?_, ?_⟩
      · omega
      refine ⟨?_, ?_⟩
      · (funext n; unfold Tof; rw [if_neg (by omega)])
      refine ⟨?_, ?_⟩
      · assumption
      exact H
    clear H
    rintro ⟨i, xa, T⟩ f_ w_ ⟨hi, hT, hU, H⟩
    try simp only at hi hT hU H ⊢
    rcases Nat.lt_or_ge i (min 8 ts.length) with hlt | hge2
    · obtain ⟨x, hx9⟩ : ∃ x, ts[i]? = some x := ⟨_, List.getElem?_eq_getElem (by omega)⟩
      have hx8 : (ts.take (min 8 ts.length))[i]? = some x := by rw [List.getElem?_take, if_pos hlt]; exact hx9
      have hTs := Tof_step hx9
      rw [← hT] at hTs
      have hone : oneF (i : Int) 8 = (0, (i : Int) + 1) := by unfold oneF; rw [Int.emod_eq_of_lt (by omega) (by omega), Int.add_comm]
      refine cT (vLt_T (by omega)) ?_
      refine bk ?_
      obtain ⟨b1, o1, E1, F1, hok1⟩ := FSl.elt hs1 hx8
      refine rIxE E1 rfl rfl rfl ?_
      refine rLd (H.fat F1) 0 rfl rfl rfl ?_
      refine CallP.mk (Fc.imp (Go.Proofs.Yticdhdpfimpmoaa.Proc.one_ H _ _ ?_ ?_) ?_)
      · omega
      · omega
      clear H
      rintro _ w3 ⟨k1, ⟨rfl, ⟨h3, ⟨h4, ⟨h5, H⟩⟩⟩⟩⟩
      obtain rfl : k1 = ((i + 1 : Nat) : Int) := by { have h9 := congrArg Prod.snd (h3.symm.trans hone); simp only at h9; omega }
      refine CallP.mk (Fc.imp (Go.Proofs.Yticdhdpfimpmoaa.Proc.trapU H hU (i + 1) _ ?_) ?_)
      · omega
      clear H
      rintro _ w4 ⟨b2, ⟨xa'1, ⟨rfl, ⟨h6, H⟩⟩⟩⟩
      refine eqI64 (by omega) ?_
      refine rIxArr 1 ((i) + 1) (by omega) (by omega) rfl rfl ?_
      refine rSt9b H 3 rfl (by omega) rfl ?_
      clear H
      intro w5 H
      clear w4
      refine eqI64 (by omega) ?_
      obtain ⟨T9, hT9⟩ : ∃ T9, updN T (i + 1) x = T9 := ⟨_, rfl⟩
      have hU9 := h6
      rw [hT9] at H hU9 hTs
      refine Nxt.mk ((i + 1, xa'1, T9)) (mt_i rfl (by first | omega | (simp only; omega) | (simp; omega)) (mt_nil)) ?_ ?_
      · refine ⟨?_, ?_⟩
        · assumption
        refine ⟨?_, ?_⟩
        · exact hTs.symm
        refine ⟨?_, ?_⟩
        · assumption
        exact H
      omega
    · have hi2 : i = min 8 ts.length := by omega
      subst hi2
      subst hT
      refine cF (vLt_F (by omega)) ?_
      refine drawzS H [6] [(0, .pure), (1, .held), (2, .held), (3, .pure), (4, .forced), (5, .free), (6, .pure)] mixed (by kernel_rfl) (by kernel_rfl) ?_
      clear H
      intro w3 H
      clear w_
      refine tk (fun wx HS => rLdA (HS.at 4 rfl) 0 rfl rfl rfl ⟨rfl, rfl⟩) ?_
      refine tk (fun wx HS => rLdA (HS.at 3 rfl) 0 rfl rfl rfl ⟨rfl, rfl⟩) ?_
      refine rStAS H 6 rfl rfl rfl rfl ?_
      clear H
      intro w4 H
      clear w3
      refine KeepP.mk (H.drop 6 (fun H => H)) ?_
      refine rStAS H 5 rfl rfl rfl rfl ?_
      clear H
      intro w3 H
      clear w4
      refine rdAN (H.at 6 rfl) 0 rfl rfl rfl ?_
      refine rdAN (H.at 5 rfl) 0 rfl rfl rfl ?_
      exact Done.mk ⟨p5, va1, xa, rfl, hU, (((H.del 6).del 5).del 4).del 3⟩
end
end Go.Proofs.Yticdhdpfimpmoaa.Proc
/- The law ProcNobody: what is told. -/
set_option maxRecDepth 100000
set_option maxHeartbeats 4000000
set_option linter.unusedVariables false
set_option linter.unusedSimpArgs false
namespace Go.Proofs.Yticdhdpfimpmoaa.Proc
open Go Go.Proofs.Yticdhdpfimpmoaa.Eng Go.RowKit
open Go.Proofs.Yticdhdpfimpmoaa.Eng.MG
def cnt (h : SigD × EffD → Bool) (tr : Tr) : Int := ((tr.filter h).length : Int)
theorem cnt_T {h : SigD × EffD → Bool} {tr : Tr} {x : SigD × EffD} (hx : h x = true) : cnt h (tr ++ [x]) = cnt h tr + 1 := by
  unfold cnt; rw [List.filter_append, List.length_append]; simp [hx]
theorem cnt_F {h : SigD × EffD → Bool} {tr : Tr} {x : SigD × EffD} (hx : h x = false) : cnt h (tr ++ [x]) = cnt h tr := by
  unfold cnt; rw [List.filter_append, List.length_append]; simp [hx]
theorem cnt_le {h : SigD × EffD → Bool} {tr : Tr} : 0 ≤ cnt h tr ∧ cnt h tr ≤ tr.length := by
  unfold cnt; have := List.length_filter_le h tr; omega
/-- It is this letter. -/
noncomputable def leq (f : EffD) (a b tag : Int) (body : List UInt8) : Bool := vEq f.fr.1 a && (vEq f.fr.2 b && true) && (vEq f.tag tag && ((bs f.body).toList == (bs body).toList && true))
theorem leq_iff {f : EffD} {a b tag : Int} {body : List UInt8} : leq f a b tag body = true ↔ f.fr = (a, b) ∧ f.tag = tag ∧ f.body = body := by
  unfold leq
  rw [vEq_iff, vEq_iff, vEq_iff]
  have hb : ((bs f.body).toList == (bs body).toList) = decide (f.body = body) := by
    rw [bs_toList, bs_toList]
    rw [Bool.eq_iff_iff]; simp
  rw [hb]
  simp [Prod.ext_iff, and_assoc]
noncomputable def hit1 (b2 : Int) (x : SigD × EffD) : Bool := x.2.got && leq x.2 0 b2 61 [UInt8.ofNat 1, UInt8.ofNat 28]
theorem zfin {g : Glob} {w : World} {l L L' : List As} (he : L = L') (H : Sat g w (L ++ l)) : Sat g w (sts L' :: l) := by subst he; exact Sat.gather H
noncomputable def hit2 (on : Bool) (b2 : Int) (x : SigD × EffD) : Bool := (x.2.got && on && leq x.2 0 b2 62 [UInt8.ofNat 28]) || (x.2.died && !on && vEq x.2.why 28)
section
theorem see1_ {Inv : Tr → List ActV → List SigD → Prop} (hI : SInv Inv) (p8 p12 : Nat) (b2 : Int) : SeeC 30 [.pointer (some ⟨p8, 0, none⟩), .pointer (some ⟨p12, 0, none⟩)] Inv (fun tr => sts [Pt p8 [.int .i64 0, .int .i64 b2] 31, Pt p12 [.int .i64 (cnt (hit1 b2) tr)] 3]) := by
  intro g w l tr s f vo q xa xa' h0 hT H
  obtain ⟨_, _, htl, _⟩ := hI.room _ _ _ _ h0
  have hc := cnt_le (h := hit1 b2) (tr := tr)
  replace H := H.spread
  simp only [List.cons_append, List.nil_append] at H
  refine Fc.of Try.func30 rfl (by kernel_rfl) ?_
  have hT : f.got = true → leq f 0 b2 61 [UInt8.ofNat 1, UInt8.ofNat 28] = true → cnt (hit1 b2) (tr ++ [(s, f)]) = cnt (hit1 b2) tr + 1 := fun h1 h2 => cnt_T (by unfold hit1; rw [h1, h2]; rfl)
  have hF : f.got = true → leq f 0 b2 61 [UInt8.ofNat 1, UInt8.ofNat 28] = false → cnt (hit1 b2) (tr ++ [(s, f)]) = cnt (hit1 b2) tr := fun h1 h2 => cnt_F (by unfold hit1; rw [h1, h2]; rfl)
  have hF2 : f.got = false → cnt (hit1 b2) (tr ++ [(s, f)]) = cnt (hit1 b2) tr := fun h1 => cnt_F (by unfold hit1; rw [h1]; rfl)
  refine rBoxS H ?_
  clear H
  intro p1 w1 H
  refine rBoxS H ?_
  clear H
  intro p2 w2 H
  clear w1
  refine rFieldAt rfl ?_
  refine rLd (H.at 0 rfl) 4 rfl rfl rfl ?_
  refine br (fun c1 => ?_) (fun c1 => ?_)
  · refine rFieldAt rfl ?_
    refine rLdA (H.at 0 rfl) 0 rfl rfl rfl ?_
    refine rLdA (H.at 2 rfl) 0 rfl rfl rfl ?_
    refine rBuildSliceS H rfl rfl rfl rfl ?_
    clear H
    intro p3 w1 H
    clear w2
    have hbk1 := byteIs (x := 1) (n := 1) (by omega)
    rw [hbk1] at H
    clear hbk1
    have hbk1 := byteIs (x := 28) (n := 28) (by omega)
    rw [hbk1] at H
    clear hbk1
    refine H.ptSl (n := 2) (en := enY) (s := 1) 0 rfl [_, _] rfl rfl (fun _ => rfl) rfl ?_
    clear H
    intro H
    refine rBytesStrS H 0 rfl rfl rfl rfl ?_
    refine rBuild rfl rfl rfl ?_
    refine rStructEq (by kernel_rfl) (by kernel_rfl) ?_
    refine cI (fun c2 => ?_) (fun c2 => ?_)
    · refine rLd (H.at 4 rfl) 0 rfl rfl rfl ?_
      refine eqI64 (by omega) ?_
      refine rStS H 4 rfl rfl rfl rfl ?_
      clear H
      intro w2 H
      clear w1
      refine Done.mk ?_
      exact zfin (by rw [hT c1 c2]) (((H.del 0).del 0).del 0)
    refine Done.mk ?_
    exact zfin (by rw [hF c1 c2]) (((H.del 0).del 0).del 0)
  refine cF rfl ?_
  refine Done.mk ?_
  exact zfin (by rw [hF2 c1]) ((H.del 0).del 0)
theorem see2_ {Inv : Tr → List ActV → List SigD → Prop} (hI : SInv Inv) (p3 p8 p12 : Nat) (on : Bool) (b2 c0 : Int) (hc0 : 0 ≤ c0 ∧ c0 ≤ 5) : SeeC 31 [.pointer (some ⟨p3, 0, none⟩), .pointer (some ⟨p8, 0, none⟩), .pointer (some ⟨p12, 0, none⟩)] Inv (fun tr => sts [Pt p3 [.bool on] 4, Pt p8 [.int .i64 0, .int .i64 b2] 31, Pt p12 [.int .i64 (c0 + cnt (hit2 on b2) tr)] 3]) := by
  intro g w l tr s f vo q xa xa' h0 hT H
  obtain ⟨_, _, htl, _⟩ := hI.room _ _ _ _ h0
  have hc := cnt_le (h := hit2 on b2) (tr := tr)
  replace H := H.spread
  simp only [List.cons_append, List.nil_append] at H
  refine Fc.of Try.func31 rfl (by kernel_rfl) ?_
  cases hon : on with
  | true =>
    subst hon
    have hT : f.got = true → leq f 0 b2 62 [UInt8.ofNat 28] = true → c0 + cnt (hit2 true b2) (tr ++ [(s, f)]) = c0 + cnt (hit2 true b2) tr + 1 := fun h1 h2 => by rw [cnt_T (by unfold hit2; rw [h1, h2]; rfl), Int.add_assoc]
    have hF : f.got = true → leq f 0 b2 62 [UInt8.ofNat 28] = false → cnt (hit2 true b2) (tr ++ [(s, f)]) = cnt (hit2 true b2) tr := fun h1 h2 => cnt_F (by unfold hit2; rw [h1, h2]; simp)
    have hF2 : f.got = false → cnt (hit2 true b2) (tr ++ [(s, f)]) = cnt (hit2 true b2) tr := fun h1 => cnt_F (by unfold hit2; rw [h1]; simp)
    refine rBoxS H ?_
    clear H
    intro p1 w1 H
    refine rBoxS H ?_
    clear H
    intro p2 w2 H
    clear w1
    refine rFieldAt rfl ?_
    refine rLd (H.at 0 rfl) 4 rfl rfl rfl ?_
    refine br (fun c1 => ?_) (fun c1 => ?_)
    · refine rLd (H.at 2 rfl) 0 rfl rfl rfl ?_
      refine rFieldAt rfl ?_
      refine rLdA (H.at 0 rfl) 0 rfl rfl rfl ?_
      refine rLdA (H.at 3 rfl) 0 rfl rfl rfl ?_
      refine rBuildSliceS H rfl rfl rfl rfl ?_
      clear H
      intro p4 w1 H
      clear w2
      have hbk1 := byteIs (x := 28) (n := 28) (by omega)
      rw [hbk1] at H
      clear hbk1
      refine H.ptSl (n := 1) (en := enY) (s := 1) 0 rfl [_] rfl rfl (fun _ => rfl) rfl ?_
      clear H
      intro H
      refine rBytesStrS H 0 rfl rfl rfl rfl ?_
      refine rBuild rfl rfl rfl ?_
      refine rStructEq (by kernel_rfl) (by kernel_rfl) ?_
      refine br (fun c2 => ?_) (fun c2 => ?_)
      · refine cT rfl ?_
        refine rLd (H.at 5 rfl) 0 rfl rfl rfl ?_
        refine eqI64 (by omega) ?_
        refine rStS H 5 rfl rfl rfl rfl ?_
        clear H
        intro w2 H
        clear w1
        refine Done.mk ?_
        exact zfin (by rw [hT c1 c2]) (((H.del 0).del 0).del 0)
      refine rFieldAt rfl ?_
      refine rLd (H.at 1 rfl) 6 rfl rfl rfl ?_
      refine br (fun c3 => ?_) (fun c3 => ?_)
      · refine rLd (H.at 3 rfl) 0 rfl rfl rfl ?_
        refine cF rfl ?_
        refine Done.mk ?_
        exact zfin (by rw [hF c1 c2]) (((H.del 0).del 0).del 0)
      refine cF rfl ?_
      refine Done.mk ?_
      exact zfin (by rw [hF c1 c2]) (((H.del 0).del 0).del 0)
    refine rFieldAt rfl ?_
    refine rLd (H.at 0 rfl) 6 rfl rfl rfl ?_
    refine br (fun c2 => ?_) (fun c2 => ?_)
    · refine rLd (H.at 2 rfl) 0 rfl rfl rfl ?_
      refine cF rfl ?_
      refine Done.mk ?_
      exact zfin (by rw [hF2 c1]) ((H.del 0).del 0)
    refine cF rfl ?_
    refine Done.mk ?_
    exact zfin (by rw [hF2 c1]) ((H.del 0).del 0)
  | false =>
    subst hon
    have hT : f.died = true → f.why = 28 → c0 + cnt (hit2 false b2) (tr ++ [(s, f)]) = c0 + cnt (hit2 false b2) tr + 1 := fun h1 h2 => by rw [cnt_T (by unfold hit2; rw [h1, vEq_iff]; simp [h2]), Int.add_assoc]
    have hF : f.died = true → f.why ≠ 28 → cnt (hit2 false b2) (tr ++ [(s, f)]) = cnt (hit2 false b2) tr := fun h1 h2 => cnt_F (by unfold hit2; rw [h1, vEq_iff]; simp [h2])
    have hF2 : f.died = false → cnt (hit2 false b2) (tr ++ [(s, f)]) = cnt (hit2 false b2) tr := fun h1 => cnt_F (by unfold hit2; rw [h1]; simp)
    refine rBoxS H ?_
    clear H
    intro p1 w1 H
    refine rBoxS H ?_
    clear H
    intro p2 w2 H
    clear w1
    refine rFieldAt rfl ?_
    refine rLd (H.at 0 rfl) 4 rfl rfl rfl ?_
    refine br (fun c1 => ?_) (fun c1 => ?_)
    · refine rLd (H.at 2 rfl) 0 rfl rfl rfl ?_
      refine rFieldAt rfl ?_
      refine rLd (H.at 0 rfl) 6 rfl rfl rfl ?_
      refine br (fun c2 => ?_) (fun c2 => ?_)
      · refine rLd (H.at 2 rfl) 0 rfl rfl rfl ?_
        refine rFieldAt rfl ?_
        refine rLd (H.at 0 rfl) 7 rfl rfl rfl ?_
        refine cI (fun c3 => ?_) (fun c3 => ?_)
        · replace c3 := vEq_t (c3)
          refine rLd (H.at 4 rfl) 0 rfl rfl rfl ?_
          refine eqI64 (by omega) ?_
          refine rStS H 4 rfl rfl rfl rfl ?_
          clear H
          intro w1 H
          clear w2
          refine Done.mk ?_
          exact zfin (by rw [hT (by assumption) (by assumption)]) ((H.del 0).del 0)
        replace c3 := vEq_f (c3)
        refine Done.mk ?_
        exact zfin (by rw [hF (by assumption) (by assumption)]) ((H.del 0).del 0)
      refine cF rfl ?_
      refine Done.mk ?_
      exact zfin (by rw [hF2 (by assumption)]) ((H.del 0).del 0)
    refine rFieldAt rfl ?_
    refine rLd (H.at 0 rfl) 6 rfl rfl rfl ?_
    refine br (fun c2 => ?_) (fun c2 => ?_)
    · refine rLd (H.at 2 rfl) 0 rfl rfl rfl ?_
      refine rFieldAt rfl ?_
      refine rLd (H.at 0 rfl) 7 rfl rfl rfl ?_
      refine cI (fun c3 => ?_) (fun c3 => ?_)
      · replace c3 := vEq_t (c3)
        refine rLd (H.at 4 rfl) 0 rfl rfl rfl ?_
        refine eqI64 (by omega) ?_
        refine rStS H 4 rfl rfl rfl rfl ?_
        clear H
        intro w1 H
        clear w2
        refine Done.mk ?_
        exact zfin (by rw [hT (by assumption) (by assumption)]) ((H.del 0).del 0)
      replace c3 := vEq_f (c3)
      refine Done.mk ?_
      exact zfin (by rw [hF (by assumption) (by assumption)]) ((H.del 0).del 0)
    refine cF rfl ?_
    refine Done.mk ?_
    exact zfin (by rw [hF2 (by assumption)]) ((H.del 0).del 0)
end
end Go.Proofs.Yticdhdpfimpmoaa.Proc
/- The laws over linkedUp: an end, and what becomes of it (no program in sight). -/
set_option maxRecDepth 100000
set_option maxHeartbeats 4000000
set_option linter.unusedVariables false
set_option linter.unusedSimpArgs false
namespace Go.Proofs.Yticdhdpfimpmoaa.Proc
open Go Go.Proofs.Yticdhdpfimpmoaa.Eng Go.RowKit
open Go.Proofs.Yticdhdpfimpmoaa.Eng.MG
/-- How often n was told. -/
def hitTo (n : Nat) (x : SigD × EffD) : Bool := x.2.got && decide (x.1.to_.2.toNat = n)
/-- How many of n's are gone from its links. -/
def gone (W : Nat → Nat → Bool) (n : Nat) (f : LF) : Nat := ((List.range 9).filter fun i => decide (1 ≤ i) && W n i && (f (pN i)).isNone).length
theorem filt_add {p p' : Nat → Bool} {i0 : Nat} {l : List Nat} (hn : l.Nodup) (hm : i0 ∈ l) (h0 : p i0 = false) (h1 : p' i0 = true) (he : ∀ i, i ≠ i0 → p' i = p i) : (l.filter p').length = (l.filter p).length + 1 := by
  induction l with
  | nil => cases hm
  | cons x r ih =>
    rw [List.nodup_cons] at hn
    by_cases hx : x = i0
    · subst hx
      rw [List.filter_cons, if_pos h1, List.filter_cons, if_neg (by rw [h0]; exact Bool.false_ne_true)]
      have : r.filter p' = r.filter p := List.filter_congr fun i hi => he i fun e => hn.1 (e ▸ hi)
      rw [this]; rfl
    · have hm2 : i0 ∈ r := by
        rcases List.mem_cons.1 hm with h | h
        · exact absurd h.symm hx
        · exact h
      rw [List.filter_cons, List.filter_cons, he x hx]
      split
      · simp only [List.length_cons]; rw [ih hn.2 hm2]
      · exact ih hn.2 hm2
theorem gone_del {W : Nat → Nat → Bool} {n i0 : Nat} {f : LF} (hi : 1 ≤ i0 ∧ i0 ≤ 8) (hw : W n i0 = true) (hf : f (pN i0) ≠ none) : gone W n (upd f (pN i0) none) = gone W n f + 1 := by
  unfold gone
  refine filt_add (i0 := i0) List.nodup_range (List.mem_range.2 (by omega)) ?_ ?_ fun i hi => ?_
  · cases h : f (pN i0) with
    | none => exact absurd h hf
    | some v => simp
  · rw [upd_same]; simp [hi.1, hw]
  · rw [upd_ne _ _ (fun e => hi (pN_inj e))]
structure SPI (W : Nat → Nat → Bool) (T : Nat → Bool) (a : Nat) (why : Int) (D : Nat → Bool) (tr : Tr) (xa : List ActV) (q : List SigD) : Prop where
  ep : EP xa q
  len : xa.length = 8
  m : tr.length + q.length + wgt xa ≤ 200
  ad : liveAt 0 xa (pN a) = none
  dead : ∀ n, 1 ≤ n → n ≤ 8 → liveAt 0 xa (pN n) = none → n = a ∨ (why ≠ 0 ∧ D n = true)
  lf : ∀ n, 1 ≤ n → n ≤ 8 → ∀ x, liveAt 0 xa (pN n) = some x → x.trap = T n ∧ (∀ k, x.lf k ≠ none → WP W n k) ∧ ∀ i, 1 ≤ i → i ≤ 8 → W n i = true → x.lf (pN i) ≠ none ∨ liveAt 0 xa (pN i) = none
  told : ∀ n, 1 ≤ n → n ≤ 8 → ∀ x, liveAt 0 xa (pN n) = some x → cnt (hitTo n) tr = if T n = true then ((gone W n x.lf : Nat) : Int) else 0
  calm : why ≠ 0 → ∀ n, 1 ≤ n → n ≤ 8 → ∀ x, liveAt 0 xa (pN n) = some x → T n = false → ∀ i, 1 ≤ i → i ≤ 8 → W n i = true → x.lf (pN i) ≠ none
  sig : ∀ s ∈ q, s.why = why
  quiet : why = 0 → cnt (hitTo a) tr = 0
/-- D takes in a, and all whom an end with an error reaches. -/
structure Dom (W : Nat → Nat → Bool) (T : Nat → Bool) (a : Nat) (D : Nat → Bool) : Prop where
  src : D a = true
  cl : ∀ i k, 1 ≤ i → i ≤ 8 → 1 ≤ k → k ≤ 8 → D i = true → W i k = true → T k = false → D k = true
  least : ∀ S : Nat → Prop, S a → (∀ i k, 1 ≤ i → i ≤ 8 → 1 ≤ k → k ≤ 8 → S i → W i k = true → T k = false → S k) → ∀ n, 1 ≤ n → n ≤ 8 → D n = true → S n
theorem spi_in {W : Nat → Nat → Bool} {T : Nat → Bool} {a : Nat} {why : Int} {D : Nat → Bool} {tr : Tr} {xa : List ActV} {s : SigD} {q : List SigD} (h : SPI W T a why D tr xa (s :: q)) : InP s.to_ := (h.ep.sig s (by simp)).2.2.1
theorem nhit {n : Nat} {s : SigD} {f : EffD} (h : f.got = false) : hitTo n (s, f) = false := by unfold hitTo; rw [h]; rfl
/-- One of eight that is linked. -/
theorem wp_fr {W : Nat → Nat → Bool} {n : Nat} {k : PidD} (h : WP W n k) : ∃ i, k = pN i ∧ 1 ≤ i ∧ i ≤ 8 ∧ W n i = true := by
  obtain ⟨h1, h2⟩ := h
  obtain ⟨e, h3, h4⟩ := in_pN h1
  exact ⟨k.2.toNat, e, h3, h4, h2⟩
theorem SPI.step {W : Nat → Nat → Bool} {T : Nat → Bool} {a : Nat} {why : Int} {D : Nat → Bool} (hW : ∀ i k, 1 ≤ i → i ≤ 8 → 1 ≤ k → k ≤ 8 → W i k = true → W k i = true) (hD : why ≠ 0 → Dom W T a D) {tr : Tr} {xa xa' : List ActV} {s : SigD} {q : List SigD} {f : EffD} (h : SPI W T a why D tr xa (s :: q)) (hT : XCase xa s xa' f) : SPI W T a why D (tr ++ [(s, f)]) xa' (q ++ f.out) := by
  obtain ⟨hE, hM⟩ := h.ep.step hT
  have hm : (tr ++ [(s, f)]).length + (q ++ f.out).length + wgt xa' ≤ 200 := by
    have := h.m
    simp only [List.length_append, List.length_cons, List.length_nil] at this hM ⊢
    omega
  obtain ⟨_, _, hin, hne, hfd⟩ := h.ep.sig s (by simp)
  obtain ⟨hto, ht1, ht8⟩ := in_pN hin
  obtain ⟨t, hte⟩ : ∃ t, s.to_.2.toNat = t := ⟨_, rfl⟩
  rw [hte] at hto ht1 ht8
  have hwy := h.sig s (by simp)
  -- one whose links alone have turned
  have cut : ∀ x, liveAt 0 xa s.to_ = some x → x.lf s.fr ≠ none → (T t = true ∨ why = 0) → xa' = xa.set (ix s.to_) (x.setL (upd x.lf s.fr none) (x.ln - 1)) → (f.got = T t) → f.out = [] → SPI W T a why D (tr ++ [(s, f)]) xa' (q ++ f.out) := by
    intro x hn hl hTw hxa hgot hout
    have hal := (live_inv hn).2.1
    obtain ⟨e1, e2, e3, e4, e5, e6, e7⟩ := setL_lf hal (upd x.lf s.fr none) (x.ln - 1)
    have hL := liveAt_setL hn e6
    rw [← hxa] at hL
    have hn' := hn
    rw [hto] at hn'
    obtain ⟨l1, l2, l3⟩ := h.lf t ht1 ht8 x hn'
    obtain ⟨i0, hi0, hi1, hi8, hwi⟩ := wp_fr (l2 _ hl)
    have hlive : ∀ p, liveAt 0 xa p = none ↔ liveAt 0 xa' p = none := by
      intro p
      rw [hL]
      by_cases hp : p = s.to_
      · rw [if_pos hp, hp, hn]; simp
      · rw [if_neg hp]
    refine ⟨hE, by rw [hxa, List.length_set]; exact h.len, hm, (hlive _).1 h.ad, fun n h1 h8 hd => h.dead n h1 h8 ((hlive _).2 hd), fun n h1 h8 z hz => ?_, fun n h1 h8 z hz => ?_, fun hw0 n h1 h8 z hz hTn i hi1' hi8' hwn => ?_, fun s' hs => ?_, fun hw0 => ?_⟩
    · rw [hL] at hz
      split at hz
      · rename_i e
        obtain rfl := Option.some.inj hz
        obtain rfl : n = t := pN_inj (e.trans hto)
        refine ⟨e5.trans l1, fun k hk => ?_, fun i j1 j8 hw => ?_⟩
        · rw [e1] at hk
          by_cases hkf : k = s.fr
          · subst hkf; exact absurd (upd_same _ _ _) hk
          · rw [upd_ne _ _ hkf] at hk; exact l2 k hk
        · by_cases hkf : pN i = s.fr
          · right; rw [hkf]; exact (hlive _).1 hfd
          · rcases l3 i j1 j8 hw with h3 | h3
            · left; rw [e1, upd_ne _ _ hkf]; exact h3
            · right; exact (hlive _).1 h3
      · obtain ⟨m1, m2, m3⟩ := h.lf n h1 h8 z hz
        exact ⟨m1, m2, fun i j1 j8 hw => (m3 i j1 j8 hw).imp id fun h3 => (hlive _).1 h3⟩
    · rw [hL] at hz
      split at hz
      · rename_i e
        obtain rfl := Option.some.inj hz
        obtain rfl : n = t := pN_inj (e.trans hto)
        have ho := h.told n h1 h8 x hn'
        rw [e1, hi0, gone_del ⟨hi1, hi8⟩ hwi (hi0 ▸ hl)]
        cases hTn : T n with
        | true =>
          rw [if_pos rfl, cnt_T (by unfold hitTo; simp [hgot, hTn, hte]), ho, if_pos hTn]
          push_cast; rfl
        | false =>
          rw [if_neg Bool.false_ne_true, cnt_F (nhit (hgot.trans hTn)), ho, if_neg (by rw [hTn]; exact Bool.false_ne_true)]
      · rename_i hp
        rw [cnt_F, h.told n h1 h8 z hz]
        unfold hitTo
        have : s.to_.2.toNat ≠ n := fun e => hp (by rw [hto]; rw [hte] at e; rw [e])
        simp [this]
    · rw [hL] at hz
      split at hz
      · rename_i e
        obtain rfl : n = t := pN_inj (e.trans hto)
        rcases hTw with h9 | h9
        · rw [hTn] at h9; cases h9
        · exact absurd h9 hw0
      · exact h.calm hw0 n h1 h8 z hz hTn i hi1' hi8' hwn
    · rw [hout, List.append_nil] at hs
      exact h.sig s' (by simp [hs])
    · rw [cnt_F, h.quiet hw0]
      unfold hitTo
      have : s.to_.2.toNat ≠ a := fun e => by
        rw [hte] at e
        rw [hto, e] at hn
        rw [h.ad] at hn; cases hn
      simp [this]
  cases hT with
  | none h0 =>
    refine ⟨hE, h.len, hm, h.ad, h.dead, h.lf, fun n h1 h8 z hz => ?_, h.calm, fun s' hs => ?_, fun hw0 => ?_⟩
    · rw [cnt_F (nhit rfl)]; exact h.told n h1 h8 z hz
    · exact h.sig s' (by simp at hs; simp; rcases hs with hs | hs; exact .inr hs; cases hs)
    · rw [cnt_F (nhit rfl)]; exact h.quiet hw0
  | trap hn hl ht =>
    have hn' := hn
    rw [hto] at hn'
    have hTt := ((h.lf t ht1 ht8 _ hn').1).symm.trans ht
    exact cut _ hn hl (.inl hTt) rfl hTt.symm rfl
  | calm hn hl ht hw =>
    have hn' := hn
    rw [hto] at hn'
    have hTt := ((h.lf t ht1 ht8 _ hn').1).symm.trans ht
    exact cut _ hn hl (.inr (hwy.symm.trans hw)) rfl hTt.symm rfl
  | @dies x ks hn hl ht hw hk =>
    have hw0 : why ≠ 0 := fun e => hw (hwy.trans e)
    have hn' := hn
    rw [hto] at hn'
    obtain ⟨l1, l2, l3⟩ := h.lf t ht1 ht8 x hn'
    have hTt := l1.symm.trans ht
    obtain ⟨i0, hi0, hi1, hi8, hwi⟩ := wp_fr (l2 _ hl)
    have hL := liveAt_setD hn
    have hlive : ∀ p, liveAt 0 xa p = none → liveAt 0 (xa.set (ix s.to_) .dead) p = none := by
      intro p hp
      rw [hL, hp]; split <;> rfl
    have hd := hD hw0
    have hDt : D t = true := by
      refine hd.cl i0 t hi1 hi8 ht1 ht8 ?_ (hW t i0 ht1 ht8 hi1 hi8 hwi) hTt
      rw [hi0] at hfd
      rcases h.dead i0 hi1 hi8 hfd with e | ⟨_, e⟩
      · rw [e]; exact hd.src
      · exact e
    refine ⟨hE, by rw [List.length_set]; exact h.len, hm, hlive _ h.ad, fun n h1 h8 hdd => ?_, fun n h1 h8 z hz => ?_, fun n h1 h8 z hz => ?_, fun hw0 n h1 h8 z hz hTn i hi1' hi8' hwn => ?_, fun s' hs => ?_, fun hw9 => absurd hw9 hw0⟩
    · rw [hL] at hdd
      split at hdd
      · rename_i e
        obtain rfl : n = t := pN_inj (e.trans hto)
        exact .inr ⟨hw0, hDt⟩
      · exact h.dead n h1 h8 hdd
    · rw [hL] at hz
      split at hz
      · cases hz
      · obtain ⟨m1, m2, m3⟩ := h.lf n h1 h8 z hz
        exact ⟨m1, m2, fun i j1 j8 hw => (m3 i j1 j8 hw).imp id fun h3 => hlive _ h3⟩
    · rw [hL] at hz
      split at hz
      · cases hz
      · rw [cnt_F (nhit rfl)]; exact h.told n h1 h8 z hz
    · rw [hL] at hz
      split at hz
      · cases hz
      · exact h.calm hw0 n h1 h8 z hz hTn i hi1' hi8' hwn
    · rcases List.mem_append.1 hs with hs | hs
      · exact h.sig s' (by simp [hs])
      · obtain ⟨k, _, rfl⟩ := List.mem_map.1 hs
        exact hwy
theorem spI {W : Nat → Nat → Bool} {T : Nat → Bool} {a : Nat} {why : Int} {D : Nat → Bool} (hW : ∀ i k, 1 ≤ i → i ≤ 8 → 1 ≤ k → k ≤ 8 → W i k = true → W k i = true) (hD : why ≠ 0 → Dom W T a D) : SInv (SPI W T a why D) where
  ok := fun tr xa s q h => by obtain ⟨a, b, c, _⟩ := h.ep.sig s (by simp); exact ep_bad (by omega) c
  room := fun tr xa s q h => by
    obtain ⟨a, b, c, _⟩ := h.ep.sig s (by simp)
    have := h.len
    have hm := h.m
    simp only [List.length_cons] at hm
    exact ⟨by omega, by omega, by omega, by omega⟩
  lim := fun tr xa s q h x hx => wf_lim (xa := xa) (h.ep.wf _ _ hx)
  step := fun tr xa s q xa' f h hT => by
    have h1 := h.step hW hD (xcase h.ep hT)
    have := h1.m
    simp only [List.length_append] at this
    exact ⟨h1, by omega⟩
/-- How it begins. -/
theorem LUT.endd {xa xa' : List ActV} {W : Nat → Nat → Bool} {T : Nat → Bool} (h : LUT xa W T) {a : Nat} (ha : 1 ≤ a ∧ a ≤ 8) {why : Int} (hwy : 0 ≤ why ∧ why ≤ 255) {sg : List SigD} {e : Int} (hR : EndR 0 xa (pN a) why xa' sg e) (D : Nat → Bool) : e = 0 ∧ SPI W T a why D [] xa' sg ∧ sg.length ≤ 100 := by
  obtain ⟨x, hx, hxt, hxl⟩ := h.act a ha.1 ha.2
  obtain ⟨h1, h2, h3, h4, ks, hks, h5⟩ := h.ep.endd hx hwy hR
  have hw := h.ep.wgt64
  have hL := liveAt_setD hx
  rw [← h4] at hL
  have hlf : ∀ n, 1 ≤ n → n ≤ 8 → ∀ z, liveAt 0 xa' (pN n) = some z → z.trap = T n ∧ ∀ k, z.lf k ≠ none ↔ WP W n k := by
    intro n n1 n8 z hz
    rw [hL] at hz
    split at hz
    · cases hz
    · obtain ⟨y, hy, hyt, hyl⟩ := h.act n n1 n8
      rw [hy] at hz
      obtain rfl := Option.some.inj hz
      exact ⟨hyt, hyl⟩
  refine ⟨h3, ⟨h1, by rw [h4, List.length_set]; exact h.len, by simp only [List.length_nil]; omega, by rw [hL, if_pos rfl], fun n n1 n8 hd => .inl ?_, fun n n1 n8 z hz => ?_, fun n n1 n8 z hz => ?_, fun _ n n1 n8 z hz _ i i1 i8 hwn => ?_, fun s hs => ?_, fun _ => rfl⟩, by omega⟩
  · rw [hL] at hd
    split at hd
    · rename_i e; exact pN_inj e
    · obtain ⟨y, hy, _⟩ := h.act n n1 n8
      rw [hy] at hd; cases hd
  · obtain ⟨z1, z2⟩ := hlf n n1 n8 z hz
    exact ⟨z1, fun k hk => (z2 k).1 hk, fun i i1 i8 hwn => .inl ((z2 _).2 ((WP_pN ⟨i1, i8⟩).2 hwn))⟩
  · have hg : gone W n z.lf = 0 := by
      unfold gone
      rw [List.length_eq_zero_iff, List.filter_eq_nil_iff]
      intro i hi hb
      simp only [Bool.and_eq_true, decide_eq_true_eq] at hb
      have hi8 : i ≤ 8 := by have := List.mem_range.1 hi; omega
      have := ((hlf n n1 n8 z hz).2 (pN i)).2 ((WP_pN ⟨hb.1.1, hi8⟩).2 hb.1.2)
      simp [Option.isNone_iff_eq_none] at hb
      exact this hb.2
    rw [hg]
    show (0 : Int) = if _ then ((0 : Nat) : Int) else 0
    split <;> rfl
  · exact ((hlf n n1 n8 z hz).2 _).2 ((WP_pN ⟨i1, i8⟩).2 hwn)
  · rw [h5] at hs
    obtain ⟨k, _, rfl⟩ := List.mem_map.1 hs
    rfl
/-- How it ends: who is linked with one alive, and how often he was told. -/
theorem SPI.gone {W : Nat → Nat → Bool} {T : Nat → Bool} {a : Nat} {why : Int} {D : Nat → Bool} {tr : Tr} {xa : List ActV} (h : SPI W T a why D tr xa []) {n : Nat} (n1 : 1 ≤ n) (n8 : n ≤ 8) {x : ActV} (hx : liveAt 0 xa (pN n) = some x) : Proc.gone W n x.lf = ((List.range 9).filter fun i => decide (1 ≤ i) && W n i && (liveAt 0 xa (pN i)).isNone).length := by
  unfold Proc.gone
  congr 1
  refine List.filter_congr fun i hi => ?_
  have hi8 : i ≤ 8 := by have := List.mem_range.1 hi; omega
  by_cases h1 : 1 ≤ i
  · cases hw : W n i with
    | false => simp
    | true =>
      have h3 := (h.lf n n1 n8 x hx).2.2 i h1 hi8 hw
      cases hl : x.lf (pN i) with
      | none =>
        rw [hl] at h3
        rcases h3 with h3 | h3
        · exact absurd rfl h3
        · rw [h3]; rfl
      | some v =>
        obtain ⟨y, hy, _⟩ := h.ep.both hx (k := pN i) (by rw [hl]; nofun)
        rw [hy]; rfl
  · simp [h1]
theorem SPI.quietly {W : Nat → Nat → Bool} {T : Nat → Bool} {a : Nat} {D : Nat → Bool} {tr : Tr} {xa : List ActV} (ha : 1 ≤ a ∧ a ≤ 8) (hW : ∀ i k, 1 ≤ i → i ≤ 8 → 1 ≤ k → k ≤ 8 → W i k = true → W k i = true) (hI : W a a = false) (h : SPI W T a 0 D tr xa []) {n : Nat} (n1 : 1 ≤ n) (n8 : n ≤ 8) : ((liveAt 0 xa (pN n)).isSome = true ↔ n ≠ a) ∧ cnt (hitTo n) tr = if W a n = true ∧ T n = true then 1 else 0 := by
  have hd : ∀ i, 1 ≤ i → i ≤ 8 → (liveAt 0 xa (pN i) = none ↔ i = a) := fun i i1 i8 => ⟨fun hi => (h.dead i i1 i8 hi).resolve_right fun e => e.1 rfl, fun e => by rw [e]; exact h.ad⟩
  refine ⟨?_, ?_⟩
  · have := hd n n1 n8
    cases hn : liveAt 0 xa (pN n) with
    | none => simp [this.1 hn]
    | some x => simp; intro e; rw [this.2 e] at hn; cases hn
  · by_cases hna : n = a
    · subst hna
      rw [h.quiet rfl, if_neg (by rw [hI]; simp)]
    · cases hn : liveAt 0 xa (pN n) with
      | none => exact absurd ((hd n n1 n8).1 hn) hna
      | some x =>
        rw [h.told n n1 n8 x hn, h.gone n1 n8 hn]
        have e1 : (List.range 9).filter (fun i => decide (1 ≤ i) && W n i && (liveAt 0 xa (pN i)).isNone) = (List.range 9).filter fun i => decide (i = a) && W a n := by
          refine List.filter_congr fun i hi => ?_
          have hi8 : i ≤ 8 := by have := List.mem_range.1 hi; omega
          by_cases hia : i = a
          · subst hia
            rw [h.ad]
            have : W n i = W i n := by
              cases h5 : W n i with
              | true => rw [hW n i n1 n8 ha.1 ha.2 h5]
              | false => cases h6 : W i n with
                | true => rw [hW i n ha.1 ha.2 n1 n8 h6] at h5; cases h5
                | false => rfl
            simp [this, ha.1]
          · by_cases i1 : 1 ≤ i
            · have : (liveAt 0 xa (pN i)).isNone = false := by
                cases h5 : liveAt 0 xa (pN i) with
                | none => exact absurd ((hd i i1 hi8).1 h5) hia
                | some y => rfl
              rw [this]; simp [hia]
            · simp [i1, hia]
        rw [e1]
        cases hw : W a n with
        | false => simp
        | true =>
          have e2 : ((List.range 9).filter fun i => decide (i = a) && true).length = 1 := by
            have h1 := filt_add (p := fun _ => false) (p' := fun i => decide (i = a) && true) (i0 := a) (l := List.range 9) List.nodup_range (List.mem_range.2 (by omega)) rfl (by simp) (fun i hi => by simp [hi])
            rw [h1]; simp
          rw [e2]
          cases T n <;> rfl
end Go.Proofs.Yticdhdpfimpmoaa.Proc
/- The law ProcQuietly. -/
set_option maxRecDepth 100000
set_option maxHeartbeats 4000000
set_option linter.unusedVariables false
set_option linter.unusedSimpArgs false
namespace Go.Proofs.Yticdhdpfimpmoaa.Proc
open Go Go.Proofs.Yticdhdpfimpmoaa.Eng Go.RowKit
open Go.Proofs.Yticdhdpfimpmoaa.Eng.MG
theorem told_up {tr : Tr} {s : SigD} {f : EffD} (h : f.got = true) : updN (fun n => cnt (hitTo n) tr) s.to_.2.toNat (cnt (hitTo s.to_.2.toNat) tr + 1) = fun n => cnt (hitTo n) (tr ++ [(s, f)]) := by
  funext n
  unfold updN
  by_cases hn : n = s.to_.2.toNat
  · subst hn
    rw [if_pos rfl, cnt_T (by unfold hitTo; simp [h])]
  · rw [if_neg hn, cnt_F]
    unfold hitTo
    have : s.to_.2.toNat ≠ n := fun e => hn e.symm
    simp [this]
theorem told_no {tr : Tr} {s : SigD} {f : EffD} (h : f.got = false) : (fun n => cnt (hitTo n) tr) = fun n => cnt (hitTo n) (tr ++ [(s, f)]) := by
  funext n
  rw [cnt_F (nhit h)]
theorem zone {g : Glob} {w : World} {l : List As} {A B : As} (he : A = B) (H : Sat g w (A :: l)) : Sat g w (B :: l) := by subst he; exact H
section
variable {g : Glob} {w : World} {l : List As}
theorem seeQ_ {Inv : Tr → List ActV → List SigD → Prop} (hI : SInv Inv) (hTo : ∀ tr xa s q, Inv tr xa (s :: q) → InP s.to_) (p2 : Nat) : SeeC 16 [.pointer (some ⟨p2, 0, none⟩)] Inv (fun tr => Pt p2 (a9i fun n => cnt (hitTo n) tr) 34) := by
  intro g w l tr s f vo q xa xa' h0 hT H
  replace H : Sat g w (Pt p2 (a9i fun n => cnt (hitTo n) tr) 34 :: l) := H
  obtain ⟨_, _, htl, _⟩ := hI.room _ _ _ _ h0
  obtain ⟨hi1, hi2, hi3⟩ := hTo _ _ _ _ h0
  have hc := cnt_le (h := hitTo s.to_.2.toNat) (tr := tr)
  have hN : f.got = false → _ := told_no (tr := tr) (s := s) (f := f)
  have hY : f.got = true → _ := told_up (tr := tr) (s := s) (f := f)
  refine Fc.of Try.func16 rfl (by kernel_rfl) ?_
  refine rBoxS H ?_
  clear H
  intro p1 w1 H
  refine rBoxS H ?_
  clear H
  intro p3 w2 H
  clear w1
  refine rFieldAt rfl ?_
  refine rLd (H.at 0 rfl) 4 rfl rfl rfl ?_
  refine cI (fun c1 => ?_) (fun c1 => ?_)
  · refine rFieldAt rfl ?_
    refine rFieldAt rfl ?_
    refine rLd (H.at 1 rfl) 4 rfl rfl rfl ?_
    refine rIxArr 1 (s.to_.snd).toNat (by omega) (by omega) rfl rfl ?_
    refine rLd9i H 2 rfl (by omega) rfl ?_
    refine eqI64 (by omega) ?_
    refine rIxArr 1 (s.to_.snd).toNat (by omega) (by omega) rfl rfl ?_
    refine rSt9i H 2 rfl (by omega) rfl ?_
    clear H
    intro w1 H
    clear w2
    refine Done.mk ?_
    exact zone (by rw [hY c1]) ((H.del 0).del 0)
  refine Done.mk ?_
  exact zone (by rw [hN c1]) ((H.del 0).del 0)
section
variable {p : Nat} {va : Value} {refs : Int} {xa : List ActV} {W : Nat → Nat → Bool} {T : Nat → Bool}
theorem endU (H : Sat g w (Pt p [.int .i64 0, va, .int .i64 refs] 100 :: Sl 82 5 enAc va xa :: Acts xa :: l)) (hU : LUT xa W T) (D : Nat → Bool) (a : Nat) (why : Int) (ha : 1 ≤ a ∧ a ≤ 8) (hw : 0 ≤ why ∧ why ≤ 255) : Fc Try.prog 12 #[.pointer (some ⟨p, 0, none⟩), .agg #[.int .i64 0, .int .i64 (a : Int)], .int .i64 why] w (fun r w' => ∃ v xa' sg e, r = .tuple #[v, .int .i64 e] ∧ e = 0 ∧ SPI W T a why D [] xa' sg ∧ sg.length ≤ 100 ∧ Sat g w' (Sl 40 9 enSi v sg :: Pt p [.int .i64 0, va, .int .i64 refs] 100 :: Sl 82 5 enAc va xa' :: Acts xa' :: l)) := by
  have := hU.len
  refine Fc.imp (end_ linksC H 0 a why (by omega) (by omega) (fun x hx => by have := wf_lim (xa := xa) (hU.ep.wf _ _ hx); exact ⟨this.1, this.2.1⟩)) ?_
  rintro r w' ⟨v, xa', sg, e, hr, hR, H⟩
  obtain ⟨h1, h2, h3⟩ := hU.endd ha hw hR D
  exact ⟨v, xa', sg, e, hr, h1, h2, h3, H⟩
theorem aliveN (H : Sat g w (Pt p [.int .i64 0, va, .int .i64 refs] 100 :: Sl 82 5 enAc va xa :: l)) (q1 q2 : Int) (hl : xa.length ≤ 16) (hq : -9223372036854775807 ≤ q2 ∧ q2 ≤ 9223372036854775807) (hn : liveAt 0 xa (q1, q2) = none) : Fc Try.prog 15 #[.pointer (some ⟨p, 0, none⟩), .agg #[.int .i64 q1, .int .i64 q2]] w (fun r w' => ∃ b, r = .bool b ∧ b = false ∧ Sat g w' (Pt p [.int .i64 0, va, .int .i64 refs] 100 :: Sl 82 5 enAc va xa :: l)) := by
  refine Fc.imp (alive_ H q1 q2 hl hq) ?_
  rintro r w' ⟨b, hr, hb, H⟩
  exact ⟨b, hr, by rw [hb, hn]; rfl, H⟩
end
end
theorem procQuietly (w : World) (v1 : Value) (ps : List (Int × Int)) (v2 : Value) (ts : List Bool) (first : Int) (hx : Rd enP2 okP2 2 w v1 ps) (hy : Rd enBo okBo 1 w v2 ts) (hf : -9223372036854775808 ≤ first ∧ first ≤ 9223372036854775807) : Fc Try.prog 4 #[v1, v2, .int .i64 first] w (fun v w' => v = .bool true ∧ Below w.heap.size w w') := by
  refine Fc.of Try.func4 rfl (by kernel_rfl) ?_
  have H := Sat.start w
  have hx := hx.fz
  have hy := hy.fz
  refine CallP.mk (Fc.imp (Go.Proofs.Yticdhdpfimpmoaa.Proc.linkedUp_ H _ _ _ _ hx hy) ?_)
  clear H
  rintro _ w1 ⟨p1, ⟨va1, ⟨xa1, ⟨rfl, ⟨h1, H⟩⟩⟩⟩⟩
  refine rAllocS H rfl ?_
  clear H
  intro p2 w2 H
  clear w1
  refine rAllocS H rfl ?_
  clear H
  intro p3 w1 H
  clear w2
  refine rStAS H 1 rfl rfl rfl rfl ?_
  clear H
  intro w2 H
  clear w1
  refine rStAS H 0 rfl rfl rfl rfl ?_
  clear H
  intro w1 H
  clear w2
  refine cF rfl ?_
  refine CallP.mk (Fc.imp (Go.Proofs.Yticdhdpfimpmoaa.Proc.one_ H _ _ ?_ ?_) ?_)
  · omega
  · assumption
  clear H
  rintro _ w2 ⟨k1, ⟨rfl, ⟨h2, ⟨h3, ⟨h4, H⟩⟩⟩⟩⟩
  refine rAllocS H rfl ?_
  clear H
  intro p4 w3 H
  clear w2
  refine rStAS H 0 rfl rfl rfl rfl ?_
  clear H
  intro w2 H
  clear w3
  refine rAllocS H rfl ?_
  clear H
  intro p5 w3 H
  clear w2
  refine rLdA (H.at 1 rfl) 0 rfl rfl rfl ?_
  have ha := pA_rng first
  obtain ⟨a, hae⟩ : ∃ a, a = pA first := ⟨_, rfl⟩
  obtain rfl : k1 = ((a : Nat) : Int) := hae ▸ pA_eq h2
  rw [← hae] at ha
  obtain ⟨W, hW⟩ : ∃ W, Wof ps = W := ⟨_, rfl⟩
  obtain ⟨T, hT⟩ : ∃ T, Tof ts (min 8 ts.length) = T := ⟨_, rfl⟩
  replace H : Sat (froz w) w3 [Pt p5 (a9i fun n => cnt (hitTo n) []) 34, Pt p4 [.int .i64 0, .int .i64 (a : Int)] 31, Pt p3 (a9b (Tof ts (min 8 ts.length))) 26, Pt p2 (a81 (Wof ps)) 27, Pt p1 [.int .i64 0, va1, .int .i64 0] 100, Sl 82 5 enAc va1 xa1, Acts xa1] := H
  rw [hW, hT] at H h1
  have hw0 : (0 : Int) ≤ 0 ∧ (0 : Int) ≤ 255 := by omega
  have hsym : ∀ i k, 1 ≤ i → i ≤ 8 → 1 ≤ k → k ≤ 8 → W i k = true → W k i = true := fun i k a1 a2 b1 b2 hw => h1.sym ⟨a1, a2⟩ ⟨b1, b2⟩ hw
  have hirr := h1.irr ha
  refine CallP.mk (Fc.imp (endU (((H.front (j := 6) rfl).front (j := 6) rfl).front (j := 6) rfl) h1 (fun _ => false) a 0 ha hw0) ?_)
  clear H
  rintro r4 w4 ⟨v4, xb, sg, e, rfl, he, hS0, hsl, H⟩
  simp only [List.eraseIdx] at H
  
  have hI := spI (W := W) (T := T) (a := a) (why := 0) (D := fun _ => false) hsym (fun h => absurd rfl h)
  refine CallP.mk (Fc.imp (signals_ hI (seeQ_ hI (fun _ _ _ _ h => spi_in h) p5) hS0 (by omega) H) ?_)
  clear H
  rintro r5 w5 ⟨b5, tr, xc, rfl, hb5, hS, H⟩
  have hq : ∀ n : Nat, 1 ≤ n → n ≤ 8 → ((liveAt 0 xc (pN n)).isSome = true ↔ n ≠ a) ∧ cnt (hitTo n) tr = if W a n = true ∧ T n = true then 1 else 0 := fun n n1 n8 => hS.quietly ha hsym hirr n1 n8
  have hxc := hS.len
  obtain ⟨tl, htl⟩ : ∃ tl, tl = fun n => cnt (hitTo n) tr := ⟨_, rfl⟩
  replace H : Sat (froz w) w5 [Pt p1 [.int .i64 0, va1, .int .i64 0] 100, Sl 82 5 enAc va1 xc, Acts xc, Pt p5 (a9i fun n => cnt (hitTo n) tr) 34, Pt p4 [.int .i64 0, .int .i64 (a : Int)] 31, Pt p3 (a9b T) 26, Pt p2 (a81 W) 27] := H
  rw [← htl] at H
  
  refine LoopP.rule (α := Nat) (1) (fun x_ => [(16, .int .i64 x_)]) (fun x_ w_ => (1 ≤ x_) ∧ (x_ ≤ 9) ∧ Sat (froz w) w_ ([Pt p1 [.int .i64 0, va1, .int .i64 0] 100, Sl 82 5 enAc va1 xc, Acts xc, Pt p5 (a9i tl) 34, Pt p4 [.int .i64 0, .int .i64 (a : Int)] 31, Pt p3 (a9b T) 26, Pt p2 (a81 W) 27])) (fun x_ => 9 - x_) ?_ ?_ ?_
  · repeat first | exact mt_nil | refine mt_cons rfl ?_ | refine mt_i rfl (by first | omega | (simp only; omega) | (simp; omega) | (simp; done)) ?_
  · try simp only
    refine ⟨?_, ?_⟩
    · omega
    refine ⟨?_, ?_⟩
    · omega
    exact H
  clear H
  rintro i f_ w_ ⟨hi1, hi9, H⟩
  try simp only at hi1 hi9 H ⊢
  rcases Nat.lt_or_ge i 9 with hlt | hge
  · obtain ⟨q1, q2⟩ := hq i hi1 (by omega)
    have q2 : tl i = if W a i = true ∧ T i = true then 1 else 0 := by rw [htl]; exact q2
    by_cases hia : i = a
    · have hlv : liveAt 0 xc (0, (i : Int)) = none := by
        cases h9 : liveAt 0 xc (pN i) with
        | none => exact h9
        | some x => exact absurd hia (q1.1 (by rw [h9]; rfl))
      have hwf : W a i = false := by rw [hia]; exact hirr
      rw [hwf, if_neg (by simp)] at q2
      refine cT (vLt_T (by omega)) ?_
      refine bk ?_
      refine rFieldAt rfl ?_
      refine rLd (H.at 4 rfl) 1 rfl rfl rfl ?_
      refine rIxArr 9 (a) (by omega) (by omega) rfl rfl ?_
      refine rIxArr 1 (i) (by omega) (by omega) rfl rfl ?_
      refine rLd81 H 6 rfl (by omega) rfl ?_
      refine br_f ((by assumption)) ?_
      refine cF rfl ?_
      refine drawzS H [] [(0, .pure), (1, .pure), (2, .pure), (4, .pure), (5, .pure), (6, .held), (7, .pure), (3, .forced), (8, .pure), (9, .pure), (10, .pure), (11, .pure), (12, .held), (13, .pure), (14, .pure), (15, .pure)] mixed (by kernel_rfl) (by kernel_rfl) ?_
      clear H
      intro w2 H
      clear w_
      refine tk (fun wx HS => rBuild rfl rfl rfl ⟨rfl, rfl⟩) ?_
      refine tk (fun wx HS => rFieldAt rfl ⟨rfl, rfl⟩) ?_
      refine tk (fun wx HS => rLd (HS.at 4 rfl) 1 rfl rfl rfl ⟨rfl, rfl⟩) ?_
      refine CallP.mk (Fc.imp (Go.Proofs.Yticdhdpfimpmoaa.Proc.aliveN H _ _ ?_ ?_ ?_) ?_)
      · omega
      · omega
      · assumption
      clear H
      rintro _ w6 ⟨b1, ⟨rfl, ⟨h5, H⟩⟩⟩
      refine KeepP.mk (H) ?_
      refine tk (fun wx HS => rBoolEq rfl ⟨rfl, rfl⟩) ?_
      refine br_f ((by (rw [h5, vEq_T (by omega)]; rfl))) ?_
      refine tk (fun wx HS => rIxArr 1 (i) (by omega) (by omega) rfl rfl ⟨rfl, rfl⟩) ?_
      refine tk (fun wx HS => rLd9i HS 3 rfl (by omega) rfl ⟨rfl, rfl⟩) ?_
      refine cF (vNe_F (by assumption)) ?_
      refine eqI64 (by omega) ?_
      refine Nxt.mk (i + 1) (mt_i rfl (by first | omega | (simp only; omega) | (simp; omega)) (mt_nil)) ?_ ?_
      · refine ⟨?_, ?_⟩
        · omega
        refine ⟨?_, ?_⟩
        · assumption
        exact H
      omega
    · obtain ⟨x, hlv⟩ : ∃ x, liveAt 0 xc (0, (i : Int)) = some x := Option.isSome_iff_exists.1 (q1.2 hia)
      cases hwv : W a i with
      | false =>
        rw [hwv, if_neg (by simp)] at q2
        refine cT (vLt_T (by omega)) ?_
        refine bk ?_
        refine rFieldAt rfl ?_
        refine rLd (H.at 4 rfl) 1 rfl rfl rfl ?_
        refine rIxArr 9 (a) (by omega) (by omega) rfl rfl ?_
        refine rIxArr 1 (i) (by omega) (by omega) rfl rfl ?_
        refine rLd81 H 6 rfl (by omega) rfl ?_
        refine br_f ((by assumption)) ?_
        refine cF rfl ?_
        refine drawzS H [] [(0, .pure), (1, .pure), (2, .pure), (4, .pure), (5, .pure), (6, .held), (7, .pure), (3, .forced), (8, .pure), (9, .pure), (10, .pure), (11, .pure), (12, .held), (13, .pure), (14, .pure), (15, .pure)] mixed (by kernel_rfl) (by kernel_rfl) ?_
        clear H
        intro w2 H
        clear w_
        refine tk (fun wx HS => rBuild rfl rfl rfl ⟨rfl, rfl⟩) ?_
        refine tk (fun wx HS => rFieldAt rfl ⟨rfl, rfl⟩) ?_
        refine tk (fun wx HS => rLd (HS.at 4 rfl) 1 rfl rfl rfl ⟨rfl, rfl⟩) ?_
        refine CallP.mk (Fc.imp (Go.Proofs.Yticdhdpfimpmoaa.Proc.aliveY H _ _ ?_ _ hlv) ?_)
        · omega
        clear H
        rintro _ w6 ⟨b1, ⟨rfl, ⟨h5, H⟩⟩⟩
        refine KeepP.mk (H) ?_
        refine tk (fun wx HS => rBoolEq rfl ⟨rfl, rfl⟩) ?_
        refine br_f ((by (rw [h5, vEq_F (by omega)]; rfl))) ?_
        refine tk (fun wx HS => rIxArr 1 (i) (by omega) (by omega) rfl rfl ⟨rfl, rfl⟩) ?_
        refine tk (fun wx HS => rLd9i HS 3 rfl (by omega) rfl ⟨rfl, rfl⟩) ?_
        refine cF (vNe_F (by assumption)) ?_
        refine eqI64 (by omega) ?_
        refine Nxt.mk (i + 1) (mt_i rfl (by first | omega | (simp only; omega) | (simp; omega)) (mt_nil)) ?_ ?_
        · refine ⟨?_, ?_⟩
          · omega
          refine ⟨?_, ?_⟩
          · assumption
          exact H
        omega
      | true =>
        cases htv : T i with
        | false =>
          rw [htv, if_neg (by simp)] at q2
          refine cT (vLt_T (by omega)) ?_
          refine bk ?_
          refine rFieldAt rfl ?_
          refine rLd (H.at 4 rfl) 1 rfl rfl rfl ?_
          refine rIxArr 9 (a) (by omega) (by omega) rfl rfl ?_
          refine rIxArr 1 (i) (by omega) (by omega) rfl rfl ?_
          refine rLd81 H 6 rfl (by omega) rfl ?_
          refine br_t ((by assumption)) ?_
          refine rIxArr 1 (i) (by omega) (by omega) rfl rfl ?_
          refine rLd9b H 5 rfl (by omega) rfl ?_
          refine cF ((by assumption)) ?_
          refine drawzS H [] [(0, .pure), (1, .pure), (2, .pure), (4, .pure), (5, .pure), (6, .held), (7, .pure), (3, .forced), (8, .pure), (9, .pure), (10, .pure), (11, .pure), (12, .held), (13, .pure), (14, .pure), (15, .pure)] mixed (by kernel_rfl) (by kernel_rfl) ?_
          clear H
          intro w2 H
          clear w_
          refine tk (fun wx HS => rBuild rfl rfl rfl ⟨rfl, rfl⟩) ?_
          refine tk (fun wx HS => rFieldAt rfl ⟨rfl, rfl⟩) ?_
          refine tk (fun wx HS => rLd (HS.at 4 rfl) 1 rfl rfl rfl ⟨rfl, rfl⟩) ?_
          refine CallP.mk (Fc.imp (Go.Proofs.Yticdhdpfimpmoaa.Proc.aliveY H _ _ ?_ _ hlv) ?_)
          · omega
          clear H
          rintro _ w6 ⟨b1, ⟨rfl, ⟨h5, H⟩⟩⟩
          refine KeepP.mk (H) ?_
          refine tk (fun wx HS => rBoolEq rfl ⟨rfl, rfl⟩) ?_
          refine br_f ((by (rw [h5, vEq_F (by omega)]; rfl))) ?_
          refine tk (fun wx HS => rIxArr 1 (i) (by omega) (by omega) rfl rfl ⟨rfl, rfl⟩) ?_
          refine tk (fun wx HS => rLd9i HS 3 rfl (by omega) rfl ⟨rfl, rfl⟩) ?_
          refine cF (vNe_F (by assumption)) ?_
          refine eqI64 (by omega) ?_
          refine Nxt.mk (i + 1) (mt_i rfl (by first | omega | (simp only; omega) | (simp; omega)) (mt_nil)) ?_ ?_
          · refine ⟨?_, ?_⟩
            · omega
            refine ⟨?_, ?_⟩
            · assumption
            exact H
          omega
        | true =>
          rw [hwv, htv, if_pos (by simp)] at q2
          refine cT (vLt_T (by omega)) ?_
          refine bk ?_
          refine rFieldAt rfl ?_
          refine rLd (H.at 4 rfl) 1 rfl rfl rfl ?_
          refine rIxArr 9 (a) (by omega) (by omega) rfl rfl ?_
          refine rIxArr 1 (i) (by omega) (by omega) rfl rfl ?_
          refine rLd81 H 6 rfl (by omega) rfl ?_
          refine br_t ((by assumption)) ?_
          refine rIxArr 1 (i) (by omega) (by omega) rfl rfl ?_
          refine rLd9b H 5 rfl (by omega) rfl ?_
          refine cT ((by assumption)) ?_
          refine drawzS H [] [(0, .pure), (1, .pure), (2, .pure), (4, .pure), (5, .pure), (6, .held), (7, .pure), (3, .forced), (8, .pure), (9, .pure), (10, .pure), (11, .pure), (12, .held), (13, .pure), (14, .pure), (15, .pure)] mixed (by kernel_rfl) (by kernel_rfl) ?_
          clear H
          intro w2 H
          clear w_
          refine tk (fun wx HS => rBuild rfl rfl rfl ⟨rfl, rfl⟩) ?_
          refine tk (fun wx HS => rFieldAt rfl ⟨rfl, rfl⟩) ?_
          refine tk (fun wx HS => rLd (HS.at 4 rfl) 1 rfl rfl rfl ⟨rfl, rfl⟩) ?_
          refine CallP.mk (Fc.imp (Go.Proofs.Yticdhdpfimpmoaa.Proc.aliveY H _ _ ?_ _ hlv) ?_)
          · omega
          clear H
          rintro _ w6 ⟨b1, ⟨rfl, ⟨h5, H⟩⟩⟩
          refine KeepP.mk (H) ?_
          refine tk (fun wx HS => rBoolEq rfl ⟨rfl, rfl⟩) ?_
          refine br_f ((by (rw [h5, vEq_F (by omega)]; rfl))) ?_
          refine tk (fun wx HS => rIxArr 1 (i) (by omega) (by omega) rfl rfl ⟨rfl, rfl⟩) ?_
          refine tk (fun wx HS => rLd9i HS 3 rfl (by omega) rfl ⟨rfl, rfl⟩) ?_
          refine cF (vNe_F (by assumption)) ?_
          refine eqI64 (by omega) ?_
          refine Nxt.mk (i + 1) (mt_i rfl (by first | omega | (simp only; omega) | (simp; omega)) (mt_nil)) ?_ ?_
          · refine ⟨?_, ?_⟩
            · omega
            refine ⟨?_, ?_⟩
            · assumption
            exact H
          omega
  · refine cF (vLt_F (by omega)) ?_
    refine br_t (vEq_T (by assumption)) ?_
    refine Done.mk ?_
    refine ⟨?_, ?_⟩
    · exact congrArg Value.bool ((by assumption))
    exact H.finish
end Go.Proofs.Yticdhdpfimpmoaa.Proc
/- The law ProcWatched: what is seen. -/
set_option maxRecDepth 100000
set_option maxHeartbeats 4000000
set_option linter.unusedVariables false
set_option linter.unusedSimpArgs false
namespace Go.Proofs.Yticdhdpfimpmoaa.Proc
open Go Go.Proofs.Yticdhdpfimpmoaa.Eng Go.RowKit
open Go.Proofs.Yticdhdpfimpmoaa.Eng.MG
def enWa (w : WA) : List Value := [.int .i64 w.by_.1, .int .i64 w.by_.2, .int .i64 w.of_.1, .int .i64 w.of_.2, .int .i64 w.told]
section
theorem seeW_ {L : List WA} (pa pg : Nat) (va : Value) : SeeC 24 [.pointer (some ⟨pa, 0, none⟩), .pointer (some ⟨pg, 0, none⟩)] (WI L) (fun tr => sts [Sl 65 5 enWa va (lstW L tr), Pt pa [va] 62, Pt pg [.bool true] 4]) := by
  intro g w l tr s f vo q xa xa' h0 hT H
  replace H := H.spread
  replace H : Sat g w (Sl 65 5 enWa va (lstW L tr) :: Pt pa [va] 62 :: Pt pg [.bool true] 4 :: l) := H
  refine Fc.of Try.func24 rfl (by kernel_rfl) ?_
  cases hgot : f.got with
  | false =>
    refine rBoxS H ?_
    clear H
    intro p1 w1 H
    refine rBoxS H ?_
    clear H
    intro p2 w2 H
    clear w1
    refine rFieldAt rfl ?_
    refine rLd (H.at 0 rfl) 4 rfl rfl rfl ?_
    refine cT (not_T ((by assumption))) ?_
    refine Done.mk ?_
    exact zfin (by rw [lstW_no hgot]) ((H.del 0).del 0)
  | true =>
    obtain ⟨i0, w0, hi0, hr0, hby, hof, htag, hbody⟩ := h0.seen hT hgot
    have hup := lstW_up (tr := tr) hgot hi0 hr0
    have ht1 := h0.t1 i0 w0 hi0
    have hll : (lstW L tr).length = L.length := lstW_len
    have h60 := h0.L60
    have hil := (List.getElem?_eq_some_iff.1 hi0).1
    have hx0 : (lstW L tr)[i0]? = some { w0 with told := tlW w0 i0 tr } := by rw [lstW_get, hi0]; rfl
    obtain ⟨b0, hb0⟩ : ∃ b0, b0 = UInt8.ofNat (s.ref % 256).toNat := ⟨_, rfl⟩
    have hb0v : (b0.toNat : Int) = (i0 : Int) + 1 := by
      rw [hb0, hr0]
      have : (((i0 : Int) + 1) % 256).toNat = i0 + 1 := by omega
      rw [this]
      simp
      omega
    obtain ⟨b1, hb1⟩ : ∃ b1, b1 = UInt8.ofNat (s.why % 256).toNat := ⟨_, rfl⟩
    rw [← hb0, ← hb1] at hbody
    have hbl : f.body.length = 2 := by rw [hbody]; rfl
    have hbx : f.body[0]? = some b0 := by rw [hbody]; rfl
    have hie : b0.toNat - 1 = i0 := by omega
    obtain ⟨x1, hxe⟩ : ∃ x1, x1 = ({ w0 with told := tlW w0 i0 tr } : WA) := ⟨_, rfl⟩
    have hx1 : (lstW L tr)[b0.toNat - 1]? = some x1 := by rw [hie, hx0, hxe]
    have hxt : x1.told = tlW w0 i0 tr := by rw [hxe]
    have hxb : x1.by_ = s.to_ := by rw [hxe]; exact hby
    have hxo : x1.of_ = s.fr := by rw [hxe]; exact hof
    have hq1 := pid_t (a1 := x1.by_.1) (a2 := x1.by_.2) (b1 := s.to_.1) (b2 := s.to_.2) ⟨by rw [hxb], by rw [hxb]⟩
    have hq2 := pid_t (a1 := x1.of_.1) (a2 := x1.of_.2) (b1 := s.fr.1) (b2 := s.fr.2) ⟨by rw [hxo], by rw [hxo]⟩
    refine rBoxS H ?_
    clear H
    intro p1 w1 H
    refine rBoxS H ?_
    clear H
    intro p2 w2 H
    clear w1
    refine rFieldAt rfl ?_
    refine rLd (H.at 0 rfl) 4 rfl rfl rfl ?_
    refine cF (not_F ((by assumption))) ?_
    refine rFieldAt rfl ?_
    refine rFieldAt rfl ?_
    refine rLd (H.at 0 rfl) 3 rfl rfl rfl ?_
    refine drawzS H [] [(0, .pure), (1, .pure), (2, .held), (3, .pure), (4, .pure), (5, .pure), (6, .pure), (7, .pure), (8, .pure), (9, .pure), (10, .pure), (11, .pure), (12, .pure), (13, .pure), (14, .pure), (15, .pure), (16, .pure), (17, .pure), (18, .pure), (19, .held), (20, .pure), (21, .pure), (22, .pure)] mixed (by kernel_rfl) (by kernel_rfl) ?_
    clear H
    intro w1 H
    clear w2
    refine tk (fun wx HS => rFieldAt rfl ⟨rfl, rfl⟩) ?_
    refine tk (fun wx HS => rFieldAt rfl ⟨rfl, rfl⟩) ?_
    refine tk (fun wx HS => rLd (HS.at 0 rfl) 2 rfl rfl rfl ⟨rfl, rfl⟩) ?_
    refine br_f (vNe_F (by assumption)) ?_
    refine tk (fun wx HS => rLenStr rfl ⟨rfl, rfl⟩) ?_
    refine br_f (vNe_F (by omega)) ?_
    refine tk (fun wx HS => rIdxStrX rfl 0 hbx rfl ⟨rfl, rfl⟩) ?_
    refine tk (fun wx HS => rConvI64 (by omega) rfl rfl ⟨rfl, rfl⟩) ?_
    refine br_f (vLt_F (by omega)) ?_
    refine tk (fun wx HS => rIdxStrX rfl 0 hbx rfl ⟨rfl, rfl⟩) ?_
    refine tk (fun wx HS => rConvI64 (by omega) rfl rfl ⟨rfl, rfl⟩) ?_
    refine tk (fun wx HS => rLd (HS.at 3 rfl) 0 rfl rfl rfl ⟨rfl, rfl⟩) ?_
    obtain ⟨a1, c1, V1⟩ := H.form 2 rfl
    refine tk (fun wx HS => rLenV V1 rfl ⟨rfl, rfl⟩) ?_
    refine cF (vLt_F (by omega)) ?_
    refine drawzS H [] [(0, .held), (1, .pure), (2, .pure), (3, .pure), (4, .pure), (5, .pure), (6, .pure)] mixed (by kernel_rfl) (by kernel_rfl) ?_
    clear H
    intro w2 H
    clear w1
    refine tk (fun wx HS => rLd (HS.at 3 rfl) 0 rfl rfl rfl ⟨rfl, rfl⟩) ?_
    refine tk (fun wx HS => rIdxStrX rfl 0 hbx rfl ⟨rfl, rfl⟩) ?_
    refine tk (fun wx HS => rConvI64 (by omega) rfl rfl ⟨rfl, rfl⟩) ?_
    refine eqI64 (by omega) ?_
    obtain ⟨b2, o1, E1⟩ := H.elt 2 rfl ((b0.toNat) - 1) (by omega)
    refine tk (fun wx HS => rIxE E1 (by omega) rfl rfl ⟨rfl, rfl⟩) ?_
    refine rFieldAt rfl ?_
    refine rLd (H.el 2 rfl E1 hx1) 4 rfl rfl rfl ?_
    refine eqI64 (by omega) ?_
    refine rFieldAt rfl ?_
    refine rStE H 2 rfl E1 hx1 4 ({ x1 with told := x1.told + 1 } : WA) rfl rfl rfl rfl ?_
    clear H
    intro w9 H
    refine drawzS H [] [(0, .held), (1, .pure), (2, .pure), (3, .pure), (4, .pure), (5, .held), (6, .pure), (7, .held), (8, .pure), (9, .pure), (10, .pure), (11, .pure), (12, .pure), (13, .pure), (14, .held), (15, .pure), (16, .held), (17, .pure), (18, .pure), (19, .free)] mixed (by kernel_rfl) (by kernel_rfl) ?_
    clear H
    intro w1 H
    clear w9
    refine tk (fun wx HS => rLd (HS.at 4 rfl) 0 rfl rfl rfl ⟨rfl, rfl⟩) ?_
    refine tk (fun wx HS => rFieldAt rfl ⟨rfl, rfl⟩) ?_
    have hx2 : ((lstW L tr).set (b0.toNat - 1) { by_ := x1.by_, of_ := x1.of_, told := x1.told + 1 })[b0.toNat - 1]? = some _ := setSelf hx1
    refine tk (fun wx HS => rLdA (HS.el 2 rfl E1 hx2) 0 rfl rfl rfl ⟨rfl, rfl⟩) ?_
    refine tk (fun wx HS => rFieldAt rfl ⟨rfl, rfl⟩) ?_
    refine tk (fun wx HS => rLdA (HS.at 1 rfl) 3 rfl rfl rfl ⟨rfl, rfl⟩) ?_
    refine tk (fun wx HS => rStructEq (by kernel_rfl) (by kernel_rfl) ⟨rfl, rfl⟩) ?_
    refine br_t ((by exact hq1)) ?_
    refine tk (fun wx HS => rFieldAt rfl ⟨rfl, rfl⟩) ?_
    refine tk (fun wx HS => rLdA (HS.el 2 rfl E1 hx2) 2 rfl rfl rfl ⟨rfl, rfl⟩) ?_
    refine tk (fun wx HS => rFieldAt rfl ⟨rfl, rfl⟩) ?_
    refine tk (fun wx HS => rLdA (HS.at 1 rfl) 1 rfl rfl rfl ⟨rfl, rfl⟩) ?_
    refine tk (fun wx HS => rStructEq (by kernel_rfl) (by kernel_rfl) ⟨rfl, rfl⟩) ?_
    refine rStS H 4 rfl rfl rfl rfl ?_
    clear H
    intro w3 H
    clear w1
    replace H := (H.del 0).del 0
    simp only [List.eraseIdx] at H
    rw [hq2, hie] at H
    subst hxe
    exact Done.mk (zfin (by rw [hup]) H)
end
end Go.Proofs.Yticdhdpfimpmoaa.Proc
/- The law ProcWatched. -/
set_option maxRecDepth 100000
set_option maxHeartbeats 4000000
set_option linter.unusedVariables false
set_option linter.unusedSimpArgs false
namespace Go.Proofs.Yticdhdpfimpmoaa.Proc
open Go Go.Proofs.Yticdhdpfimpmoaa.Eng Go.RowKit
open Go.Proofs.Yticdhdpfimpmoaa.Eng.MG
def okR (x : Int) : Prop := r64 x
theorem fitsR (cs : List Value) (h : fitsL [.int .i64] cs) : ∃ x, cs = enZ x ∧ okR x := by
  obtain ⟨_, _, rfl, ⟨a, rfl, ha⟩, rfl⟩ := h
  exact ⟨a, rfl, ha⟩
theorem wi_lim {L : List WA} {tr : Tr} {xa : List ActV} {q : List SigD} (h : WI L tr xa q) {p : PidD} {x : ActV} (hx : liveAt 0 xa p = some x) : x.ln ≤ 12 ∧ x.ws.length ≤ 1000 ∧ x.hn ≤ 1000 := by
  obtain ⟨_, h2, h3⟩ := h.lnk _ x hx
  have h4 := h.wsl _ x hx
  have := h.L60
  exact ⟨by omega, by omega, by omega⟩
theorem takeI_mem {ks : List Int} {m : Nat} {r x : Int} (hr : ks[m]? = some r) : x ∈ ks.take (m + 1) ↔ x ∈ ks.take m ∨ x = r := by
  rw [List.take_add_one, hr]
  simp
theorem bkI_t {ks : List Int} {m : Nat} {r x : Int} {b : Bool} (hr : ks[m]? = some r) (h : b = true ↔ x ∈ ks.take m) (hb : b = true) : true = true ↔ x ∈ ks.take (m + 1) := by
  rw [takeI_mem hr]
  exact ⟨fun _ => .inl (h.1 hb), fun _ => rfl⟩
theorem bkI_f {ks : List Int} {m : Nat} {r x : Int} {b : Bool} (hr : ks[m]? = some r) (h : b = true ↔ x ∈ ks.take m) (hb : b = false) : vEq r x = true ↔ x ∈ ks.take (m + 1) := by
  rw [takeI_mem hr, vEq_iff]
  have hn : ¬ (x ∈ ks.take m) := fun hm => by rw [h.2 hm] at hb; cases hb
  simp only [hn, false_or, decide_eq_true_eq]
  exact ⟨fun e => e.symm, fun e => e.symm⟩
section
variable {g : Glob} {w : World} {l : List As} {p : Nat} {va : Value} {refs : Int} {xa : List ActV} {L : List WA}
theorem endW (H : Sat g w (Pt p [.int .i64 0, va, .int .i64 refs] 100 :: Sl 82 5 enAc va xa :: Acts xa :: l)) (hW : WI L [] xa []) (q1 q2 why : Int) (hq : 1 ≤ q2 ∧ q2 ≤ 1000) (hw : -9223372036854775808 ≤ why ∧ why ≤ 9223372036854775807) : Fc Try.prog 12 #[.pointer (some ⟨p, 0, none⟩), .agg #[.int .i64 q1, .int .i64 q2], .int .i64 why] w (fun r w' => ∃ v xa' sg e, r = .tuple #[v, .int .i64 e] ∧ WI L [] xa' sg ∧ sg.length ≤ 100 ∧ Sat g w' (Sl 40 9 enSi v sg :: Pt p [.int .i64 0, va, .int .i64 refs] 100 :: Sl 82 5 enAc va xa' :: Acts xa' :: l)) := by
  have := hW.len
  refine Fc.imp (end_ linksC H q1 q2 why (by omega) (by omega) (fun x hx => ⟨(wi_lim hW hx).1, (wi_lim hW hx).2.1⟩)) ?_
  rintro r w' ⟨v, xa', sg, e, hr, hR, H⟩
  obtain ⟨h1, h2⟩ := hW.endd hw hR
  exact ⟨v, xa', sg, e, hr, h1, h2, H⟩
theorem watchN (H : Sat g w (Pt p [.int .i64 0, va, .int .i64 refs] 100 :: Sl 82 5 enAc va xa :: Acts xa :: l)) (hW : WI L [] xa []) (a2 b2 : Int) (hr : refs = L.length) (hL : L.length < 60) (ha : 1 ≤ a2 ∧ a2 ≤ 8) (hb : 1 ≤ b2 ∧ b2 ≤ 8) (hn : liveAt 0 xa (0, a2) = none) : Fc Try.prog 25 #[.pointer (some ⟨p, 0, none⟩), .agg #[.int .i64 0, .int .i64 a2], .agg #[.int .i64 0, .int .i64 b2]] w (fun r w' => ∃ v ref e, r = .tuple #[.int .i64 ref, v, .int .i64 e] ∧ ref = 0 ∧ e = 28 ∧ Sat g w' (Pt p [.int .i64 0, va, .int .i64 refs] 100 :: Sl 82 5 enAc va xa :: Acts xa :: l)) := by
  have := hW.len
  refine Fc.imp (watch_ H 0 a2 0 b2 (by omega) (by omega) (by omega)) ?_
  rintro r w' ⟨v, refs', xa', ref, sg, e, hrr, hF, H⟩
  rcases hW.start hr hL ⟨rfl, ha⟩ ⟨rfl, hb⟩ hF with ⟨_, h2, h3, h4, h5, h6⟩ | ⟨⟨x, hx⟩, _⟩
  · rw [h5, h6] at H
    exact ⟨v, ref, e, hrr, h3, h2, H.del 0⟩
  · rw [hn] at hx; cases hx
theorem watchY (H : Sat g w (Pt p [.int .i64 0, va, .int .i64 refs] 100 :: Sl 82 5 enAc va xa :: Acts xa :: l)) (hW : WI L [] xa []) (a2 b2 : Int) (hr : refs = L.length) (hL : L.length < 60) (ha : 1 ≤ a2 ∧ a2 ≤ 8) (hb : 1 ≤ b2 ∧ b2 ≤ 8) (x : ActV) (hn : liveAt 0 xa (0, a2) = some x) : Fc Try.prog 25 #[.pointer (some ⟨p, 0, none⟩), .agg #[.int .i64 0, .int .i64 a2], .agg #[.int .i64 0, .int .i64 b2]] w (fun r w' => ∃ v refs' xa' ref sg e, r = .tuple #[.int .i64 ref, v, .int .i64 e] ∧ e = 0 ∧ ref = refs + 1 ∧ refs' = refs + 1 ∧ sg.length ≤ 1 ∧ WI (L ++ [⟨(0, a2), (0, b2), 0⟩]) [] xa' sg ∧ Sat g w' (Sl 40 9 enSi v sg :: Pt p [.int .i64 0, va, .int .i64 refs'] 100 :: Sl 82 5 enAc va xa' :: Acts xa' :: l)) := by
  have := hW.len
  refine Fc.imp (watch_ H 0 a2 0 b2 (by omega) (by omega) (by omega)) ?_
  rintro r w' ⟨v, refs', xa', ref, sg, e, hrr, hF, H⟩
  rcases hW.start hr hL ⟨rfl, ha⟩ ⟨rfl, hb⟩ hF with ⟨h1, _⟩ | ⟨_, h2, h3, h4, h5, h6⟩
  · rw [hn] at h1; cases h1
  · exact ⟨v, refs', xa', ref, sg, e, hrr, h2, h3, h4, h5, h6, H⟩
end
theorem procWatched (w : World) (v1 : Value) (ps : List (Int × Int)) (v2 : Value) (es : List Int) (wy : Int) (hx : Rd enP2 okP2 2 w v1 ps) (hy : Rd enZ okR 1 w v2 es) (hwy : -9223372036854775808 ≤ wy ∧ wy ≤ 9223372036854775807) : Fc Try.prog 6 #[v1, v2, .int .i64 wy] w (fun v w' => v = .bool true ∧ Below w.heap.size w w') := by
  refine Fc.of Try.func6 rfl (by kernel_rfl) ?_
  have H := Sat.start w
  have hx := hx.fz
  have hy := hy.fz
  have hxl := hx.len
  have hyl := hy.len
  refine CallP.mk (Fc.imp (Go.Proofs.Yticdhdpfimpmoaa.Proc.crowd_ H (6) ?_) ?_)
  · omega
  clear H
  rintro _ w1 ⟨p1, ⟨va1, ⟨xa1, ⟨rfl, ⟨h1, ⟨h2, H⟩⟩⟩⟩⟩⟩
  refine cF rfl ?_
  refine rAllocS H rfl ?_
  clear H
  intro p2 w2 H
  clear w1
  refine rAllocS H rfl ?_
  clear H
  intro p3 w1 H
  clear w2
  refine rStS H 0 rfl rfl rfl rfl ?_
  clear H
  intro w2 H
  clear w1
  refine rLenF hx rfl ?_
  refine rMin ?_
  refine rSlF hx 0 (min (↑ps.length : Int) 60).toNat rfl rfl (by omega) (by omega) (.inl ⟨rfl, rfl⟩) (.inr ⟨_, by first | rfl | (congr 2; omega)⟩) ?_
  intro v3 hs1
  refine rLenF hs1 rfl ?_
  have ht : List.drop 0 (List.take (min (ps.length : Int) 60).toNat ps) = ps.take (min ps.length 60) := by rw [List.drop_zero]; congr 1; omega
  have htl : (ps.take (min ps.length 60)).length = min ps.length 60 := by rw [List.length_take]; omega
  have hdl : (List.drop 0 (List.take (min (ps.length : Int) 60).toNat ps)).length = min ps.length 60 := by rw [ht, htl]
  rw [ht] at hs1
  have hW0 := WI.new h1 h2
  replace H := H.sl0 (en := enWa) (s := 5) 65 (fun _ => rfl)
  refine LoopP.rule (α := Nat × List ActV × List WA × Value × Int) (0, xa1, [], .slice none 0 0, 0) (fun x_ => [(39, .int .i64 x_.1)]) (fun x_ w_ => (x_.1 ≤ min ps.length 60) ∧ (WI x_.2.2.1 [] x_.2.1 []) ∧ (x_.2.2.2.2 = x_.2.2.1.length) ∧ (x_.2.2.1.length ≤ x_.1) ∧ Sat (froz w) w_ ([Sl 65 5 enWa x_.2.2.2.1 x_.2.2.1, Pt p2 [x_.2.2.2.1] 62, Pt p3 [.bool true] 4, Pt p1 [.int .i64 0, va1, .int .i64 x_.2.2.2.2] 100, Sl 82 5 enAc va1 x_.2.1, Acts x_.2.1])) (fun x_ => min ps.length 60 - x_.1) ?_ ?_ ?_
  · repeat first | exact mt_nil | refine mt_cons rfl ?_ | refine mt_i rfl (by first | omega | (simp only; omega) | (simp; omega) | (simp; done)) ?_
  · try simp only
    refine ⟨?_, ?_⟩
    · (simp)
    refine ⟨?_, ?_⟩
    · assumption
    refine ⟨?_, ?_⟩
    · (simp)
    refine ⟨?_, ?_⟩
    · (simp)
    refine H.fronts [5, 5, 5, 4, 5, 5] ?_
    clear H
    intro H
    exact H
  clear H
  rintro ⟨i, xa, L, va, refs⟩ f_ w_ ⟨hi, hW, hr, hLi, H⟩
  try simp only at hi hW hr hLi H ⊢
  rcases Nat.lt_or_ge i (min ps.length 60) with hlt | hge
  · obtain ⟨x0, hx9⟩ : ∃ x, ps[i]? = some x := ⟨_, List.getElem?_eq_getElem (by omega)⟩
    have hx8 : (ps.take (min ps.length 60))[i]? = some x0 := by rw [List.getElem?_take, if_pos hlt]; exact hx9
    refine cT (vLt_T (by omega)) ?_
    refine bk ?_
    obtain ⟨b1, o1, E1, F1, hok1⟩ := FSl.elt hs1 hx8
    refine rIxE E1 rfl rfl rfl ?_
    refine rLdA (H.fat F1) 0 rfl rfl rfl ?_
    refine rAllocS H rfl ?_
    clear H
    intro p4 w1 H
    clear w_
    refine rStAS H 0 rfl rfl rfl rfl ?_
    clear H
    intro w3 H
    clear w1
    refine drawJoin (α := Int × Int × Nat × Nat) (fun x_ => [(14, .pointer (some ⟨x_.2.2.1, 0, none⟩)), (15, .pointer (some ⟨x_.2.2.2, 0, none⟩))]) (fun x_ w_ => (1 ≤ x_.1 ∧ x_.1 ≤ 6) ∧ (1 ≤ x_.2.1 ∧ x_.2.1 ≤ 7) ∧ Sat (froz w) w_ ([Pt x_.2.2.1 [.int .i64 0, .int .i64 x_.1] 31, Pt x_.2.2.2 [.int .i64 0, .int .i64 x_.2.1] 31, Sl 65 5 enWa va L, Pt p2 [va] 62, Pt p3 [.bool true] 4, Pt p1 [.int .i64 0, va1, .int .i64 refs] 100, Sl 82 5 enAc va1 xa, Acts xa])) ?_ ?_
    · refine drawtS H [] (.op 0 .pure (.op 1 .held (.op 3 .pure (.op 4 .held (.fork (.op 2 .forced (.fork (.op 5 .forced (.fork (.op 6 .forced (.op 7 .forced (.op 8 .free (.op 9 .free .nil)))) (.op 7 .forced (.op 6 .forced (.op 8 .free (.op 9 .free .nil)))))) (.fork (.op 6 .forced (.fork (.op 5 .forced (.op 7 .forced (.op 8 .free (.op 9 .free .nil)))) (.op 7 .forced (.op 5 .free (.op 8 .free (.op 9 .free .nil)))))) (.op 7 .forced (.fork (.op 5 .forced (.op 6 .forced (.op 8 .free (.op 9 .free .nil)))) (.op 6 .forced (.op 5 .free (.op 8 .free (.op 9 .free .nil))))))))) (.fork (.op 6 .forced (.fork (.op 2 .forced (.fork (.op 5 .forced (.op 7 .forced (.op 8 .free (.op 9 .free .nil)))) (.op 7 .forced (.op 5 .free (.op 8 .free (.op 9 .free .nil)))))) (.op 7 .forced (.op 2 .forced (.op 5 .free (.op 8 .free (.op 9 .free .nil))))))) (.op 7 .forced (.fork (.op 2 .forced (.fork (.op 5 .forced (.op 6 .forced (.op 8 .free (.op 9 .free .nil)))) (.op 6 .forced (.op 5 .free (.op 8 .free (.op 9 .free .nil)))))) (.op 6 .forced (.op 2 .forced (.op 5 .free (.op 8 .free (.op 9 .free .nil))))))))))))) mixed (by kernel_rfl) ?_
      clear H
      intro w1 H
      clear w3
      refine tk (fun wx HS => rIxArr 1 0 (by omega) (by omega) rfl rfl ⟨rfl, rfl⟩) ?_
      refine tk (fun wx HS => rLd (HS.at 0 rfl) 0 rfl rfl rfl ⟨rfl, rfl⟩) ?_
      refine tk (fun wx HS => rIxArr 1 1 (by omega) (by omega) rfl rfl ⟨rfl, rfl⟩) ?_
      refine tk (fun wx HS => rLd (HS.at 0 rfl) 1 rfl rfl rfl ⟨rfl, rfl⟩) ?_
      refine ⟨?_, ?_⟩
      · refine CallP.mk (Fc.imp (Go.Proofs.Yticdhdpfimpmoaa.Proc.one_ H _ _ ?_ ?_) ?_)
        · omega
        · exact hok1.1
        clear H
        rintro _ w3 ⟨k1, ⟨rfl, ⟨h3, ⟨h4, ⟨h5, H⟩⟩⟩⟩⟩
        refine KeepP.mk (H) ?_
        refine ⟨?_, ?_⟩
        · refine CallP.mk (Fc.imp (Go.Proofs.Yticdhdpfimpmoaa.Proc.one_ H _ _ ?_ ?_) ?_)
          · omega
          · exact hok1.2
          clear H
          rintro _ w4 ⟨k2, ⟨rfl, ⟨h6, ⟨h7, ⟨h8, H⟩⟩⟩⟩⟩
          refine KeepP.mk (H) ?_
          refine ⟨?_, ?_⟩
          · refine rAllocS H rfl ?_
            clear H
            intro p5 w5 H
            clear w4
            refine KeepP.mk (H.drop 0 (fun H => H)) ?_
            refine rAllocS H rfl ?_
            clear H
            intro p6 w4 H
            clear w5
            refine KeepP.mk (H.drop 1 (fun H => H.drop 0 (fun H => H))) ?_
            refine rStAS H 1 rfl rfl rfl rfl ?_
            clear H
            intro w5 H
            clear w4
            refine rStAS H 0 rfl rfl rfl rfl ?_
            clear H
            intro w4 H
            clear w5
            refine Jn.mk ((k1, k2, p5, p6)) (mt_cons rfl (mt_cons rfl (mt_nil))) ?_
            refine ⟨?_, ?_⟩
            · refine ⟨?_, ?_⟩
              · assumption
              assumption
            refine ⟨?_, ?_⟩
            · refine ⟨?_, ?_⟩
              · assumption
              assumption
            refine H.fronts [8, 8, 8, 8, 8, 8, 6, 7] ?_
            clear H
            intro H
            refine H.firsts 8 ?_
            clear H
            intro H
            exact H
          refine rAllocS H rfl ?_
          clear H
          intro p5 w5 H
          clear w4
          refine KeepP.mk (H.drop 0 (fun H => H)) ?_
          refine rAllocS H rfl ?_
          clear H
          intro p6 w4 H
          clear w5
          refine KeepP.mk (H.drop 1 (fun H => H.drop 0 (fun H => H))) ?_
          refine rStAS H 0 rfl rfl rfl rfl ?_
          clear H
          intro w5 H
          clear w4
          refine rStAS H 1 rfl rfl rfl rfl ?_
          clear H
          intro w4 H
          clear w5
          refine Jn.mk ((k1, k2, p6, p5)) (mt_cons rfl (mt_cons rfl (mt_nil))) ?_
          refine ⟨?_, ?_⟩
          · refine ⟨?_, ?_⟩
            · assumption
            assumption
          refine ⟨?_, ?_⟩
          · refine ⟨?_, ?_⟩
            · assumption
            assumption
          refine H.fronts [8, 8, 8, 8, 8, 8, 7, 7] ?_
          clear H
          intro H
          refine H.firsts 8 ?_
          clear H
          intro H
          exact H
        refine ⟨?_, ?_⟩
        · refine rAllocS H rfl ?_
          clear H
          intro p5 w4 H
          clear w3
          refine KeepP.mk (H.drop 0 (fun H => H)) ?_
          refine ⟨?_, ?_⟩
          · refine CallP.mk (Fc.imp (Go.Proofs.Yticdhdpfimpmoaa.Proc.one_ H _ _ ?_ ?_) ?_)
            · omega
            · exact hok1.2
            clear H
            rintro _ w3 ⟨k2, ⟨rfl, ⟨h6, ⟨h7, ⟨h8, H⟩⟩⟩⟩⟩
            refine KeepP.mk (H.drop 0 (fun H => H)) ?_
            refine rAllocS H rfl ?_
            clear H
            intro p6 w5 H
            clear w3
            refine KeepP.mk (H.drop 1 (fun H => H.drop 0 (fun H => H))) ?_
            refine rStAS H 1 rfl rfl rfl rfl ?_
            clear H
            intro w3 H
            clear w5
            refine rStAS H 0 rfl rfl rfl rfl ?_
            clear H
            intro w5 H
            clear w3
            refine Jn.mk ((k1, k2, p5, p6)) (mt_cons rfl (mt_cons rfl (mt_nil))) ?_
            refine ⟨?_, ?_⟩
            · refine ⟨?_, ?_⟩
              · assumption
              assumption
            refine ⟨?_, ?_⟩
            · refine ⟨?_, ?_⟩
              · assumption
              assumption
            refine H.fronts [8, 8, 8, 8, 8, 8, 6, 7] ?_
            clear H
            intro H
            refine H.firsts 8 ?_
            clear H
            intro H
            exact H
          refine rAllocS H rfl ?_
          clear H
          intro p6 w3 H
          clear w4
          refine KeepP.mk (H.drop 1 (fun H => H.drop 0 (fun H => H))) ?_
          refine CallP.mk (Fc.imp (Go.Proofs.Yticdhdpfimpmoaa.Proc.one_ H _ _ ?_ ?_) ?_)
          · omega
          · exact hok1.2
          clear H
          rintro _ w4 ⟨k2, ⟨rfl, ⟨h6, ⟨h7, ⟨h8, H⟩⟩⟩⟩⟩
          refine rStAS H 1 rfl rfl rfl rfl ?_
          clear H
          intro w5 H
          clear w4
          refine rStAS H 0 rfl rfl rfl rfl ?_
          clear H
          intro w4 H
          clear w5
          refine Jn.mk ((k1, k2, p5, p6)) (mt_cons rfl (mt_cons rfl (mt_nil))) ?_
          refine ⟨?_, ?_⟩
          · refine ⟨?_, ?_⟩
            · assumption
            assumption
          refine ⟨?_, ?_⟩
          · refine ⟨?_, ?_⟩
            · assumption
            assumption
          refine H.fronts [8, 8, 8, 8, 8, 8, 6, 7] ?_
          clear H
          intro H
          refine H.firsts 8 ?_
          clear H
          intro H
          exact H
        refine rAllocS H rfl ?_
        clear H
        intro p5 w4 H
        clear w3
        refine KeepP.mk (H.drop 0 (fun H => H)) ?_
        refine ⟨?_, ?_⟩
        · refine CallP.mk (Fc.imp (Go.Proofs.Yticdhdpfimpmoaa.Proc.one_ H _ _ ?_ ?_) ?_)
          · omega
          · exact hok1.2
          clear H
          rintro _ w3 ⟨k2, ⟨rfl, ⟨h6, ⟨h7, ⟨h8, H⟩⟩⟩⟩⟩
          refine KeepP.mk (H.drop 0 (fun H => H)) ?_
          refine rAllocS H rfl ?_
          clear H
          intro p6 w5 H
          clear w3
          refine KeepP.mk (H.drop 1 (fun H => H.drop 0 (fun H => H))) ?_
          refine rStAS H 0 rfl rfl rfl rfl ?_
          clear H
          intro w3 H
          clear w5
          refine rStAS H 1 rfl rfl rfl rfl ?_
          clear H
          intro w5 H
          clear w3
          refine Jn.mk ((k1, k2, p6, p5)) (mt_cons rfl (mt_cons rfl (mt_nil))) ?_
          refine ⟨?_, ?_⟩
          · refine ⟨?_, ?_⟩
            · assumption
            assumption
          refine ⟨?_, ?_⟩
          · refine ⟨?_, ?_⟩
            · assumption
            assumption
          refine H.fronts [8, 8, 8, 8, 8, 8, 7, 7] ?_
          clear H
          intro H
          refine H.firsts 8 ?_
          clear H
          intro H
          exact H
        refine rAllocS H rfl ?_
        clear H
        intro p6 w3 H
        clear w4
        refine KeepP.mk (H.drop 1 (fun H => H.drop 0 (fun H => H))) ?_
        refine CallP.mk (Fc.imp (Go.Proofs.Yticdhdpfimpmoaa.Proc.one_ H _ _ ?_ ?_) ?_)
        · omega
        · exact hok1.2
        clear H
        rintro _ w4 ⟨k2, ⟨rfl, ⟨h6, ⟨h7, ⟨h8, H⟩⟩⟩⟩⟩
        refine rStAS H 0 rfl rfl rfl rfl ?_
        clear H
        intro w5 H
        clear w4
        refine rStAS H 1 rfl rfl rfl rfl ?_
        clear H
        intro w4 H
        clear w5
        refine Jn.mk ((k1, k2, p6, p5)) (mt_cons rfl (mt_cons rfl (mt_nil))) ?_
        refine ⟨?_, ?_⟩
        · refine ⟨?_, ?_⟩
          · assumption
          assumption
        refine ⟨?_, ?_⟩
        · refine ⟨?_, ?_⟩
          · assumption
          assumption
        refine H.fronts [8, 8, 8, 8, 8, 8, 7, 7] ?_
        clear H
        intro H
        refine H.firsts 8 ?_
        clear H
        intro H
        exact H
      refine ⟨?_, ?_⟩
      · refine rAllocS H rfl ?_
        clear H
        intro p5 w3 H
        clear w1
        refine KeepP.mk (H.drop 0 (fun H => H)) ?_
        refine ⟨?_, ?_⟩
        · refine CallP.mk (Fc.imp (Go.Proofs.Yticdhdpfimpmoaa.Proc.one_ H _ _ ?_ ?_) ?_)
          · omega
          · exact hok1.1
          clear H
          rintro _ w1 ⟨k1, ⟨rfl, ⟨h3, ⟨h4, ⟨h5, H⟩⟩⟩⟩⟩
          refine KeepP.mk (H.drop 0 (fun H => H)) ?_
          refine ⟨?_, ?_⟩
          · refine CallP.mk (Fc.imp (Go.Proofs.Yticdhdpfimpmoaa.Proc.one_ H _ _ ?_ ?_) ?_)
            · omega
            · exact hok1.2
            clear H
            rintro _ w4 ⟨k2, ⟨rfl, ⟨h6, ⟨h7, ⟨h8, H⟩⟩⟩⟩⟩
            refine KeepP.mk (H.drop 0 (fun H => H)) ?_
            refine rAllocS H rfl ?_
            clear H
            intro p6 w5 H
            clear w4
            refine KeepP.mk (H.drop 1 (fun H => H.drop 0 (fun H => H))) ?_
            refine rStAS H 1 rfl rfl rfl rfl ?_
            clear H
            intro w4 H
            clear w5
            refine rStAS H 0 rfl rfl rfl rfl ?_
            clear H
            intro w5 H
            clear w4
            refine Jn.mk ((k1, k2, p5, p6)) (mt_cons rfl (mt_cons rfl (mt_nil))) ?_
            refine ⟨?_, ?_⟩
            · refine ⟨?_, ?_⟩
              · assumption
              assumption
            refine ⟨?_, ?_⟩
            · refine ⟨?_, ?_⟩
              · assumption
              assumption
            refine H.fronts [8, 8, 8, 8, 8, 8, 6, 7] ?_
            clear H
            intro H
            refine H.firsts 8 ?_
            clear H
            intro H
            exact H
          refine rAllocS H rfl ?_
          clear H
          intro p6 w4 H
          clear w1
          refine KeepP.mk (H.drop 1 (fun H => H.drop 0 (fun H => H))) ?_
          refine CallP.mk (Fc.imp (Go.Proofs.Yticdhdpfimpmoaa.Proc.one_ H _ _ ?_ ?_) ?_)
          · omega
          · exact hok1.2
          clear H
          rintro _ w1 ⟨k2, ⟨rfl, ⟨h6, ⟨h7, ⟨h8, H⟩⟩⟩⟩⟩
          refine rStAS H 1 rfl rfl rfl rfl ?_
          clear H
          intro w5 H
          clear w1
          refine rStAS H 0 rfl rfl rfl rfl ?_
          clear H
          intro w1 H
          clear w5
          refine Jn.mk ((k1, k2, p5, p6)) (mt_cons rfl (mt_cons rfl (mt_nil))) ?_
          refine ⟨?_, ?_⟩
          · refine ⟨?_, ?_⟩
            · assumption
            assumption
          refine ⟨?_, ?_⟩
          · refine ⟨?_, ?_⟩
            · assumption
            assumption
          refine H.fronts [8, 8, 8, 8, 8, 8, 6, 7] ?_
          clear H
          intro H
          refine H.firsts 8 ?_
          clear H
          intro H
          exact H
        refine rAllocS H rfl ?_
        clear H
        intro p6 w1 H
        clear w3
        refine KeepP.mk (H.drop 1 (fun H => H.drop 0 (fun H => H))) ?_
        refine CallP.mk (Fc.imp (Go.Proofs.Yticdhdpfimpmoaa.Proc.one_ H _ _ ?_ ?_) ?_)
        · omega
        · exact hok1.1
        clear H
        rintro _ w3 ⟨k1, ⟨rfl, ⟨h3, ⟨h4, ⟨h5, H⟩⟩⟩⟩⟩
        refine KeepP.mk (H.drop 1 (fun H => H.drop 0 (fun H => H))) ?_
        refine CallP.mk (Fc.imp (Go.Proofs.Yticdhdpfimpmoaa.Proc.one_ H _ _ ?_ ?_) ?_)
        · omega
        · exact hok1.2
        clear H
        rintro _ w4 ⟨k2, ⟨rfl, ⟨h6, ⟨h7, ⟨h8, H⟩⟩⟩⟩⟩
        refine rStAS H 1 rfl rfl rfl rfl ?_
        clear H
        intro w5 H
        clear w4
        refine rStAS H 0 rfl rfl rfl rfl ?_
        clear H
        intro w4 H
        clear w5
        refine Jn.mk ((k1, k2, p5, p6)) (mt_cons rfl (mt_cons rfl (mt_nil))) ?_
        refine ⟨?_, ?_⟩
        · refine ⟨?_, ?_⟩
          · assumption
          assumption
        refine ⟨?_, ?_⟩
        · refine ⟨?_, ?_⟩
          · assumption
          assumption
        refine H.fronts [8, 8, 8, 8, 8, 8, 6, 7] ?_
        clear H
        intro H
        refine H.firsts 8 ?_
        clear H
        intro H
        exact H
      refine rAllocS H rfl ?_
      clear H
      intro p5 w3 H
      clear w1
      refine KeepP.mk (H.drop 0 (fun H => H)) ?_
      refine ⟨?_, ?_⟩
      · refine CallP.mk (Fc.imp (Go.Proofs.Yticdhdpfimpmoaa.Proc.one_ H _ _ ?_ ?_) ?_)
        · omega
        · exact hok1.1
        clear H
        rintro _ w1 ⟨k1, ⟨rfl, ⟨h3, ⟨h4, ⟨h5, H⟩⟩⟩⟩⟩
        refine KeepP.mk (H.drop 0 (fun H => H)) ?_
        refine ⟨?_, ?_⟩
        · refine CallP.mk (Fc.imp (Go.Proofs.Yticdhdpfimpmoaa.Proc.one_ H _ _ ?_ ?_) ?_)
          · omega
          · exact hok1.2
          clear H
          rintro _ w4 ⟨k2, ⟨rfl, ⟨h6, ⟨h7, ⟨h8, H⟩⟩⟩⟩⟩
          refine KeepP.mk (H.drop 0 (fun H => H)) ?_
          refine rAllocS H rfl ?_
          clear H
          intro p6 w5 H
          clear w4
          refine KeepP.mk (H.drop 1 (fun H => H.drop 0 (fun H => H))) ?_
          refine rStAS H 0 rfl rfl rfl rfl ?_
          clear H
          intro w4 H
          clear w5
          refine rStAS H 1 rfl rfl rfl rfl ?_
          clear H
          intro w5 H
          clear w4
          refine Jn.mk ((k1, k2, p6, p5)) (mt_cons rfl (mt_cons rfl (mt_nil))) ?_
          refine ⟨?_, ?_⟩
          · refine ⟨?_, ?_⟩
            · assumption
            assumption
          refine ⟨?_, ?_⟩
          · refine ⟨?_, ?_⟩
            · assumption
            assumption
          refine H.fronts [8, 8, 8, 8, 8, 8, 7, 7] ?_
          clear H
          intro H
          refine H.firsts 8 ?_
          clear H
          intro H
          exact H
        refine rAllocS H rfl ?_
        clear H
        intro p6 w4 H
        clear w1
        refine KeepP.mk (H.drop 1 (fun H => H.drop 0 (fun H => H))) ?_
        refine CallP.mk (Fc.imp (Go.Proofs.Yticdhdpfimpmoaa.Proc.one_ H _ _ ?_ ?_) ?_)
        · omega
        · exact hok1.2
        clear H
        rintro _ w1 ⟨k2, ⟨rfl, ⟨h6, ⟨h7, ⟨h8, H⟩⟩⟩⟩⟩
        refine rStAS H 0 rfl rfl rfl rfl ?_
        clear H
        intro w5 H
        clear w1
        refine rStAS H 1 rfl rfl rfl rfl ?_
        clear H
        intro w1 H
        clear w5
        refine Jn.mk ((k1, k2, p6, p5)) (mt_cons rfl (mt_cons rfl (mt_nil))) ?_
        refine ⟨?_, ?_⟩
        · refine ⟨?_, ?_⟩
          · assumption
          assumption
        refine ⟨?_, ?_⟩
        · refine ⟨?_, ?_⟩
          · assumption
          assumption
        refine H.fronts [8, 8, 8, 8, 8, 8, 7, 7] ?_
        clear H
        intro H
        refine H.firsts 8 ?_
        clear H
        intro H
        exact H
      refine rAllocS H rfl ?_
      clear H
      intro p6 w1 H
      clear w3
      refine KeepP.mk (H.drop 1 (fun H => H.drop 0 (fun H => H))) ?_
      refine CallP.mk (Fc.imp (Go.Proofs.Yticdhdpfimpmoaa.Proc.one_ H _ _ ?_ ?_) ?_)
      · omega
      · exact hok1.1
      clear H
      rintro _ w3 ⟨k1, ⟨rfl, ⟨h3, ⟨h4, ⟨h5, H⟩⟩⟩⟩⟩
      refine KeepP.mk (H.drop 1 (fun H => H.drop 0 (fun H => H))) ?_
      refine CallP.mk (Fc.imp (Go.Proofs.Yticdhdpfimpmoaa.Proc.one_ H _ _ ?_ ?_) ?_)
      · omega
      · exact hok1.2
      clear H
      rintro _ w4 ⟨k2, ⟨rfl, ⟨h6, ⟨h7, ⟨h8, H⟩⟩⟩⟩⟩
      refine rStAS H 0 rfl rfl rfl rfl ?_
      clear H
      intro w5 H
      clear w4
      refine rStAS H 1 rfl rfl rfl rfl ?_
      clear H
      intro w4 H
      clear w5
      refine Jn.mk ((k1, k2, p6, p5)) (mt_cons rfl (mt_cons rfl (mt_nil))) ?_
      refine ⟨?_, ?_⟩
      · refine ⟨?_, ?_⟩
        · assumption
        assumption
      refine ⟨?_, ?_⟩
      · refine ⟨?_, ?_⟩
        · assumption
        assumption
      refine H.fronts [8, 8, 8, 8, 8, 8, 7, 7] ?_
      clear H
      intro H
      refine H.firsts 8 ?_
      clear H
      intro H
      exact H
    clear H
    rintro ⟨k1, k2, p7, p8⟩ f_ w_ ⟨hk1, hk2, H⟩
    try simp only at hk1 hk2 H ⊢
    refine rLenF hy rfl ?_
    refine cond_join (α := List ActV × List WA) (fun x_ => []) (fun x_ w_ => (WI x_.2 [] x_.1 []) ∧ (x_.2.length = L.length) ∧ Sat (froz w) w_ ([Pt p7 [.int .i64 0, .int .i64 k1] 31, Pt p8 [.int .i64 0, .int .i64 k2] 31, Sl 65 5 enWa va x_.2, Pt p2 [va] 62, Pt p3 [.bool true] 4, Pt p1 [.int .i64 0, va1, .int .i64 refs] 100, Sl 82 5 enAc va1 x_.1, Acts x_.1])) (fun hb => ?_) (fun hb => ?_) ?_
    · have hb2 : (i : Int) < es.length := by rw [vLt_iff] at hb; exact of_decide_eq_true hb
      obtain ⟨x1, hx1⟩ : ∃ x, (es)[(i)]? = some x := ⟨_, List.getElem?_eq_getElem (by omega)⟩
      obtain ⟨b2, o2, E2, F2, hok2⟩ := FSl.elt hy hx1
      refine rIxE E2 rfl rfl rfl ?_
      refine rLd (H.fat F2) 0 rfl rfl rfl ?_
      refine CallP.mk (Fc.imp (Go.Proofs.Yticdhdpfimpmoaa.Proc.one_ H _ _ ?_ ?_) ?_)
      · omega
      · exact hok2
      clear H
      rintro _ w1 ⟨k3, ⟨rfl, ⟨h3, ⟨h4, ⟨h5, H⟩⟩⟩⟩⟩
      refine H.fronts [7, 7, 7] ?_
      clear H
      intro H
      refine CallP.mk (Fc.imp (Go.Proofs.Yticdhdpfimpmoaa.Proc.endW H hW _ _ _ ?_ ?_) ?_)
      · omega
      · assumption
      clear H
      rintro _ w4 ⟨v4, ⟨xa'1, ⟨sg1, ⟨e1, ⟨rfl, ⟨h6, ⟨h7, H⟩⟩⟩⟩⟩⟩⟩
      have Hs := ((((zfin (L' := [Sl 65 5 enWa va (lstW L []), Pt p2 [va] 62, Pt p3 [.bool true] 4]) (by rw [lstW_nil]) (((H.front (j := 8) rfl).front (j := 8) rfl).front (j := 8) rfl)).front (j := 4) rfl).front (j := 4) rfl).front (j := 4) rfl).front (j := 4) rfl
      refine CallP.mk (Fc.imp (signals_ wI (seeW_ p2 p3 va) h6 (by omega) Hs) ?_)
      clear H Hs
      rintro r5 w8 ⟨b5, tr, xc, rfl, hb5, hS, H⟩
      have hWf := hS.flush
      have hlf := lstW_len (L := L) (tr := tr)
      replace H := (H.front (j := 3) rfl).spread
      simp only [List.cons_append, List.nil_append, List.eraseIdx] at H
      refine br_t ((by assumption)) ?_
      refine rLd (H.at 2 rfl) 0 rfl rfl rfl ?_
      refine rStS H 2 rfl rfl rfl rfl ?_
      clear H
      intro w5 H
      clear w8
      refine Jn.mk ((xc, List.mapIdx.go (fun i w => { by_ := w.by_, of_ := w.of_, told := tlW w i tr }) L #[])) (mt_nil) ?_
      refine ⟨?_, ?_⟩
      · exact hWf
      refine ⟨?_, ?_⟩
      · assumption
      refine H.fronts [5, 5, 5, 5, 5, 5, 7, 7] ?_
      clear H
      intro H
      exact H
    · refine Jn.mk ((xa, L)) (mt_nil) ?_
      refine ⟨?_, ?_⟩
      · assumption
      refine ⟨?_, ?_⟩
      · rfl
      exact H
    clear H
    rintro ⟨xb, M⟩ f_ w_ ⟨hW2, hM, H⟩
    try simp only at hW2 hM H ⊢
    have hxb := hW2.len
    cases hn : liveAt 0 xb (0, k1) with
    | none =>
      refine rLdA (H.at 0 rfl) 0 rfl rfl rfl ?_
      refine rLdA (H.at 1 rfl) 0 rfl rfl rfl ?_
      refine H.fronts [7, 7, 7] ?_
      clear H
      intro H
      refine CallP.mk (Fc.imp (Go.Proofs.Yticdhdpfimpmoaa.Proc.watchN H hW2 _ _ ?_ ?_ ?_ ?_ ?_) ?_)
      · omega
      · omega
      · omega
      · omega
      · assumption
      clear H
      rintro _ w1 ⟨v4, ⟨ref1, ⟨e1, ⟨rfl, ⟨h3, ⟨h4, H⟩⟩⟩⟩⟩⟩
      refine cT (vNe_T (by omega)) ?_
      refine rLd (H.at 7 rfl) 0 rfl rfl rfl ?_
      refine rLdA (H.at 3 rfl) 0 rfl rfl rfl ?_
      refine CallP.mk (Fc.imp (Go.Proofs.Yticdhdpfimpmoaa.Proc.aliveN H _ _ ?_ ?_ ?_) ?_)
      · omega
      · omega
      · assumption
      clear H
      rintro _ w4 ⟨b2, ⟨rfl, ⟨h5, H⟩⟩⟩
      refine br_t (not_T ((by assumption))) ?_
      refine rStS H 7 rfl rfl rfl rfl ?_
      clear H
      intro w5 H
      clear w4
      refine eqI64 (by omega) ?_
      refine Nxt.mk ((i + 1, xb, M, va, refs)) (mt_i rfl (by first | omega | (simp only; omega) | (simp; omega)) (mt_nil)) ?_ ?_
      · refine ⟨?_, ?_⟩
        · assumption
        refine ⟨?_, ?_⟩
        · assumption
        refine ⟨?_, ?_⟩
        · (simp only [List.length_append, List.length_set, List.length_cons, List.length_nil]; omega)
        refine ⟨?_, ?_⟩
        · (simp only [List.length_append, List.length_set, List.length_cons, List.length_nil]; omega)
        refine H.fronts [2, 2, 2, 7, 7, 7] ?_
        clear H
        intro H
        refine H.firsts 6 ?_
        clear H
        intro H
        refine H.cg (cgC rfl (cgC rfl (cgC (cgPt ?_) (cgC rfl (cgC rfl (cgC rfl (rfl)))))))
        (rw [vEq_T h3])
      omega
    | some x =>
      refine rLdA (H.at 0 rfl) 0 rfl rfl rfl ?_
      refine rLdA (H.at 1 rfl) 0 rfl rfl rfl ?_
      refine H.fronts [7, 7, 7] ?_
      clear H
      intro H
      refine CallP.mk (Fc.imp (Go.Proofs.Yticdhdpfimpmoaa.Proc.watchY H hW2 _ _ ?_ ?_ ?_ ?_ _ hn) ?_)
      · omega
      · omega
      · omega
      · omega
      clear H
      rintro _ w1 ⟨v4, ⟨refs'1, ⟨xa'1, ⟨ref1, ⟨sg1, ⟨e1, ⟨rfl, ⟨h3, ⟨h4, ⟨h5, ⟨h6, ⟨h7, H⟩⟩⟩⟩⟩⟩⟩⟩⟩⟩⟩⟩
      refine cF (vNe_F (by assumption)) ?_
      refine rLd (H.at 7 rfl) 0 rfl rfl rfl ?_
      refine rLdA (H.at 4 rfl) 0 rfl rfl rfl ?_
      refine rLdA (H.at 5 rfl) 0 rfl rfl rfl ?_
      refine rBuild rfl rfl rfl ?_
      refine rBuildSliceS H rfl rfl rfl rfl ?_
      clear H
      intro p5 w4 H
      clear w1
      refine rApS (ys := [⟨⟨_, _⟩, ⟨_, _⟩, _⟩]) 40 H 7 rfl (H.at 0 rfl) rfl (fun y _ => rfl) rfl rfl rfl (by omega) (by omega) ?_
      intro v5
      clear H
      intro w1 H
      clear w4
      refine rStS H 8 rfl rfl rfl (H.one 7 rfl) ?_
      clear H
      intro w4 H
      clear w1
      refine rLd (H.at 9 rfl) 0 rfl rfl rfl ?_
      refine rLd (H.at 8 rfl) 0 rfl rfl rfl ?_
      refine rLenS H 7 rfl rfl ?_
      refine rStS H 9 rfl rfl rfl rfl ?_
      clear H
      intro w1 H
      clear w4
      obtain ⟨N, hN⟩ : ∃ N, M ++ [(⟨(0, k1), (0, k2), 0⟩ : WA)] = N := ⟨_, rfl⟩
      have hNl : N.length = M.length + 1 := by rw [← hN, List.length_append]; rfl
      rw [hN] at H h7
      rw [vEq_T (show ref1 = ((N.length : Nat) : Int) by omega)] at H
      replace H := H.del 0
      have Hs := ((((zfin (L' := [Sl 65 5 enWa v5 (lstW N []), Pt p2 [v5] 62, Pt p3 [.bool true] 4]) (by rw [lstW_nil]) (((H.front (j := 8) rfl).front (j := 8) rfl).front (j := 8) rfl)).front (j := 4) rfl).front (j := 4) rfl).front (j := 4) rfl).front (j := 4) rfl
      refine CallP.mk (Fc.imp (signals_ wI (seeW_ p2 p3 v5) h7 (by omega) Hs) ?_)
      clear H Hs
      rintro r5 w8 ⟨b5, tr, xc, rfl, hb5, hS, H⟩
      have hWf := hS.flush
      have hlf := lstW_len (L := N) (tr := tr)
      replace H := (H.front (j := 3) rfl).spread
      simp only [List.cons_append, List.nil_append, List.eraseIdx] at H
      obtain ⟨N9, hN9⟩ : ∃ N9, lstW N tr = N9 := ⟨_, rfl⟩
      rw [hN9] at H hWf hlf
      refine br_t ((by assumption)) ?_
      refine rLd (H.at 2 rfl) 0 rfl rfl rfl ?_
      refine rStS H 2 rfl rfl rfl rfl ?_
      clear H
      intro w4 H
      clear w8
      refine eqI64 (by omega) ?_
      refine Nxt.mk ((i + 1, xc, N9, v5, refs'1)) (mt_i rfl (by first | omega | (simp only; omega) | (simp; omega)) (mt_nil)) ?_ ?_
      · refine ⟨?_, ?_⟩
        · assumption
        refine ⟨?_, ?_⟩
        · exact hWf
        refine ⟨?_, ?_⟩
        · (simp only [List.length_append, List.length_set, List.length_cons, List.length_nil]; omega)
        refine ⟨?_, ?_⟩
        · (simp only [List.length_append, List.length_set, List.length_cons, List.length_nil]; omega)
        refine H.firsts 6 ?_
        clear H
        intro H
        exact H
      omega
  · refine cF (vLt_F (by omega)) ?_
    refine rLd (H.at 1 rfl) 0 rfl rfl rfl ?_
    refine rLenS H 0 rfl rfl ?_
    have hx6 := hW.len
    refine LoopP.rule (α := Nat) (0) (fun x_ => [(116, .int .i64 x_)]) (fun x_ w_ => (x_ ≤ L.length) ∧ Sat (froz w) w_ ([Sl 65 5 enWa va L, Pt p2 [va] 62, Pt p3 [.bool true] 4, Pt p1 [.int .i64 0, va1, .int .i64 refs] 100, Sl 82 5 enAc va1 xa, Acts xa])) (fun x_ => L.length - x_) ?_ ?_ ?_
    · repeat first | exact mt_nil | refine mt_cons rfl ?_ | refine mt_i rfl (by first | omega | (simp only; omega) | (simp; omega) | (simp; done)) ?_
    · try simp only
      refine ⟨?_, ?_⟩
      · omega
      exact H
    clear H
    rintro i2 f_ w_ ⟨hi2, H⟩
    try simp only at hi2 H ⊢
    rcases Nat.lt_or_ge i2 L.length with hlt2 | hge2
    · obtain ⟨wd, hwd⟩ : ∃ wd, L[i2]? = some wd := ⟨_, List.getElem?_eq_getElem hlt2⟩
      obtain ⟨hf1, hf2⟩ := hW.fin hwd
      obtain ⟨⟨hb0, hb1, hb8⟩, ⟨ho0, ho1, ho8⟩⟩ := hW.inp i2 wd hwd
      have hbp : wd.by_ = (wd.by_.1, wd.by_.2) := rfl
      have hop : wd.of_ = (wd.of_.1, wd.of_.2) := rfl
      rw [hbp, hop] at hf2
      cases hn : liveAt 0 xa (wd.by_.1, wd.by_.2) with
      | none =>
        refine cT (vLt_T (by omega)) ?_
        refine bk ?_
        obtain ⟨b1, o1, E1⟩ := H.elt 0 rfl (i2) (by omega)
        refine rIxE E1 rfl rfl rfl ?_
        refine rLdA (H.el 0 rfl E1 hwd) 0 rfl rfl rfl ?_
        refine rAllocS H rfl ?_
        clear H
        intro p4 w1 H
        clear w_
        refine rStAS H 0 rfl rfl rfl rfl ?_
        clear H
        intro w3 H
        clear w1
        refine rFieldAt rfl ?_
        refine rLdA (H.at 0 rfl) 0 rfl rfl rfl ?_
        refine H.fronts [6, 6, 6] ?_
        clear H
        intro H
        refine CallP.mk (Fc.imp (Go.Proofs.Yticdhdpfimpmoaa.Proc.refsN H _ _ ?_ ?_ ?_) ?_)
        · omega
        · assumption
        · omega
        clear H
        rintro _ w1 ⟨rfl, H⟩
        refine rLenSl rfl ?_
        refine LoopP.rule (α := Nat) (0) (fun x_ => [(126, .int .i64 x_), (23, .bool false)]) (fun x_ w_ => (x_ ≤ 0) ∧ Sat (froz w) w_ ([Pt p4 (enWa wd) 65, Sl 65 5 enWa va L, Pt p2 [va] 62, Pt p3 [.bool true] 4, Pt p1 [.int .i64 0, va1, .int .i64 refs] 100, Sl 82 5 enAc va1 xa, Acts xa])) (fun x_ => 0 - x_) ?_ ?_ ?_
        · repeat first | exact mt_nil | refine mt_cons rfl ?_ | refine mt_i rfl (by first | omega | (simp only; omega) | (simp; omega) | (simp; done)) ?_
        · try simp only
          refine ⟨?_, ?_⟩
          · omega
          refine H.fronts [2, 2, 2, 6, 6, 6, 6] ?_
          clear H
          intro H
          exact H
        clear H
        rintro m f_ w_ ⟨hm, H⟩
        try simp only at hm H ⊢
        refine cF (vLt_F (by omega)) ?_
        refine drawzS H [] [(0, .pure), (1, .pure), (2, .held), (3, .forced), (4, .pure), (5, .pure), (6, .held), (7, .pure), (8, .pure), (9, .pure), (10, .held), (11, .forced), (12, .pure), (13, .pure), (14, .pure), (15, .pure), (16, .held), (17, .pure), (18, .pure), (19, .pure), (20, .pure), (21, .pure), (22, .held), (23, .forced), (24, .pure), (25, .pure), (26, .pure), (27, .pure), (28, .held), (29, .free), (30, .pure), (31, .pure), (32, .pure)] mixed (by kernel_rfl) (by kernel_rfl) ?_
        clear H
        intro w4 H
        clear w_
        refine tk (fun wx HS => rFieldAt rfl ⟨rfl, rfl⟩) ?_
        refine tk (fun wx HS => rLdA (HS.at 0 rfl) 0 rfl rfl rfl ⟨rfl, rfl⟩) ?_
        refine H.fronts [5, 5] ?_
        clear H
        intro H
        refine CallP.mk (Fc.imp (Go.Proofs.Yticdhdpfimpmoaa.Proc.aliveN H _ _ ?_ ?_ ?_) ?_)
        · omega
        · omega
        · assumption
        clear H
        rintro _ w5 ⟨b2, ⟨rfl, ⟨h3, H⟩⟩⟩
        refine H.fronts [6, 2, 2, 6, 6, 6, 6] ?_
        clear H
        intro H
        refine KeepP.mk (H) ?_
        refine br_f ((by assumption)) ?_
        refine tk (fun wx HS => rFieldAt rfl ⟨rfl, rfl⟩) ?_
        refine tk (fun wx HS => rLd (HS.at 0 rfl) 4 rfl rfl rfl ⟨rfl, rfl⟩) ?_
        refine br_f (vLt_F (by omega)) ?_
        refine tk (fun wx HS => rFieldAt rfl ⟨rfl, rfl⟩) ?_
        refine tk (fun wx HS => rLdA (HS.at 0 rfl) 0 rfl rfl rfl ⟨rfl, rfl⟩) ?_
        refine H.fronts [5, 5] ?_
        clear H
        intro H
        refine CallP.mk (Fc.imp (Go.Proofs.Yticdhdpfimpmoaa.Proc.aliveN H _ _ ?_ ?_ ?_) ?_)
        · omega
        · omega
        · assumption
        clear H
        rintro _ w6 ⟨b3, ⟨rfl, ⟨h4, H⟩⟩⟩
        refine H.fronts [6, 2, 2, 6, 6, 6, 6] ?_
        clear H
        intro H
        refine KeepP.mk (H) ?_
        refine br_f ((by assumption)) ?_
        refine cF rfl ?_
        refine eqI64 (by omega) ?_
        refine Nxt.mk (i2 + 1) (mt_i rfl (by first | omega | (simp only; omega) | (simp; omega)) (mt_nil)) ?_ ?_
        · refine ⟨?_, ?_⟩
          · assumption
          refine H.fronts [6, 6, 6, 6, 6, 6] ?_
          clear H
          intro H
          refine H.firsts 6 ?_
          clear H
          intro H
          exact H
        omega
      | some x =>
        have hh := (hW.lnk _ x hn).2.2
        have h60 := hW.L60
        obtain ⟨hc1, hc2⟩ := hf2 x hn
        refine cT (vLt_T (by omega)) ?_
        refine bk ?_
        obtain ⟨b1, o1, E1⟩ := H.elt 0 rfl (i2) (by omega)
        refine rIxE E1 rfl rfl rfl ?_
        refine rLdA (H.el 0 rfl E1 hwd) 0 rfl rfl rfl ?_
        refine rAllocS H rfl ?_
        clear H
        intro p4 w1 H
        clear w_
        refine rStAS H 0 rfl rfl rfl rfl ?_
        clear H
        intro w3 H
        clear w1
        refine rFieldAt rfl ?_
        refine rLdA (H.at 0 rfl) 0 rfl rfl rfl ?_
        refine H.fronts [6, 6, 6] ?_
        clear H
        intro H
        refine CallP.mk (Fc.imp (Go.Proofs.Yticdhdpfimpmoaa.Proc.refsY H _ _ ?_ _ hn ?_) ?_)
        · omega
        · omega
        clear H
        rintro v' w1 ⟨ks1, ⟨h3, ⟨h4, H⟩⟩⟩
        refine rLenS H 0 rfl rfl ?_
        refine LoopP.rule (α := Nat × Bool) (0, false) (fun x_ => [(126, .int .i64 x_.1), (23, .bool x_.2)]) (fun x_ w_ => (x_.1 ≤ ks1.length) ∧ (x_.2 = true ↔ ((i2 : Int) + 1) ∈ ks1.take x_.1) ∧ Sat (froz w) w_ ([Sl 3 1 enZ v' ks1, Pt p4 (enWa wd) 65, Sl 65 5 enWa va L, Pt p2 [va] 62, Pt p3 [.bool true] 4, Pt p1 [.int .i64 0, va1, .int .i64 refs] 100, Sl 82 5 enAc va1 xa, Acts xa])) (fun x_ => ks1.length - x_.1) ?_ ?_ ?_
        · repeat first | exact mt_nil | refine mt_cons rfl ?_ | refine mt_i rfl (by first | omega | (simp only; omega) | (simp; omega) | (simp; done)) ?_
        · try simp only
          refine ⟨?_, ?_⟩
          · (simp)
          refine ⟨?_, ?_⟩
          · (simp)
          refine H.fronts [3, 3, 3, 7, 7, 7, 7, 7] ?_
          clear H
          intro H
          exact H
        clear H
        rintro ⟨m, wt⟩ f_ w_ ⟨hm, hwt, H⟩
        try simp only at hm hwt H ⊢
        rcases Nat.lt_or_ge m ks1.length with hlt4 | hge4
        · obtain ⟨r, hr5⟩ : ∃ r, ks1[m]? = some r := ⟨_, List.getElem?_eq_getElem hlt4⟩
          cases wt with
          | true =>
            refine cT (vLt_T (by omega)) ?_
            refine bk ?_
            obtain ⟨b2, o2, E2⟩ := H.elt 0 rfl (m) (by omega)
            refine rIxE E2 rfl rfl rfl ?_
            refine rLd (H.el 0 rfl E2 hr5) 0 rfl rfl rfl ?_
            refine eqI64 (by omega) ?_
            refine Nxt.mk ((m + 1, true)) (mt_i rfl (by first | omega | (simp only; omega) | (simp; omega)) (mt_cons rfl (mt_nil))) ?_ ?_
            · refine ⟨?_, ?_⟩
              · assumption
              refine ⟨?_, ?_⟩
              · exact bkI_t hr5 hwt rfl
              exact H
            omega
          | false =>
            refine cT (vLt_T (by omega)) ?_
            refine bk ?_
            obtain ⟨b2, o2, E2⟩ := H.elt 0 rfl (m) (by omega)
            refine rIxE E2 rfl rfl rfl ?_
            refine rLd (H.el 0 rfl E2 hr5) 0 rfl rfl rfl ?_
            refine eqI64 (by omega) ?_
            refine eqI64 (by omega) ?_
            refine Nxt.mk ((m + 1, vEq r ((↑i2 : Int) + 1))) (mt_i rfl (by first | omega | (simp only; omega) | (simp; omega)) (mt_cons rfl (mt_nil))) ?_ ?_
            · refine ⟨?_, ?_⟩
              · assumption
              refine ⟨?_, ?_⟩
              · exact bkI_f hr5 hwt rfl
              exact H
            omega
        · rw [List.take_of_length_le hge4] at hwt
          cases hno : liveAt 0 xa (wd.of_.1, wd.of_.2) with
          | some y =>
            obtain ⟨g1, g2⟩ := hc1 y hno
            obtain rfl : wt = true := hwt.2 ((h3 _).2 g1)
            refine cF (vLt_F (by omega)) ?_
            refine drawzS H [] [(0, .pure), (1, .pure), (2, .held), (3, .forced), (4, .pure), (5, .pure), (6, .held), (7, .pure), (8, .pure), (9, .pure), (10, .held), (11, .forced), (12, .pure), (13, .pure), (14, .pure), (15, .pure), (16, .held), (17, .pure), (18, .pure), (19, .pure), (20, .pure), (21, .pure), (22, .held), (23, .forced), (24, .pure), (25, .pure), (26, .pure), (27, .pure), (28, .held), (29, .free), (30, .pure), (31, .pure), (32, .pure)] mixed (by kernel_rfl) (by kernel_rfl) ?_
            clear H
            intro w4 H
            clear w_
            refine tk (fun wx HS => rFieldAt rfl ⟨rfl, rfl⟩) ?_
            refine tk (fun wx HS => rLdA (HS.at 1 rfl) 0 rfl rfl rfl ⟨rfl, rfl⟩) ?_
            refine H.fronts [6, 6] ?_
            clear H
            intro H
            refine CallP.mk (Fc.imp (Go.Proofs.Yticdhdpfimpmoaa.Proc.aliveY H _ _ ?_ _ hn) ?_)
            · omega
            clear H
            rintro _ w5 ⟨b2, ⟨rfl, ⟨h5, H⟩⟩⟩
            refine H.fronts [7, 2, 2, 7, 7, 7, 7, 7] ?_
            clear H
            intro H
            refine KeepP.mk (H) ?_
            refine br_t ((by assumption)) ?_
            refine tk (fun wx HS => rFieldAt rfl ⟨rfl, rfl⟩) ?_
            refine tk (fun wx HS => rLd (HS.at 1 rfl) 4 rfl rfl rfl ⟨rfl, rfl⟩) ?_
            refine tk (fun wx HS => rFieldAt rfl ⟨rfl, rfl⟩) ?_
            refine tk (fun wx HS => rLdA (HS.at 1 rfl) 2 rfl rfl rfl ⟨rfl, rfl⟩) ?_
            refine H.fronts [6, 6] ?_
            clear H
            intro H
            refine CallP.mk (Fc.imp (Go.Proofs.Yticdhdpfimpmoaa.Proc.aliveY H _ _ ?_ _ hno) ?_)
            · omega
            clear H
            rintro _ w6 ⟨b3, ⟨rfl, ⟨h6, H⟩⟩⟩
            refine H.fronts [7, 2, 2, 7, 7, 7, 7, 7] ?_
            clear H
            intro H
            refine KeepP.mk (H) ?_
            refine tk (fun wx HS => rBoolEq rfl ⟨rfl, rfl⟩) ?_
            refine br_f ((by (rw [vEq_F (by omega), h6]; rfl))) ?_
            refine tk (fun wx HS => rFieldAt rfl ⟨rfl, rfl⟩) ?_
            refine tk (fun wx HS => rLd (HS.at 1 rfl) 4 rfl rfl rfl ⟨rfl, rfl⟩) ?_
            refine br_f (vLt_F (by omega)) ?_
            refine tk (fun wx HS => rFieldAt rfl ⟨rfl, rfl⟩) ?_
            refine tk (fun wx HS => rLdA (HS.at 1 rfl) 0 rfl rfl rfl ⟨rfl, rfl⟩) ?_
            refine H.fronts [6, 6] ?_
            clear H
            intro H
            refine CallP.mk (Fc.imp (Go.Proofs.Yticdhdpfimpmoaa.Proc.aliveY H _ _ ?_ _ hn) ?_)
            · omega
            clear H
            rintro _ w7 ⟨b4, ⟨rfl, ⟨h7, H⟩⟩⟩
            refine H.fronts [7, 2, 2, 7, 7, 7, 7, 7] ?_
            clear H
            intro H
            refine KeepP.mk (H) ?_
            refine br_t ((by assumption)) ?_
            refine tk (fun wx HS => rFieldAt rfl ⟨rfl, rfl⟩) ?_
            refine tk (fun wx HS => rLdA (HS.at 1 rfl) 2 rfl rfl rfl ⟨rfl, rfl⟩) ?_
            refine H.fronts [6, 6] ?_
            clear H
            intro H
            refine CallP.mk (Fc.imp (Go.Proofs.Yticdhdpfimpmoaa.Proc.aliveY H _ _ ?_ _ hno) ?_)
            · omega
            clear H
            rintro _ w8 ⟨b5, ⟨rfl, ⟨h8, H⟩⟩⟩
            refine tk (fun wx HS => rBoolNe rfl ⟨rfl, rfl⟩) ?_
            refine cF (not_F (tb_T ((by assumption)))) ?_
            refine eqI64 (by omega) ?_
            refine Nxt.mk (i2 + 1) (mt_i rfl (by first | omega | (simp only; omega) | (simp; omega)) (mt_nil)) ?_ ?_
            · refine ⟨?_, ?_⟩
              · assumption
              refine H.fronts [7, 2, 2, 7, 7, 7] ?_
              clear H
              intro H
              refine H.firsts 6 ?_
              clear H
              intro H
              exact H
            omega
          | none =>
            obtain ⟨g1, g2⟩ := hc2 hno
            have hwf : wt = false := by
              cases wt with
              | false => rfl
              | true => exact absurd g1 ((h3 _).1 (hwt.1 rfl))
            subst hwf
            refine cF (vLt_F (by omega)) ?_
            refine drawzS H [] [(0, .pure), (1, .pure), (2, .held), (3, .forced), (4, .pure), (5, .pure), (6, .held), (7, .pure), (8, .pure), (9, .pure), (10, .held), (11, .forced), (12, .pure), (13, .pure), (14, .pure), (15, .pure), (16, .held), (17, .pure), (18, .pure), (19, .pure), (20, .pure), (21, .pure), (22, .held), (23, .forced), (24, .pure), (25, .pure), (26, .pure), (27, .pure), (28, .held), (29, .free), (30, .pure), (31, .pure), (32, .pure)] mixed (by kernel_rfl) (by kernel_rfl) ?_
            clear H
            intro w4 H
            clear w_
            refine tk (fun wx HS => rFieldAt rfl ⟨rfl, rfl⟩) ?_
            refine tk (fun wx HS => rLdA (HS.at 1 rfl) 0 rfl rfl rfl ⟨rfl, rfl⟩) ?_
            refine H.fronts [6, 6] ?_
            clear H
            intro H
            refine CallP.mk (Fc.imp (Go.Proofs.Yticdhdpfimpmoaa.Proc.aliveY H _ _ ?_ _ hn) ?_)
            · omega
            clear H
            rintro _ w5 ⟨b2, ⟨rfl, ⟨h5, H⟩⟩⟩
            refine H.fronts [7, 2, 2, 7, 7, 7, 7, 7] ?_
            clear H
            intro H
            refine KeepP.mk (H) ?_
            refine br_t ((by assumption)) ?_
            refine tk (fun wx HS => rFieldAt rfl ⟨rfl, rfl⟩) ?_
            refine tk (fun wx HS => rLd (HS.at 1 rfl) 4 rfl rfl rfl ⟨rfl, rfl⟩) ?_
            refine tk (fun wx HS => rFieldAt rfl ⟨rfl, rfl⟩) ?_
            refine tk (fun wx HS => rLdA (HS.at 1 rfl) 2 rfl rfl rfl ⟨rfl, rfl⟩) ?_
            refine H.fronts [6, 6] ?_
            clear H
            intro H
            refine CallP.mk (Fc.imp (Go.Proofs.Yticdhdpfimpmoaa.Proc.aliveN H _ _ ?_ ?_ ?_) ?_)
            · omega
            · omega
            · assumption
            clear H
            rintro _ w6 ⟨b3, ⟨rfl, ⟨h6, H⟩⟩⟩
            refine H.fronts [7, 2, 2, 7, 7, 7, 7, 7] ?_
            clear H
            intro H
            refine KeepP.mk (H) ?_
            refine tk (fun wx HS => rBoolEq rfl ⟨rfl, rfl⟩) ?_
            refine br_f ((by (rw [vEq_T (by omega), h6]; rfl))) ?_
            refine tk (fun wx HS => rFieldAt rfl ⟨rfl, rfl⟩) ?_
            refine tk (fun wx HS => rLd (HS.at 1 rfl) 4 rfl rfl rfl ⟨rfl, rfl⟩) ?_
            refine br_f (vLt_F (by omega)) ?_
            refine tk (fun wx HS => rFieldAt rfl ⟨rfl, rfl⟩) ?_
            refine tk (fun wx HS => rLdA (HS.at 1 rfl) 0 rfl rfl rfl ⟨rfl, rfl⟩) ?_
            refine H.fronts [6, 6] ?_
            clear H
            intro H
            refine CallP.mk (Fc.imp (Go.Proofs.Yticdhdpfimpmoaa.Proc.aliveY H _ _ ?_ _ hn) ?_)
            · omega
            clear H
            rintro _ w7 ⟨b4, ⟨rfl, ⟨h7, H⟩⟩⟩
            refine H.fronts [7, 2, 2, 7, 7, 7, 7, 7] ?_
            clear H
            intro H
            refine KeepP.mk (H) ?_
            refine br_t ((by assumption)) ?_
            refine tk (fun wx HS => rFieldAt rfl ⟨rfl, rfl⟩) ?_
            refine tk (fun wx HS => rLdA (HS.at 1 rfl) 2 rfl rfl rfl ⟨rfl, rfl⟩) ?_
            refine H.fronts [6, 6] ?_
            clear H
            intro H
            refine CallP.mk (Fc.imp (Go.Proofs.Yticdhdpfimpmoaa.Proc.aliveN H _ _ ?_ ?_ ?_) ?_)
            · omega
            · omega
            · assumption
            clear H
            rintro _ w8 ⟨b5, ⟨rfl, ⟨h8, H⟩⟩⟩
            refine tk (fun wx HS => rBoolNe rfl ⟨rfl, rfl⟩) ?_
            refine cF (not_F (fb_T ((by assumption)))) ?_
            refine eqI64 (by omega) ?_
            refine Nxt.mk (i2 + 1) (mt_i rfl (by first | omega | (simp only; omega) | (simp; omega)) (mt_nil)) ?_ ?_
            · refine ⟨?_, ?_⟩
              · assumption
              refine H.fronts [7, 2, 2, 7, 7, 7] ?_
              clear H
              intro H
              refine H.firsts 6 ?_
              clear H
              intro H
              exact H
            omega
    · refine cF (vLt_F (by omega)) ?_
      refine rLd (H.at 2 rfl) 0 rfl rfl rfl ?_
      refine Done.mk ?_
      exact ⟨rfl, H.finish⟩
end Go.Proofs.Yticdhdpfimpmoaa.Proc
