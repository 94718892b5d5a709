/- Texts of this claim, one behind the other. -/
import Derived.Test.YticdhdpfimpmoaaM2
import Derived.Shelf.SlIterI.Collect
/- maps.Keys over pids: the iterator gives every key once. -/
set_option maxRecDepth 100000
set_option linter.unusedVariables false
set_option linter.unusedSimpArgs false
namespace Go.Proofs.Yticdhdpfimpmoaa.Proc
open Go Go.RowKit Go.Maps Go.Sort Go.Shelf Go.Proofs.Yticdhdpfimpmoaa.Eng Go.Proofs.Yticdhdpfimpmoaa.Eng.MG
/-- The keys that came (ss), of those that the map holds (m): seen are their births. -/
def Got {κ β : Type} (es : Array MapEntry) (m : List (κ × β)) (seen : Array Nat) (ss : List κ) : Prop :=
  ∃ js : List Nat, js.Nodup ∧ (∀ j ∈ js, j < m.length) ∧ seen.toList = js.filterMap (fun j => (es.toList[j]?).map (·.born)) ∧ ss = js.filterMap (fun j => (m[j]?).map (·.1))
theorem Got.start {κ β : Type} (es : Array MapEntry) (m : List (κ × β)) : Got es m #[] [] := ⟨[], List.nodup_nil, nofun, rfl, rfl⟩
theorem Got.len {κ β : Type} {es : Array MapEntry} {m : List (κ × β)} {seen : Array Nat} {ss : List κ} (h : Got es m seen ss) : ss.length ≤ m.length := by
  obtain ⟨js, h1, h2, h3, h4⟩ := h
  rw [h4]
  exact Nat.le_trans (List.length_filterMap_le _ _) (nodup_lt_length _ _ h1 h2)
theorem Got.step {κ β : Type} {es : Array MapEntry} {m : List (κ × β)} {seen : Array Nat} {ss : List κ} (h : Got es m seen ss) {j : Nat} {e : MapEntry} {q : κ × β} (hj : es.toList[j]? = some e) (hq : m[j]? = some q) (hn : seen.contains e.born = false) :
    Got es m (seen.push e.born) (ss ++ [q.1]) ∧ ss.length < m.length := by
  have key : Got es m (seen.push e.born) (ss ++ [q.1]) := by
    obtain ⟨js, h1, h2, h3, h4⟩ := h
    refine ⟨js ++ [j], ?_, fun i hi => ?_, by rw [Array.toList_push, h3, List.filterMap_append]; simp only [List.filterMap_cons, hj, Option.map_some, List.filterMap_nil], by rw [h4, List.filterMap_append]; simp only [List.filterMap_cons, hq, Option.map_some, List.filterMap_nil]⟩
    · rw [List.nodup_append]
      refine ⟨h1, by simp, fun a ha b hb => ?_⟩
      simp only [List.mem_singleton] at hb
      subst hb
      rintro rfl
      have : e.born ∈ seen.toList := by rw [h3]; exact List.mem_filterMap.2 ⟨a, ha, by rw [hj]; rfl⟩
      simp at this
      simp [this] at hn
    · rcases List.mem_append.1 hi with hi | hi
      · exact h2 i hi
      · simp only [List.mem_singleton] at hi; subst hi; exact (List.getElem?_eq_some_iff.1 hq).1
  refine ⟨key, ?_⟩
  have := key.len
  simp at this
  omega
theorem Got.done {κ β : Type} {es : Array MapEntry} {m : List (κ × β)} {seen : Array Nat} {ss : List κ} (h : Got es m seen ss) (hl : es.toList.length = m.length) (ha : (es.toList.map (·.born)).Nodup) (h0 : (leftOf es seen).size = 0) : ss.Perm (m.map (·.1)) := by
  obtain ⟨js, h1, h2, h3, h4⟩ := h
  have hp : js.Perm (List.range m.length) := by
    refine (List.perm_ext_iff_of_nodup h1 List.nodup_range).2 fun i => ⟨fun hi => List.mem_range.2 (h2 i hi), fun hi => ?_⟩
    have hi := List.mem_range.1 hi
    have hie : i < es.toList.length := by omega
    have hs : seen.contains (es.toList[i]).born = true := by
      unfold leftOf at h0
      have h0 : (Array.filter (fun e => !seen.contains e.born) es) = #[] := Array.eq_empty_of_size_eq_zero h0
      rw [Array.filter_eq_empty_iff] at h0
      have := h0 es.toList[i] (by simp)
      simpa using this
    have hm : (es.toList[i]).born ∈ seen.toList := by simpa using hs
    rw [h3] at hm
    obtain ⟨j, hj, he⟩ := List.mem_filterMap.1 hm
    have hjl : j < es.toList.length := by have := h2 j hj; omega
    rw [List.getElem?_eq_getElem hjl] at he
    have he : (es.toList[j]).born = (es.toList[i]).born := by simpa using he
    have : j = i := by
      rw [List.nodup_iff_pairwise_ne, List.pairwise_iff_getElem] at ha
      rcases Nat.lt_trichotomy j i with hji | hji | hji
      · exact absurd (by rw [List.getElem_map, List.getElem_map]; exact he) (ha j i (by simpa using hjl) (by simpa using hie) hji)
      · exact hji
      · exact absurd (by rw [List.getElem_map, List.getElem_map]; exact he.symm) (ha i j (by simpa using hie) (by simpa using hjl) hji)
    exact this ▸ hj
  rw [h4]
  refine (hp.filterMap _).trans ?_
  have : (List.range m.length).filterMap (fun j => (m[j]?).map (·.1)) = m.map (·.1) := by
    have e2 : ∀ (l r : List (κ × β)), (List.range' l.length r.length).filterMap (fun j => ((l ++ r)[j]?).map (·.1)) = r.map (·.1) := by
      intro l r
      induction r generalizing l with
      | nil => rfl
      | cons p r ih =>
        rw [List.length_cons, List.range'_succ, List.filterMap_cons]
        have := ih (l ++ [p])
        simp only [List.append_assoc, List.singleton_append, List.length_append, List.length_singleton] at this
        simp [this]
    simpa [List.range_eq_range'] using e2 [] m
  rw [this]
section
variable {P : Program} {F : Fence} {n : Nat} {ops : Array Oper} {rest : List Oper} {o : Oper} {Q : Exit → Act → World → Prop} {a : Act} {w : World}
theorem wpListIn_range_raw (hg : o.guard = none) (m : Operand) (t : TypeId) (hop : o.op = Op.range t m) (k e : TypeId) (ht : P.underlying t = some (.map k e)) (b : Nat) (es : Array MapEntry) (clock : Nat)
    (hm : a.eval m = .map (some b)) (hb : w.heap[b]? = some (.map es clock))
    (hK : ∀ w', w'.heap[b]? = some (.map es clock) → w'.heap[w.heap.size]? = some (.mapIter (some b) clock #[] clock) → w.grownBy w' none → wpListIn F n P ops Q rest (a.put o.dst (.pointer (some ⟨w.heap.size, 0, none⟩))) w') :
    wpListIn F n P ops Q (o :: rest) a w := by
  refine wpListIn_plain hg fun K' hK' => ?_
  have hlt : b < w.heap.size := (Array.getElem?_eq_some_iff.1 hb).1
  unfold Oper.wpIn
  refine ⟨?_, ?_⟩
  · simp [Oper.about, hop]
  · rw [Oper.semAt_plain F _ _ (by rw [hop]; intro c hc'; cases hc')]
    have hr := run_range_map (P := P) w t k e b es clock ht hb
    simp [execOp, hop, hm, hr, Result.andThen]
    exact hK' _ _ (hK _ ((Below.heap_alloc _ _ b hlt).trans hb) (heap_alloc_new w _) ⟨rfl, rfl, rfl, by simp, fun k hk _ => Below.heap_alloc _ _ k hk⟩)
theorem wpListIn_next_raw (hg : o.guard = none) (it : Operand) (hop : o.op = Op.next it false) (p b : Nat) (es : Array MapEntry) (clock : Nat) (seen : Array Nat) (hit : a.eval it = .pointer (some ⟨p, 0, none⟩))
    (hb : w.heap[b]? = some (.map es clock)) (hp : w.heap[p]? = some (.mapIter (some b) clock seen clock)) (born : ∀ e ∈ es.toList, e.born < clock) (apart : (es.toList.map (·.born)).Nodup)
    (hDone : leftOf es seen = #[] → wpListIn F n P ops Q rest (a.put o.dst (.tuple #[.bool false])) w)
    (hMore : ∀ (j : Nat) (e : MapEntry) (w' : World), es[j]? = some e → ¬ e.born ∈ seen → w'.heap[b]? = some (.map es clock) → w'.heap[p]? = some (.mapIter (some b) clock (seen.push e.born) clock) → (leftOf es (seen.push e.born)).size < (leftOf es seen).size →
      w.grownBy w' (some p) → w'.heap.size = w.heap.size → (Instr.entry (.pointer (some ⟨p, 0, none⟩))).run P w' = .ok (.tuple #[e.key, e.val]) w' → wpListIn F n P ops Q rest (a.put o.dst (.tuple #[.bool true, e.key, e.val])) w') :
    wpListIn F n P ops Q (o :: rest) a w := by
  refine wpListIn_plain hg fun K' hK' => ?_
  unfold Oper.wpIn
  refine ⟨by simp [Oper.about, hop], ?_⟩
  rw [Oper.semAt_plain F _ _ (by rw [hop]; intro c hc'; cases hc')]
  rcases run_next_at (P := P) w o.type p b clock clock seen es clock hp hb born (Nat.le_refl _) with ⟨e0, hr⟩ | ⟨e, he, w1, hw1, hr⟩
  · simp [execOp, hop, hit, hr, Result.andThen]
    exact hK' _ _ (hDone (Array.eq_empty_of_size_eq_zero e0))
  · have hef : e ∈ es.toList ∧ ¬ seen.contains e.born = true := by
      unfold leftOf at he
      simpa using he
    obtain ⟨j, hj⟩ := List.mem_iff_getElem?.1 hef.1
    have hne : p ≠ b := fun e => by subst e; rw [hp] at hb; cases hb
    have hw : w1.heap = w.heap ∧ w1.os = w.os ∧ w1.tape = w.tape ∧ w1.output = w.output := by rcases hw1 with rfl | rfl <;> exact ⟨rfl, rfl, rfl, rfl⟩
    have hp1 : w1.heap[p]? = some (.mapIter (some b) clock seen clock) := by rw [hw.1]; exact hp
    obtain ⟨s1, s2⟩ := MapKept.heap_set (o' := .mapIter (some b) clock (seen.push e.born) clock) hp1
    have hle : (leftOf es (seen.push e.born)).size < (leftOf es seen).size := by
      have hsz : ∀ s : Array Nat, (leftOf es s).size = (es.toList.filter (fun e => !s.contains e.born)).length := fun s => by unfold leftOf; rw [← Array.length_toList, Array.toList_filter]
      rw [hsz, hsz]
      refine filter_lt (fun e => !seen.contains e.born) (fun x => !(seen.push e.born).contains x.born) (fun x hx => ?_) e (by simpa using hef.2) (by simp) es.toList hef.1
      simp only [Array.contains_eq_mem, Array.mem_push, Bool.not_eq_true', decide_eq_false_iff_not, not_or] at hx ⊢
      exact hx.1
    simp [execOp, hop, hit, hr, Result.andThen]
    have hb' : (Go.ChangeMaps.setBlock w1 p (.mapIter (some b) clock (seen.push e.born) clock)).heap[b]? = some (.map es clock) := by
      show (w1.heap.setIfInBounds _ _)[b]? = _
      rw [s2 _ (Ne.symm hne), hw.1]; exact hb
    refine hK' _ _ (hMore j e _ (by simpa using hj) (by simpa using hef.2) hb' s1 hle ⟨hw.2.1, hw.2.2.1, hw.2.2.2, ?_, fun k hk hkp => ?_⟩ ?_ (run_entry_at (P := P) _ p b clock seen es clock e s1 hb' hef.1 apart))
    · show w.heap.size ≤ (w1.heap.setIfInBounds _ _).size; simp [hw.1]
    · show (w1.heap.setIfInBounds _ _)[k]? = _
      rw [s2 _ (fun e => hkp (by rw [e])), hw.1]
    · show (w1.heap.setIfInBounds _ _).size = _; simp [hw.1]
end
/-- How many are left to come to the iterator in block p. -/
def leftAt (es : Array MapEntry) (p : Nat) (w : World) : Nat := match w.heap[p]? with
  | some (.mapIter _ _ seen _) => (leftOf es seen).size
  | _ => 0
set_option maxHeartbeats 1000000 in
theorem keysP_in (F : Fence) (n : Nat) (hF : F.fn 47) (hro : F.round = none) (hn : 1 ≤ n) (l Bm b clock : Nat) (es : Array MapEntry) (ev : Int → Value) (m : List (PidD × Int)) (row : es.toList.map kv = m.map (enM ekP ev))
    (born : ∀ e ∈ es.toList, e.born < clock) (apart : (es.toList.map (·.born)).Nodup) (J : List PidD → World → Prop)
    (hY : ∀ pre x W, J pre W → pre.length < m.length → YieldAt F (n - 1) Try.prog l #[ekP x] W fun e W' => e = .returned (.bool true) ∧ J (pre ++ [x]) W' ∧ KeepsWalks W W')
    (W : World) (hJ : AbidesFrom W.heap.size J) (hm : W.cell? ⟨Bm, 0, none⟩ = some (.map (some b))) (hb : W.heap[b]? = some (.map es clock)) (h0 : J [] W) :
    CallsIn F n Try.prog 47 #[.func (.yield l) #[] #[], .pointer (some ⟨Bm, 0, none⟩)] W fun e W' => (∃ v, e = .returned v) ∧ ∃ ss : List PidD, ss.Perm (m.map (·.1)) ∧ J ss W' := by
  refine callsIn_of_wp Try.func47 rfl hF ?_ hro
  simp only [Try.ntmps47, List.size_toArray, List.length_cons, List.length_nil, Nat.reduceAdd, Nat.reduceSub, Array.replicate_succ, Array.replicate_zero, List.push_toArray, List.append_toArray, List.nil_append, List.cons_append]
  gi_wp2_with (first
    | (gi_at_range; refine wpListIn_range_raw rfl _ _ rfl _ _ Try.underlying78 b es clock rfl hb ?_; intro w0 hb0 hp0 hg0)
    | gi_in)
  go_frame
  gi_loopw [3] (fun _ wr => ∃ (seen : Array Nat) (ss : List PidD), wr.heap[b]? = some (.map es clock) ∧ wr.heap[W.heap.size]? = some (.mapIter (some b) clock seen clock) ∧ Got es m seen ss ∧ J ss wr)
    (fun _ wr => leftAt es W.heap.size wr)
  case atStart =>
    exact ⟨_, [], hb0, hp0, Got.start es m, hJ [] W w0 none h0 hg0 (fun r e => by cases e)⟩
  case round =>
    obtain ⟨seen, ss, hbr, hpr, hG, hJs⟩ := hrel
    gi_wp2_with (first
      | (gi_at_next; refine wpListIn_next_raw rfl _ rfl W.heap.size b es clock seen rfl hbr hpr born apart ?_ ?_)
      | gi_in)
    · intro hl0
      gi_wp2
      go_end0
      exact ⟨⟨_, rfl⟩, ss, hG.done (by simpa using congrArg List.length row) apart (by rw [hl0]; rfl), hJs⟩
    · intro j e w2 hj hne hb2 hp2 hlt hg2 hs2 hen
      obtain ⟨q, hq, hqe⟩ : ∃ q, m[j]? = some q ∧ kv e = enM ekP ev q := by
        have hj' : es.toList[j]? = some e := by simpa using hj
        have hrow : (es.toList.map kv)[j]? = (m.map (enM ekP ev))[j]? := congrArg (·[j]?) row
        rw [List.getElem?_map, List.getElem?_map, hj', Option.map_some] at hrow
        cases hm : m[j]? with
        | none => rw [hm] at hrow; cases hrow
        | some q => rw [hm] at hrow; exact ⟨q, rfl, Option.some.inj hrow⟩
      have hk1 : e.key = ekP q.1 := congrArg Prod.fst hqe
      obtain ⟨⟨x1, x2⟩, xv⟩ := q
      rw [show e.key = .agg #[.int .i64 x1, .int .i64 x2] from hk1] at hen ⊢
      obtain ⟨hG2, hlen⟩ := hG.step (by simpa using hj) hq (by simpa using hne)
      have hJ2 : J ss w2 := hJ ss wr w2 (some W.heap.size) hJs hg2 (fun r e => by cases e; exact ⟨Nat.le_refl _, _, hpr, rfl⟩)
      have ha : w2.grownBy (w2.alloc (.cells #[.int .i64 x1, .int .i64 x2] 31)) none := ⟨rfl, rfl, rfl, by simp, fun k hk _ => Below.heap_alloc _ _ k hk⟩
      have hJ3 : J ss (w2.alloc (.cells #[.int .i64 x1, .int .i64 x2] 31)) := hJ ss w2 _ none hJ2 ha (fun r e => by cases e)
      obtain ⟨fn, tmps, assign, body, hy, hR⟩ := hY ss (x1, x2) _ hJ3 hlen
      have hb3 : (w2.alloc (.cells #[.int .i64 x1, .int .i64 x2] 31)).heap[b]? = some (.map es clock) := (ha.block b (Array.getElem?_eq_some_iff.1 hb2).1 (by simp)).trans hb2
      have hp3 : (w2.alloc (.cells #[.int .i64 x1, .int .i64 x2] 31)).heap[W.heap.size]? = some (.mapIter (some b) clock (seen.push e.born) clock) := (ha.block _ (Array.getElem?_eq_some_iff.1 hp2).1 (by simp)).trans hp2
      rw [show ekP (x1, x2) = .agg #[.int .i64 x1, .int .i64 x2] from rfl] at hy
      clear hs2 ha
      gi_wp2
      refine hR.mono ?_
      rintro e' W3 ⟨rfl, hJ4, hk3⟩
      gi_wp2
      have hb4 := hk3.same _ _ hb3 rfl
      have hp4 := hk3.same _ _ hp3 rfl
      go_roundw
      case rel => exact ⟨_, ss ++ [(x1, x2)], hb4, hp4, hG2, hJ4⟩
      case measure =>
        show leftAt es W.heap.size W3 < leftAt es W.heap.size wr
        unfold leftAt
        rw [hp4, hpr]
        exact hlt
/-- maps.Keys(m) hands back an iterator over m's keys: in the world behind the call. -/
theorem keysP_gives (F : Fence) (n : Nat) (hF : F.fn 47) (hro : F.round = none) (hn : 1 ≤ n) (Bm b clock : Nat) (es : Array MapEntry) (ev : Int → Value) (m : List (PidD × Int)) (row : es.toList.map kv = m.map (enM ekP ev))
    (born : ∀ e ∈ es.toList, e.born < clock) (apart : (es.toList.map (·.born)).Nodup) (w : World) (hBm : Bm < w.heap.size) (hm : w.cell? ⟨Bm, 0, none⟩ = some (.map (some b))) (hb : w.heap[b]? = some (.map es clock)) :
    SeqGives F n Try.prog 47 #[.pointer (some ⟨Bm, 0, none⟩)] ekP (fun ss => ss.Perm (m.map (·.1))) m.length w := fun l J W hW hJ hY h0 =>
  keysP_in F n hF hro hn l Bm b clock es ev m row born apart J hY W hJ ((hW.cell (p := ⟨Bm, 0, none⟩) hBm).trans hm) ((hW.block b (Array.getElem?_eq_some_iff.1 hb).1).trans hb) h0
end Go.Proofs.Yticdhdpfimpmoaa.Proc
/- Package proc: New, Spawn, find, Alive, Trap, pair. -/
set_option maxRecDepth 100000
set_option maxHeartbeats 4000000
set_option linter.unusedVariables false
set_option linter.unusedSimpArgs false
namespace Go.Proofs.Yticdhdpfimpmoaa.Proc
open Go Go.Proofs.Yticdhdpfimpmoaa.Eng Go.RowKit
open Go.Proofs.Yticdhdpfimpmoaa.Eng.MG
section
variable {g : Glob} {w : World} {l : List As} {p : Nat} {va : Value} {refs nd : Int} {xa : List ActV}
theorem new_ (H : Sat g w l) (n : Int) (hn : 0 ≤ n ∧ n < 3) : Fc Try.prog 29 #[.int .i64 n] w (fun r w' => ∃ p e, r = .tuple #[.pointer (some ⟨p, 0, none⟩), .int .i64 e] ∧ e = 0 ∧ Sat g w' (Pt p [.int .i64 n, .slice none 0 0, .int .i64 0] 100 :: l)) := by
  refine Fc.of Try.func29 rfl (by kernel_rfl) ?_
  refine br_f (vLt_F (by omega)) ?_
  refine cF (vLe_F (by omega)) ?_
  refine rBuild rfl rfl rfl ?_
  refine rBoxS H ?_
  clear H
  intro p1 w1 H
  refine Done.mk ?_
  refine ⟨p1, 0, ?_⟩
  refine ⟨?_, ?_⟩
  · rfl
  refine ⟨?_, ?_⟩
  · omega
  exact H
abbrev new0 (lb hb : Nat) : ActV := .live false lb (fun _ => none) 0 none 0 [] hb (fun _ => none) 0
theorem spawn_ (H : Sat g w (Pt p [.int .i64 nd, va, .int .i64 refs] 100 :: Sl 82 5 enAc va xa :: Acts xa :: l)) (hl : xa.length < 16) : Fc Try.prog 36 #[.pointer (some ⟨p, 0, none⟩)] w (fun r w' => ∃ va' lb hb e, r = .tuple #[.agg #[.int .i64 nd, .int .i64 (xa.length + 1)], .int .i64 e] ∧ e = 0 ∧ Sat g w' (Pt p [.int .i64 nd, va', .int .i64 refs] 100 :: Sl 82 5 enAc va' (xa ++ [new0 lb hb]) :: Acts (xa ++ [new0 lb hb]) :: l)) := by
  refine Fc.of Try.func36 rfl (by kernel_rfl) ?_
  refine rAllocS H rfl ?_
  clear H
  intro p1 w1 H
  refine rFieldAt rfl ?_
  refine rLd (H.at 1 rfl) 1 rfl rfl rfl ?_
  refine rLenS H 2 rfl rfl ?_
  refine cF (vEq_F (by omega)) ?_
  refine rFieldAt rfl ?_
  refine rLd (H.at 1 rfl) 1 rfl rfl rfl ?_
  refine MG.rMakeMap (ek := ekP) (ev := ekI) (z0 := 0) H ?_
  intro b1
  clear H
  intro w2 H
  clear w1
  refine MG.rMakeMap (ek := ekI) (ev := ekP) (z0 := (0, 0)) H ?_
  intro b2
  clear H
  intro w1 H
  clear w2
  refine rBuild rfl rfl rfl ?_
  refine rBuildSliceS H rfl rfl rfl rfl ?_
  clear H
  intro p2 w2 H
  clear w1
  refine rApS (ys := [new0 b1 b2]) 48 H 5 rfl (H.at 0 rfl) rfl (fun y hy => by rw [List.mem_singleton.1 hy]; simp only [Go.Proofs.Yticdhdpfimpmoaa.Proc.enAc, List.all_cons, List.all_nil, H.one 5 rfl]; rfl) rfl rfl rfl (by omega) (by omega) ?_
  intro v1
  clear H
  intro w1 H
  clear w2
  refine rFieldAt rfl ?_
  refine rStS H 4 rfl rfl rfl (H.one 5 rfl) ?_
  clear H
  intro w2 H
  clear w1
  refine drawzS H [] [(0, .pure), (1, .pure), (2, .pure), (3, .held), (4, .pure), (5, .pure), (6, .pure), (7, .held), (8, .pure), (9, .pure), (10, .free), (11, .pure)] mixed (by kernel_rfl) (by kernel_rfl) ?_
  clear H
  intro w1 H
  clear w2
  refine tk (fun wx HS => rFieldAt rfl ⟨rfl, rfl⟩) ?_
  refine tk (fun wx HS => rLd (HS.at 4 rfl) 0 rfl rfl rfl ⟨rfl, rfl⟩) ?_
  refine tk (fun wx HS => rFieldAt rfl ⟨rfl, rfl⟩) ?_
  refine tk (fun wx HS => rLd (HS.at 4 rfl) 1 rfl rfl rfl ⟨rfl, rfl⟩) ?_
  obtain ⟨a1, c1, V1⟩ := H.form 5 rfl
  refine tk (fun wx HS => rLenV V1 rfl ⟨rfl, rfl⟩) ?_
  refine tk (fun wx HS => rBuild rfl rfl rfl ⟨rfl, rfl⟩) ?_
  refine rStAS H 3 rfl rfl rfl rfl ?_
  clear H
  intro w2 H
  clear w1
  refine rdAN (H.at 3 rfl) 0 rfl rfl rfl ?_
  replace H := H.sl0 (en := enWt) (s := 3) 84 (fun _ => rfl)
  have H := (((((H.del 4).del 1).front (j := 5) rfl).front (j := 2) rfl).front (j := 2) rfl).front (j := 3) rfl
  have H := Sat.actNew (a := new0 b1 b2) H
  have H := ((H.front (j := 1) rfl).front (j := 2) rfl).front (j := 1) rfl
  exact Done.mk ⟨v1, b1, b2, 0, by rw [List.length_append]; rfl, rfl, H⟩
/-- Who is meant: one that is alive here. -/
def liveAt (nd : Int) (xa : List ActV) (q : PidD) : Option ActV := if q.1 = nd ∧ 1 ≤ q.2 ∧ q.2 ≤ xa.length then (match xa[(q.2 - 1).toNat]? with | some a => if a.alive = true then some a else none | none => none) else none
theorem liveAt_none {q1 q2 : Int} (h : ¬ (q1 = nd ∧ 1 ≤ q2 ∧ q2 ≤ xa.length)) : liveAt nd xa (q1, q2) = none := if_neg h
theorem liveAt_dead {q1 q2 : Int} {a : ActV} {i : Nat} (hi : i = (q2 - 1).toNat) (hx : xa[i]? = some a) (ha : a.alive = false) : liveAt nd xa (q1, q2) = none := by
  subst hi
  unfold liveAt
  split
  · simp only [hx, ha]; rfl
  · rfl
theorem liveAt_some {q1 q2 : Int} {a : ActV} {i : Nat} (h : q1 = nd ∧ 1 ≤ q2 ∧ q2 ≤ xa.length) (hi : i = (q2 - 1).toNat) (hx : xa[i]? = some a) (ha : a.alive = true) : liveAt nd xa (q1, q2) = some a := by
  subst hi
  unfold liveAt
  rw [if_pos h]
  simp only [hx, ha]; rfl
theorem find_ (H : Sat g w (Pt p [.int .i64 nd, va, .int .i64 refs] 100 :: Sl 82 5 enAc va xa :: l)) (q1 q2 : Int) (hq : -9223372036854775807 ≤ q2 ∧ q2 ≤ 9223372036854775807) (hl : xa.length ≤ 16) : Fc Try.prog 33 #[.pointer (some ⟨p, 0, none⟩), .agg #[.int .i64 q1, .int .i64 q2]] w (fun r w' => ((∃ b o i a, r = .pointer (some ⟨b, o, none⟩) ∧ El va 5 i b o ∧ (i : Int) = q2 - 1 ∧ xa[i]? = some a ∧ liveAt nd xa (q1, q2) = some a) ∨ (r = .pointer none ∧ liveAt nd xa (q1, q2) = none)) ∧ Sat g w' (Pt p [.int .i64 nd, va, .int .i64 refs] 100 :: Sl 82 5 enAc va xa :: l)) := by
  refine Fc.of Try.func33 rfl (by kernel_rfl) ?_
  refine rBoxS H ?_
  clear H
  intro p1 w1 H
  refine drawzS H [] [(0, .pure), (1, .held), (2, .pure), (3, .pure), (4, .pure), (5, .held), (6, .pure), (7, .pure), (8, .pure), (9, .held), (10, .pure), (11, .pure), (12, .pure), (13, .pure), (14, .held), (15, .pure), (16, .pure), (17, .pure), (18, .held), (19, .pure), (20, .pure), (21, .pure), (22, .pure), (23, .pure), (24, .pure), (25, .pure), (26, .held), (27, .pure), (28, .held), (29, .pure), (30, .pure), (31, .pure), (32, .held), (33, .pure), (34, .pure)] mixed (by kernel_rfl) (by kernel_rfl) ?_
  clear H
  intro w2 H
  clear w1
  refine tk (fun wx HS => rFieldAt rfl ⟨rfl, rfl⟩) ?_
  refine tk (fun wx HS => rLd (HS.at 0 rfl) 0 rfl rfl rfl ⟨rfl, rfl⟩) ?_
  refine tk (fun wx HS => rFieldAt rfl ⟨rfl, rfl⟩) ?_
  refine tk (fun wx HS => rLd (HS.at 1 rfl) 0 rfl rfl rfl ⟨rfl, rfl⟩) ?_
  refine br (fun c1 => ?_) (fun c1 => ?_)
  · replace c1 := vNe_t (c1)
    refine cT rfl ?_
    refine Done.mk ?_
    refine ⟨?_, ?_⟩
    · refine (Or.inr ?_)
      refine ⟨?_, ?_⟩
      · rfl
      exact liveAt_none (by omega)
    refine H.fronts [2, 2] ?_
    clear H
    intro H
    refine H.drop 2 ?_
    clear H
    intro H
    exact H
  replace c1 := vNe_f (c1)
  refine tk (fun wx HS => rFieldAt rfl ⟨rfl, rfl⟩) ?_
  refine tk (fun wx HS => rLd (HS.at 0 rfl) 1 rfl rfl rfl ⟨rfl, rfl⟩) ?_
  refine br (fun c2 => ?_) (fun c2 => ?_)
  · replace c2 := vLt_t (c2)
    refine cT rfl ?_
    refine Done.mk ?_
    refine ⟨?_, ?_⟩
    · refine (Or.inr ?_)
      refine ⟨?_, ?_⟩
      · rfl
      exact liveAt_none (by omega)
    refine H.fronts [2, 2] ?_
    clear H
    intro H
    refine H.drop 2 ?_
    clear H
    intro H
    exact H
  replace c2 := vLt_f (c2)
  refine tk (fun wx HS => rFieldAt rfl ⟨rfl, rfl⟩) ?_
  refine tk (fun wx HS => rLd (HS.at 0 rfl) 1 rfl rfl rfl ⟨rfl, rfl⟩) ?_
  refine tk (fun wx HS => rFieldAt rfl ⟨rfl, rfl⟩) ?_
  refine tk (fun wx HS => rLd (HS.at 1 rfl) 1 rfl rfl rfl ⟨rfl, rfl⟩) ?_
  obtain ⟨a1, c3, V1⟩ := H.form 2 rfl
  refine tk (fun wx HS => rLenV V1 rfl ⟨rfl, rfl⟩) ?_
  refine br (fun c4 => ?_) (fun c4 => ?_)
  · replace c4 := vLt_t (c4)
    refine cT rfl ?_
    refine Done.mk ?_
    refine ⟨?_, ?_⟩
    · refine (Or.inr ?_)
      refine ⟨?_, ?_⟩
      · rfl
      exact liveAt_none (by omega)
    refine H.fronts [2, 2] ?_
    clear H
    intro H
    refine H.drop 2 ?_
    clear H
    intro H
    exact H
  replace c4 := vLt_f (c4)
  refine tk (fun wx HS => rFieldAt rfl ⟨rfl, rfl⟩) ?_
  refine tk (fun wx HS => rLd (HS.at 1 rfl) 1 rfl rfl rfl ⟨rfl, rfl⟩) ?_
  refine tk (fun wx HS => rFieldAt rfl ⟨rfl, rfl⟩) ?_
  refine tk (fun wx HS => rLd (HS.at 0 rfl) 1 rfl rfl rfl ⟨rfl, rfl⟩) ?_
  refine eqI64 (by omega) ?_
  obtain ⟨x1, hx1⟩ : ∃ x, (xa)[((q2).toNat - 1)]? = some x := ⟨_, List.getElem?_eq_getElem (by omega)⟩
  obtain ⟨b1, o1, E1⟩ := H.elt 2 rfl ((q2).toNat - 1) (by omega)
  refine tk (fun wx HS => rIxE E1 (by omega) rfl rfl ⟨rfl, rfl⟩) ?_
  refine tk (fun wx HS => rFieldAt rfl ⟨rfl, rfl⟩) ?_
  refine tk (fun wx HS => rLd (HS.el 2 rfl E1 hx1) 0 rfl rfl rfl ⟨rfl, rfl⟩) ?_
  refine cI (fun c5 => ?_) (fun c5 => ?_)
  · replace c5 := not_t (c5)
    refine Done.mk ?_
    refine ⟨?_, ?_⟩
    · exact .inr ⟨rfl, liveAt_dead (by omega) hx1 (by assumption)⟩
    refine H.fronts [2, 2] ?_
    clear H
    intro H
    refine H.drop 2 ?_
    clear H
    intro H
    exact H
  replace c5 := not_f (c5)
  refine drawzS H [] [(0, .pure), (1, .pure), (2, .pure), (3, .held), (4, .pure), (5, .held), (6, .pure), (7, .pure), (8, .pure)] mixed (by kernel_rfl) (by kernel_rfl) ?_
  clear H
  intro w1 H
  clear w2
  refine tk (fun wx HS => rFieldAt rfl ⟨rfl, rfl⟩) ?_
  refine tk (fun wx HS => rLd (HS.at 1 rfl) 1 rfl rfl rfl ⟨rfl, rfl⟩) ?_
  refine tk (fun wx HS => rFieldAt rfl ⟨rfl, rfl⟩) ?_
  refine tk (fun wx HS => rLd (HS.at 0 rfl) 1 rfl rfl rfl ⟨rfl, rfl⟩) ?_
  refine eqI64 (by omega) ?_
  refine tk (fun wx HS => rIxE E1 (by omega) rfl rfl ⟨rfl, rfl⟩) ?_
  refine Done.mk ?_
  refine ⟨?_, ?_⟩
  · exact .inl ⟨b1, o1, _, x1, rfl, E1, by omega, hx1, liveAt_some (by omega) (by omega) hx1 (by assumption)⟩
  refine H.fronts [2, 2] ?_
  clear H
  intro H
  refine H.drop 2 ?_
  clear H
  intro H
  exact H
end
end Go.Proofs.Yticdhdpfimpmoaa.Proc
/- Package proc: Alive, Trap, pair, Link, Unlink, Watch. -/
set_option maxRecDepth 100000
set_option maxHeartbeats 4000000
set_option linter.unusedVariables false
set_option linter.unusedSimpArgs false
namespace Go.Proofs.Yticdhdpfimpmoaa.Proc
open Go Go.Proofs.Yticdhdpfimpmoaa.Eng Go.RowKit
open Go.Proofs.Yticdhdpfimpmoaa.Eng.MG
theorem cgSlEn {α : Type} {e : TypeId} {s : Nat} {en : α → List Value} {v : Value} {xs ys : List α} (h1 : xs.length = ys.length) (h2 : xs.flatMap en = ys.flatMap en) : Sl e s en v xs = Sl e s en v ys := by
  have h3 : (xs = []) = (ys = []) := propext ⟨fun h => List.eq_nil_of_length_eq_zero (by rw [← h1, h]; rfl), fun h => List.eq_nil_of_length_eq_zero (by rw [h1, h]; rfl)⟩
  unfold Sl; rw [h1, h2, h3]
theorem flat_set {α : Type} {en : α → List Value} {y : α} : ∀ {xs : List α} {i : Nat} {x : α}, xs[i]? = some x → en y = en x → (xs.set i y).flatMap en = xs.flatMap en
  | [], _, _, h, _ => by cases h
  | z :: r, 0, x, h, he => by obtain rfl := Option.some.inj h; simp [he]
  | z :: r, i + 1, x, h, he => by simp only [List.set_cons_succ, List.flatMap_cons]; rw [flat_set (by simpa using h) he]
structure SigD where
  kind : Int
  fr : PidD
  to_ : PidD
  ref : Int
  why : Int
  tag : Int
  body : List UInt8
def enSi (x : SigD) : List Value := [.int .i64 x.kind, .int .i64 x.fr.1, .int .i64 x.fr.2, .int .i64 x.to_.1, .int .i64 x.to_.2, .int .i64 x.ref, .int .i64 x.why, .int .i64 x.tag, .string (bs x.body)]
def badP (b : PidD) : Prop := b.1 < 0 ∨ 3 ≤ b.1 ∨ b.2 < 1 ∨ 16 < b.2
instance (b : PidD) : Decidable (badP b) := by unfold badP; infer_instance
def ActV.lf : ActV → LF
  | .dead => fun _ => none
  | .live _ _ f .. => f
def ActV.ln : ActV → Nat
  | .dead => 0
  | .live _ _ _ n .. => n
def ActV.hf : ActV → HF
  | .dead => fun _ => none
  | .live _ _ _ _ _ _ _ _ f _ => f
def ActV.hn : ActV → Nat
  | .dead => 0
  | .live _ _ _ _ _ _ _ _ _ n => n
def ActV.setL : ActV → LF → Nat → ActV
  | .dead, _, _ => .dead
  | .live t lb _ _ wa wc ws hb hf hn, lf, ln => .live t lb lf ln wa wc ws hb hf hn
def ActV.setT : ActV → Bool → ActV
  | .dead, _ => .dead
  | .live _ lb lf ln wa wc ws hb hf hn, t => .live t lb lf ln wa wc ws hb hf hn
def ActV.setH : ActV → HF → Nat → ActV
  | .dead, _, _ => .dead
  | .live t lb lf ln wa wc ws hb _ _, hf, hn => .live t lb lf ln wa wc ws hb hf hn
def ix (q : PidD) : Nat := (q.2 - 1).toNat
def linkF (nd : Int) (xa : List ActV) (a b : PidD) : List ActV × List SigD × Int :=
  match liveAt nd xa a with
  | none => (xa, [], 28)
  | some x => if badP b then (xa, [], 1) else if a = b then (xa, [], 0) else if x.lf b ≠ none then (xa, [], 0)
    else (xa.set (ix a) (x.setL (upd x.lf b (some 1)) (x.ln + 1)), [⟨2, a, b, 0, 0, 0, []⟩], 0)
def unlinkF (nd : Int) (xa : List ActV) (a b : PidD) : List ActV × List SigD × Int :=
  match liveAt nd xa a with
  | none => (xa, [], 28)
  | some x => if badP b then (xa, [], 1) else if x.lf b = none then (xa, [], 0)
    else (xa.set (ix a) (x.setL (upd x.lf b none) (x.ln - 1)), [⟨3, a, b, 0, 0, 0, []⟩], 0)
section
variable {g : Glob} {w : World} {l : List As} {p : Nat} {va : Value} {refs nd : Int} {xa : List ActV}
theorem live_inv {q : PidD} {a : ActV} (h : liveAt nd xa q = some a) : xa[ix q]? = some a ∧ a.alive = true ∧ q.1 = nd ∧ 1 ≤ q.2 ∧ q.2 ≤ xa.length := by
  unfold liveAt at h
  split at h
  · rename_i hc
    split at h
    · rename_i x hx
      split at h
      · rename_i ha
        obtain rfl := Option.some.inj h
        exact ⟨hx, ha, hc⟩
      · cases h
    · cases h
  · cases h
theorem findN (H : Sat g w (Pt p [.int .i64 nd, va, .int .i64 refs] 100 :: Sl 82 5 enAc va xa :: l)) (q1 q2 : Int) (hl : xa.length ≤ 16) (hn : liveAt nd xa (q1, q2) = none) (hq : -9223372036854775807 ≤ q2 ∧ q2 ≤ 9223372036854775807) : Fc Try.prog 33 #[.pointer (some ⟨p, 0, none⟩), .agg #[.int .i64 q1, .int .i64 q2]] w (fun r w' => r = .pointer none ∧ Sat g w' (Pt p [.int .i64 nd, va, .int .i64 refs] 100 :: Sl 82 5 enAc va xa :: l)) := by
  refine Fc.imp (find_ H q1 q2 hq hl) ?_
  rintro r w' ⟨h | ⟨h, _⟩, H⟩
  · obtain ⟨b, o, i, a, _, _, _, _, h2⟩ := h
    rw [hn] at h2; cases h2
  · exact ⟨h, H⟩
theorem findY (H : Sat g w (Pt p [.int .i64 nd, va, .int .i64 refs] 100 :: Sl 82 5 enAc va xa :: l)) (q1 q2 : Int) (hl : xa.length ≤ 16) (a : ActV) (hn : liveAt nd xa (q1, q2) = some a) : Fc Try.prog 33 #[.pointer (some ⟨p, 0, none⟩), .agg #[.int .i64 q1, .int .i64 q2]] w (fun r w' => ∃ b o, r = .pointer (some ⟨b, o, none⟩) ∧ El va 5 (ix (q1, q2)) b o ∧ Sat g w' (Pt p [.int .i64 nd, va, .int .i64 refs] 100 :: Sl 82 5 enAc va xa :: l)) := by
  obtain ⟨_, _, _, h1, h2⟩ := live_inv hn
  have h1 : 1 ≤ q2 := h1
  have h2 : q2 ≤ xa.length := h2
  refine Fc.imp (find_ H q1 q2 (by omega) hl) ?_
  rintro r w' ⟨h | ⟨_, h⟩, H⟩
  · obtain ⟨b, o, i, a, h1, h2, h3, _, _⟩ := h
    have : i = ix (q1, q2) := by unfold ix; simp only; omega
    subst this
    exact ⟨b, o, h1, h2, H⟩
  · rw [hn] at h; cases h
theorem alive_ (H : Sat g w (Pt p [.int .i64 nd, va, .int .i64 refs] 100 :: Sl 82 5 enAc va xa :: l)) (q1 q2 : Int) (hl : xa.length ≤ 16) (hq : -9223372036854775807 ≤ q2 ∧ q2 ≤ 9223372036854775807) : Fc Try.prog 15 #[.pointer (some ⟨p, 0, none⟩), .agg #[.int .i64 q1, .int .i64 q2]] w (fun r w' => ∃ b, r = .bool b ∧ b = (liveAt nd xa (q1, q2)).isSome ∧ Sat g w' (Pt p [.int .i64 nd, va, .int .i64 refs] 100 :: Sl 82 5 enAc va xa :: l)) := by
  refine Fc.of Try.func15 rfl (by kernel_rfl) ?_
  cases hn : liveAt nd xa (q1, q2) with
  | none =>
    refine rBoxS H ?_
    clear H
    intro p1 w1 H
    refine rLdA (H.at 0 rfl) 0 rfl rfl rfl ?_
    refine H.fronts [2, 2] ?_
    clear H
    intro H
    refine CallP.mk (Fc.imp (Go.Proofs.Yticdhdpfimpmoaa.Proc.findN H _ _ ?_ ?_ ?_) ?_)
    · assumption
    · assumption
    · assumption
    clear H
    rintro _ w2 ⟨rfl, H⟩
    refine rPtrNotNil rfl ?_
    refine Done.mk ?_
    exact ⟨false, rfl, rfl, H.del 2⟩
  | some a =>
    refine rBoxS H ?_
    clear H
    intro p1 w1 H
    refine rLdA (H.at 0 rfl) 0 rfl rfl rfl ?_
    refine H.fronts [2, 2] ?_
    clear H
    intro H
    refine CallP.mk (Fc.imp (Go.Proofs.Yticdhdpfimpmoaa.Proc.findY H _ _ ?_ _ hn) ?_)
    · assumption
    clear H
    rintro _ w2 ⟨b1, ⟨o1, ⟨rfl, ⟨h1, H⟩⟩⟩⟩
    refine rPtrNotNil rfl ?_
    refine Done.mk ?_
    exact ⟨true, rfl, rfl, H.del 2⟩
theorem pairN (H : Sat g w (Pt p [.int .i64 nd, va, .int .i64 refs] 100 :: Sl 82 5 enAc va xa :: l)) (q1 q2 b1 b2 : Int) (hl : xa.length ≤ 16) (hn : liveAt nd xa (q1, q2) = none) (hq : -9223372036854775807 ≤ q2 ∧ q2 ≤ 9223372036854775807) : Fc Try.prog 37 #[.pointer (some ⟨p, 0, none⟩), .agg #[.int .i64 q1, .int .i64 q2], .agg #[.int .i64 b1, .int .i64 b2]] w (fun r w' => ∃ e, r = .tuple #[.pointer none, .int .i64 e] ∧ e = 28 ∧ Sat g w' (Pt p [.int .i64 nd, va, .int .i64 refs] 100 :: Sl 82 5 enAc va xa :: l)) := by
  refine Fc.of Try.func37 rfl (by kernel_rfl) ?_
  refine rBoxS H ?_
  clear H
  intro p1 w1 H
  refine rBoxS H ?_
  clear H
  intro p2 w2 H
  clear w1
  refine rLdA (H.at 1 rfl) 0 rfl rfl rfl ?_
  refine H.fronts [3, 3] ?_
  clear H
  intro H
  refine CallP.mk (Fc.imp (Go.Proofs.Yticdhdpfimpmoaa.Proc.findN H _ _ ?_ ?_ ?_) ?_)
  · assumption
  · assumption
  · assumption
  clear H
  rintro _ w1 ⟨rfl, H⟩
  refine bk ?_
  refine rPtrNil rfl ?_
  refine cT rfl ?_
  refine Done.mk ?_
  refine ⟨28, ?_⟩
  refine ⟨?_, ?_⟩
  · rfl
  refine ⟨?_, ?_⟩
  · omega
  refine H.drop 3 ?_
  clear H
  intro H
  refine H.drop 2 ?_
  clear H
  intro H
  exact H
theorem pairB (H : Sat g w (Pt p [.int .i64 nd, va, .int .i64 refs] 100 :: Sl 82 5 enAc va xa :: l)) (q1 q2 b1 b2 : Int) (hl : xa.length ≤ 16) (a : ActV) (hn : liveAt nd xa (q1, q2) = some a) (hb : badP (b1, b2)) : Fc Try.prog 37 #[.pointer (some ⟨p, 0, none⟩), .agg #[.int .i64 q1, .int .i64 q2], .agg #[.int .i64 b1, .int .i64 b2]] w (fun r w' => ∃ e, r = .tuple #[.pointer none, .int .i64 e] ∧ e = 1 ∧ Sat g w' (Pt p [.int .i64 nd, va, .int .i64 refs] 100 :: Sl 82 5 enAc va xa :: l)) := by
  have hb2 : b1 < 0 ∨ 3 ≤ b1 ∨ b2 < 1 ∨ 16 < b2 := hb
  refine Fc.of Try.func37 rfl (by kernel_rfl) ?_
  refine rBoxS H ?_
  clear H
  intro p1 w1 H
  refine rBoxS H ?_
  clear H
  intro p2 w2 H
  clear w1
  refine rLdA (H.at 1 rfl) 0 rfl rfl rfl ?_
  refine H.fronts [3, 3] ?_
  clear H
  intro H
  refine CallP.mk (Fc.imp (Go.Proofs.Yticdhdpfimpmoaa.Proc.findY H _ _ ?_ _ hn) ?_)
  · assumption
  clear H
  rintro _ w1 ⟨b3, ⟨o1, ⟨rfl, ⟨h1, H⟩⟩⟩⟩
  refine bk ?_
  refine rPtrNil rfl ?_
  refine cF rfl ?_
  refine rFieldAt rfl ?_
  refine rLd (H.at 2 rfl) 0 rfl rfl rfl ?_
  refine br (fun c1 => ?_) (fun c1 => ?_)
  · replace c1 := vLt_t (c1)
    refine cT rfl ?_
    refine Done.mk ?_
    refine ⟨1, ?_⟩
    refine ⟨?_, ?_⟩
    · rfl
    refine ⟨?_, ?_⟩
    · omega
    refine H.drop 3 ?_
    clear H
    intro H
    refine H.drop 2 ?_
    clear H
    intro H
    exact H
  replace c1 := vLt_f (c1)
  refine rFieldAt rfl ?_
  refine rLd (H.at 2 rfl) 0 rfl rfl rfl ?_
  refine br (fun c2 => ?_) (fun c2 => ?_)
  · replace c2 := vLe_t (c2)
    refine cT rfl ?_
    refine Done.mk ?_
    refine ⟨1, ?_⟩
    refine ⟨?_, ?_⟩
    · rfl
    refine ⟨?_, ?_⟩
    · omega
    refine H.drop 3 ?_
    clear H
    intro H
    refine H.drop 2 ?_
    clear H
    intro H
    exact H
  replace c2 := vLe_f (c2)
  refine rFieldAt rfl ?_
  refine rLd (H.at 2 rfl) 1 rfl rfl rfl ?_
  refine br (fun c3 => ?_) (fun c3 => ?_)
  · replace c3 := vLt_t (c3)
    refine cT rfl ?_
    refine Done.mk ?_
    refine ⟨1, ?_⟩
    refine ⟨?_, ?_⟩
    · rfl
    refine ⟨?_, ?_⟩
    · omega
    refine H.drop 3 ?_
    clear H
    intro H
    refine H.drop 2 ?_
    clear H
    intro H
    exact H
  replace c3 := vLt_f (c3)
  refine rFieldAt rfl ?_
  refine rLd (H.at 2 rfl) 1 rfl rfl rfl ?_
  refine cT (vLt_T (by omega)) ?_
  refine Done.mk ?_
  refine ⟨1, ?_⟩
  refine ⟨?_, ?_⟩
  · rfl
  refine ⟨?_, ?_⟩
  · omega
  refine H.drop 3 ?_
  clear H
  intro H
  refine H.drop 2 ?_
  clear H
  intro H
  exact H
theorem pairY (H : Sat g w (Pt p [.int .i64 nd, va, .int .i64 refs] 100 :: Sl 82 5 enAc va xa :: l)) (q1 q2 b1 b2 : Int) (hl : xa.length ≤ 16) (a : ActV) (hn : liveAt nd xa (q1, q2) = some a) (hb : ¬ badP (b1, b2)) : Fc Try.prog 37 #[.pointer (some ⟨p, 0, none⟩), .agg #[.int .i64 q1, .int .i64 q2], .agg #[.int .i64 b1, .int .i64 b2]] w (fun r w' => ∃ b o e, r = .tuple #[.pointer (some ⟨b, o, none⟩), .int .i64 e] ∧ e = 0 ∧ El va 5 (ix (q1, q2)) b o ∧ Sat g w' (Pt p [.int .i64 nd, va, .int .i64 refs] 100 :: Sl 82 5 enAc va xa :: l)) := by
  have hb2 : ¬ (b1 < 0 ∨ 3 ≤ b1 ∨ b2 < 1 ∨ 16 < b2) := hb
  refine Fc.of Try.func37 rfl (by kernel_rfl) ?_
  refine rBoxS H ?_
  clear H
  intro p1 w1 H
  refine rBoxS H ?_
  clear H
  intro p2 w2 H
  clear w1
  refine rLdA (H.at 1 rfl) 0 rfl rfl rfl ?_
  refine H.fronts [3, 3] ?_
  clear H
  intro H
  refine CallP.mk (Fc.imp (Go.Proofs.Yticdhdpfimpmoaa.Proc.findY H _ _ ?_ _ hn) ?_)
  · assumption
  clear H
  rintro _ w1 ⟨b3, ⟨o1, ⟨rfl, ⟨h1, H⟩⟩⟩⟩
  refine bk ?_
  refine rPtrNil rfl ?_
  refine cF rfl ?_
  refine rFieldAt rfl ?_
  refine rLd (H.at 2 rfl) 0 rfl rfl rfl ?_
  refine br_f (vLt_F (by omega)) ?_
  refine rFieldAt rfl ?_
  refine rLd (H.at 2 rfl) 0 rfl rfl rfl ?_
  refine br_f (vLe_F (by omega)) ?_
  refine rFieldAt rfl ?_
  refine rLd (H.at 2 rfl) 1 rfl rfl rfl ?_
  refine br_f (vLt_F (by omega)) ?_
  refine rFieldAt rfl ?_
  refine rLd (H.at 2 rfl) 1 rfl rfl rfl ?_
  refine cF (vLt_F (by omega)) ?_
  refine Done.mk ?_
  refine ⟨b3, o1, 0, ?_⟩
  refine ⟨?_, ?_⟩
  · rfl
  refine ⟨?_, ?_⟩
  · omega
  refine ⟨?_, ?_⟩
  · assumption
  refine H.drop 3 ?_
  clear H
  intro H
  refine H.drop 2 ?_
  clear H
  intro H
  exact H
theorem live_is {a : ActV} (h : a.alive = true) : ∃ t lb lf ln wa wc ws hb hf hn, a = .live t lb lf ln wa wc ws hb hf hn := by
  cases a with
  | dead => cases h
  | live t lb lf ln wa wc ws hb hf hn => exact ⟨_, _, _, _, _, _, _, _, _, _, rfl⟩
/-- An actor's pieces come to the front. -/
theorem opened (H : Sat g w (Pt p [.int .i64 nd, va, .int .i64 refs] 100 :: Sl 82 5 enAc va xa :: Acts xa :: l)) {i : Nat} {a : ActV} (h : xa[i]? = some a) : Sat g w (pcs a ++ (Acts (xa.eraseIdx i) :: Pt p [.int .i64 nd, va, .int .i64 refs] 100 :: Sl 82 5 enAc va xa :: l)) := Sat.act (H.front (j := 2) rfl) h
/-- An actor whose maps alone have turned is shut. -/
theorem shut {i : Nat} {a a' : ActV} (h : xa[i]? = some a) (he : enAc a' = enAc a) (H : Sat g w (pcs a' ++ (Acts (xa.eraseIdx i) :: Pt p [.int .i64 nd, va, .int .i64 refs] 100 :: Sl 82 5 enAc va xa :: l))) : Sat g w (Pt p [.int .i64 nd, va, .int .i64 refs] 100 :: Sl 82 5 enAc va (xa.set i a') :: Acts (xa.set i a') :: l) := by
  have hi := (List.getElem?_eq_some_iff.1 h).1
  have H1 := Sat.actBack (a := a') hi H
  rw [cgSlEn (xs := xa) (ys := xa.set i a') (by simp) (flat_set h he).symm] at H1
  exact (H1.front (j := 2) rfl).front (j := 2) rfl |>.front (j := 1) rfl |>.front (j := 1) rfl
theorem set_self {α : Type} {xs : List α} {i : Nat} {x : α} (h : xs[i]? = some x) : xs.set i x = xs := by
  refine List.ext_getElem? fun j => ?_
  rw [List.getElem?_set]
  split
  · rename_i e; subst e
    rw [if_pos (List.getElem?_eq_some_iff.1 h).1, h]
  · rfl
/-- Nothing has turned. -/
theorem shut0 {i : Nat} {a : ActV} (h : xa[i]? = some a) (H : Sat g w (pcs a ++ (Acts (xa.eraseIdx i) :: Pt p [.int .i64 nd, va, .int .i64 refs] 100 :: Sl 82 5 enAc va xa :: l))) : Sat g w (Pt p [.int .i64 nd, va, .int .i64 refs] 100 :: Sl 82 5 enAc va xa :: Acts xa :: l) := by
  have := shut h rfl H
  rw [set_self h] at this; exact this
theorem linkF_none {a b : PidD} (h : liveAt nd xa a = none) : linkF nd xa a b = (xa, [], 28) := by unfold linkF; rw [h]
theorem linkF_bad {a b : PidD} {x : ActV} (h : liveAt nd xa a = some x) (hb : badP b) : linkF nd xa a b = (xa, [], 1) := by unfold linkF; rw [h]; exact if_pos hb
theorem linkF_self {a b : PidD} {x : ActV} (h : liveAt nd xa a = some x) (hb : ¬ badP b) (he : a = b) : linkF nd xa a b = (xa, [], 0) := by unfold linkF; rw [h]; exact (if_neg hb).trans (if_pos he)
theorem linkF_old {a b : PidD} {x : ActV} {z : Int} (h : liveAt nd xa a = some x) (hb : ¬ badP b) (he : ¬ a = b) (ho : x.lf b = some z) : linkF nd xa a b = (xa, [], 0) := by unfold linkF; rw [h]; exact ((if_neg hb).trans (if_neg he)).trans (if_pos (by rw [ho]; nofun))
theorem linkF_new {a b : PidD} {x : ActV} (h : liveAt nd xa a = some x) (hb : ¬ badP b) (he : ¬ a = b) (ho : x.lf b = none) : linkF nd xa a b = (xa.set (ix a) (x.setL (upd x.lf b (some 1)) (x.ln + 1)), [⟨2, a, b, 0, 0, 0, []⟩], 0) := by unfold linkF; rw [h]; exact ((if_neg hb).trans (if_neg he)).trans (if_neg (by rw [ho]; simp))
theorem pid_eq {a1 a2 b1 b2 : Int} : ((a1, a2) : PidD) = (b1, b2) ↔ a1 = b1 ∧ a2 = b2 := by simp
theorem pid_t {a1 a2 b1 b2 : Int} (h : a1 = b1 ∧ a2 = b2) : (vEq a1 b1 && (vEq a2 b2 && true)) = true := by rw [vEq_iff, vEq_iff]; simp [h]
theorem pid_f {a1 a2 b1 b2 : Int} (h : ¬ (a1 = b1 ∧ a2 = b2)) : (vEq a1 b1 && (vEq a2 b2 && true)) = false := by
  rw [vEq_iff, vEq_iff]
  cases h2 : (decide (a1 = b1) && (decide (a2 = b2) && true)) with
  | false => rfl
  | true => exact absurd (by simpa using h2) h
theorem link_ (H : Sat g w (Pt p [.int .i64 nd, va, .int .i64 refs] 100 :: Sl 82 5 enAc va xa :: Acts xa :: l)) (a1 a2 b1 b2 : Int) (hl : xa.length ≤ 16) (hq : -9223372036854775807 ≤ a2 ∧ a2 ≤ 9223372036854775807) : Fc Try.prog 19 #[.pointer (some ⟨p, 0, none⟩), .agg #[.int .i64 a1, .int .i64 a2], .agg #[.int .i64 b1, .int .i64 b2]] w (fun r w' => ∃ v xa' sg e, r = .tuple #[v, .int .i64 e] ∧ linkF nd xa (a1, a2) (b1, b2) = (xa', sg, e) ∧ Sat g w' (Sl 40 9 enSi v sg :: Pt p [.int .i64 nd, va, .int .i64 refs] 100 :: Sl 82 5 enAc va xa' :: Acts xa' :: l)) := by
  refine Fc.of Try.func19 rfl (by kernel_rfl) ?_
  cases hn : liveAt nd xa (a1, a2) with
  | none =>
    refine rBoxS H ?_
    clear H
    intro p1 w1 H
    refine rBoxS H ?_
    clear H
    intro p2 w2 H
    clear w1
    refine rLdA (H.at 1 rfl) 0 rfl rfl rfl ?_
    refine rLdA (H.at 0 rfl) 0 rfl rfl rfl ?_
    refine H.fronts [3, 3] ?_
    clear H
    intro H
    refine CallP.mk (Fc.imp (Go.Proofs.Yticdhdpfimpmoaa.Proc.pairN H _ _ _ _ ?_ ?_ ?_) ?_)
    · assumption
    · assumption
    · assumption
    clear H
    rintro _ w1 ⟨e1, ⟨rfl, ⟨h1, H⟩⟩⟩
    refine br_t (vNe_T (by omega)) ?_
    refine cT rfl ?_
    refine Done.mk ?_
    exact ⟨_, xa, [], _, rfl, by rw [h1]; exact linkF_none hn, ((H.del 2).del 2).sl0 (en := enSi) (s := 9) 40 (fun _ => rfl)⟩
  | some x =>
    obtain ⟨hx, hal, hr⟩ := live_inv hn
    obtain ⟨t, lb, lf, ln, wa, wc, ws, hb, hf, hnn, rfl⟩ := live_is hal
    by_cases hbad : badP (b1, b2)
    · refine rBoxS H ?_
      clear H
      intro p1 w1 H
      refine rBoxS H ?_
      clear H
      intro p2 w2 H
      clear w1
      refine rLdA (H.at 1 rfl) 0 rfl rfl rfl ?_
      refine rLdA (H.at 0 rfl) 0 rfl rfl rfl ?_
      refine H.fronts [3, 3] ?_
      clear H
      intro H
      refine CallP.mk (Fc.imp (Go.Proofs.Yticdhdpfimpmoaa.Proc.pairB H _ _ _ _ ?_ _ hn ?_) ?_)
      · assumption
      · assumption
      clear H
      rintro _ w1 ⟨e1, ⟨rfl, ⟨h1, H⟩⟩⟩
      refine br_t (vNe_T (by omega)) ?_
      refine cT rfl ?_
      refine Done.mk ?_
      exact ⟨_, xa, [], _, rfl, by rw [h1]; exact linkF_bad hn hbad, ((H.del 2).del 2).sl0 (en := enSi) (s := 9) 40 (fun _ => rfl)⟩
    · by_cases hab : a1 = b1 ∧ a2 = b2
      · refine rBoxS H ?_
        clear H
        intro p1 w1 H
        refine rBoxS H ?_
        clear H
        intro p2 w2 H
        clear w1
        refine rLdA (H.at 1 rfl) 0 rfl rfl rfl ?_
        refine rLdA (H.at 0 rfl) 0 rfl rfl rfl ?_
        refine H.fronts [3, 3] ?_
        clear H
        intro H
        refine CallP.mk (Fc.imp (Go.Proofs.Yticdhdpfimpmoaa.Proc.pairY H _ _ _ _ ?_ _ hn ?_) ?_)
        · assumption
        · assumption
        clear H
        rintro _ w1 ⟨b3, ⟨o1, ⟨e1, ⟨rfl, ⟨h1, ⟨h2, H⟩⟩⟩⟩⟩⟩
        refine br_f (vNe_F (by assumption)) ?_
        refine rLdA (H.at 3 rfl) 0 rfl rfl rfl ?_
        refine rLdA (H.at 2 rfl) 0 rfl rfl rfl ?_
        refine rStructEq (by kernel_rfl) (by kernel_rfl) ?_
        refine cT ((by exact pid_t hab)) ?_
        refine Done.mk ?_
        exact ⟨_, xa, [], _, rfl, by rw [h1]; exact linkF_self hn hbad (pid_eq.2 hab), ((H.del 2).del 2).sl0 (en := enSi) (s := 9) 40 (fun _ => rfl)⟩
      · replace H := opened H hx
        simp only [pcs, List.cons_append, List.nil_append] at H
        cases hlb : lf (b1, b2) with
        | none =>
          refine rBoxS H ?_
          clear H
          intro p1 w1 H
          refine rBoxS H ?_
          clear H
          intro p2 w2 H
          clear w1
          refine rLdA (H.at 1 rfl) 0 rfl rfl rfl ?_
          refine rLdA (H.at 0 rfl) 0 rfl rfl rfl ?_
          refine H.fronts [7, 7] ?_
          clear H
          intro H
          refine CallP.mk (Fc.imp (Go.Proofs.Yticdhdpfimpmoaa.Proc.pairY H _ _ _ _ ?_ _ hn ?_) ?_)
          · assumption
          · assumption
          clear H
          rintro _ w1 ⟨b3, ⟨o1, ⟨e1, ⟨rfl, ⟨h1, ⟨h2, H⟩⟩⟩⟩⟩⟩
          refine br_f (vNe_F (by assumption)) ?_
          refine rLdA (H.at 3 rfl) 0 rfl rfl rfl ?_
          refine rLdA (H.at 2 rfl) 0 rfl rfl rfl ?_
          refine rStructEq (by kernel_rfl) (by kernel_rfl) ?_
          refine cF ((by exact pid_f hab)) ?_
          refine drawzS H [] [(0, .pure), (1, .pure), (2, .pure), (3, .held), (4, .held), (5, .held), (6, .pure), (7, .pure), (8, .pure), (9, .pure), (10, .pure)] mixed (by kernel_rfl) (by kernel_rfl) ?_
          clear H
          intro w3 H
          clear w1
          refine tk (fun wx HS => rFieldAt rfl ⟨rfl, rfl⟩) ?_
          refine tk (fun wx HS => rLd (HS.el 1 rfl h2 hx) 2 rfl rfl rfl ⟨rfl, rfl⟩) ?_
          refine tk (fun wx HS => rLdA (HS.at 2 rfl) 0 rfl rfl rfl ⟨rfl, rfl⟩) ?_
          refine tk (fun wx HS => MG.rMapGetN (k := ((b1), (b2))) HS 4 rfl hlb rfl (by first | exact keyInt | exact keyPid) rfl ⟨rfl, rfl⟩) ?_
          refine cF rfl ?_
          refine drawzS H [] [(0, .pure), (1, .pure), (2, .pure), (3, .held), (4, .held), (5, .free)] mixed (by kernel_rfl) (by kernel_rfl) ?_
          clear H
          intro w1 H
          clear w3
          refine tk (fun wx HS => rFieldAt rfl ⟨rfl, rfl⟩) ?_
          refine tk (fun wx HS => rLd (HS.el 1 rfl h2 hx) 2 rfl rfl rfl ⟨rfl, rfl⟩) ?_
          refine tk (fun wx HS => rLdA (HS.at 2 rfl) 0 rfl rfl rfl ⟨rfl, rfl⟩) ?_
          refine MG.rMapPut (k := ((b1), (b2))) H 4 rfl rfl (by first | exact keyInt | exact keyPid) ?_
          intro n1 hn1
          clear H
          intro w3 H
          clear w1
          refine rLdA (H.at 3 rfl) 0 rfl rfl rfl ?_
          refine rLdA (H.at 2 rfl) 0 rfl rfl rfl ?_
          refine rBuild rfl rfl rfl ?_
          refine rBuildSliceS H rfl rfl rfl rfl ?_
          clear H
          intro p3 w1 H
          clear w3
          refine H.ptSl (n := 1) (en := enSi) (s := 9) 0 rfl [(⟨2, (a1, a2), (b1, b2), 0, 0, 0, []⟩ : SigD)] rfl rfl (fun _ => rfl) rfl ?_
          clear H
          intro H
          replace H := (((((((H.del 3).del 3).front (j := 2) rfl).front (j := 2) rfl).front (j := 6) rfl).front (j := 6) rfl).front (j := 6) rfl).front (j := 6) rfl
          rw [if_pos hlb] at hn1
          subst hn1
          replace H := shut (a' := .live t lb (upd lf (b1, b2) (some 1)) (ln + 1) wa wc ws hb hf hnn) hx rfl H
          exact Done.mk ⟨_, _, _, 0, rfl, linkF_new hn hbad (fun h => hab (pid_eq.1 h)) hlb, H.front (j := 3) rfl⟩
        | some z =>
          refine rBoxS H ?_
          clear H
          intro p1 w1 H
          refine rBoxS H ?_
          clear H
          intro p2 w2 H
          clear w1
          refine rLdA (H.at 1 rfl) 0 rfl rfl rfl ?_
          refine rLdA (H.at 0 rfl) 0 rfl rfl rfl ?_
          refine H.fronts [7, 7] ?_
          clear H
          intro H
          refine CallP.mk (Fc.imp (Go.Proofs.Yticdhdpfimpmoaa.Proc.pairY H _ _ _ _ ?_ _ hn ?_) ?_)
          · assumption
          · assumption
          clear H
          rintro _ w1 ⟨b3, ⟨o1, ⟨e1, ⟨rfl, ⟨h1, ⟨h2, H⟩⟩⟩⟩⟩⟩
          refine br_f (vNe_F (by assumption)) ?_
          refine rLdA (H.at 3 rfl) 0 rfl rfl rfl ?_
          refine rLdA (H.at 2 rfl) 0 rfl rfl rfl ?_
          refine rStructEq (by kernel_rfl) (by kernel_rfl) ?_
          refine cF ((by exact pid_f hab)) ?_
          refine drawzS H [] [(0, .pure), (1, .pure), (2, .pure), (3, .held), (4, .held), (5, .held), (6, .pure), (7, .pure), (8, .pure), (9, .pure), (10, .pure)] mixed (by kernel_rfl) (by kernel_rfl) ?_
          clear H
          intro w3 H
          clear w1
          refine tk (fun wx HS => rFieldAt rfl ⟨rfl, rfl⟩) ?_
          refine tk (fun wx HS => rLd (HS.el 1 rfl h2 hx) 2 rfl rfl rfl ⟨rfl, rfl⟩) ?_
          refine tk (fun wx HS => rLdA (HS.at 2 rfl) 0 rfl rfl rfl ⟨rfl, rfl⟩) ?_
          refine tk (fun wx HS => MG.rMapGetY (k := ((b1), (b2))) HS 4 rfl hlb rfl (by first | exact keyInt | exact keyPid) rfl ⟨rfl, rfl⟩) ?_
          refine cT rfl ?_
          replace H := (((((H.del 2).del 2).front (j := 5) rfl).front (j := 5) rfl).front (j := 5) rfl).front (j := 5) rfl
          exact Done.mk ⟨_, xa, [], 0, rfl, linkF_old hn hbad (fun h => hab (pid_eq.1 h)) hlb, (shut0 hx H).sl0 (en := enSi) (s := 9) 40 (fun _ => rfl)⟩
theorem unlinkF_none {a b : PidD} (h : liveAt nd xa a = none) : unlinkF nd xa a b = (xa, [], 28) := by unfold unlinkF; rw [h]
theorem unlinkF_bad {a b : PidD} {x : ActV} (h : liveAt nd xa a = some x) (hb : badP b) : unlinkF nd xa a b = (xa, [], 1) := by unfold unlinkF; rw [h]; exact if_pos hb
theorem unlinkF_no {a b : PidD} {x : ActV} (h : liveAt nd xa a = some x) (hb : ¬ badP b) (ho : x.lf b = none) : unlinkF nd xa a b = (xa, [], 0) := by unfold unlinkF; rw [h]; exact (if_neg hb).trans (if_pos ho)
theorem unlinkF_yes {a b : PidD} {x : ActV} {z : Int} (h : liveAt nd xa a = some x) (hb : ¬ badP b) (ho : x.lf b = some z) : unlinkF nd xa a b = (xa.set (ix a) (x.setL (upd x.lf b none) (x.ln - 1)), [⟨3, a, b, 0, 0, 0, []⟩], 0) := by unfold unlinkF; rw [h]; exact (if_neg hb).trans (if_neg (by rw [ho]; nofun))
theorem unlink_ (H : Sat g w (Pt p [.int .i64 nd, va, .int .i64 refs] 100 :: Sl 82 5 enAc va xa :: Acts xa :: l)) (a1 a2 b1 b2 : Int) (hl : xa.length ≤ 16) (hq : -9223372036854775807 ≤ a2 ∧ a2 ≤ 9223372036854775807) : Fc Try.prog 20 #[.pointer (some ⟨p, 0, none⟩), .agg #[.int .i64 a1, .int .i64 a2], .agg #[.int .i64 b1, .int .i64 b2]] w (fun r w' => ∃ v xa' sg e, r = .tuple #[v, .int .i64 e] ∧ unlinkF nd xa (a1, a2) (b1, b2) = (xa', sg, e) ∧ Sat g w' (Sl 40 9 enSi v sg :: Pt p [.int .i64 nd, va, .int .i64 refs] 100 :: Sl 82 5 enAc va xa' :: Acts xa' :: l)) := by
  refine Fc.of Try.func20 rfl (by kernel_rfl) ?_
  cases hn : liveAt nd xa (a1, a2) with
  | none =>
    refine rBoxS H ?_
    clear H
    intro p1 w1 H
    refine rBoxS H ?_
    clear H
    intro p2 w2 H
    clear w1
    refine rLdA (H.at 1 rfl) 0 rfl rfl rfl ?_
    refine rLdA (H.at 0 rfl) 0 rfl rfl rfl ?_
    refine H.fronts [3, 3] ?_
    clear H
    intro H
    refine CallP.mk (Fc.imp (Go.Proofs.Yticdhdpfimpmoaa.Proc.pairN H _ _ _ _ ?_ ?_ ?_) ?_)
    · assumption
    · assumption
    · assumption
    clear H
    rintro _ w1 ⟨e1, ⟨rfl, ⟨h1, H⟩⟩⟩
    refine cT (vNe_T (by omega)) ?_
    refine Done.mk ?_
    exact ⟨_, xa, [], _, rfl, by rw [h1]; exact unlinkF_none hn, ((H.del 2).del 2).sl0 (en := enSi) (s := 9) 40 (fun _ => rfl)⟩
  | some x =>
    obtain ⟨hx, hal, hr⟩ := live_inv hn
    obtain ⟨t, lb, lf, ln, wa, wc, ws, hb, hf, hnn, rfl⟩ := live_is hal
    by_cases hbad : badP (b1, b2)
    · refine rBoxS H ?_
      clear H
      intro p1 w1 H
      refine rBoxS H ?_
      clear H
      intro p2 w2 H
      clear w1
      refine rLdA (H.at 1 rfl) 0 rfl rfl rfl ?_
      refine rLdA (H.at 0 rfl) 0 rfl rfl rfl ?_
      refine H.fronts [3, 3] ?_
      clear H
      intro H
      refine CallP.mk (Fc.imp (Go.Proofs.Yticdhdpfimpmoaa.Proc.pairB H _ _ _ _ ?_ _ hn ?_) ?_)
      · assumption
      · assumption
      clear H
      rintro _ w1 ⟨e1, ⟨rfl, ⟨h1, H⟩⟩⟩
      refine cT (vNe_T (by omega)) ?_
      refine Done.mk ?_
      exact ⟨_, xa, [], _, rfl, by rw [h1]; exact unlinkF_bad hn hbad, ((H.del 2).del 2).sl0 (en := enSi) (s := 9) 40 (fun _ => rfl)⟩
    · replace H := opened H hx
      simp only [pcs, List.cons_append, List.nil_append] at H
      cases hlb : lf (b1, b2) with
      | none =>
        refine rBoxS H ?_
        clear H
        intro p1 w1 H
        refine rBoxS H ?_
        clear H
        intro p2 w2 H
        clear w1
        refine rLdA (H.at 1 rfl) 0 rfl rfl rfl ?_
        refine rLdA (H.at 0 rfl) 0 rfl rfl rfl ?_
        refine H.fronts [7, 7] ?_
        clear H
        intro H
        refine CallP.mk (Fc.imp (Go.Proofs.Yticdhdpfimpmoaa.Proc.pairY H _ _ _ _ ?_ _ hn ?_) ?_)
        · assumption
        · assumption
        clear H
        rintro _ w1 ⟨b3, ⟨o1, ⟨e1, ⟨rfl, ⟨h1, ⟨h2, H⟩⟩⟩⟩⟩⟩
        refine cF (vNe_F (by assumption)) ?_
        refine drawzS H [] [(0, .pure), (1, .pure), (2, .pure), (3, .held), (4, .held), (5, .held), (6, .pure), (7, .pure), (8, .pure), (9, .pure), (10, .pure)] mixed (by kernel_rfl) (by kernel_rfl) ?_
        clear H
        intro w3 H
        clear w1
        refine tk (fun wx HS => rFieldAt rfl ⟨rfl, rfl⟩) ?_
        refine tk (fun wx HS => rLd (HS.el 1 rfl h2 hx) 2 rfl rfl rfl ⟨rfl, rfl⟩) ?_
        refine tk (fun wx HS => rLdA (HS.at 2 rfl) 0 rfl rfl rfl ⟨rfl, rfl⟩) ?_
        refine tk (fun wx HS => MG.rMapGetN (k := ((b1), (b2))) HS 4 rfl hlb rfl (by first | exact keyInt | exact keyPid) rfl ⟨rfl, rfl⟩) ?_
        refine cT rfl ?_
        replace H := (((((H.del 2).del 2).front (j := 5) rfl).front (j := 5) rfl).front (j := 5) rfl).front (j := 5) rfl
        exact Done.mk ⟨_, xa, [], 0, rfl, unlinkF_no hn hbad hlb, (shut0 hx H).sl0 (en := enSi) (s := 9) 40 (fun _ => rfl)⟩
      | some z =>
        refine rBoxS H ?_
        clear H
        intro p1 w1 H
        refine rBoxS H ?_
        clear H
        intro p2 w2 H
        clear w1
        refine rLdA (H.at 1 rfl) 0 rfl rfl rfl ?_
        refine rLdA (H.at 0 rfl) 0 rfl rfl rfl ?_
        refine H.fronts [7, 7] ?_
        clear H
        intro H
        refine CallP.mk (Fc.imp (Go.Proofs.Yticdhdpfimpmoaa.Proc.pairY H _ _ _ _ ?_ _ hn ?_) ?_)
        · assumption
        · assumption
        clear H
        rintro _ w1 ⟨b3, ⟨o1, ⟨e1, ⟨rfl, ⟨h1, ⟨h2, H⟩⟩⟩⟩⟩⟩
        refine cF (vNe_F (by assumption)) ?_
        refine drawzS H [] [(0, .pure), (1, .pure), (2, .pure), (3, .held), (4, .held), (5, .held), (6, .pure), (7, .pure), (8, .pure), (9, .pure), (10, .pure)] mixed (by kernel_rfl) (by kernel_rfl) ?_
        clear H
        intro w3 H
        clear w1
        refine tk (fun wx HS => rFieldAt rfl ⟨rfl, rfl⟩) ?_
        refine tk (fun wx HS => rLd (HS.el 1 rfl h2 hx) 2 rfl rfl rfl ⟨rfl, rfl⟩) ?_
        refine tk (fun wx HS => rLdA (HS.at 2 rfl) 0 rfl rfl rfl ⟨rfl, rfl⟩) ?_
        refine tk (fun wx HS => MG.rMapGetY (k := ((b1), (b2))) HS 4 rfl hlb rfl (by first | exact keyInt | exact keyPid) rfl ⟨rfl, rfl⟩) ?_
        refine cF rfl ?_
        refine drawzS H [] [(0, .pure), (1, .pure), (2, .pure), (3, .held), (4, .held), (5, .free)] mixed (by kernel_rfl) (by kernel_rfl) ?_
        clear H
        intro w1 H
        clear w3
        refine tk (fun wx HS => rFieldAt rfl ⟨rfl, rfl⟩) ?_
        refine tk (fun wx HS => rLd (HS.el 1 rfl h2 hx) 2 rfl rfl rfl ⟨rfl, rfl⟩) ?_
        refine tk (fun wx HS => rLdA (HS.at 2 rfl) 0 rfl rfl rfl ⟨rfl, rfl⟩) ?_
        refine MG.rMapDel (k := ((b1), (b2))) H 4 rfl rfl (by first | exact keyInt | exact keyPid) ?_
        intro n1 hn1
        clear H
        intro w3 H
        clear w1
        refine rLdA (H.at 3 rfl) 0 rfl rfl rfl ?_
        refine rLdA (H.at 2 rfl) 0 rfl rfl rfl ?_
        refine rBuild rfl rfl rfl ?_
        refine rBuildSliceS H rfl rfl rfl rfl ?_
        clear H
        intro p3 w1 H
        clear w3
        refine H.ptSl (n := 1) (en := enSi) (s := 9) 0 rfl [(⟨3, (a1, a2), (b1, b2), 0, 0, 0, []⟩ : SigD)] rfl rfl (fun _ => rfl) rfl ?_
        clear H
        intro H
        replace H := (((((((H.del 3).del 3).front (j := 2) rfl).front (j := 2) rfl).front (j := 6) rfl).front (j := 6) rfl).front (j := 6) rfl).front (j := 6) rfl
        rw [if_neg (by rw [hlb]; nofun)] at hn1
        subst hn1
        replace H := shut (a' := .live t lb (upd lf (b1, b2) none) (ln - 1) wa wc ws hb hf hnn) hx rfl H
        exact Done.mk ⟨_, _, _, 0, rfl, unlinkF_yes hn hbad hlb, H.front (j := 3) rfl⟩
end
end Go.Proofs.Yticdhdpfimpmoaa.Proc
/- Package proc: Trap, Watch. -/
set_option maxRecDepth 100000
set_option maxHeartbeats 4000000
set_option linter.unusedVariables false
set_option linter.unusedSimpArgs false
namespace Go.Proofs.Yticdhdpfimpmoaa.Proc
open Go Go.Proofs.Yticdhdpfimpmoaa.Eng Go.RowKit
open Go.Proofs.Yticdhdpfimpmoaa.Eng.MG
def trapF (nd : Int) (xa : List ActV) (a : PidD) (on : Bool) : List ActV × Bool :=
  match liveAt nd xa a with
  | none => (xa, false)
  | some x => (xa.set (ix a) (x.setT on), x.trap)
def watchF (nd refs : Int) (xa : List ActV) (a b : PidD) : Int × List ActV × Int × List SigD × Int :=
  match liveAt nd xa a with
  | none => (refs, xa, 0, [], 28)
  | some x => if badP b then (refs, xa, 0, [], 1) else if refs = 64 then (refs, xa, 0, [], 16)
    else (refs + 1, xa.set (ix a) (x.setH (upd x.hf (refs + 1) (some b)) (if x.hf (refs + 1) = none then x.hn + 1 else x.hn)), refs + 1, [⟨5, a, b, refs + 1, 0, 0, []⟩], 0)
section
variable {g : Glob} {w : World} {l : List As} {p : Nat} {va : Value} {refs nd : Int} {xa : List ActV}
theorem trapF_none {a : PidD} {on : Bool} (h : liveAt nd xa a = none) : trapF nd xa a on = (xa, false) := by unfold trapF; rw [h]
theorem trapF_yes {a : PidD} {on : Bool} {x : ActV} (h : liveAt nd xa a = some x) : trapF nd xa a on = (xa.set (ix a) (x.setT on), x.trap) := by unfold trapF; rw [h]
theorem flat_setG {α γ : Type} {en : α → List γ} {y : α} : ∀ {xs : List α} {i : Nat} {x : α}, xs[i]? = some x → en y = en x → (xs.set i y).flatMap en = xs.flatMap en
  | [], _, _, h, _ => by cases h
  | z :: r, 0, x, h, he => by obtain rfl := Option.some.inj h; simp [he]
  | z :: r, i + 1, x, h, he => by simp only [List.set_cons_succ, List.flatMap_cons]; rw [flat_setG (by simpa using h) he]
theorem acts_set {i : Nat} {a a' : ActV} (h : xa[i]? = some a) (he : pcs a' = pcs a) : Acts (xa.set i a') = Acts xa := by unfold Acts; rw [flat_setG h he]
theorem trap_ (H : Sat g w (Pt p [.int .i64 nd, va, .int .i64 refs] 100 :: Sl 82 5 enAc va xa :: Acts xa :: l)) (a1 a2 : Int) (on : Bool) (hl : xa.length ≤ 16) (hq : -9223372036854775807 ≤ a2 ∧ a2 ≤ 9223372036854775807) : Fc Try.prog 21 #[.pointer (some ⟨p, 0, none⟩), .agg #[.int .i64 a1, .int .i64 a2], .bool on] w (fun r w' => ∃ b xa', r = .bool b ∧ trapF nd xa (a1, a2) on = (xa', b) ∧ Sat g w' (Pt p [.int .i64 nd, va, .int .i64 refs] 100 :: Sl 82 5 enAc va xa' :: Acts xa' :: l)) := by
  refine Fc.of Try.func21 rfl (by kernel_rfl) ?_
  cases hn : liveAt nd xa (a1, a2) with
  | none =>
    refine rBoxS H ?_
    clear H
    intro p1 w1 H
    refine rLdA (H.at 0 rfl) 0 rfl rfl rfl ?_
    refine H.fronts [2, 2] ?_
    clear H
    intro H
    refine CallP.mk (Fc.imp (Go.Proofs.Yticdhdpfimpmoaa.Proc.findN H _ _ ?_ ?_ ?_) ?_)
    · assumption
    · assumption
    · assumption
    clear H
    rintro _ w2 ⟨rfl, H⟩
    refine rPtrNil rfl ?_
    refine cT rfl ?_
    refine Done.mk ?_
    exact ⟨false, xa, rfl, trapF_none hn, H.del 2⟩
  | some x =>
    obtain ⟨hx, hal, hr⟩ := live_inv hn
    obtain ⟨t, lb, lf, ln, wa, wc, ws, hb, hf, hnn, rfl⟩ := live_is hal
    refine rBoxS H ?_
    clear H
    intro p1 w1 H
    refine rLdA (H.at 0 rfl) 0 rfl rfl rfl ?_
    refine H.fronts [2, 2] ?_
    clear H
    intro H
    refine CallP.mk (Fc.imp (Go.Proofs.Yticdhdpfimpmoaa.Proc.findY H _ _ ?_ _ hn) ?_)
    · assumption
    clear H
    rintro _ w2 ⟨b1, ⟨o1, ⟨rfl, ⟨h1, H⟩⟩⟩⟩
    refine rPtrNil rfl ?_
    refine cF rfl ?_
    refine rFieldAt rfl ?_
    refine rLd (H.el 1 rfl h1 hx) 1 rfl rfl rfl ?_
    refine rFieldAt rfl ?_
    refine rStE H 1 rfl h1 hx 1 (ActV.live on lb lf ln wa wc ws hb hf hnn) rfl rfl rfl rfl ?_
    clear H
    intro w9 H
    rw [← acts_set (a' := ActV.live on lb lf ln wa wc ws hb hf hnn) hx rfl] at H
    refine Done.mk ?_
    exact ⟨t, _, rfl, trapF_yes hn, H.del 2⟩
theorem watchF_none {a b : PidD} (h : liveAt nd xa a = none) : watchF nd refs xa a b = (refs, xa, 0, [], 28) := by unfold watchF; rw [h]
theorem watchF_bad {a b : PidD} {x : ActV} (h : liveAt nd xa a = some x) (hb : badP b) : watchF nd refs xa a b = (refs, xa, 0, [], 1) := by unfold watchF; rw [h]; exact if_pos hb
theorem watchF_full {a b : PidD} {x : ActV} (h : liveAt nd xa a = some x) (hb : ¬ badP b) (hr : refs = 64) : watchF nd refs xa a b = (refs, xa, 0, [], 16) := by unfold watchF; rw [h]; exact (if_neg hb).trans (if_pos hr)
theorem watchF_yes {a b : PidD} {x : ActV} (h : liveAt nd xa a = some x) (hb : ¬ badP b) (hr : refs ≠ 64) : watchF nd refs xa a b = (refs + 1, xa.set (ix a) (x.setH (upd x.hf (refs + 1) (some b)) (if x.hf (refs + 1) = none then x.hn + 1 else x.hn)), refs + 1, [⟨5, a, b, refs + 1, 0, 0, []⟩], 0) := by unfold watchF; rw [h]; exact (if_neg hb).trans (if_neg hr)
theorem watch_ (H : Sat g w (Pt p [.int .i64 nd, va, .int .i64 refs] 100 :: Sl 82 5 enAc va xa :: Acts xa :: l)) (a1 a2 b1 b2 : Int) (hl : xa.length ≤ 16) (hq : -9223372036854775807 ≤ a2 ∧ a2 ≤ 9223372036854775807) (hrf : 0 ≤ refs ∧ refs ≤ 64) : Fc Try.prog 25 #[.pointer (some ⟨p, 0, none⟩), .agg #[.int .i64 a1, .int .i64 a2], .agg #[.int .i64 b1, .int .i64 b2]] w (fun r w' => ∃ v refs' xa' ref sg e, r = .tuple #[.int .i64 ref, v, .int .i64 e] ∧ watchF nd refs xa (a1, a2) (b1, b2) = (refs', xa', ref, sg, e) ∧ Sat g w' (Sl 40 9 enSi v sg :: Pt p [.int .i64 nd, va, .int .i64 refs'] 100 :: Sl 82 5 enAc va xa' :: Acts xa' :: l)) := by
  refine Fc.of Try.func25 rfl (by kernel_rfl) ?_
  cases hn : liveAt nd xa (a1, a2) with
  | none =>
    refine rBoxS H ?_
    clear H
    intro p1 w1 H
    refine rBoxS H ?_
    clear H
    intro p2 w2 H
    clear w1
    refine rLdA (H.at 1 rfl) 0 rfl rfl rfl ?_
    refine rLdA (H.at 0 rfl) 0 rfl rfl rfl ?_
    refine H.fronts [3, 3] ?_
    clear H
    intro H
    refine CallP.mk (Fc.imp (Go.Proofs.Yticdhdpfimpmoaa.Proc.pairN H _ _ _ _ ?_ ?_ ?_) ?_)
    · assumption
    · assumption
    · assumption
    clear H
    rintro _ w1 ⟨e1, ⟨rfl, ⟨h1, H⟩⟩⟩
    refine cT (vNe_T (by omega)) ?_
    refine Done.mk ?_
    exact ⟨_, refs, xa, 0, [], _, rfl, by rw [h1]; exact watchF_none hn, ((H.del 2).del 2).sl0 (en := enSi) (s := 9) 40 (fun _ => rfl)⟩
  | some x =>
    obtain ⟨hx, hal, hr⟩ := live_inv hn
    obtain ⟨t, lb, lf, ln, wa, wc, ws, hb, hf, hnn, rfl⟩ := live_is hal
    by_cases hbad : badP (b1, b2)
    · refine rBoxS H ?_
      clear H
      intro p1 w1 H
      refine rBoxS H ?_
      clear H
      intro p2 w2 H
      clear w1
      refine rLdA (H.at 1 rfl) 0 rfl rfl rfl ?_
      refine rLdA (H.at 0 rfl) 0 rfl rfl rfl ?_
      refine H.fronts [3, 3] ?_
      clear H
      intro H
      refine CallP.mk (Fc.imp (Go.Proofs.Yticdhdpfimpmoaa.Proc.pairB H _ _ _ _ ?_ _ hn ?_) ?_)
      · assumption
      · assumption
      clear H
      rintro _ w1 ⟨e1, ⟨rfl, ⟨h1, H⟩⟩⟩
      refine cT (vNe_T (by omega)) ?_
      refine Done.mk ?_
      exact ⟨_, refs, xa, 0, [], _, rfl, by rw [h1]; exact watchF_bad hn hbad, ((H.del 2).del 2).sl0 (en := enSi) (s := 9) 40 (fun _ => rfl)⟩
    · by_cases hr64 : refs = 64
      · refine rBoxS H ?_
        clear H
        intro p1 w1 H
        refine rBoxS H ?_
        clear H
        intro p2 w2 H
        clear w1
        refine rLdA (H.at 1 rfl) 0 rfl rfl rfl ?_
        refine rLdA (H.at 0 rfl) 0 rfl rfl rfl ?_
        refine H.fronts [3, 3] ?_
        clear H
        intro H
        refine CallP.mk (Fc.imp (Go.Proofs.Yticdhdpfimpmoaa.Proc.pairY H _ _ _ _ ?_ _ hn ?_) ?_)
        · assumption
        · assumption
        clear H
        rintro _ w1 ⟨b3, ⟨o1, ⟨e1, ⟨rfl, ⟨h1, ⟨h2, H⟩⟩⟩⟩⟩⟩
        refine cF (vNe_F (by assumption)) ?_
        refine rFieldAt rfl ?_
        refine rLd (H.at 0 rfl) 2 rfl rfl rfl ?_
        refine cT (vEq_T (by assumption)) ?_
        refine Done.mk ?_
        exact ⟨_, refs, xa, 0, [], _, rfl, watchF_full hn hbad hr64, ((H.del 2).del 2).sl0 (en := enSi) (s := 9) 40 (fun _ => rfl)⟩
      · replace H := opened H hx
        simp only [pcs, List.cons_append, List.nil_append] at H
        refine rBoxS H ?_
        clear H
        intro p1 w1 H
        refine rBoxS H ?_
        clear H
        intro p2 w2 H
        clear w1
        refine rLdA (H.at 1 rfl) 0 rfl rfl rfl ?_
        refine rLdA (H.at 0 rfl) 0 rfl rfl rfl ?_
        refine H.fronts [7, 7] ?_
        clear H
        intro H
        refine CallP.mk (Fc.imp (Go.Proofs.Yticdhdpfimpmoaa.Proc.pairY H _ _ _ _ ?_ _ hn ?_) ?_)
        · assumption
        · assumption
        clear H
        rintro _ w1 ⟨b3, ⟨o1, ⟨e1, ⟨rfl, ⟨h1, ⟨h2, H⟩⟩⟩⟩⟩⟩
        refine cF (vNe_F (by assumption)) ?_
        refine rFieldAt rfl ?_
        refine rLd (H.at 0 rfl) 2 rfl rfl rfl ?_
        refine cF (vEq_F (by assumption)) ?_
        refine rFieldAt rfl ?_
        refine rLd (H.at 0 rfl) 2 rfl rfl rfl ?_
        refine eqI64 (by omega) ?_
        refine rFieldAt rfl ?_
        refine rStS H 0 rfl rfl rfl rfl ?_
        clear H
        intro w3 H
        clear w1
        refine drawzS H [] [(0, .pure), (1, .pure), (2, .pure), (3, .held), (4, .pure), (5, .pure), (6, .pure), (7, .held), (8, .held), (9, .free)] mixed (by kernel_rfl) (by kernel_rfl) ?_
        clear H
        intro w1 H
        clear w3
        refine tk (fun wx HS => rFieldAt rfl ⟨rfl, rfl⟩) ?_
        refine tk (fun wx HS => rLd (HS.el 1 rfl h2 hx) 4 rfl rfl rfl ⟨rfl, rfl⟩) ?_
        refine tk (fun wx HS => rFieldAt rfl ⟨rfl, rfl⟩) ?_
        refine tk (fun wx HS => rLd (HS.at 0 rfl) 2 rfl rfl rfl ⟨rfl, rfl⟩) ?_
        refine tk (fun wx HS => rLdA (HS.at 2 rfl) 0 rfl rfl rfl ⟨rfl, rfl⟩) ?_
        refine MG.rMapPut (v := ((b1), (b2))) H 6 rfl rfl (by first | exact keyInt | exact keyPid) ?_
        intro n1 hn1
        clear H
        intro w3 H
        clear w1
        refine drawzS H [] [(0, .pure), (1, .pure), (2, .pure), (3, .held), (4, .held), (5, .held), (6, .pure), (7, .pure), (8, .pure), (9, .held), (10, .pure), (12, .pure), (11, .forced), (13, .pure), (14, .pure)] mixed (by kernel_rfl) (by kernel_rfl) ?_
        clear H
        intro w1 H
        clear w3
        refine tk (fun wx HS => rFieldAt rfl ⟨rfl, rfl⟩) ?_
        refine tk (fun wx HS => rLd (HS.at 0 rfl) 2 rfl rfl rfl ⟨rfl, rfl⟩) ?_
        refine tk (fun wx HS => rLdA (HS.at 3 rfl) 0 rfl rfl rfl ⟨rfl, rfl⟩) ?_
        refine tk (fun wx HS => rLdA (HS.at 2 rfl) 0 rfl rfl rfl ⟨rfl, rfl⟩) ?_
        refine tk (fun wx HS => rFieldAt rfl ⟨rfl, rfl⟩) ?_
        refine tk (fun wx HS => rLd (HS.at 0 rfl) 2 rfl rfl rfl ⟨rfl, rfl⟩) ?_
        refine tk (fun wx HS => rBuild rfl rfl rfl ⟨rfl, rfl⟩) ?_
        refine rBuildSliceS H rfl rfl rfl rfl ?_
        clear H
        intro p3 w3 H
        clear w1
        refine KeepP.mk (H.drop 0 (fun H => H)) ?_
        refine H.ptSl (n := 1) (en := enSi) (s := 9) 0 rfl [(⟨5, (a1, a2), (b1, b2), refs + 1, 0, 0, []⟩ : SigD)] rfl rfl (fun _ => rfl) rfl ?_
        clear H
        intro H
        replace H := (((((((H.del 3).del 3).front (j := 2) rfl).front (j := 2) rfl).front (j := 6) rfl).front (j := 6) rfl).front (j := 6) rfl).front (j := 6) rfl
        subst hn1
        replace H := shut (a' := .live t lb lf ln wa wc ws hb (upd hf (refs + 1) (some (b1, b2))) (if hf (refs + 1) = none then hnn + 1 else hnn)) hx rfl H
        exact Done.mk ⟨_, _, _, _, _, 0, rfl, watchF_yes hn hbad hr64, H.front (j := 3) rfl⟩
end
end Go.Proofs.Yticdhdpfimpmoaa.Proc
/- Package proc: End, where Links is known. -/
set_option maxRecDepth 100000
set_option maxHeartbeats 4000000
set_option linter.unusedVariables false
set_option linter.unusedSimpArgs false
namespace Go.Proofs.Yticdhdpfimpmoaa.Proc
open Go Go.Proofs.Yticdhdpfimpmoaa.Eng Go.RowKit
open Go.Proofs.Yticdhdpfimpmoaa.Eng.MG
def enPd (x : PidD) : List Value := [.int .i64 x.1, .int .i64 x.2]
def pidLt (a b : PidD) : Prop := a.1 < b.1 ∨ (a.1 = b.1 ∧ a.2 < b.2)
/-- The keys, in order. -/
structure KeysOf (f : LF) (ks : List PidD) : Prop where
  ord : ks.Pairwise pidLt
  mem : ∀ k, k ∈ ks ↔ f k ≠ none
/-- What Links answers. -/
def LinksC : Prop := ∀ (g : Glob) (w : World) (l : List As) (p : Nat) (va : Value) (refs nd : Int) (xa : List ActV) (H : Sat g w (Pt p [.int .i64 nd, va, .int .i64 refs] 100 :: Sl 82 5 enAc va xa :: Acts xa :: l)) (q1 q2 : Int) (hl : xa.length ≤ 16) (x : ActV) (hn : liveAt nd xa (q1, q2) = some x) (hln : x.ln ≤ 12), Fc Try.prog 23 #[.pointer (some ⟨p, 0, none⟩), .agg #[.int .i64 q1, .int .i64 q2]] w (fun r w' => ∃ ks, KeysOf x.lf ks ∧ ks.length ≤ 12 ∧ Sat g w' (Sl 31 2 enPd r ks :: Pt p [.int .i64 nd, va, .int .i64 refs] 100 :: Sl 82 5 enAc va xa :: Acts xa :: l))
def exS (q : PidD) (why : Int) (k : PidD) : SigD := ⟨4, q, k, 0, why, 0, []⟩
def dnS (q : PidD) (why : Int) (x : PidD × Int) : SigD := ⟨6, q, x.1, x.2, why, 0, []⟩
/-- What End does. -/
structure EndR (nd : Int) (xa : List ActV) (q : PidD) (why : Int) (xa' : List ActV) (sg : List SigD) (e : Int) : Prop where
  no : liveAt nd xa q = none → xa' = xa ∧ sg = [] ∧ e = 28
  yes : ∀ x, liveAt nd xa q = some x → ∃ ks, KeysOf x.lf ks ∧ xa' = xa.set (ix q) .dead ∧ sg = ks.map (exS q why) ++ x.ws.map (dnS q why) ∧ e = 0
theorem EndR.mkN {nd : Int} {xa : List ActV} {q : PidD} {why : Int} (h : liveAt nd xa q = none) : EndR nd xa q why xa [] 28 := ⟨fun _ => ⟨rfl, rfl, rfl⟩, fun x hx => by rw [h] at hx; cases hx⟩
theorem EndR.mkY {nd : Int} {xa : List ActV} {q : PidD} {why : Int} {x : ActV} {ks : List PidD} (h : liveAt nd xa q = some x) (hk : KeysOf x.lf ks) : EndR nd xa q why (xa.set (ix q) .dead) (ks.map (exS q why) ++ x.ws.map (dnS q why)) 0 := by
  refine ⟨fun h2 => ?_, fun y hy => ?_⟩
  · rw [h] at h2; cases h2
  · rw [h] at hy
    obtain rfl := Option.some.inj hy
    exact ⟨ks, hk, rfl, rfl, rfl⟩
section
variable {g : Glob} {w : World} {l : List As} {p : Nat} {va : Value} {refs nd : Int} {xa : List ActV}
theorem map_step {α β : Type} {f : α → β} {xs : List α} {i : Nat} {x : α} {ys : List β} (hx : xs[i]? = some x) (h : ys = (xs.take i).map f) : ys ++ [f x] = (xs.take (i + 1)).map f := by
  rw [List.take_add_one, hx, List.map_append, h]; rfl
theorem end_ (hL : LinksC) (H : Sat g w (Pt p [.int .i64 nd, va, .int .i64 refs] 100 :: Sl 82 5 enAc va xa :: Acts xa :: l)) (q1 q2 why : Int) (hl : xa.length ≤ 16) (hq : -9223372036854775807 ≤ q2 ∧ q2 ≤ 9223372036854775807) (hx12 : ∀ x, liveAt nd xa (q1, q2) = some x → x.ln ≤ 12 ∧ x.ws.length ≤ 1000) : Fc Try.prog 12 #[.pointer (some ⟨p, 0, none⟩), .agg #[.int .i64 q1, .int .i64 q2], .int .i64 why] w (fun r w' => ∃ v xa' sg e, r = .tuple #[v, .int .i64 e] ∧ EndR nd xa (q1, q2) why xa' sg e ∧ Sat g w' (Sl 40 9 enSi v sg :: Pt p [.int .i64 nd, va, .int .i64 refs] 100 :: Sl 82 5 enAc va xa' :: Acts xa' :: l)) := by
  refine Fc.of Try.func12 rfl (by kernel_rfl) ?_
  cases hn : liveAt nd xa (q1, q2) with
  | none =>
    refine rBoxS H ?_
    clear H
    intro p1 w1 H
    refine rLdA (H.at 0 rfl) 0 rfl rfl rfl ?_
    refine H.fronts [2, 2] ?_
    clear H
    intro H
    refine CallP.mk (Fc.imp (Go.Proofs.Yticdhdpfimpmoaa.Proc.findN H _ _ ?_ ?_ ?_) ?_)
    · assumption
    · assumption
    · assumption
    clear H
    rintro _ w2 ⟨rfl, H⟩
    refine rPtrNil rfl ?_
    refine cT rfl ?_
    refine Done.mk ?_
    exact ⟨_, xa, [], 28, rfl, EndR.mkN hn, (H.del 2).sl0 (en := enSi) (s := 9) 40 (fun _ => rfl)⟩
  | some x =>
    obtain ⟨hx, hal, hr⟩ := live_inv hn
    obtain ⟨h12, hws⟩ := hx12 x hn
    unfold LinksC at hL
    refine rBoxS H ?_
    clear H
    intro p1 w1 H
    refine rLdA (H.at 0 rfl) 0 rfl rfl rfl ?_
    refine H.fronts [2, 2] ?_
    clear H
    intro H
    refine CallP.mk (Fc.imp (Go.Proofs.Yticdhdpfimpmoaa.Proc.findY H _ _ ?_ _ hn) ?_)
    · assumption
    clear H
    rintro _ w2 ⟨b1, ⟨o1, ⟨rfl, ⟨h1, H⟩⟩⟩⟩
    refine rPtrNil rfl ?_
    refine cF rfl ?_
    refine rLdA (H.at 2 rfl) 0 rfl rfl rfl ?_
    refine H.fronts [3, 2, 2] ?_
    clear H
    intro H
    refine CallP.mk (Fc.imp (hL _ _ _ (p) _ _ _ _ H _ _ ?_ _ hn ?_) ?_)
    · assumption
    · assumption
    clear H
    rintro v' w3 ⟨ks1, ⟨h2, ⟨h3, H⟩⟩⟩
    refine rLenS H 0 rfl rfl ?_
    replace H := H.sl0 (en := enSi) (s := 9) 40 (fun _ => rfl)
    refine LoopP.rule (α := Nat × Value × List SigD) (0, .slice none 0 0, []) (fun x_ => [(23, .int .i64 x_.1), (9, x_.2.1)]) (fun x_ w_ => (x_.1 ≤ ks1.length) ∧ (x_.2.2 = (ks1.take x_.1).map (exS (q1, q2) why)) ∧ Sat g w_ ((Sl 40 9 enSi x_.2.1 x_.2.2 :: Sl 31 2 enPd v' ks1 :: Pt p [.int .i64 nd, va, .int .i64 refs] 100 :: Sl 82 5 enAc va xa :: Acts xa :: Pt p1 [.int .i64 q1, .int .i64 q2] 31 :: l))) (fun x_ => ks1.length - x_.1) ?_ ?_ ?_
    · repeat first | exact mt_nil | refine mt_cons rfl ?_ | refine mt_i rfl (by first | omega | (simp only; omega) | (simp; omega) | (simp; done)) ?_
    · try simp only
      refine ⟨?_, ?_⟩
      · omega
      refine ⟨?_, ?_⟩
      · rfl
      exact H
    clear H
    rintro ⟨i, vo, sg⟩ f_ w_ ⟨hi, hs, H⟩
    try simp only at hi hs H ⊢
    have hsl : sg.length = i := by rw [hs, List.length_map, List.length_take]; omega
    rcases Nat.lt_or_ge i ks1.length with hlt | hge
    · obtain ⟨k, hk⟩ : ∃ k, ks1[i]? = some k := ⟨_, List.getElem?_eq_getElem hlt⟩
      refine cT (vLt_T (by omega)) ?_
      refine bk ?_
      obtain ⟨b2, o2, E1⟩ := H.elt 1 rfl (i) (by omega)
      refine rIxE E1 rfl rfl rfl ?_
      refine rLdA (H.el 1 rfl E1 hk) 0 rfl rfl rfl ?_
      refine rAllocS H rfl ?_
      clear H
      intro p2 w4 H
      clear w_
      refine rStAS H 0 rfl rfl rfl rfl ?_
      clear H
      intro w5 H
      clear w4
      refine rLdA (H.at 6 rfl) 0 rfl rfl rfl ?_
      refine rLdA (H.at 0 rfl) 0 rfl rfl rfl ?_
      refine rBuild rfl rfl rfl ?_
      refine rBuildSliceS H rfl rfl rfl rfl ?_
      clear H
      intro p3 w4 H
      clear w5
      refine rApS (ys := [⟨_, ⟨_, _⟩, ⟨_, _⟩, _, _, _, _⟩]) 80 H 2 rfl (H.at 0 rfl) rfl (fun y _ => rfl) rfl rfl rfl (by omega) (by omega) ?_
      intro v1
      clear H
      intro w5 H
      clear w4
      refine eqI64 (by omega) ?_
      refine Nxt.mk ((i + 1, v1, sg ++ [{ kind := 4, fr := (q1, q2), to_ := (k.fst, k.snd), ref := 0, why := why, tag := 0, body := [] }])) (mt_i rfl (by first | omega | (simp only; omega) | (simp; omega)) (mt_cons rfl (mt_nil))) ?_ ?_
      · refine ⟨?_, ?_⟩
        · assumption
        refine ⟨?_, ?_⟩
        · exact map_step hk hs
        refine H.fronts [7, 7, 7, 7, 7, 7] ?_
        clear H
        intro H
        refine H.drop 7 ?_
        clear H
        intro H
        refine H.drop 6 ?_
        clear H
        intro H
        exact H
      omega
    · rw [List.take_of_length_le hge] at hs
      obtain ⟨t, lb, lf, ln, wa, wc, ws, hb, hf, hnn, rfl⟩ := live_is hal
      replace H := opened (((H.front (j := 4) rfl).front (j := 4) rfl).front (j := 4) rfl) hx
      simp only [pcs, List.cons_append, List.nil_append] at H
      have hws : ws.length ≤ 1000 := hws
      have hwe : (ActV.live t lb lf ln wa wc ws hb hf hnn).ws.length = ws.length := rfl
      refine cF (vLt_F (by omega)) ?_
      refine rFieldAt rfl ?_
      refine rLd (H.el 5 rfl h1 hx) 3 rfl rfl rfl ?_
      refine rLenSl rfl ?_
      refine LoopP.rule (α := Nat × Value × List SigD) (0, vo, sg) (fun x_ => [(40, .int .i64 x_.1), (9, x_.2.1)]) (fun x_ w_ => (x_.1 ≤ ws.length) ∧ (x_.2.2 = sg ++ (ws.take x_.1).map (dnS (q1, q2) why)) ∧ Sat g w_ ((Sl 40 9 enSi x_.2.1 x_.2.2 :: Mg ekP ekI 0 lb lf ln :: Sl 84 3 enWt (.slice wa ws.length wc) ws :: Mg ekI ekP (0, 0) hb hf hnn :: Acts (xa.eraseIdx (ix (q1, q2))) :: Pt p [.int .i64 nd, va, .int .i64 refs] 100 :: Sl 82 5 enAc va xa :: Sl 31 2 enPd v' ks1 :: Pt p1 [.int .i64 q1, .int .i64 q2] 31 :: l))) (fun x_ => ws.length - x_.1) ?_ ?_ ?_
      · repeat first | exact mt_nil | refine mt_cons rfl ?_ | refine mt_i rfl (by first | omega | (simp only; omega) | (simp; omega) | (simp; done)) ?_
      · try simp only
        refine ⟨?_, ?_⟩
        · (simp)
        refine ⟨?_, ?_⟩
        · (simp)
        refine H.fronts [8, 8, 7, 7, 7, 7, 7, 7, 8] ?_
        clear H
        intro H
        exact H
      clear H
      rintro ⟨k, vp, sp⟩ f_ w_ ⟨hk, hs2, H⟩
      try simp only at hk hs2 H ⊢
      have hspl : sp.length = sg.length + k := by rw [hs2, List.length_append, List.length_map, List.length_take]; omega
      rcases Nat.lt_or_ge k ws.length with hlt | hge2
      · obtain ⟨y, hy⟩ : ∃ y, ws[k]? = some y := ⟨_, List.getElem?_eq_getElem hlt⟩
        refine cT (vLt_T (by omega)) ?_
        refine bk ?_
        obtain ⟨b2, o2, E1⟩ := H.elt 2 rfl (k) (by omega)
        refine rIxE E1 rfl rfl rfl ?_
        refine rLdA (H.el 2 rfl E1 hy) 0 rfl rfl rfl ?_
        refine rAllocS H rfl ?_
        clear H
        intro p2 w4 H
        clear w_
        refine rStAS H 0 rfl rfl rfl rfl ?_
        clear H
        intro w5 H
        clear w4
        refine rLdA (H.at 9 rfl) 0 rfl rfl rfl ?_
        refine rFieldAt rfl ?_
        refine rLdA (H.at 0 rfl) 0 rfl rfl rfl ?_
        refine rFieldAt rfl ?_
        refine rLd (H.at 0 rfl) 2 rfl rfl rfl ?_
        refine rBuild rfl rfl rfl ?_
        refine rBuildSliceS H rfl rfl rfl rfl ?_
        clear H
        intro p3 w4 H
        clear w5
        refine rApS (ys := [⟨_, ⟨_, _⟩, ⟨_, _⟩, _, _, _, _⟩]) 80 H 2 rfl (H.at 0 rfl) rfl (fun y _ => rfl) rfl rfl rfl (by omega) (by omega) ?_
        intro v1
        clear H
        intro w5 H
        clear w4
        refine eqI64 (by omega) ?_
        refine Nxt.mk ((k + 1, v1, sp ++ [{ kind := 6, fr := (q1, q2), to_ := (y.1.fst, y.1.snd), ref := y.2, why := why, tag := 0, body := [] }])) (mt_i rfl (by first | omega | (simp only; omega) | (simp; omega)) (mt_cons rfl (mt_nil))) ?_ ?_
        · refine ⟨?_, ?_⟩
          · assumption
          refine ⟨?_, ?_⟩
          · (rw [hs2, List.append_assoc]; exact congrArg (sg ++ ·) (map_step hy rfl))
          refine H.fronts [10, 10, 10, 10, 10, 10, 10, 10, 10] ?_
          clear H
          intro H
          refine H.drop 10 ?_
          clear H
          intro H
          refine H.drop 9 ?_
          clear H
          intro H
          exact H
        omega
      · refine cF (vLt_F (by omega)) ?_
        refine rBuild rfl rfl rfl ?_
        rw [List.take_of_length_le hge2, hs] at hs2
        refine rStEA H 6 rfl h1 hx 0 (ActV.dead) rfl rfl rfl rfl ?_
        clear H
        intro w9 H
        
        replace H := ((H.del 1).del 1).del 1
        have hi := (List.getElem?_eq_some_iff.1 hx).1
        replace H := Sat.actBack (a := ActV.dead) hi (H.front (j := 1) rfl)
        exact Done.mk ⟨_, _, _, 0, rfl, hs2 ▸ EndR.mkY hn h2, ((((H.front (j := 3) rfl).front (j := 3) rfl).front (j := 3) rfl).del 4).del 4⟩
end
end Go.Proofs.Yticdhdpfimpmoaa.Proc
/- slices.AppendSeq, slices.Collect over pids. -/
set_option maxRecDepth 100000
set_option linter.unusedVariables false
set_option linter.unusedSimpArgs false
namespace Go.Proofs.Yticdhdpfimpmoaa.Proc
open Go Go.RowKit Go.Maps Go.Sort Go.Shelf Go.Proofs.Yticdhdpfimpmoaa.Eng Go.Proofs.Yticdhdpfimpmoaa.Eng.MG
theorem pidInfo : ∃ i, Try.prog.info? 31 = some i ∧ i.zero = some (.agg #[.int .i64 0, .int .i64 0]) ∧ i.size = 2 ∧ i.bytes = 16 := ⟨_, rfl, rfl, rfl, rfl⟩
theorem cells2_new {W : World} {k : Nat} (hk : W.heap.size = k) {a b : Value} {t : TypeId} : ∀ j u, [a, b][j]? = some u → (W.alloc (.cells #[a, b] t)).cell? ((⟨k, 0, none⟩ : Addr).add j) = some u := by
  intro j u hu
  subst hk
  have hh : (W.alloc (.cells #[a, b] t)).heap[W.heap.size]? = some (.cells #[a, b] t (0, 0)) := World.alloc_heap_new W _
  match j, hu with
  | 0, hu => obtain rfl := Option.some.inj hu; rw [World.cell?, show ((⟨W.heap.size, 0, none⟩ : Addr).add 0).block = W.heap.size from rfl, hh]; rfl
  | 1, hu => obtain rfl := Option.some.inj hu; rw [World.cell?, show ((⟨W.heap.size, 0, none⟩ : Addr).add 1).block = W.heap.size from rfl, hh]; rfl
def pAssign : Code := (Code.region 2 #[{ dst := some 5, op := Op.alloc 31, type := 0, pos := "iter.go:51", after := #[], guard := none }, { dst := none, op := Op.store 31 (Operand.tmp 5) (Operand.tmp 7), type := 0, pos := "iter.go:51", after := #[{ on := 0, ground := Ground.data }, { on := 0, ground := Ground.phase }], guard := none }] false)
def pBody : Code := (Code.block 1 (Code.region 3 #[{ dst := some 8, op := Op.load 58 (Operand.tmp 2), type := 58, pos := "iter.go:52", after := #[], guard := none }, { dst := some 9, op := Op.load 31 (Operand.tmp 5), type := 31, pos := "iter.go:52", after := #[], guard := none }, { dst := some 10, op := Op.buildSlice 58 1 #[(0, Operand.tmp 9)], type := 58, pos := "iter.go:52", after := #[{ on := 1, ground := Ground.data }], guard := none }, { dst := some 11, op := Op.call { callee := Callee.builtin Builtin.append, args := #[Operand.tmp 8, Operand.tmp 10], argTypes := #[58, 58] }, type := 58, pos := "iter.go:52", after := #[{ on := 0, ground := Ground.data }, { on := 2, ground := Ground.data }], guard := none }, { dst := none, op := Op.store 58 (Operand.tmp 2) (Operand.tmp 11), type := 0, pos := "iter.go:52", after := #[{ on := 3, ground := Ground.data }, { on := 3, ground := Ground.chain }, { on := 0, ground := Ground.phase }, { on := 1, ground := Ground.phase }, { on := 2, ground := Ground.phase }, { on := 3, ground := Ground.phase }], guard := none }] false))
/-- The loop's record: AppendSeq's temporaries as they stood at the entering: 's' boxed in block Bs; sv: the iterator's value. -/
def pRec (fn : FuncId) (sv : Value) (Bs D : Nat) (st : LoopState) (pend : Option Code) : Loop :=
  { state := st, pending := pend, fn, tmps := #[.slice none 0 0, sv, .pointer (some ⟨Bs, 0, none⟩), undef, .slice none 0 0, undef, sv, undef, undef, undef, undef, undef, undef], params := #[7], assign := pAssign, body := pBody, defers := D }

/-- BETWEEN TWO ROUNDS: the box holds a slice that owns, in a block of the call's own, what has come so far; IT IS nil JUST AS LONG AS NOTHING HAS COME; nothing that lay before the call has turned. -/
structure PAt (w0 : World) (fn : FuncId) (sv : Value) (Bs l D : Nat) (ss : List PidD) (W : World) : Prop where
  box : ∃ v, W.heap[Bs]? = some (.cells #[v] (58) (0, 0)) ∧ W.ownsRow w0.heap.size (31) 2 v ss.length (ss.flatMap enPd) ∧ (v = .slice none 0 0 ↔ ss = [])
  L : W.heap[l]? = some (.loop (pRec fn sv Bs D .ready none))
  K : W.heap[D]? = some (.deferred (some []))
  below : Below w0.heap.size w0 W

theorem p_abides (w0 : World) (fn : FuncId) (sv : Value) (Bs l D B : Nat) (hB : w0.heap.size ≤ B) : AbidesFrom B (PAt w0 fn sv Bs l D) := fun s W W' row h hg hrow => by
  have hrow' : ∀ r, row = some r → ∃ o : Obj, W.heap[r]? = some o ∧ o.isWalk = true := fun r e => (hrow r e).2
  obtain ⟨v, hv, hr, hn⟩ := h.box
  exact ⟨⟨v, (grownBy_keeps hg hrow' hv rfl).trans hv, ownsRow_abides_a hr hg hrow', hn⟩, (grownBy_keeps hg hrow' h.L rfl).trans h.L, (grownBy_keeps hg hrow' h.K rfl).trans h.K,
    h.below.grown hg h.below.size (fun k e => Nat.le_trans hB (hrow k e).1)⟩

set_option maxRecDepth 100000 in
set_option maxHeartbeats 2000000 in
theorem pYield (F : Fence) (m : Nat) (w0 : World) (fn : FuncId) (hfn : F.fn fn) (sv : Value) (Bs l D : Nat) (hBl : Bs ≠ l) (hDl : D ≠ l) (hDB : D ≠ Bs) (h0B : w0.heap.size ≤ Bs) (h0l : w0.heap.size ≤ l)
    (N : Nat) (hN : N ≤ maxLen) (hNb : N * 16 ≤ 140737488355328) (ss : List PidD) (x : PidD) (W : World) (h : PAt w0 fn sv Bs l D ss W) (hlen : ss.length < N) :
    YieldAt F m Try.prog l #[ekP x] W fun e W' => e = .returned (.bool true) ∧ PAt w0 fn sv Bs l D (ss ++ [x]) W' ∧ KeepsWalks W W' := by
  have hne : 58 ≠ 31 := fun e => by revert e; decide
  obtain ⟨i0, hi, hz0, hz1, hz2⟩ := pidInfo
  obtain ⟨v, hv, hrow, _⟩ := h.box
  obtain ⟨x1, x2⟩ := x
  refine ⟨fn, #[.slice none 0 0, sv, .pointer (some ⟨Bs, 0, none⟩), undef, .slice none 0 0, undef, sv, ekP (x1, x2), undef, undef, undef, undef, undef], pAssign, pBody, by simpa [pRec] using run_yield (P := Try.prog) (args := #[ekP (x1, x2)]) h.L rfl, roundIn_of_wpIn hfn ?_⟩
  have hl : l < W.heap.size := (Array.getElem?_eq_some_iff.1 h.L).1
  obtain ⟨Wa, hWa⟩ : ∃ Wa, W.alloc (.cells #[.int .i64 x1, .int .i64 x2] 31) = Wa := ⟨_, rfl⟩
  have hga : W.grownBy Wa none := by rw [← hWa]; exact ⟨rfl, rfl, rfl, by simp, fun k hk _ => Below.heap_alloc _ _ k hk⟩
  have hA : PAt w0 fn sv Bs l D ss Wa := p_abides w0 fn sv Bs l D w0.heap.size (Nat.le_refl _) ss W Wa none h hga (fun r e => by cases e)
  have hka : KeepsWalks W Wa := by rw [← hWa]; exact KeepsWalks.alloc _ _
  have hcA : Wa.heap[W.heap.size]? = some (.cells #[.int .i64 x1, .int .i64 x2] 31 (0, 0)) := by rw [← hWa]; exact World.alloc_heap_new W _
  have hva : Wa.heap[Bs]? = some (.cells #[v] (58) (0, 0)) := (hga.block Bs (Array.getElem?_eq_some_iff.1 hv).1 (by simp)).trans hv
  have hrowa : Wa.ownsRow w0.heap.size (31) 2 v ss.length (ss.flatMap enPd) := by rw [← hWa]; exact hrow.alloc _
  have hbr := run_beginRound (P := Try.prog) hA.L rfl
  obtain ⟨W2, hW2⟩ : ∃ W2, Wa.putObj l (.loop { pRec fn sv Bs D .ready none with state := .busy }) = W2 := ⟨_, rfl⟩
  rw [hW2, ← hWa] at hbr
  have hg2 : Wa.grownBy W2 (some l) := by rw [← hW2]; exact grownBy_putObj_a _ _ _
  have hk2 : KeepsWalks W W2 := hka.trans (by rw [← hW2]; exact KeepsWalks.putObj _ hA.L rfl)
  have hv2 : W2.heap[Bs]? = some (.cells #[v] (58) (0, 0)) := by rw [← hW2]; exact (World.putObj_heap_other hBl).trans hva
  have hK2 : W2.heap[D]? = some (.deferred (some [])) := by rw [← hW2]; exact (World.putObj_heap_other hDl).trans hA.K
  have hA2 : W2.heap[W.heap.size]? = some (.cells #[.int .i64 x1, .int .i64 x2] 31 (0, 0)) := by rw [← hW2]; exact (World.putObj_heap_other (by omega)).trans hcA
  have hL2 : W2.heap[l]? = some (.loop { pRec fn sv Bs D .ready none with state := .busy }) := by rw [← hW2]; exact World.putObj_heap_same (Array.getElem?_eq_some_iff.1 hA.L).1
  have hrow2 : W2.ownsRow w0.heap.size (31) 2 v ss.length (ss.flatMap enPd) := hrowa.kept hg2 (ownsRow_ne_a hrowa hA.L (fun cur e => by first | cases e | exact hne (Obj.cells.inj e).2.1))
  have hb2 : Below w0.heap.size w0 W2 := hA.below.grown hg2 hA.below.size (fun k e => by cases e; exact h0l)
  have hcA1 : W2.cell? ⟨W.heap.size, 0, none⟩ = some (.int .i64 x1) := by rw [World.cell?, hA2]; rfl
  have hcA2 : W2.cell? ⟨W.heap.size, 1, none⟩ = some (.int .i64 x2) := by rw [World.cell?, hA2]; rfl
  obtain ⟨hc2, hf2⟩ := cell_of_box_a hv2
  have hBlt : Bs < W2.heap.size := (Array.getElem?_eq_some_iff.1 hv2).1
  have hl2 : l < W2.heap.size := (Array.getElem?_eq_some_iff.1 hL2).1
  have hDlt : D < W2.heap.size := (Array.getElem?_eq_some_iff.1 hK2).1
  have ne_of : ∀ {j : Nat} {o : Obj}, W2.heap[j]? = some o → (∀ cur, o ≠ .cells cur (31) (0, 0)) → some j ≠ v.ownBlock := fun hj hno => by
    rcases ownsRow_ne_a hrow2 hj hno with e | e
    · rw [e]; simp
    · exact fun e' => e e'.symm
  clear hW2 hWa
  unfold pAssign
  simp only [ekP]
  gi_wp2_with gi_round_op_a
  unfold pBody
  gi_wp2_with (first
    | (gi_at_builtin; refine wpListIn_append_own _ rfl _ _ (58) rfl w0.heap.size (31) i0 (.agg #[.int .i64 0, .int .i64 0]) 2 16 Try.underlying58 hi hz0 hz1 hz2 rfl (by decide) _ _ _ rfl (hrow2.alloc _) ⟨W2.heap.size, 0, none⟩ 1 1 [.int .i64 x1, .int .i64 x2] rfl rfl (cells2_new rfl) (by simp [Value.oneCell']) (by omega) (by omega) (by have := hb2.size; simp; omega) ?_; intro v' w3 hown' hg3 hnil3
       have hv3 : w3.heap[Bs]? = some (.cells #[v] (58) (0, 0)) := (hg3.block Bs (by simp; omega) (ne_of hv2 (fun cur e => by first | cases e | exact hne (Obj.cells.inj e).2.1))).trans ((Below.heap_alloc _ _ Bs hBlt).trans hv2)
       obtain ⟨hc3, hf3⟩ := cell_of_box_a hv3
       obtain ⟨g', cap', cur', rfl, hbase', hgb', hr1, hr2, hr3, hr4⟩ : ∃ g' cap' cur', v' = .slice (some ⟨g', 0, none⟩) (ss.length + 1) cap' ∧ w0.heap.size ≤ g' ∧ w3.heap[g']? = some (.cells cur' (31) (0, 0)) ∧ ss.length + 1 ≤ cap' ∧ cap' ≤ maxLen ∧ cur'.size = cap' * 2 ∧ cur'.toList.take ((ss.length + 1) * 2) = ss.flatMap enPd ++ [.int .i64 x1, .int .i64 x2] := by
         rcases hown'.2 with ⟨_, h0⟩ | h'
         · exact absurd h0 (by omega)
         · exact h'
       go_frame)
    | gi_round_op_a)
  have hg3' : (W2.alloc (.cells #[.int .i64 x1, .int .i64 x2] (31))).grownBy w3 v.ownBlock := hg3
  have hL3 : w3.heap[l]? = some (.loop { pRec fn sv Bs D .ready none with state := .busy }) := (hg3'.block l (by simp; omega) (ne_of hL2 (fun cur e => by first | cases e | exact hne (Obj.cells.inj e).2.1))).trans ((Below.heap_alloc _ _ l hl2).trans hL2)
  have hK3 : w3.heap[D]? = some (.deferred (some [])) := (hg3'.block D (by simp; omega) (ne_of hK2 (fun cur e => by first | cases e | exact hne (Obj.cells.inj e).2.1))).trans ((Below.heap_alloc _ _ D hDlt).trans hK2)
  obtain ⟨w4, hw4⟩ : ∃ w4, w3.setCell ⟨Bs, 0, none⟩ (.slice (some ⟨g', 0, none⟩) (ss.length + 1) cap') = w4 := ⟨_, rfl⟩
  rw [hw4]
  have hg4 : w3.grownBy w4 (some Bs) := by rw [← hw4]; exact grownBy_setCell0_a _ _ _
  have hv4 : w4.heap[Bs]? = some (.cells #[.slice (some ⟨g', 0, none⟩) (ss.length + 1) cap'] (58) (0, 0)) := by rw [← hw4]; exact heap_setCell_box_a _ hv3
  have hL4 : w4.heap[l]? = some (.loop { pRec fn sv Bs D .ready none with state := .busy }) := (hg4.block l (Array.getElem?_eq_some_iff.1 hL3).1 (fun e => hBl (by cases e; rfl))).trans hL3
  have hK4 : w4.heap[D]? = some (.deferred (some [])) := (hg4.block D (Array.getElem?_eq_some_iff.1 hK3).1 (fun e => hDB (by cases e; rfl))).trans hK3
  have hrow4 := hown'.kept hg4 (ownsRow_ne_a hown' hv3 (fun cur e => by first | cases e | exact hne (Obj.cells.inj e).2.1))
  have hl4 : l < w4.heap.size := (Array.getElem?_eq_some_iff.1 hL4).1
  have hb3 : Below w0.heap.size w0 w3 := (hb2.alloc hb2.size _).grown hg3' (by have := hb2.size; simp; omega) (fun k e => (hrow2.lt k e).1)
  have hb4 : Below w0.heap.size w0 w4 := hb3.grown hg4 hb3.size (fun k e => by cases e; exact h0B)
  have hk4 : KeepsWalks W w4 := ((hk2.trans (KeepsWalks.alloc _ _)).trans (KeepsWalks.of_grownBy hg3' (ownsRow_not_walk_a (hrow2.alloc _)))).trans (by rw [← hw4]; exact KeepsWalks.setCell _ _ _)
  clear hw4
  refine ⟨_, _, run_endRound none hL4, rfl, ⟨⟨_, (World.putObj_heap_other hBl).trans hv4, ?_, by simp⟩, World.putObj_heap_same hl4, (World.putObj_heap_other hDl).trans hK4, hb4.grown (grownBy_putObj_a _ _ _) hb4.size (fun k e => by cases e; exact h0l)⟩, hk4.trans (KeepsWalks.putObj _ hL4 rfl)⟩
  have := hrow4.kept (grownBy_putObj_a w4 l (.loop { { pRec fn sv Bs D .ready none with state := .busy } with state := if (none : Option Code).isNone then .ready else .done, pending := none })) (ownsRow_ne_a hrow4 hL4 (fun cur e => by first | cases e | exact hne (Obj.cells.inj e).2.1))
  simpa [enPd] using this


set_option maxRecDepth 100000 in
set_option maxHeartbeats 2000000 in
/-- **slices.AppendSeq(nil, seq), AGAINST WHATEVER ITERATOR VALUE THAT 'SeqGives'**: it hands back a slice that owns, in a block of the call's own, JUST WHAT THE ITERATOR GAVE, IN THAT ORDER; nil JUST WHERE IT GAVE NOTHING (as Go: 'slices.Collect' of nothing is nil); nothing that lay before the call has turned. -/
theorem pAppendSeq_in (F : Fence) (n : Nat) (h11 : F.fn (53)) (hro : F.round = none) (hn : 2 ≤ n) (g : Nat) (lb : Array Value) (hFg : F.fn g) (eg : ∀ args w, (callFunc g args).run Try.prog w = .ok (.enter g args) w)
    (S : List PidD → Prop) (N : Nat) (hN : N ≤ maxLen) (hNb : N * 16 ≤ 140737488355328) (w : World) (hseq : SeqGives F (n - 1) Try.prog g lb ekP S N w) :
    CallsIn F n Try.prog (53) #[.slice none 0 0, .func (.func g) #[] lb] w fun e w' => ∃ (v : Value) (ss : List PidD), e = .returned v ∧ S ss ∧ w'.ownsRow w.heap.size (31) 2 v ss.length (ss.flatMap enPd) ∧ (v = .slice none 0 0 ↔ ss = []) ∧ Below w.heap.size w w' := by
  have h1 : 1 ≤ n := by omega
  have hne : 58 ≠ 31 := fun e => by revert e; decide
  refine callsIn_of_wp_marks Try.func53 rfl h11 ?_ hro
  simp only [Try.ntmps53, List.size_toArray, List.length_cons, List.length_nil, Nat.reduceAdd, Nat.reduceSub, Array.replicate_succ, Array.replicate_zero, List.push_toArray, List.append_toArray, List.nil_append, List.cons_append]
  gi_wp2
  refine wpIn_rangeFunc ?_
  intro fn hfn
  rw [hro]
  obtain ⟨W0, hW0⟩ : ∃ W0, w.alloc (.cells #[.slice none 0 0] (58)) = W0 := ⟨_, rfl⟩
  have hs0 : W0.heap.size = w.heap.size + 1 := by rw [← hW0]; simp
  have hv0 : W0.heap[w.heap.size]? = some (.cells #[.slice none 0 0] (58) (0, 0)) := by rw [← hW0]; exact World.alloc_heap_new w _
  have hb0 : Below w.heap.size w W0 := by rw [← hW0]; exact (Below.refl _ w).alloc (Nat.le_refl _) _
  rw [hW0]
  obtain ⟨W1, hW1⟩ : ∃ W1, (W0.alloc (.deferred (some []))).alloc (.loop (pRec fn (.func (.func g) #[] lb) w.heap.size W0.heap.size .ready none)) = W1 := ⟨_, rfl⟩
  have hold : ∀ k, k < W0.heap.size → W1.heap[k]? = W0.heap[k]? := fun k hk => by
    rw [← hW1]; exact (Below.heap_alloc _ _ k (by simp; omega)).trans (Below.heap_alloc _ _ k hk)
  have hb1 : Below w.heap.size w W1 := by rw [← hW1]; exact (hb0.alloc hb0.size _).alloc (by have := hb0.size; simp; omega) _
  have hs1 : W1.heap.size = W0.heap.size + 2 := by rw [← hW1]; simp
  have hM : PAt w fn (.func (.func g) #[] lb) w.heap.size (W0.heap.size + 1) W0.heap.size [] W1 :=
    ⟨⟨_, (hold w.heap.size (by omega)).trans hv0, ⟨rfl, .inl ⟨rfl, rfl⟩⟩, by simp⟩,
     by rw [← hW1]; have := World.alloc_heap_new (W0.alloc (.deferred (some []))) (.loop (pRec fn (.func (.func g) #[] lb) w.heap.size W0.heap.size .ready none)); rwa [World.size_alloc] at this,
     by rw [← hW1]; exact (Below.heap_alloc _ _ _ (by simp)).trans (World.alloc_heap_new W0 _), hb1⟩
  refine ⟨W0.heap.size + 1, [{ target := .collected W0.heap.size, args := #[] }], W1, { target := .fn (.func g) lb, args := #[.func (.yield (W0.heap.size + 1)) #[] #[]] }, W1, g,
    #[.func (.yield (W0.heap.size + 1)) #[] #[]] ++ lb, W1, ?_, ?_, ?_, ?_, fun _ => h1, ?_⟩
  · rw [← hW1]; exact run_enterLoop_outer _ _ _ _ _
  · simp [resolve, go_sem]
  · intro f' hf'; simp [Target.leads] at hf'; subst hf'; exact hFg
  · simp [invoke, go_sem, eg]
  · refine (hseq (W0.heap.size + 1) (PAt w fn (.func (.func g) #[] lb) w.heap.size (W0.heap.size + 1) W0.heap.size) W1 hb1 (p_abides _ _ _ _ _ _ _ hb1.size)
      (fun pre x W hJ hl => pYield F (n - 1 - 1) w fn hfn _ w.heap.size (W0.heap.size + 1) W0.heap.size (by omega) (by omega) (by omega) (Nat.le_refl _) (by omega) N hN hNb pre x W hJ hl) hM).mono ?_
    rintro e W2 ⟨⟨v0, rfl⟩, ss, hS, h2⟩
    obtain ⟨v, hv, hrow, hnil⟩ := h2.box
    have hend := run_endLoop (P := Try.prog) h2.L (by simp [pRec])
    obtain ⟨W3, hW3⟩ : ∃ W3, W2.putObj (W0.heap.size + 1) (.loop { pRec fn (.func (.func g) #[] lb) w.heap.size W0.heap.size .ready none with state := .exhausted }) = W3 := ⟨_, rfl⟩
    rw [hW3] at hend
    have hg3 : W2.grownBy W3 (some (W0.heap.size + 1)) := by rw [← hW3]; exact grownBy_putObj_a _ _ _
    have hv3 : W3.heap[w.heap.size]? = some (.cells #[v] (58) (0, 0)) := by rw [← hW3]; exact (World.putObj_heap_other (by omega)).trans hv
    have hK3 : W3.heap[W0.heap.size]? = some (.deferred (some [])) := by rw [← hW3]; exact (World.putObj_heap_other (by omega)).trans h2.K
    have hrow3 := hrow.kept hg3 (ownsRow_ne_a hrow h2.L (fun cur e => by first | cases e | exact hne (Obj.cells.inj e).2.1))
    have hb3 : Below w.heap.size w W3 := h2.below.grown hg3 h2.below.size (fun k e => by cases e; omega)
    obtain ⟨hc3, hf3⟩ := cell_of_box_a hv3
    clear hW3
    refine ⟨none, W3, hend, ?_⟩
    gi_wp2
    rw [← hs0]
    refine ⟨by simp, .inl ⟨_, _, rfl, run_takeDeferred hK3, ?_⟩⟩
    exact ⟨_, results_tmp rfl _ _ _, v, ss, rfl, hS, hrow3.kept (grownBy_putObj_a _ _ _) (ownsRow_ne_a hrow3 hK3 (fun cur e => by first | cases e | exact hne (Obj.cells.inj e).2.1)), hnil, hb3.grown (grownBy_putObj_a _ _ _) hb3.size (fun k e => by cases e; omega)⟩


set_option maxHeartbeats 1000000 in
/-- **slices.Collect(seq), AGAINST WHATEVER ITERATOR VALUE.** -/
theorem pCollect_in (F : Fence) (n : Nat) (h8 : F.fn (45)) (h11 : F.fn (53)) (hro : F.round = none) (hn : 3 ≤ n) (g : Nat) (lb : Array Value) (hFg : F.fn g) (eg : ∀ args w, (callFunc g args).run Try.prog w = .ok (.enter g args) w)
    (S : List PidD → Prop) (N : Nat) (hN : N ≤ maxLen) (hNb : N * 16 ≤ 140737488355328) (w : World) (hseq : SeqGives F (n - 1 - 1) Try.prog g lb ekP S N w) :
    CallsIn F n Try.prog (45) #[.func (.func g) #[] lb] w fun e w' => ∃ (v : Value) (ss : List PidD), e = .returned v ∧ S ss ∧ w'.ownsRow w.heap.size (31) 2 v ss.length (ss.flatMap enPd) ∧ (v = .slice none 0 0 ↔ ss = []) ∧ Below w.heap.size w w' := by
  have h1 : 1 ≤ n := by omega
  have e11 : ∀ args w, (callFunc (53) args).run Try.prog w = .ok (.enter (53) args) w := enters_of Try.func53 (by kernel_rfl) rfl
  refine callsIn_of_wp Try.func45 rfl h8 ?_ hro
  simp only [Try.ntmps45, List.size_toArray, List.length_cons, List.length_nil, Nat.reduceAdd, Nat.reduceSub, Array.replicate_succ, Array.replicate_zero, List.push_toArray, List.append_toArray, List.nil_append, List.cons_append]
  gi_wp2_with (gi_at_fn (53); refine (pAppendSeq_in F (n - 1) h11 hro (by omega) g lb hFg eg S N hN hNb _ hseq).mono ?_; rintro e w' ⟨v, ss, rfl, hS, hrow, hnil, hb⟩)
  go_ret
  exact ⟨v, ss, rfl, hS, hrow, hnil, hb⟩

end Go.Proofs.Yticdhdpfimpmoaa.Proc
/- Package proc: missed, exit. -/
set_option maxRecDepth 100000
set_option maxHeartbeats 4000000
set_option linter.unusedVariables false
set_option linter.unusedSimpArgs false
namespace Go.Proofs.Yticdhdpfimpmoaa.Proc
open Go Go.Proofs.Yticdhdpfimpmoaa.Eng Go.RowKit
open Go.Proofs.Yticdhdpfimpmoaa.Eng.MG
theorem byteIsI {x : Int} (h : 0 ≤ x ∧ x ≤ 255) : x = ((UInt8.ofNat x.toNat).toNat : Int) := by
  rw [UInt8.toNat_ofNat']; omega
structure EffD where
  fr : PidD
  tag : Int
  body : List UInt8
  got : Bool
  lost : Bool
  died : Bool
  why : Int
  out : List SigD
def eff0 : EffD := ⟨(0, 0), 0, [], false, false, false, 0, []⟩
def missedF (s : SigD) : EffD := if s.kind = 1 then { eff0 with lost := true } else if s.kind = 2 then { eff0 with out := [⟨4, s.to_, s.fr, 0, 28, 0, []⟩] } else if s.kind = 5 then { eff0 with out := [⟨6, s.to_, s.fr, s.ref, 28, 0, []⟩] } else eff0
section
variable {g : Glob} {w : World} {l : List As} {p : Nat} {va : Value} {refs nd : Int} {xa : List ActV}
theorem ms1 {s : SigD} (h : s.kind = 1) : missedF s = { eff0 with lost := true } := if_pos h
theorem ms2 {s : SigD} (h : s.kind = 2) : missedF s = { eff0 with out := [⟨4, s.to_, s.fr, 0, 28, 0, []⟩] } := by unfold missedF; rw [if_neg (by omega), if_pos h]
theorem ms5 {s : SigD} (h : s.kind = 5) : missedF s = { eff0 with out := [⟨6, s.to_, s.fr, s.ref, 28, 0, []⟩] } := by unfold missedF; rw [if_neg (by omega), if_neg (by omega), if_pos h]
theorem ms0 {s : SigD} (h1 : s.kind ≠ 1) (h2 : s.kind ≠ 2) (h5 : s.kind ≠ 5) : missedF s = eff0 := by unfold missedF; rw [if_neg h1, if_neg h2, if_neg h5]
theorem missed_ (H : Sat g w l) (s : SigD) : Fc Try.prog 43 #[.agg #[.int .i64 s.kind, .int .i64 s.fr.1, .int .i64 s.fr.2, .int .i64 s.to_.1, .int .i64 s.to_.2, .int .i64 s.ref, .int .i64 s.why, .int .i64 s.tag, .string (bs s.body)]] w (fun r w' => ∃ (f : EffD) (vo : Value), r = .agg #[.int .i64 f.fr.1, .int .i64 f.fr.2, .int .i64 f.tag, .string (bs f.body), .bool f.got, .bool f.lost, .bool f.died, .int .i64 f.why, vo] ∧ f = missedF s ∧ Sat g w' (Sl 40 9 enSi vo f.out :: l)) := by
  refine Fc.of Try.func43 rfl (by kernel_rfl) ?_
  by_cases k1 : s.kind = 1
  · refine rBoxS H ?_
    clear H
    intro p1 w1 H
    refine rAllocS H rfl ?_
    clear H
    intro p2 w2 H
    clear w1
    refine rFieldAt rfl ?_
    refine rLdA (H.at 1 rfl) 3 rfl rfl rfl ?_
    refine rFieldAt rfl ?_
    refine rLdA (H.at 1 rfl) 1 rfl rfl rfl ?_
    refine rBuild rfl rfl rfl ?_
    refine rAllocS H rfl ?_
    clear H
    intro p3 w1 H
    clear w2
    refine rStAS H 0 rfl rfl rfl rfl ?_
    clear H
    intro w2 H
    clear w1
    refine rFieldAt rfl ?_
    refine rLd (H.at 2 rfl) 0 rfl rfl rfl ?_
    refine bk ?_
    refine cT (vEq_T (by assumption)) ?_
    refine rBuild rfl rfl rfl ?_
    refine rStAS H 1 rfl rfl rfl rfl ?_
    clear H
    intro w1 H
    clear w2
    refine rdAN (H.at 1 rfl) 0 rfl rfl rfl ?_
    refine Done.mk ?_
    exact ⟨{ eff0 with lost := true }, .slice none 0 0, rfl, (ms1 k1).symm, (((H.del 0).del 0).del 0).sl0 (en := enSi) (s := 9) 40 (fun _ => rfl)⟩
  by_cases k2 : s.kind = 2
  · refine rBoxS H ?_
    clear H
    intro p1 w1 H
    refine rAllocS H rfl ?_
    clear H
    intro p2 w2 H
    clear w1
    refine rFieldAt rfl ?_
    refine rLdA (H.at 1 rfl) 3 rfl rfl rfl ?_
    refine rFieldAt rfl ?_
    refine rLdA (H.at 1 rfl) 1 rfl rfl rfl ?_
    refine rBuild rfl rfl rfl ?_
    refine rAllocS H rfl ?_
    clear H
    intro p3 w1 H
    clear w2
    refine rStAS H 0 rfl rfl rfl rfl ?_
    clear H
    intro w2 H
    clear w1
    refine rFieldAt rfl ?_
    refine rLd (H.at 2 rfl) 0 rfl rfl rfl ?_
    refine bk ?_
    refine cF (vEq_F (by assumption)) ?_
    refine cT (vEq_T (by assumption)) ?_
    refine rFieldAt rfl ?_
    refine rStS H 0 rfl rfl rfl rfl ?_
    clear H
    intro w1 H
    clear w2
    refine rLdA (H.at 0 rfl) 0 rfl rfl rfl ?_
    refine rBuildSliceS H rfl rfl rfl rfl ?_
    clear H
    intro p4 w2 H
    clear w1
    refine rBuild rfl rfl rfl ?_
    refine rStAS H 2 rfl rfl rfl rfl ?_
    clear H
    intro w1 H
    clear w2
    refine rdAN (H.at 2 rfl) 0 rfl rfl rfl ?_
    refine H.ptSl (n := 1) (en := enSi) (s := 9) 0 rfl [(⟨4, s.to_, s.fr, 0, 28, 0, []⟩ : SigD)] rfl rfl (fun _ => rfl) rfl ?_
    clear H
    intro H
    exact Done.mk ⟨{ eff0 with out := [⟨4, s.to_, s.fr, 0, 28, 0, []⟩] }, _, rfl, (ms2 k2).symm, ((H.del 1).del 1).del 1⟩
  by_cases k5 : s.kind = 5
  · refine rBoxS H ?_
    clear H
    intro p1 w1 H
    refine rAllocS H rfl ?_
    clear H
    intro p2 w2 H
    clear w1
    refine rFieldAt rfl ?_
    refine rLdA (H.at 1 rfl) 3 rfl rfl rfl ?_
    refine rFieldAt rfl ?_
    refine rLdA (H.at 1 rfl) 1 rfl rfl rfl ?_
    refine rBuild rfl rfl rfl ?_
    refine rAllocS H rfl ?_
    clear H
    intro p3 w1 H
    clear w2
    refine rStAS H 0 rfl rfl rfl rfl ?_
    clear H
    intro w2 H
    clear w1
    refine rFieldAt rfl ?_
    refine rLd (H.at 2 rfl) 0 rfl rfl rfl ?_
    refine bk ?_
    refine cF (vEq_F (by assumption)) ?_
    refine cF (vEq_F (by assumption)) ?_
    refine cT (vEq_T (by assumption)) ?_
    refine drawzS H [0] [(0, .pure), (1, .held), (2, .pure), (3, .forced), (4, .pure), (5, .free)] mixed (by kernel_rfl) (by kernel_rfl) ?_
    clear H
    intro w1 H
    clear w2
    refine tk (fun wx HS => rFieldAt rfl ⟨rfl, rfl⟩) ?_
    refine tk (fun wx HS => rLd (HS.at 1 rfl) 5 rfl rfl rfl ⟨rfl, rfl⟩) ?_
    refine tk (fun wx HS => rFieldAt rfl ⟨rfl, rfl⟩) ?_
    refine rStS H 0 rfl rfl rfl rfl ?_
    clear H
    intro w2 H
    clear w1
    refine KeepP.mk (H.drop 0 (fun H => H)) ?_
    refine tk (fun wx HS => rFieldAt rfl ⟨rfl, rfl⟩) ?_
    refine rStS H 0 rfl rfl rfl rfl ?_
    clear H
    intro w1 H
    clear w2
    refine rLdA (H.at 0 rfl) 0 rfl rfl rfl ?_
    refine rBuildSliceS H rfl rfl rfl rfl ?_
    clear H
    intro p4 w2 H
    clear w1
    refine rBuild rfl rfl rfl ?_
    refine rStAS H 2 rfl rfl rfl rfl ?_
    clear H
    intro w1 H
    clear w2
    refine rdAN (H.at 2 rfl) 0 rfl rfl rfl ?_
    refine H.ptSl (n := 1) (en := enSi) (s := 9) 0 rfl [(⟨6, s.to_, s.fr, s.ref, 28, 0, []⟩ : SigD)] rfl rfl (fun _ => rfl) rfl ?_
    clear H
    intro H
    exact Done.mk ⟨{ eff0 with out := [⟨6, s.to_, s.fr, s.ref, 28, 0, []⟩] }, _, rfl, (ms5 k5).symm, ((H.del 1).del 1).del 1⟩
  · refine rBoxS H ?_
    clear H
    intro p1 w1 H
    refine rAllocS H rfl ?_
    clear H
    intro p2 w2 H
    clear w1
    refine rFieldAt rfl ?_
    refine rLdA (H.at 1 rfl) 3 rfl rfl rfl ?_
    refine rFieldAt rfl ?_
    refine rLdA (H.at 1 rfl) 1 rfl rfl rfl ?_
    refine rBuild rfl rfl rfl ?_
    refine rAllocS H rfl ?_
    clear H
    intro p3 w1 H
    clear w2
    refine rStAS H 0 rfl rfl rfl rfl ?_
    clear H
    intro w2 H
    clear w1
    refine rFieldAt rfl ?_
    refine rLd (H.at 2 rfl) 0 rfl rfl rfl ?_
    refine bk ?_
    refine cF (vEq_F (by assumption)) ?_
    refine cF (vEq_F (by assumption)) ?_
    refine cF (vEq_F (by assumption)) ?_
    refine rBuild rfl rfl rfl ?_
    refine rStAS H 1 rfl rfl rfl rfl ?_
    clear H
    intro w1 H
    clear w2
    refine rdAN (H.at 1 rfl) 0 rfl rfl rfl ?_
    refine Done.mk ?_
    exact ⟨eff0, .slice none 0 0, rfl, (ms0 k1 k2 k5).symm, (((H.del 0).del 0).del 0).sl0 (en := enSi) (s := 9) 40 (fun _ => rfl)⟩
/-- What an exit does to one who is alive. -/
structure ExR (nd : Int) (xa : List ActV) (s : SigD) (x : ActV) (xa' : List ActV) (f : EffD) : Prop where
  no : x.lf s.fr = none → xa' = xa ∧ f = eff0
  trap : x.lf s.fr ≠ none → x.trap = true → xa' = xa.set (ix s.to_) (x.setL (upd x.lf s.fr none) (x.ln - 1)) ∧ f = { eff0 with fr := s.fr, tag := 62, body := [UInt8.ofNat (s.why % 256).toNat], got := true }
  calm : x.lf s.fr ≠ none → x.trap = false → s.why = 0 → xa' = xa.set (ix s.to_) (x.setL (upd x.lf s.fr none) (x.ln - 1)) ∧ f = eff0
  dies : x.lf s.fr ≠ none → x.trap = false → s.why ≠ 0 → ∃ sg e, EndR nd (xa.set (ix s.to_) (x.setL (upd x.lf s.fr none) (x.ln - 1))) s.to_ s.why xa' sg e ∧ f = { eff0 with died := true, why := s.why, out := sg }
theorem live_set {q : PidD} {x y : ActV} (hn : liveAt nd xa q = some x) (hy : y.alive = true) : liveAt nd (xa.set (ix q) y) q = some y := by
  obtain ⟨hx, hal, hr⟩ := live_inv hn
  have hi := (List.getElem?_eq_some_iff.1 hx).1
  unfold liveAt
  rw [if_pos (by rw [List.length_set]; exact hr)]
  have : (xa.set (ix q) y)[(q.2 - 1).toNat]? = some y := List.getElem?_set_self hi
  rw [this]
  exact if_pos hy
theorem live_rng {q : PidD} {x : ActV} (hn : liveAt nd xa q = some x) (hl : xa.length ≤ 16) : -9223372036854775807 ≤ q.2 ∧ q.2 ≤ 9223372036854775807 := by
  obtain ⟨hx, hal, hr⟩ := live_inv hn
  omega
theorem exit_ (hL : LinksC) (H : Sat g w (Pt p [.int .i64 nd, va, .int .i64 refs] 100 :: Sl 82 5 enAc va xa :: Acts xa :: l)) (s : SigD) (hl : xa.length ≤ 16) (x : ActV) (hn : liveAt nd xa s.to_ = some x) (hx12 : x.ln ≤ 12 ∧ x.ws.length ≤ 1000) (hwy : -9223372036854775808 ≤ s.why ∧ s.why ≤ 9223372036854775807) (b o : Nat) (hE : El va 5 (ix s.to_) b o) : Fc Try.prog 44 #[.pointer (some ⟨p, 0, none⟩), .pointer (some ⟨b, o, none⟩), .agg #[.int .i64 s.kind, .int .i64 s.fr.1, .int .i64 s.fr.2, .int .i64 s.to_.1, .int .i64 s.to_.2, .int .i64 s.ref, .int .i64 s.why, .int .i64 s.tag, .string (bs s.body)]] w (fun r w' => ∃ (f : EffD) (vo : Value) (xa' : List ActV), r = .agg #[.int .i64 f.fr.1, .int .i64 f.fr.2, .int .i64 f.tag, .string (bs f.body), .bool f.got, .bool f.lost, .bool f.died, .int .i64 f.why, vo] ∧ ExR nd xa s x xa' f ∧ Sat g w' (Sl 40 9 enSi vo f.out :: Pt p [.int .i64 nd, va, .int .i64 refs] 100 :: Sl 82 5 enAc va xa' :: Acts xa' :: l)) := by
  obtain ⟨hx, hal, hr⟩ := live_inv hn
  obtain ⟨t, lb, lf, ln, wa, wc, ws, hb, hf, hnn, rfl⟩ := live_is hal
  refine Fc.of Try.func44 rfl (by kernel_rfl) ?_
  replace H := opened H hx
  simp only [pcs, List.cons_append, List.nil_append] at H
  have hbk : 0 ≤ s.why % 256 ∧ s.why % 256 ≤ 255 := by omega
  cases hlb : lf s.fr with
  | none =>
    have hlb2 : lf (s.fr.1, s.fr.2) = none := hlb
    refine rBoxS H ?_
    clear H
    intro p1 w1 H
    refine rAllocS H rfl ?_
    clear H
    intro p2 w2 H
    clear w1
    refine drawzS H [] [(0, .pure), (1, .pure), (2, .pure), (3, .held), (4, .pure), (5, .held), (6, .held), (7, .pure), (8, .pure), (9, .pure), (10, .pure), (11, .pure)] mixed (by kernel_rfl) (by kernel_rfl) ?_
    clear H
    intro w1 H
    clear w2
    refine tk (fun wx HS => rFieldAt rfl ⟨rfl, rfl⟩) ?_
    refine tk (fun wx HS => rLd (HS.el 7 rfl hE hx) 2 rfl rfl rfl ⟨rfl, rfl⟩) ?_
    refine tk (fun wx HS => rFieldAt rfl ⟨rfl, rfl⟩) ?_
    refine tk (fun wx HS => rLdA (HS.at 1 rfl) 1 rfl rfl rfl ⟨rfl, rfl⟩) ?_
    refine tk (fun wx HS => MG.rMapGetN (k := ((s.fr.fst), (s.fr.snd))) HS 2 rfl hlb2 rfl (by first | exact keyInt | exact keyPid) rfl ⟨rfl, rfl⟩) ?_
    refine cT rfl ?_
    refine rBuild rfl rfl rfl ?_
    refine rStAS H 0 rfl rfl rfl rfl ?_
    clear H
    intro w2 H
    clear w1
    refine rdAN (H.at 0 rfl) 0 rfl rfl rfl ?_
    replace H := ((H.del 0).del 0)
    replace H := shut0 hx H
    exact Done.mk ⟨eff0, .slice none 0 0, xa, rfl, ⟨fun _ => ⟨rfl, rfl⟩, fun h => absurd hlb h, fun h => absurd hlb h, fun h => absurd hlb h⟩, H.sl0 (en := enSi) (s := 9) 40 (fun _ => rfl)⟩
  | some z =>
    have hlb2 : lf (s.fr.1, s.fr.2) = some z := hlb
    have hne : lf s.fr ≠ none := by rw [hlb]; nofun
    cases t
    · have htr : (ActV.live false lb lf ln wa wc ws hb hf hnn).trap = false := rfl
      by_cases h0 : s.why = 0
      · refine rBoxS H ?_
        clear H
        intro p1 w1 H
        refine rAllocS H rfl ?_
        clear H
        intro p2 w2 H
        clear w1
        refine drawzS H [] [(0, .pure), (1, .pure), (2, .pure), (3, .held), (4, .pure), (5, .held), (6, .held), (7, .pure), (8, .pure), (9, .pure), (10, .pure), (11, .pure)] mixed (by kernel_rfl) (by kernel_rfl) ?_
        clear H
        intro w1 H
        clear w2
        refine tk (fun wx HS => rFieldAt rfl ⟨rfl, rfl⟩) ?_
        refine tk (fun wx HS => rLd (HS.el 7 rfl hE hx) 2 rfl rfl rfl ⟨rfl, rfl⟩) ?_
        refine tk (fun wx HS => rFieldAt rfl ⟨rfl, rfl⟩) ?_
        refine tk (fun wx HS => rLdA (HS.at 1 rfl) 1 rfl rfl rfl ⟨rfl, rfl⟩) ?_
        refine tk (fun wx HS => MG.rMapGetY (k := ((s.fr.fst), (s.fr.snd))) HS 2 rfl hlb2 rfl (by first | exact keyInt | exact keyPid) rfl ⟨rfl, rfl⟩) ?_
        refine cF rfl ?_
        refine drawzS H [] [(0, .pure), (1, .pure), (2, .pure), (3, .held), (4, .pure), (5, .held), (6, .free)] mixed (by kernel_rfl) (by kernel_rfl) ?_
        clear H
        intro w2 H
        clear w1
        refine tk (fun wx HS => rFieldAt rfl ⟨rfl, rfl⟩) ?_
        refine tk (fun wx HS => rLd (HS.el 7 rfl hE hx) 2 rfl rfl rfl ⟨rfl, rfl⟩) ?_
        refine tk (fun wx HS => rFieldAt rfl ⟨rfl, rfl⟩) ?_
        refine tk (fun wx HS => rLdA (HS.at 1 rfl) 1 rfl rfl rfl ⟨rfl, rfl⟩) ?_
        refine MG.rMapDel (k := ((s.fr.fst), (s.fr.snd))) H 2 rfl rfl (by first | exact keyInt | exact keyPid) ?_
        intro n1 hn1
        clear H
        intro w1 H
        clear w2
        refine bk ?_
        refine rFieldAt rfl ?_
        refine rLd (H.el 7 rfl hE hx) 1 rfl rfl rfl ?_
        refine cF ((by assumption)) ?_
        refine rFieldAt rfl ?_
        refine rLd (H.at 1 rfl) 6 rfl rfl rfl ?_
        refine cT (vEq_T (by assumption)) ?_
        refine rBuild rfl rfl rfl ?_
        refine rStAS H 0 rfl rfl rfl rfl ?_
        clear H
        intro w2 H
        clear w1
        refine rdAN (H.at 0 rfl) 0 rfl rfl rfl ?_
        rw [if_neg (by rw [hlb2]; nofun)] at hn1
        subst hn1
        replace H := ((H.del 0).del 0)
        replace H := shut (a' := .live false lb (upd lf s.fr none) (ln - 1) wa wc ws hb hf hnn) hx rfl H
        exact Done.mk ⟨eff0, .slice none 0 0, _, rfl, ⟨fun h => absurd h hne, fun _ h => (Bool.noConfusion (htr.symm.trans h)), fun _ _ _ => ⟨rfl, rfl⟩, fun _ _ h => absurd h0 h⟩, H.sl0 (en := enSi) (s := 9) 40 (fun _ => rfl)⟩
      · refine rBoxS H ?_
        clear H
        intro p1 w1 H
        refine rAllocS H rfl ?_
        clear H
        intro p2 w2 H
        clear w1
        refine drawzS H [] [(0, .pure), (1, .pure), (2, .pure), (3, .held), (4, .pure), (5, .held), (6, .held), (7, .pure), (8, .pure), (9, .pure), (10, .pure), (11, .pure)] mixed (by kernel_rfl) (by kernel_rfl) ?_
        clear H
        intro w1 H
        clear w2
        refine tk (fun wx HS => rFieldAt rfl ⟨rfl, rfl⟩) ?_
        refine tk (fun wx HS => rLd (HS.el 7 rfl hE hx) 2 rfl rfl rfl ⟨rfl, rfl⟩) ?_
        refine tk (fun wx HS => rFieldAt rfl ⟨rfl, rfl⟩) ?_
        refine tk (fun wx HS => rLdA (HS.at 1 rfl) 1 rfl rfl rfl ⟨rfl, rfl⟩) ?_
        refine tk (fun wx HS => MG.rMapGetY (k := ((s.fr.fst), (s.fr.snd))) HS 2 rfl hlb2 rfl (by first | exact keyInt | exact keyPid) rfl ⟨rfl, rfl⟩) ?_
        refine cF rfl ?_
        refine drawzS H [] [(0, .pure), (1, .pure), (2, .pure), (3, .held), (4, .pure), (5, .held), (6, .free)] mixed (by kernel_rfl) (by kernel_rfl) ?_
        clear H
        intro w2 H
        clear w1
        refine tk (fun wx HS => rFieldAt rfl ⟨rfl, rfl⟩) ?_
        refine tk (fun wx HS => rLd (HS.el 7 rfl hE hx) 2 rfl rfl rfl ⟨rfl, rfl⟩) ?_
        refine tk (fun wx HS => rFieldAt rfl ⟨rfl, rfl⟩) ?_
        refine tk (fun wx HS => rLdA (HS.at 1 rfl) 1 rfl rfl rfl ⟨rfl, rfl⟩) ?_
        refine MG.rMapDel (k := ((s.fr.fst), (s.fr.snd))) H 2 rfl rfl (by first | exact keyInt | exact keyPid) ?_
        intro n1 hn1
        clear H
        intro w1 H
        clear w2
        refine bk ?_
        refine rFieldAt rfl ?_
        refine rLd (H.el 7 rfl hE hx) 1 rfl rfl rfl ?_
        refine cF ((by assumption)) ?_
        refine rFieldAt rfl ?_
        refine rLd (H.at 1 rfl) 6 rfl rfl rfl ?_
        refine cF (vEq_F (by assumption)) ?_
        refine rFieldAt rfl ?_
        refine rLdA (H.at 1 rfl) 3 rfl rfl rfl ?_
        refine rFieldAt rfl ?_
        refine rLd (H.at 1 rfl) 6 rfl rfl rfl ?_
        rw [if_neg (by rw [hlb2]; nofun)] at hn1
        subst hn1
        replace H := (((((H.front (j := 7) rfl).front (j := 7) rfl).front (j := 7) rfl).front (j := 7) rfl).front (j := 7) rfl).front (j := 7) rfl
        replace H := shut (a' := .live false lb (upd lf s.fr none) (ln - 1) wa wc ws hb hf hnn) hx rfl H
        have hl9 : (xa.set (ix s.to_) (.live false lb (upd lf s.fr none) (ln - 1) wa wc ws hb hf hnn)).length ≤ 16 := by simpa using hl
        have hto := live_rng hn hl
        have hn9 : liveAt nd (xa.set (ix s.to_) (.live false lb (upd lf s.fr none) (ln - 1) wa wc ws hb hf hnn)) (s.to_.1, s.to_.2) = some (.live false lb (upd lf s.fr none) (ln - 1) wa wc ws hb hf hnn) := live_set hn rfl
        have h129 : ∀ x, liveAt nd (xa.set (ix s.to_) (.live false lb (upd lf s.fr none) (ln - 1) wa wc ws hb hf hnn)) (s.to_.1, s.to_.2) = some x → x.ln ≤ 12 ∧ x.ws.length ≤ 1000 := by
          intro x h
          obtain rfl := Option.some.inj (hn9.symm.trans h)
          exact ⟨by have := hx12.1; show ln - 1 ≤ 12; have : ln ≤ 12 := this; omega, hx12.2⟩
        refine CallP.mk (Fc.imp (Go.Proofs.Yticdhdpfimpmoaa.Proc.end_ ?_ H _ _ _ ?_ ?_ ?_) ?_)
        · assumption
        · assumption
        · assumption
        · assumption
        clear H
        rintro _ w2 ⟨v1, ⟨xa'1, ⟨sg1, ⟨e1, ⟨rfl, ⟨h1, H⟩⟩⟩⟩⟩⟩
        refine rFieldAt rfl ?_
        refine rLd (H.at 5 rfl) 6 rfl rfl rfl ?_
        obtain ⟨a1, c1, rfl⟩ := H.form 0 rfl
        refine rBuild rfl rfl rfl ?_
        refine rStAS H 4 rfl rfl rfl rfl ?_
        clear H
        intro w3 H
        clear w2
        refine rdAN (H.at 4 rfl) 0 rfl rfl rfl ?_
        exact Done.mk ⟨{ eff0 with died := true, why := s.why, out := sg1 }, _, xa'1, rfl, ⟨fun h => absurd h hne, fun _ h => (Bool.noConfusion (htr.symm.trans h)), fun _ _ h => absurd h h0, fun _ _ _ => ⟨sg1, _, by assumption, rfl⟩⟩, (H.del 4).del 4⟩
    · have htr : (ActV.live true lb lf ln wa wc ws hb hf hnn).trap = true := rfl
      refine rBoxS H ?_
      clear H
      intro p1 w1 H
      refine rAllocS H rfl ?_
      clear H
      intro p2 w2 H
      clear w1
      refine drawzS H [] [(0, .pure), (1, .pure), (2, .pure), (3, .held), (4, .pure), (5, .held), (6, .held), (7, .pure), (8, .pure), (9, .pure), (10, .pure), (11, .pure)] mixed (by kernel_rfl) (by kernel_rfl) ?_
      clear H
      intro w1 H
      clear w2
      refine tk (fun wx HS => rFieldAt rfl ⟨rfl, rfl⟩) ?_
      refine tk (fun wx HS => rLd (HS.el 7 rfl hE hx) 2 rfl rfl rfl ⟨rfl, rfl⟩) ?_
      refine tk (fun wx HS => rFieldAt rfl ⟨rfl, rfl⟩) ?_
      refine tk (fun wx HS => rLdA (HS.at 1 rfl) 1 rfl rfl rfl ⟨rfl, rfl⟩) ?_
      refine tk (fun wx HS => MG.rMapGetY (k := ((s.fr.fst), (s.fr.snd))) HS 2 rfl hlb2 rfl (by first | exact keyInt | exact keyPid) rfl ⟨rfl, rfl⟩) ?_
      refine cF rfl ?_
      refine drawzS H [] [(0, .pure), (1, .pure), (2, .pure), (3, .held), (4, .pure), (5, .held), (6, .free)] mixed (by kernel_rfl) (by kernel_rfl) ?_
      clear H
      intro w2 H
      clear w1
      refine tk (fun wx HS => rFieldAt rfl ⟨rfl, rfl⟩) ?_
      refine tk (fun wx HS => rLd (HS.el 7 rfl hE hx) 2 rfl rfl rfl ⟨rfl, rfl⟩) ?_
      refine tk (fun wx HS => rFieldAt rfl ⟨rfl, rfl⟩) ?_
      refine tk (fun wx HS => rLdA (HS.at 1 rfl) 1 rfl rfl rfl ⟨rfl, rfl⟩) ?_
      refine MG.rMapDel (k := ((s.fr.fst), (s.fr.snd))) H 2 rfl rfl (by first | exact keyInt | exact keyPid) ?_
      intro n1 hn1
      clear H
      intro w1 H
      clear w2
      refine bk ?_
      refine rFieldAt rfl ?_
      refine rLd (H.el 7 rfl hE hx) 1 rfl rfl rfl ?_
      refine cT ((by assumption)) ?_
      refine rFieldAt rfl ?_
      refine rLd (H.at 1 rfl) 6 rfl rfl rfl ?_
      refine rConvU8M rfl rfl ?_
      refine rBuildSliceS H rfl rfl rfl rfl ?_
      clear H
      intro p3 w2 H
      clear w1
      have hbk1 := byteIsI (x := s.why % 256) (by omega)
      rw [hbk1] at H
      clear hbk1
      refine H.ptSl (n := 1) (en := enY) (s := 1) 0 rfl [_] rfl rfl (fun _ => rfl) rfl ?_
      clear H
      intro H
      refine rBytesStrS H 0 rfl rfl rfl rfl ?_
      refine rFieldAt rfl ?_
      refine rLdA (H.at 2 rfl) 1 rfl rfl rfl ?_
      refine rBuild rfl rfl rfl ?_
      refine rBuild rfl rfl rfl ?_
      refine rStAS H 1 rfl rfl rfl rfl ?_
      clear H
      intro w1 H
      clear w2
      refine rdAN (H.at 1 rfl) 0 rfl rfl rfl ?_
      rw [if_neg (by rw [hlb2]; nofun)] at hn1
      subst hn1
      replace H := (((H.del 0).del 0).del 0)
      replace H := shut (a' := .live true lb (upd lf s.fr none) (ln - 1) wa wc ws hb hf hnn) hx rfl H
      exact Done.mk ⟨{ eff0 with fr := s.fr, tag := 62, body := [UInt8.ofNat (s.why % 256).toNat], got := true }, .slice none 0 0, _, rfl, ⟨fun h => absurd h hne, fun _ _ => ⟨rfl, rfl⟩, fun _ h => (Bool.noConfusion (htr.symm.trans h)), fun _ h => (Bool.noConfusion (htr.symm.trans h))⟩, H.sl0 (en := enSi) (s := 9) 40 (fun _ => rfl)⟩
end
end Go.Proofs.Yticdhdpfimpmoaa.Proc
/- Package proc: Take, the kinds 1 to 3. -/
set_option maxRecDepth 100000
set_option maxHeartbeats 4000000
set_option linter.unusedVariables false
set_option linter.unusedSimpArgs false
namespace Go.Proofs.Yticdhdpfimpmoaa.Proc
open Go Go.Proofs.Yticdhdpfimpmoaa.Eng Go.RowKit
open Go.Proofs.Yticdhdpfimpmoaa.Eng.MG
def takeBad (nd : Int) (s : SigD) : Prop := s.to_.1 ≠ nd ∨ s.to_.2 < 1 ∨ 16 < s.to_.2 ∨ s.kind < 1 ∨ 6 < s.kind
/-- What Take does. -/
inductive TakeR (nd : Int) (xa : List ActV) (s : SigD) : List ActV → EffD → Int → Prop
  | bad (h : takeBad nd s) : TakeR nd xa s xa eff0 1
  | gone (h : ¬ takeBad nd s) (hn : liveAt nd xa s.to_ = none) : TakeR nd xa s xa (missedF s) 0
  | lett {x : ActV} (h : ¬ takeBad nd s) (hn : liveAt nd xa s.to_ = some x) (k : s.kind = 1) : TakeR nd xa s xa { eff0 with fr := s.fr, tag := s.tag, body := s.body, got := true } 0
  | self {x : ActV} (h : ¬ takeBad nd s) (hn : liveAt nd xa s.to_ = some x) (k : s.kind = 2) (he : s.fr = s.to_) : TakeR nd xa s xa eff0 0
  | link {x : ActV} (h : ¬ takeBad nd s) (hn : liveAt nd xa s.to_ = some x) (k : s.kind = 2) (he : s.fr ≠ s.to_) : TakeR nd xa s (xa.set (ix s.to_) (x.setL (upd x.lf s.fr (some 1)) (if x.lf s.fr = none then x.ln + 1 else x.ln))) eff0 0
  | unlink {x : ActV} (h : ¬ takeBad nd s) (hn : liveAt nd xa s.to_ = some x) (k : s.kind = 3) : TakeR nd xa s (xa.set (ix s.to_) (x.setL (upd x.lf s.fr none) (if x.lf s.fr = none then x.ln else x.ln - 1))) eff0 0
  | exit {x : ActV} {xa' : List ActV} {f : EffD} (h : ¬ takeBad nd s) (hn : liveAt nd xa s.to_ = some x) (k : s.kind = 4) (hx : ExR nd xa s x xa' f) : TakeR nd xa s xa' f 0
  | watch {t : Bool} {lb : Nat} {lf : LF} {ln : Nat} {wa wa' : Option Addr} {wc wc' : Nat} {ws : List (PidD × Int)} {hb : Nat} {hf : HF} {hn' : Nat} (h : ¬ takeBad nd s) (hn : liveAt nd xa s.to_ = some (.live t lb lf ln wa wc ws hb hf hn')) (k : s.kind = 5) : TakeR nd xa s (xa.set (ix s.to_) (.live t lb lf ln wa' wc' (ws ++ [(s.fr, s.ref)]) hb hf hn')) eff0 0
  | other {x : ActV} (h : ¬ takeBad nd s) (hn : liveAt nd xa s.to_ = some x) (k : s.kind = 6) (hw : x.hf s.ref ≠ some s.fr) : TakeR nd xa s xa eff0 0
  | down {x : ActV} (h : ¬ takeBad nd s) (hn : liveAt nd xa s.to_ = some x) (k : s.kind = 6) (hw : x.hf s.ref = some s.fr) : TakeR nd xa s (xa.set (ix s.to_) (x.setH (upd x.hf s.ref none) (x.hn - 1))) { eff0 with fr := s.fr, tag := 61, body := [UInt8.ofNat (s.ref % 256).toNat, UInt8.ofNat (s.why % 256).toNat], got := true } 0
section
variable {g : Glob} {w : World} {l : List As} {p : Nat} {va : Value} {refs nd : Int} {xa : List ActV}
theorem takeB_ (H : Sat g w (Pt p [.int .i64 nd, va, .int .i64 refs] 100 :: Sl 82 5 enAc va xa :: Acts xa :: l)) (s : SigD) (hl : xa.length ≤ 16) (hb : takeBad nd s) : Fc Try.prog 34 #[.pointer (some ⟨p, 0, none⟩), .agg #[.int .i64 s.kind, .int .i64 s.fr.1, .int .i64 s.fr.2, .int .i64 s.to_.1, .int .i64 s.to_.2, .int .i64 s.ref, .int .i64 s.why, .int .i64 s.tag, .string (bs s.body)]] w (fun r w' => ∃ (f : EffD) (vo : Value) (xa' : List ActV) (e : Int), r = .tuple #[.agg #[.int .i64 f.fr.1, .int .i64 f.fr.2, .int .i64 f.tag, .string (bs f.body), .bool f.got, .bool f.lost, .bool f.died, .int .i64 f.why, vo], .int .i64 e] ∧ TakeR nd xa s xa' f e ∧ Sat g w' (Sl 40 9 enSi vo f.out :: Pt p [.int .i64 nd, va, .int .i64 refs] 100 :: Sl 82 5 enAc va xa' :: Acts xa' :: l)) := by
  have hR : TakeR nd xa s xa eff0 1 := .bad hb
  unfold takeBad at hb
  refine Fc.of Try.func34 rfl (by kernel_rfl) ?_
  refine rBoxS H ?_
  clear H
  intro p1 w1 H
  refine rAllocS H rfl ?_
  clear H
  intro p2 w2 H
  clear w1
  refine drawzS H [] [(0, .pure), (1, .pure), (2, .held), (3, .pure), (4, .pure), (5, .pure), (6, .held), (7, .pure), (8, .pure), (9, .pure), (10, .pure), (11, .held), (12, .pure), (13, .pure), (14, .pure), (15, .pure), (16, .pure), (17, .held), (18, .pure), (19, .pure), (20, .pure), (21, .pure), (22, .held), (23, .pure), (24, .pure), (25, .pure), (26, .pure), (27, .held), (28, .pure), (29, .pure)] mixed (by kernel_rfl) (by kernel_rfl) ?_
  clear H
  intro w1 H
  clear w2
  refine tk (fun wx HS => rFieldAt rfl ⟨rfl, rfl⟩) ?_
  refine tk (fun wx HS => rFieldAt rfl ⟨rfl, rfl⟩) ?_
  refine tk (fun wx HS => rLd (HS.at 1 rfl) 3 rfl rfl rfl ⟨rfl, rfl⟩) ?_
  refine tk (fun wx HS => rFieldAt rfl ⟨rfl, rfl⟩) ?_
  refine tk (fun wx HS => rLd (HS.at 2 rfl) 0 rfl rfl rfl ⟨rfl, rfl⟩) ?_
  refine br (fun c1 => ?_) (fun c1 => ?_)
  · replace c1 := vNe_t (c1)
    refine cT rfl ?_
    refine rBuild rfl rfl rfl ?_
    refine rStAS H 0 rfl rfl rfl rfl ?_
    clear H
    intro w2 H
    clear w1
    refine rdAN (H.at 0 rfl) 0 rfl rfl rfl ?_
    refine Done.mk ?_
    exact ⟨eff0, .slice none 0 0, xa, 1, rfl, hR, ((H.del 0).del 0).sl0 (en := enSi) (s := 9) 40 (fun _ => rfl)⟩
  replace c1 := vNe_f (c1)
  refine tk (fun wx HS => rFieldAt rfl ⟨rfl, rfl⟩) ?_
  refine tk (fun wx HS => rFieldAt rfl ⟨rfl, rfl⟩) ?_
  refine tk (fun wx HS => rLd (HS.at 1 rfl) 4 rfl rfl rfl ⟨rfl, rfl⟩) ?_
  refine br (fun c2 => ?_) (fun c2 => ?_)
  · replace c2 := vLt_t (c2)
    refine cT rfl ?_
    refine rBuild rfl rfl rfl ?_
    refine rStAS H 0 rfl rfl rfl rfl ?_
    clear H
    intro w2 H
    clear w1
    refine rdAN (H.at 0 rfl) 0 rfl rfl rfl ?_
    refine Done.mk ?_
    exact ⟨eff0, .slice none 0 0, xa, 1, rfl, hR, ((H.del 0).del 0).sl0 (en := enSi) (s := 9) 40 (fun _ => rfl)⟩
  replace c2 := vLt_f (c2)
  refine tk (fun wx HS => rFieldAt rfl ⟨rfl, rfl⟩) ?_
  refine tk (fun wx HS => rFieldAt rfl ⟨rfl, rfl⟩) ?_
  refine tk (fun wx HS => rLd (HS.at 1 rfl) 4 rfl rfl rfl ⟨rfl, rfl⟩) ?_
  refine br (fun c3 => ?_) (fun c3 => ?_)
  · replace c3 := vLt_t (c3)
    refine cT rfl ?_
    refine rBuild rfl rfl rfl ?_
    refine rStAS H 0 rfl rfl rfl rfl ?_
    clear H
    intro w2 H
    clear w1
    refine rdAN (H.at 0 rfl) 0 rfl rfl rfl ?_
    refine Done.mk ?_
    exact ⟨eff0, .slice none 0 0, xa, 1, rfl, hR, ((H.del 0).del 0).sl0 (en := enSi) (s := 9) 40 (fun _ => rfl)⟩
  replace c3 := vLt_f (c3)
  refine tk (fun wx HS => rFieldAt rfl ⟨rfl, rfl⟩) ?_
  refine tk (fun wx HS => rLd (HS.at 1 rfl) 0 rfl rfl rfl ⟨rfl, rfl⟩) ?_
  refine br (fun c4 => ?_) (fun c4 => ?_)
  · replace c4 := vLt_t (c4)
    refine cT rfl ?_
    refine rBuild rfl rfl rfl ?_
    refine rStAS H 0 rfl rfl rfl rfl ?_
    clear H
    intro w2 H
    clear w1
    refine rdAN (H.at 0 rfl) 0 rfl rfl rfl ?_
    refine Done.mk ?_
    exact ⟨eff0, .slice none 0 0, xa, 1, rfl, hR, ((H.del 0).del 0).sl0 (en := enSi) (s := 9) 40 (fun _ => rfl)⟩
  replace c4 := vLt_f (c4)
  refine tk (fun wx HS => rFieldAt rfl ⟨rfl, rfl⟩) ?_
  refine tk (fun wx HS => rLd (HS.at 1 rfl) 0 rfl rfl rfl ⟨rfl, rfl⟩) ?_
  refine cT (vLt_T (by omega)) ?_
  refine rBuild rfl rfl rfl ?_
  refine rStAS H 0 rfl rfl rfl rfl ?_
  clear H
  intro w2 H
  clear w1
  refine rdAN (H.at 0 rfl) 0 rfl rfl rfl ?_
  refine Done.mk ?_
  exact ⟨eff0, .slice none 0 0, xa, 1, rfl, hR, ((H.del 0).del 0).sl0 (en := enSi) (s := 9) 40 (fun _ => rfl)⟩
theorem take0_ (H : Sat g w (Pt p [.int .i64 nd, va, .int .i64 refs] 100 :: Sl 82 5 enAc va xa :: Acts xa :: l)) (s : SigD) (hl : xa.length ≤ 16) (hb : ¬ takeBad nd s) (hn : liveAt nd xa (s.to_.1, s.to_.2) = none) : Fc Try.prog 34 #[.pointer (some ⟨p, 0, none⟩), .agg #[.int .i64 s.kind, .int .i64 s.fr.1, .int .i64 s.fr.2, .int .i64 s.to_.1, .int .i64 s.to_.2, .int .i64 s.ref, .int .i64 s.why, .int .i64 s.tag, .string (bs s.body)]] w (fun r w' => ∃ (f : EffD) (vo : Value) (xa' : List ActV) (e : Int), r = .tuple #[.agg #[.int .i64 f.fr.1, .int .i64 f.fr.2, .int .i64 f.tag, .string (bs f.body), .bool f.got, .bool f.lost, .bool f.died, .int .i64 f.why, vo], .int .i64 e] ∧ TakeR nd xa s xa' f e ∧ Sat g w' (Sl 40 9 enSi vo f.out :: Pt p [.int .i64 nd, va, .int .i64 refs] 100 :: Sl 82 5 enAc va xa' :: Acts xa' :: l)) := by
  have hR : TakeR nd xa s xa (missedF s) 0 := .gone hb hn
  unfold takeBad at hb
  refine Fc.of Try.func34 rfl (by kernel_rfl) ?_
  refine rBoxS H ?_
  clear H
  intro p1 w1 H
  refine rAllocS H rfl ?_
  clear H
  intro p2 w2 H
  clear w1
  refine drawzS H [] [(0, .pure), (1, .pure), (2, .held), (3, .pure), (4, .pure), (5, .pure), (6, .held), (7, .pure), (8, .pure), (9, .pure), (10, .pure), (11, .held), (12, .pure), (13, .pure), (14, .pure), (15, .pure), (16, .pure), (17, .held), (18, .pure), (19, .pure), (20, .pure), (21, .pure), (22, .held), (23, .pure), (24, .pure), (25, .pure), (26, .pure), (27, .held), (28, .pure), (29, .pure)] mixed (by kernel_rfl) (by kernel_rfl) ?_
  clear H
  intro w1 H
  clear w2
  refine tk (fun wx HS => rFieldAt rfl ⟨rfl, rfl⟩) ?_
  refine tk (fun wx HS => rFieldAt rfl ⟨rfl, rfl⟩) ?_
  refine tk (fun wx HS => rLd (HS.at 1 rfl) 3 rfl rfl rfl ⟨rfl, rfl⟩) ?_
  refine tk (fun wx HS => rFieldAt rfl ⟨rfl, rfl⟩) ?_
  refine tk (fun wx HS => rLd (HS.at 2 rfl) 0 rfl rfl rfl ⟨rfl, rfl⟩) ?_
  refine br_f (vNe_F (by omega)) ?_
  refine tk (fun wx HS => rFieldAt rfl ⟨rfl, rfl⟩) ?_
  refine tk (fun wx HS => rFieldAt rfl ⟨rfl, rfl⟩) ?_
  refine tk (fun wx HS => rLd (HS.at 1 rfl) 4 rfl rfl rfl ⟨rfl, rfl⟩) ?_
  refine br_f (vLt_F (by omega)) ?_
  refine tk (fun wx HS => rFieldAt rfl ⟨rfl, rfl⟩) ?_
  refine tk (fun wx HS => rFieldAt rfl ⟨rfl, rfl⟩) ?_
  refine tk (fun wx HS => rLd (HS.at 1 rfl) 4 rfl rfl rfl ⟨rfl, rfl⟩) ?_
  refine br_f (vLt_F (by omega)) ?_
  refine tk (fun wx HS => rFieldAt rfl ⟨rfl, rfl⟩) ?_
  refine tk (fun wx HS => rLd (HS.at 1 rfl) 0 rfl rfl rfl ⟨rfl, rfl⟩) ?_
  refine br_f (vLt_F (by omega)) ?_
  refine tk (fun wx HS => rFieldAt rfl ⟨rfl, rfl⟩) ?_
  refine tk (fun wx HS => rLd (HS.at 1 rfl) 0 rfl rfl rfl ⟨rfl, rfl⟩) ?_
  refine cF (vLt_F (by omega)) ?_
  refine rFieldAt rfl ?_
  refine rLdA (H.at 1 rfl) 3 rfl rfl rfl ?_
  refine H.fronts [3, 3] ?_
  clear H
  intro H
  refine CallP.mk (Fc.imp (Go.Proofs.Yticdhdpfimpmoaa.Proc.findN H _ _ ?_ ?_ ?_) ?_)
  · assumption
  · assumption
  · omega
  clear H
  rintro _ w2 ⟨rfl, H⟩
  refine rPtrNil rfl ?_
  refine cT rfl ?_
  refine rLdA (H.at 3 rfl) 0 rfl rfl rfl ?_
  refine CallP.mk (Fc.imp (Go.Proofs.Yticdhdpfimpmoaa.Proc.missed_ H _) ?_)
  clear H
  rintro _ w3 ⟨f1, ⟨vo1, ⟨rfl, ⟨h1, H⟩⟩⟩⟩
  refine rStAS H 3 rfl rfl rfl (by simp only [List.all_cons, List.all_nil, H.one 0 rfl, H.one 2 rfl]; rfl) ?_
  clear H
  intro w4 H
  clear w3
  refine rdAN (H.at 3 rfl) 0 rfl rfl rfl ?_
  exact Done.mk ⟨f1, vo1, xa, 0, rfl, (by rw [‹f1 = missedF s›]; exact hR), (H.del 3).del 3⟩
theorem take1_ (H : Sat g w (Pt p [.int .i64 nd, va, .int .i64 refs] 100 :: Sl 82 5 enAc va xa :: Acts xa :: l)) (s : SigD) (hl : xa.length ≤ 16) (hb : ¬ takeBad nd s) (x : ActV) (hn : liveAt nd xa (s.to_.1, s.to_.2) = some x) (k : s.kind = 1) : Fc Try.prog 34 #[.pointer (some ⟨p, 0, none⟩), .agg #[.int .i64 s.kind, .int .i64 s.fr.1, .int .i64 s.fr.2, .int .i64 s.to_.1, .int .i64 s.to_.2, .int .i64 s.ref, .int .i64 s.why, .int .i64 s.tag, .string (bs s.body)]] w (fun r w' => ∃ (f : EffD) (vo : Value) (xa' : List ActV) (e : Int), r = .tuple #[.agg #[.int .i64 f.fr.1, .int .i64 f.fr.2, .int .i64 f.tag, .string (bs f.body), .bool f.got, .bool f.lost, .bool f.died, .int .i64 f.why, vo], .int .i64 e] ∧ TakeR nd xa s xa' f e ∧ Sat g w' (Sl 40 9 enSi vo f.out :: Pt p [.int .i64 nd, va, .int .i64 refs] 100 :: Sl 82 5 enAc va xa' :: Acts xa' :: l)) := by
  have hR := TakeR.lett hb hn k
  unfold takeBad at hb
  refine Fc.of Try.func34 rfl (by kernel_rfl) ?_
  refine rBoxS H ?_
  clear H
  intro p1 w1 H
  refine rAllocS H rfl ?_
  clear H
  intro p2 w2 H
  clear w1
  refine drawzS H [] [(0, .pure), (1, .pure), (2, .held), (3, .pure), (4, .pure), (5, .pure), (6, .held), (7, .pure), (8, .pure), (9, .pure), (10, .pure), (11, .held), (12, .pure), (13, .pure), (14, .pure), (15, .pure), (16, .pure), (17, .held), (18, .pure), (19, .pure), (20, .pure), (21, .pure), (22, .held), (23, .pure), (24, .pure), (25, .pure), (26, .pure), (27, .held), (28, .pure), (29, .pure)] mixed (by kernel_rfl) (by kernel_rfl) ?_
  clear H
  intro w1 H
  clear w2
  refine tk (fun wx HS => rFieldAt rfl ⟨rfl, rfl⟩) ?_
  refine tk (fun wx HS => rFieldAt rfl ⟨rfl, rfl⟩) ?_
  refine tk (fun wx HS => rLd (HS.at 1 rfl) 3 rfl rfl rfl ⟨rfl, rfl⟩) ?_
  refine tk (fun wx HS => rFieldAt rfl ⟨rfl, rfl⟩) ?_
  refine tk (fun wx HS => rLd (HS.at 2 rfl) 0 rfl rfl rfl ⟨rfl, rfl⟩) ?_
  refine br_f (vNe_F (by omega)) ?_
  refine tk (fun wx HS => rFieldAt rfl ⟨rfl, rfl⟩) ?_
  refine tk (fun wx HS => rFieldAt rfl ⟨rfl, rfl⟩) ?_
  refine tk (fun wx HS => rLd (HS.at 1 rfl) 4 rfl rfl rfl ⟨rfl, rfl⟩) ?_
  refine br_f (vLt_F (by omega)) ?_
  refine tk (fun wx HS => rFieldAt rfl ⟨rfl, rfl⟩) ?_
  refine tk (fun wx HS => rFieldAt rfl ⟨rfl, rfl⟩) ?_
  refine tk (fun wx HS => rLd (HS.at 1 rfl) 4 rfl rfl rfl ⟨rfl, rfl⟩) ?_
  refine br_f (vLt_F (by omega)) ?_
  refine tk (fun wx HS => rFieldAt rfl ⟨rfl, rfl⟩) ?_
  refine tk (fun wx HS => rLd (HS.at 1 rfl) 0 rfl rfl rfl ⟨rfl, rfl⟩) ?_
  refine br_f (vLt_F (by omega)) ?_
  refine tk (fun wx HS => rFieldAt rfl ⟨rfl, rfl⟩) ?_
  refine tk (fun wx HS => rLd (HS.at 1 rfl) 0 rfl rfl rfl ⟨rfl, rfl⟩) ?_
  refine cF (vLt_F (by omega)) ?_
  refine rFieldAt rfl ?_
  refine rLdA (H.at 1 rfl) 3 rfl rfl rfl ?_
  refine H.fronts [3, 3] ?_
  clear H
  intro H
  refine CallP.mk (Fc.imp (Go.Proofs.Yticdhdpfimpmoaa.Proc.findY H _ _ ?_ _ hn) ?_)
  · assumption
  clear H
  rintro _ w2 ⟨b1, ⟨o1, ⟨rfl, ⟨h1, H⟩⟩⟩⟩
  refine rPtrNil rfl ?_
  refine cF rfl ?_
  refine rAllocS H rfl ?_
  clear H
  intro p3 w3 H
  clear w2
  refine rFieldAt rfl ?_
  refine rLd (H.at 4 rfl) 0 rfl rfl rfl ?_
  refine bk ?_
  refine cT (vEq_T (by assumption)) ?_
  refine drawzS H [0] [(0, .pure), (1, .held), (2, .pure), (3, .held), (4, .pure), (5, .held), (6, .pure), (7, .pure), (8, .forced), (9, .pure), (10, .free)] mixed (by kernel_rfl) (by kernel_rfl) ?_
  clear H
  intro w2 H
  clear w3
  refine tk (fun wx HS => rFieldAt rfl ⟨rfl, rfl⟩) ?_
  refine tk (fun wx HS => rLdA (HS.at 3 rfl) 1 rfl rfl rfl ⟨rfl, rfl⟩) ?_
  refine tk (fun wx HS => rFieldAt rfl ⟨rfl, rfl⟩) ?_
  refine tk (fun wx HS => rLd (HS.at 3 rfl) 7 rfl rfl rfl ⟨rfl, rfl⟩) ?_
  refine tk (fun wx HS => rFieldAt rfl ⟨rfl, rfl⟩) ?_
  refine tk (fun wx HS => rLd (HS.at 3 rfl) 8 rfl rfl rfl ⟨rfl, rfl⟩) ?_
  refine tk (fun wx HS => rBuild rfl rfl rfl ⟨rfl, rfl⟩) ?_
  refine tk (fun wx HS => rFieldAt rfl ⟨rfl, rfl⟩) ?_
  refine rStS H 0 rfl rfl rfl rfl ?_
  clear H
  intro w3 H
  clear w2
  refine KeepP.mk (H.drop 0 (fun H => H)) ?_
  refine tk (fun wx HS => rFieldAt rfl ⟨rfl, rfl⟩) ?_
  refine rStAS H 0 rfl rfl rfl rfl ?_
  clear H
  intro w2 H
  clear w3
  refine rLdA (H.at 0 rfl) 0 rfl rfl rfl ?_
  refine rStAS H 3 rfl rfl rfl rfl ?_
  clear H
  intro w3 H
  clear w2
  refine rdAN (H.at 3 rfl) 0 rfl rfl rfl ?_
  exact Done.mk ⟨_, .slice none 0 0, xa, 0, rfl, hR, (((H.del 0).del 2).del 2).sl0 (en := enSi) (s := 9) 40 (fun _ => rfl)⟩
theorem take2a_ (H : Sat g w (Pt p [.int .i64 nd, va, .int .i64 refs] 100 :: Sl 82 5 enAc va xa :: Acts xa :: l)) (s : SigD) (hl : xa.length ≤ 16) (hb : ¬ takeBad nd s) (x : ActV) (hn : liveAt nd xa (s.to_.1, s.to_.2) = some x) (k : s.kind = 2) (he : s.fr = s.to_) : Fc Try.prog 34 #[.pointer (some ⟨p, 0, none⟩), .agg #[.int .i64 s.kind, .int .i64 s.fr.1, .int .i64 s.fr.2, .int .i64 s.to_.1, .int .i64 s.to_.2, .int .i64 s.ref, .int .i64 s.why, .int .i64 s.tag, .string (bs s.body)]] w (fun r w' => ∃ (f : EffD) (vo : Value) (xa' : List ActV) (e : Int), r = .tuple #[.agg #[.int .i64 f.fr.1, .int .i64 f.fr.2, .int .i64 f.tag, .string (bs f.body), .bool f.got, .bool f.lost, .bool f.died, .int .i64 f.why, vo], .int .i64 e] ∧ TakeR nd xa s xa' f e ∧ Sat g w' (Sl 40 9 enSi vo f.out :: Pt p [.int .i64 nd, va, .int .i64 refs] 100 :: Sl 82 5 enAc va xa' :: Acts xa' :: l)) := by
  have hR := TakeR.self hb hn k he
  have hab : s.fr.1 = s.to_.1 ∧ s.fr.2 = s.to_.2 := by rw [he]; exact ⟨rfl, rfl⟩
  unfold takeBad at hb
  refine Fc.of Try.func34 rfl (by kernel_rfl) ?_
  refine rBoxS H ?_
  clear H
  intro p1 w1 H
  refine rAllocS H rfl ?_
  clear H
  intro p2 w2 H
  clear w1
  refine drawzS H [] [(0, .pure), (1, .pure), (2, .held), (3, .pure), (4, .pure), (5, .pure), (6, .held), (7, .pure), (8, .pure), (9, .pure), (10, .pure), (11, .held), (12, .pure), (13, .pure), (14, .pure), (15, .pure), (16, .pure), (17, .held), (18, .pure), (19, .pure), (20, .pure), (21, .pure), (22, .held), (23, .pure), (24, .pure), (25, .pure), (26, .pure), (27, .held), (28, .pure), (29, .pure)] mixed (by kernel_rfl) (by kernel_rfl) ?_
  clear H
  intro w1 H
  clear w2
  refine tk (fun wx HS => rFieldAt rfl ⟨rfl, rfl⟩) ?_
  refine tk (fun wx HS => rFieldAt rfl ⟨rfl, rfl⟩) ?_
  refine tk (fun wx HS => rLd (HS.at 1 rfl) 3 rfl rfl rfl ⟨rfl, rfl⟩) ?_
  refine tk (fun wx HS => rFieldAt rfl ⟨rfl, rfl⟩) ?_
  refine tk (fun wx HS => rLd (HS.at 2 rfl) 0 rfl rfl rfl ⟨rfl, rfl⟩) ?_
  refine br_f (vNe_F (by omega)) ?_
  refine tk (fun wx HS => rFieldAt rfl ⟨rfl, rfl⟩) ?_
  refine tk (fun wx HS => rFieldAt rfl ⟨rfl, rfl⟩) ?_
  refine tk (fun wx HS => rLd (HS.at 1 rfl) 4 rfl rfl rfl ⟨rfl, rfl⟩) ?_
  refine br_f (vLt_F (by omega)) ?_
  refine tk (fun wx HS => rFieldAt rfl ⟨rfl, rfl⟩) ?_
  refine tk (fun wx HS => rFieldAt rfl ⟨rfl, rfl⟩) ?_
  refine tk (fun wx HS => rLd (HS.at 1 rfl) 4 rfl rfl rfl ⟨rfl, rfl⟩) ?_
  refine br_f (vLt_F (by omega)) ?_
  refine tk (fun wx HS => rFieldAt rfl ⟨rfl, rfl⟩) ?_
  refine tk (fun wx HS => rLd (HS.at 1 rfl) 0 rfl rfl rfl ⟨rfl, rfl⟩) ?_
  refine br_f (vLt_F (by omega)) ?_
  refine tk (fun wx HS => rFieldAt rfl ⟨rfl, rfl⟩) ?_
  refine tk (fun wx HS => rLd (HS.at 1 rfl) 0 rfl rfl rfl ⟨rfl, rfl⟩) ?_
  refine cF (vLt_F (by omega)) ?_
  refine rFieldAt rfl ?_
  refine rLdA (H.at 1 rfl) 3 rfl rfl rfl ?_
  refine H.fronts [3, 3] ?_
  clear H
  intro H
  refine CallP.mk (Fc.imp (Go.Proofs.Yticdhdpfimpmoaa.Proc.findY H _ _ ?_ _ hn) ?_)
  · assumption
  clear H
  rintro _ w2 ⟨b1, ⟨o1, ⟨rfl, ⟨h1, H⟩⟩⟩⟩
  refine rPtrNil rfl ?_
  refine cF rfl ?_
  refine rAllocS H rfl ?_
  clear H
  intro p3 w3 H
  clear w2
  refine rFieldAt rfl ?_
  refine rLd (H.at 4 rfl) 0 rfl rfl rfl ?_
  refine bk ?_
  refine cF (vEq_F (by omega)) ?_
  refine cT (vEq_T (by assumption)) ?_
  refine rFieldAt rfl ?_
  refine rLdA (H.at 4 rfl) 1 rfl rfl rfl ?_
  refine rFieldAt rfl ?_
  refine rLdA (H.at 4 rfl) 3 rfl rfl rfl ?_
  refine rStructNe (by kernel_rfl) (by kernel_rfl) ?_
  refine cF (not_F ((by exact pid_t hab))) ?_
  refine rLdA (H.at 0 rfl) 0 rfl rfl rfl ?_
  refine rStAS H 3 rfl rfl rfl rfl ?_
  clear H
  intro w2 H
  clear w3
  refine rdAN (H.at 3 rfl) 0 rfl rfl rfl ?_
  exact Done.mk ⟨eff0, .slice none 0 0, xa, 0, rfl, hR, (((H.del 0).del 2).del 2).sl0 (en := enSi) (s := 9) 40 (fun _ => rfl)⟩
theorem take2b_ (H : Sat g w (Pt p [.int .i64 nd, va, .int .i64 refs] 100 :: Sl 82 5 enAc va xa :: Acts xa :: l)) (s : SigD) (hl : xa.length ≤ 16) (hb : ¬ takeBad nd s) (x : ActV) (hn : liveAt nd xa (s.to_.1, s.to_.2) = some x) (k : s.kind = 2) (he : s.fr ≠ s.to_) : Fc Try.prog 34 #[.pointer (some ⟨p, 0, none⟩), .agg #[.int .i64 s.kind, .int .i64 s.fr.1, .int .i64 s.fr.2, .int .i64 s.to_.1, .int .i64 s.to_.2, .int .i64 s.ref, .int .i64 s.why, .int .i64 s.tag, .string (bs s.body)]] w (fun r w' => ∃ (f : EffD) (vo : Value) (xa' : List ActV) (e : Int), r = .tuple #[.agg #[.int .i64 f.fr.1, .int .i64 f.fr.2, .int .i64 f.tag, .string (bs f.body), .bool f.got, .bool f.lost, .bool f.died, .int .i64 f.why, vo], .int .i64 e] ∧ TakeR nd xa s xa' f e ∧ Sat g w' (Sl 40 9 enSi vo f.out :: Pt p [.int .i64 nd, va, .int .i64 refs] 100 :: Sl 82 5 enAc va xa' :: Acts xa' :: l)) := by
  have hR := TakeR.link hb hn k he
  have hab : ¬ (s.fr.1 = s.to_.1 ∧ s.fr.2 = s.to_.2) := fun h => he (Prod.ext h.1 h.2)
  obtain ⟨hx, hal, hr⟩ := live_inv hn
  obtain ⟨t, lb, lf, ln, wa, wc, ws, hb', hf, hnn, rfl⟩ := live_is hal
  unfold takeBad at hb
  refine Fc.of Try.func34 rfl (by kernel_rfl) ?_
  replace H := opened H hx
  simp only [pcs, List.cons_append, List.nil_append] at H
  refine rBoxS H ?_
  clear H
  intro p1 w1 H
  refine rAllocS H rfl ?_
  clear H
  intro p2 w2 H
  clear w1
  refine drawzS H [] [(0, .pure), (1, .pure), (2, .held), (3, .pure), (4, .pure), (5, .pure), (6, .held), (7, .pure), (8, .pure), (9, .pure), (10, .pure), (11, .held), (12, .pure), (13, .pure), (14, .pure), (15, .pure), (16, .pure), (17, .held), (18, .pure), (19, .pure), (20, .pure), (21, .pure), (22, .held), (23, .pure), (24, .pure), (25, .pure), (26, .pure), (27, .held), (28, .pure), (29, .pure)] mixed (by kernel_rfl) (by kernel_rfl) ?_
  clear H
  intro w1 H
  clear w2
  refine tk (fun wx HS => rFieldAt rfl ⟨rfl, rfl⟩) ?_
  refine tk (fun wx HS => rFieldAt rfl ⟨rfl, rfl⟩) ?_
  refine tk (fun wx HS => rLd (HS.at 1 rfl) 3 rfl rfl rfl ⟨rfl, rfl⟩) ?_
  refine tk (fun wx HS => rFieldAt rfl ⟨rfl, rfl⟩) ?_
  refine tk (fun wx HS => rLd (HS.at 6 rfl) 0 rfl rfl rfl ⟨rfl, rfl⟩) ?_
  refine br_f (vNe_F (by omega)) ?_
  refine tk (fun wx HS => rFieldAt rfl ⟨rfl, rfl⟩) ?_
  refine tk (fun wx HS => rFieldAt rfl ⟨rfl, rfl⟩) ?_
  refine tk (fun wx HS => rLd (HS.at 1 rfl) 4 rfl rfl rfl ⟨rfl, rfl⟩) ?_
  refine br_f (vLt_F (by omega)) ?_
  refine tk (fun wx HS => rFieldAt rfl ⟨rfl, rfl⟩) ?_
  refine tk (fun wx HS => rFieldAt rfl ⟨rfl, rfl⟩) ?_
  refine tk (fun wx HS => rLd (HS.at 1 rfl) 4 rfl rfl rfl ⟨rfl, rfl⟩) ?_
  refine br_f (vLt_F (by omega)) ?_
  refine tk (fun wx HS => rFieldAt rfl ⟨rfl, rfl⟩) ?_
  refine tk (fun wx HS => rLd (HS.at 1 rfl) 0 rfl rfl rfl ⟨rfl, rfl⟩) ?_
  refine br_f (vLt_F (by omega)) ?_
  refine tk (fun wx HS => rFieldAt rfl ⟨rfl, rfl⟩) ?_
  refine tk (fun wx HS => rLd (HS.at 1 rfl) 0 rfl rfl rfl ⟨rfl, rfl⟩) ?_
  refine cF (vLt_F (by omega)) ?_
  refine rFieldAt rfl ?_
  refine rLdA (H.at 1 rfl) 3 rfl rfl rfl ?_
  refine H.fronts [7, 7] ?_
  clear H
  intro H
  refine CallP.mk (Fc.imp (Go.Proofs.Yticdhdpfimpmoaa.Proc.findY H _ _ ?_ _ hn) ?_)
  · assumption
  clear H
  rintro _ w2 ⟨b1, ⟨o1, ⟨rfl, ⟨h1, H⟩⟩⟩⟩
  refine rPtrNil rfl ?_
  refine cF rfl ?_
  refine rAllocS H rfl ?_
  clear H
  intro p3 w3 H
  clear w2
  refine rFieldAt rfl ?_
  refine rLd (H.at 4 rfl) 0 rfl rfl rfl ?_
  refine bk ?_
  refine cF (vEq_F (by omega)) ?_
  refine cT (vEq_T (by assumption)) ?_
  refine rFieldAt rfl ?_
  refine rLdA (H.at 4 rfl) 1 rfl rfl rfl ?_
  refine rFieldAt rfl ?_
  refine rLdA (H.at 4 rfl) 3 rfl rfl rfl ?_
  refine rStructNe (by kernel_rfl) (by kernel_rfl) ?_
  refine cT (not_T ((by exact pid_f hab))) ?_
  refine drawzS H [] [(0, .pure), (1, .pure), (2, .pure), (3, .held), (4, .pure), (5, .held), (6, .free)] mixed (by kernel_rfl) (by kernel_rfl) ?_
  clear H
  intro w2 H
  clear w3
  refine tk (fun wx HS => rFieldAt rfl ⟨rfl, rfl⟩) ?_
  refine tk (fun wx HS => rLd (HS.el 2 rfl h1 hx) 2 rfl rfl rfl ⟨rfl, rfl⟩) ?_
  refine tk (fun wx HS => rFieldAt rfl ⟨rfl, rfl⟩) ?_
  refine tk (fun wx HS => rLdA (HS.at 4 rfl) 1 rfl rfl rfl ⟨rfl, rfl⟩) ?_
  refine MG.rMapPut (k := ((s.fr.fst), (s.fr.snd))) H 5 rfl rfl (by first | exact keyInt | exact keyPid) ?_
  intro n1 hn1
  clear H
  intro w3 H
  clear w2
  refine rLdA (H.at 0 rfl) 0 rfl rfl rfl ?_
  refine rStAS H 3 rfl rfl rfl rfl ?_
  clear H
  intro w2 H
  clear w3
  refine rdAN (H.at 3 rfl) 0 rfl rfl rfl ?_
  subst hn1
  replace H := ((((((H.del 0).del 2).del 2).front (j := 5) rfl).front (j := 5) rfl).front (j := 5) rfl).front (j := 5) rfl
  replace H := shut (a' := .live t lb (upd lf s.fr (some 1)) (if lf s.fr = none then ln + 1 else ln) wa wc ws hb' hf hnn) hx rfl H
  exact Done.mk ⟨eff0, .slice none 0 0, _, 0, rfl, hR, H.sl0 (en := enSi) (s := 9) 40 (fun _ => rfl)⟩
theorem take3_ (H : Sat g w (Pt p [.int .i64 nd, va, .int .i64 refs] 100 :: Sl 82 5 enAc va xa :: Acts xa :: l)) (s : SigD) (hl : xa.length ≤ 16) (hb : ¬ takeBad nd s) (x : ActV) (hn : liveAt nd xa (s.to_.1, s.to_.2) = some x) (k : s.kind = 3) : Fc Try.prog 34 #[.pointer (some ⟨p, 0, none⟩), .agg #[.int .i64 s.kind, .int .i64 s.fr.1, .int .i64 s.fr.2, .int .i64 s.to_.1, .int .i64 s.to_.2, .int .i64 s.ref, .int .i64 s.why, .int .i64 s.tag, .string (bs s.body)]] w (fun r w' => ∃ (f : EffD) (vo : Value) (xa' : List ActV) (e : Int), r = .tuple #[.agg #[.int .i64 f.fr.1, .int .i64 f.fr.2, .int .i64 f.tag, .string (bs f.body), .bool f.got, .bool f.lost, .bool f.died, .int .i64 f.why, vo], .int .i64 e] ∧ TakeR nd xa s xa' f e ∧ Sat g w' (Sl 40 9 enSi vo f.out :: Pt p [.int .i64 nd, va, .int .i64 refs] 100 :: Sl 82 5 enAc va xa' :: Acts xa' :: l)) := by
  have hR := TakeR.unlink hb hn k
  obtain ⟨hx, hal, hr⟩ := live_inv hn
  obtain ⟨t, lb, lf, ln, wa, wc, ws, hb', hf, hnn, rfl⟩ := live_is hal
  unfold takeBad at hb
  refine Fc.of Try.func34 rfl (by kernel_rfl) ?_
  replace H := opened H hx
  simp only [pcs, List.cons_append, List.nil_append] at H
  refine rBoxS H ?_
  clear H
  intro p1 w1 H
  refine rAllocS H rfl ?_
  clear H
  intro p2 w2 H
  clear w1
  refine drawzS H [] [(0, .pure), (1, .pure), (2, .held), (3, .pure), (4, .pure), (5, .pure), (6, .held), (7, .pure), (8, .pure), (9, .pure), (10, .pure), (11, .held), (12, .pure), (13, .pure), (14, .pure), (15, .pure), (16, .pure), (17, .held), (18, .pure), (19, .pure), (20, .pure), (21, .pure), (22, .held), (23, .pure), (24, .pure), (25, .pure), (26, .pure), (27, .held), (28, .pure), (29, .pure)] mixed (by kernel_rfl) (by kernel_rfl) ?_
  clear H
  intro w1 H
  clear w2
  refine tk (fun wx HS => rFieldAt rfl ⟨rfl, rfl⟩) ?_
  refine tk (fun wx HS => rFieldAt rfl ⟨rfl, rfl⟩) ?_
  refine tk (fun wx HS => rLd (HS.at 1 rfl) 3 rfl rfl rfl ⟨rfl, rfl⟩) ?_
  refine tk (fun wx HS => rFieldAt rfl ⟨rfl, rfl⟩) ?_
  refine tk (fun wx HS => rLd (HS.at 6 rfl) 0 rfl rfl rfl ⟨rfl, rfl⟩) ?_
  refine br_f (vNe_F (by omega)) ?_
  refine tk (fun wx HS => rFieldAt rfl ⟨rfl, rfl⟩) ?_
  refine tk (fun wx HS => rFieldAt rfl ⟨rfl, rfl⟩) ?_
  refine tk (fun wx HS => rLd (HS.at 1 rfl) 4 rfl rfl rfl ⟨rfl, rfl⟩) ?_
  refine br_f (vLt_F (by omega)) ?_
  refine tk (fun wx HS => rFieldAt rfl ⟨rfl, rfl⟩) ?_
  refine tk (fun wx HS => rFieldAt rfl ⟨rfl, rfl⟩) ?_
  refine tk (fun wx HS => rLd (HS.at 1 rfl) 4 rfl rfl rfl ⟨rfl, rfl⟩) ?_
  refine br_f (vLt_F (by omega)) ?_
  refine tk (fun wx HS => rFieldAt rfl ⟨rfl, rfl⟩) ?_
  refine tk (fun wx HS => rLd (HS.at 1 rfl) 0 rfl rfl rfl ⟨rfl, rfl⟩) ?_
  refine br_f (vLt_F (by omega)) ?_
  refine tk (fun wx HS => rFieldAt rfl ⟨rfl, rfl⟩) ?_
  refine tk (fun wx HS => rLd (HS.at 1 rfl) 0 rfl rfl rfl ⟨rfl, rfl⟩) ?_
  refine cF (vLt_F (by omega)) ?_
  refine rFieldAt rfl ?_
  refine rLdA (H.at 1 rfl) 3 rfl rfl rfl ?_
  refine H.fronts [7, 7] ?_
  clear H
  intro H
  refine CallP.mk (Fc.imp (Go.Proofs.Yticdhdpfimpmoaa.Proc.findY H _ _ ?_ _ hn) ?_)
  · assumption
  clear H
  rintro _ w2 ⟨b1, ⟨o1, ⟨rfl, ⟨h1, H⟩⟩⟩⟩
  refine rPtrNil rfl ?_
  refine cF rfl ?_
  refine rAllocS H rfl ?_
  clear H
  intro p3 w3 H
  clear w2
  refine rFieldAt rfl ?_
  refine rLd (H.at 4 rfl) 0 rfl rfl rfl ?_
  refine bk ?_
  refine cF (vEq_F (by omega)) ?_
  refine cF (vEq_F (by omega)) ?_
  refine cT (vEq_T (by assumption)) ?_
  refine drawzS H [] [(0, .pure), (1, .pure), (2, .pure), (3, .held), (4, .pure), (5, .held), (6, .free)] mixed (by kernel_rfl) (by kernel_rfl) ?_
  clear H
  intro w2 H
  clear w3
  refine tk (fun wx HS => rFieldAt rfl ⟨rfl, rfl⟩) ?_
  refine tk (fun wx HS => rLd (HS.el 2 rfl h1 hx) 2 rfl rfl rfl ⟨rfl, rfl⟩) ?_
  refine tk (fun wx HS => rFieldAt rfl ⟨rfl, rfl⟩) ?_
  refine tk (fun wx HS => rLdA (HS.at 4 rfl) 1 rfl rfl rfl ⟨rfl, rfl⟩) ?_
  refine MG.rMapDel (k := ((s.fr.fst), (s.fr.snd))) H 5 rfl rfl (by first | exact keyInt | exact keyPid) ?_
  intro n1 hn1
  clear H
  intro w3 H
  clear w2
  refine rLdA (H.at 0 rfl) 0 rfl rfl rfl ?_
  refine rStAS H 3 rfl rfl rfl rfl ?_
  clear H
  intro w2 H
  clear w3
  refine rdAN (H.at 3 rfl) 0 rfl rfl rfl ?_
  subst hn1
  replace H := ((((((H.del 0).del 2).del 2).front (j := 5) rfl).front (j := 5) rfl).front (j := 5) rfl).front (j := 5) rfl
  replace H := shut (a' := .live t lb (upd lf s.fr none) (if lf s.fr = none then ln else ln - 1) wa wc ws hb' hf hnn) hx rfl H
  exact Done.mk ⟨eff0, .slice none 0 0, _, 0, rfl, hR, H.sl0 (en := enSi) (s := 9) 40 (fun _ => rfl)⟩
end
end Go.Proofs.Yticdhdpfimpmoaa.Proc
/- Package proc: Take, the kinds 4 to 6. -/
set_option maxRecDepth 100000
set_option maxHeartbeats 4000000
set_option linter.unusedVariables false
set_option linter.unusedSimpArgs false
namespace Go.Proofs.Yticdhdpfimpmoaa.Proc
open Go Go.Proofs.Yticdhdpfimpmoaa.Eng Go.RowKit
open Go.Proofs.Yticdhdpfimpmoaa.Eng.MG
section
variable {g : Glob} {w : World} {l : List As} {p : Nat} {va : Value} {refs nd : Int} {xa : List ActV}
theorem take4_ (H : Sat g w (Pt p [.int .i64 nd, va, .int .i64 refs] 100 :: Sl 82 5 enAc va xa :: Acts xa :: l)) (s : SigD) (hl : xa.length ≤ 16) (hb : ¬ takeBad nd s) (x : ActV) (hn : liveAt nd xa (s.to_.1, s.to_.2) = some x) (k : s.kind = 4) (hL : LinksC) (hx12 : x.ln ≤ 12 ∧ x.ws.length ≤ 1000) (hwy : -9223372036854775808 ≤ s.why ∧ s.why ≤ 9223372036854775807) : Fc Try.prog 34 #[.pointer (some ⟨p, 0, none⟩), .agg #[.int .i64 s.kind, .int .i64 s.fr.1, .int .i64 s.fr.2, .int .i64 s.to_.1, .int .i64 s.to_.2, .int .i64 s.ref, .int .i64 s.why, .int .i64 s.tag, .string (bs s.body)]] w (fun r w' => ∃ (f : EffD) (vo : Value) (xa' : List ActV) (e : Int), r = .tuple #[.agg #[.int .i64 f.fr.1, .int .i64 f.fr.2, .int .i64 f.tag, .string (bs f.body), .bool f.got, .bool f.lost, .bool f.died, .int .i64 f.why, vo], .int .i64 e] ∧ TakeR nd xa s xa' f e ∧ Sat g w' (Sl 40 9 enSi vo f.out :: Pt p [.int .i64 nd, va, .int .i64 refs] 100 :: Sl 82 5 enAc va xa' :: Acts xa' :: l)) := by
  have hb2 := hb
  unfold takeBad at hb
  refine Fc.of Try.func34 rfl (by kernel_rfl) ?_
  refine rBoxS H ?_
  clear H
  intro p1 w1 H
  refine rAllocS H rfl ?_
  clear H
  intro p2 w2 H
  clear w1
  refine drawzS H [] [(0, .pure), (1, .pure), (2, .held), (3, .pure), (4, .pure), (5, .pure), (6, .held), (7, .pure), (8, .pure), (9, .pure), (10, .pure), (11, .held), (12, .pure), (13, .pure), (14, .pure), (15, .pure), (16, .pure), (17, .held), (18, .pure), (19, .pure), (20, .pure), (21, .pure), (22, .held), (23, .pure), (24, .pure), (25, .pure), (26, .pure), (27, .held), (28, .pure), (29, .pure)] mixed (by kernel_rfl) (by kernel_rfl) ?_
  clear H
  intro w1 H
  clear w2
  refine tk (fun wx HS => rFieldAt rfl ⟨rfl, rfl⟩) ?_
  refine tk (fun wx HS => rFieldAt rfl ⟨rfl, rfl⟩) ?_
  refine tk (fun wx HS => rLd (HS.at 1 rfl) 3 rfl rfl rfl ⟨rfl, rfl⟩) ?_
  refine tk (fun wx HS => rFieldAt rfl ⟨rfl, rfl⟩) ?_
  refine tk (fun wx HS => rLd (HS.at 2 rfl) 0 rfl rfl rfl ⟨rfl, rfl⟩) ?_
  refine br_f (vNe_F (by omega)) ?_
  refine tk (fun wx HS => rFieldAt rfl ⟨rfl, rfl⟩) ?_
  refine tk (fun wx HS => rFieldAt rfl ⟨rfl, rfl⟩) ?_
  refine tk (fun wx HS => rLd (HS.at 1 rfl) 4 rfl rfl rfl ⟨rfl, rfl⟩) ?_
  refine br_f (vLt_F (by omega)) ?_
  refine tk (fun wx HS => rFieldAt rfl ⟨rfl, rfl⟩) ?_
  refine tk (fun wx HS => rFieldAt rfl ⟨rfl, rfl⟩) ?_
  refine tk (fun wx HS => rLd (HS.at 1 rfl) 4 rfl rfl rfl ⟨rfl, rfl⟩) ?_
  refine br_f (vLt_F (by omega)) ?_
  refine tk (fun wx HS => rFieldAt rfl ⟨rfl, rfl⟩) ?_
  refine tk (fun wx HS => rLd (HS.at 1 rfl) 0 rfl rfl rfl ⟨rfl, rfl⟩) ?_
  refine br_f (vLt_F (by omega)) ?_
  refine tk (fun wx HS => rFieldAt rfl ⟨rfl, rfl⟩) ?_
  refine tk (fun wx HS => rLd (HS.at 1 rfl) 0 rfl rfl rfl ⟨rfl, rfl⟩) ?_
  refine cF (vLt_F (by omega)) ?_
  refine rFieldAt rfl ?_
  refine rLdA (H.at 1 rfl) 3 rfl rfl rfl ?_
  refine H.fronts [3, 3] ?_
  clear H
  intro H
  refine CallP.mk (Fc.imp (Go.Proofs.Yticdhdpfimpmoaa.Proc.findY H _ _ ?_ _ hn) ?_)
  · assumption
  clear H
  rintro _ w2 ⟨b1, ⟨o1, ⟨rfl, ⟨h1, H⟩⟩⟩⟩
  refine rPtrNil rfl ?_
  refine cF rfl ?_
  refine rAllocS H rfl ?_
  clear H
  intro p3 w3 H
  clear w2
  refine rFieldAt rfl ?_
  refine rLd (H.at 4 rfl) 0 rfl rfl rfl ?_
  refine bk ?_
  refine cF (vEq_F (by omega)) ?_
  refine cF (vEq_F (by omega)) ?_
  refine cF (vEq_F (by omega)) ?_
  refine cF (vEq_F (by omega)) ?_
  refine cT (vEq_T (by assumption)) ?_
  refine rLdA (H.at 4 rfl) 0 rfl rfl rfl ?_
  refine H.fronts [5, 3, 3] ?_
  clear H
  intro H
  refine CallP.mk (Fc.imp (Go.Proofs.Yticdhdpfimpmoaa.Proc.exit_ ?_ H _ ?_ _ hn ?_ ?_ (b1) (o1) ?_) ?_)
  · assumption
  · assumption
  · assumption
  · assumption
  · assumption
  clear H
  rintro _ w2 ⟨f1, ⟨vo1, ⟨xa'1, ⟨rfl, ⟨h2, H⟩⟩⟩⟩⟩
  refine rStAS H 5 rfl rfl rfl (by simp only [List.all_cons, List.all_nil, H.one 0 rfl, H.one 2 rfl]; rfl) ?_
  clear H
  intro w4 H
  clear w2
  refine rdAN (H.at 5 rfl) 0 rfl rfl rfl ?_
  exact Done.mk ⟨f1, vo1, xa'1, 0, rfl, .exit hb2 hn k (by assumption), ((H.del 4).del 4).del 4⟩
theorem take5_ (H : Sat g w (Pt p [.int .i64 nd, va, .int .i64 refs] 100 :: Sl 82 5 enAc va xa :: Acts xa :: l)) (s : SigD) (hl : xa.length ≤ 16) (hb : ¬ takeBad nd s) (x : ActV) (hn : liveAt nd xa (s.to_.1, s.to_.2) = some x) (k : s.kind = 5) (hx12 : x.ws.length ≤ 1000) : Fc Try.prog 34 #[.pointer (some ⟨p, 0, none⟩), .agg #[.int .i64 s.kind, .int .i64 s.fr.1, .int .i64 s.fr.2, .int .i64 s.to_.1, .int .i64 s.to_.2, .int .i64 s.ref, .int .i64 s.why, .int .i64 s.tag, .string (bs s.body)]] w (fun r w' => ∃ (f : EffD) (vo : Value) (xa' : List ActV) (e : Int), r = .tuple #[.agg #[.int .i64 f.fr.1, .int .i64 f.fr.2, .int .i64 f.tag, .string (bs f.body), .bool f.got, .bool f.lost, .bool f.died, .int .i64 f.why, vo], .int .i64 e] ∧ TakeR nd xa s xa' f e ∧ Sat g w' (Sl 40 9 enSi vo f.out :: Pt p [.int .i64 nd, va, .int .i64 refs] 100 :: Sl 82 5 enAc va xa' :: Acts xa' :: l)) := by
  have hb2 := hb
  obtain ⟨hx, hal, hr⟩ := live_inv hn
  obtain ⟨t, lb, lf, ln, wa, wc, ws, hb', hf, hnn, rfl⟩ := live_is hal
  unfold takeBad at hb
  refine Fc.of Try.func34 rfl (by kernel_rfl) ?_
  replace H := opened H hx
  simp only [pcs, List.cons_append, List.nil_append] at H
  have hws : ws.length ≤ 1000 := hx12
  have hwe : (ActV.live t lb lf ln wa wc ws hb' hf hnn).ws.length = ws.length := rfl
  refine rBoxS H ?_
  clear H
  intro p1 w1 H
  refine rAllocS H rfl ?_
  clear H
  intro p2 w2 H
  clear w1
  refine drawzS H [] [(0, .pure), (1, .pure), (2, .held), (3, .pure), (4, .pure), (5, .pure), (6, .held), (7, .pure), (8, .pure), (9, .pure), (10, .pure), (11, .held), (12, .pure), (13, .pure), (14, .pure), (15, .pure), (16, .pure), (17, .held), (18, .pure), (19, .pure), (20, .pure), (21, .pure), (22, .held), (23, .pure), (24, .pure), (25, .pure), (26, .pure), (27, .held), (28, .pure), (29, .pure)] mixed (by kernel_rfl) (by kernel_rfl) ?_
  clear H
  intro w1 H
  clear w2
  refine tk (fun wx HS => rFieldAt rfl ⟨rfl, rfl⟩) ?_
  refine tk (fun wx HS => rFieldAt rfl ⟨rfl, rfl⟩) ?_
  refine tk (fun wx HS => rLd (HS.at 1 rfl) 3 rfl rfl rfl ⟨rfl, rfl⟩) ?_
  refine tk (fun wx HS => rFieldAt rfl ⟨rfl, rfl⟩) ?_
  refine tk (fun wx HS => rLd (HS.at 6 rfl) 0 rfl rfl rfl ⟨rfl, rfl⟩) ?_
  refine br_f (vNe_F (by omega)) ?_
  refine tk (fun wx HS => rFieldAt rfl ⟨rfl, rfl⟩) ?_
  refine tk (fun wx HS => rFieldAt rfl ⟨rfl, rfl⟩) ?_
  refine tk (fun wx HS => rLd (HS.at 1 rfl) 4 rfl rfl rfl ⟨rfl, rfl⟩) ?_
  refine br_f (vLt_F (by omega)) ?_
  refine tk (fun wx HS => rFieldAt rfl ⟨rfl, rfl⟩) ?_
  refine tk (fun wx HS => rFieldAt rfl ⟨rfl, rfl⟩) ?_
  refine tk (fun wx HS => rLd (HS.at 1 rfl) 4 rfl rfl rfl ⟨rfl, rfl⟩) ?_
  refine br_f (vLt_F (by omega)) ?_
  refine tk (fun wx HS => rFieldAt rfl ⟨rfl, rfl⟩) ?_
  refine tk (fun wx HS => rLd (HS.at 1 rfl) 0 rfl rfl rfl ⟨rfl, rfl⟩) ?_
  refine br_f (vLt_F (by omega)) ?_
  refine tk (fun wx HS => rFieldAt rfl ⟨rfl, rfl⟩) ?_
  refine tk (fun wx HS => rLd (HS.at 1 rfl) 0 rfl rfl rfl ⟨rfl, rfl⟩) ?_
  refine cF (vLt_F (by omega)) ?_
  refine rFieldAt rfl ?_
  refine rLdA (H.at 1 rfl) 3 rfl rfl rfl ?_
  refine H.fronts [7, 7] ?_
  clear H
  intro H
  refine CallP.mk (Fc.imp (Go.Proofs.Yticdhdpfimpmoaa.Proc.findY H _ _ ?_ _ hn) ?_)
  · assumption
  clear H
  rintro _ w2 ⟨b1, ⟨o1, ⟨rfl, ⟨h1, H⟩⟩⟩⟩
  refine rPtrNil rfl ?_
  refine cF rfl ?_
  refine rAllocS H rfl ?_
  clear H
  intro p3 w3 H
  clear w2
  refine rFieldAt rfl ?_
  refine rLd (H.at 4 rfl) 0 rfl rfl rfl ?_
  refine bk ?_
  refine cF (vEq_F (by omega)) ?_
  refine cF (vEq_F (by omega)) ?_
  refine cF (vEq_F (by omega)) ?_
  refine cT (vEq_T (by assumption)) ?_
  refine drawzS H [] [(0, .pure), (1, .pure), (2, .pure), (3, .pure), (4, .held), (5, .pure), (6, .held), (7, .pure), (8, .held), (9, .pure), (10, .forced), (11, .free), (12, .pure), (13, .pure), (14, .free)] mixed (by kernel_rfl) (by kernel_rfl) ?_
  clear H
  intro w2 H
  clear w3
  refine tk (fun wx HS => rFieldAt rfl ⟨rfl, rfl⟩) ?_
  refine tk (fun wx HS => rLd (HS.el 2 rfl h1 hx) 3 rfl rfl rfl ⟨rfl, rfl⟩) ?_
  refine tk (fun wx HS => rFieldAt rfl ⟨rfl, rfl⟩) ?_
  refine tk (fun wx HS => rLdA (HS.at 4 rfl) 1 rfl rfl rfl ⟨rfl, rfl⟩) ?_
  refine tk (fun wx HS => rFieldAt rfl ⟨rfl, rfl⟩) ?_
  refine tk (fun wx HS => rLd (HS.at 4 rfl) 5 rfl rfl rfl ⟨rfl, rfl⟩) ?_
  refine tk (fun wx HS => rBuild rfl rfl rfl ⟨rfl, rfl⟩) ?_
  refine rBuildSliceS H rfl rfl rfl rfl ?_
  clear H
  intro p4 w3 H
  clear w2
  refine KeepP.mk (H.drop 0 (fun H => H)) ?_
  refine rApS (ys := [⟨_, _⟩]) 24 H 7 rfl (H.at 0 rfl) rfl (fun y _ => rfl) rfl rfl rfl (by omega) (by omega) ?_
  intro v1
  clear H
  intro w2 H
  clear w3
  refine tk (fun wx HS => rFieldAt rfl ⟨rfl, rfl⟩) ?_
  obtain ⟨wa', wc', hv9⟩ := H.form 7 rfl
  subst hv9
  refine rStE H 3 rfl h1 hx 3 (ActV.live t lb lf ln wa' wc' (ws ++ [(s.fr, s.ref)]) hb' hf hnn) rfl rfl rfl rfl ?_
  clear H
  intro w9 H
  refine rLdA (H.at 1 rfl) 0 rfl rfl rfl ?_
  refine rStAS H 4 rfl rfl rfl rfl ?_
  clear H
  intro w3 H
  clear w9
  refine rdAN (H.at 4 rfl) 0 rfl rfl rfl ?_
  replace H := (((((((H.del 0).del 0).del 2).del 2).front (j := 5) rfl).front (j := 5) rfl).front (j := 5) rfl).front (j := 5) rfl
  have hi := (List.getElem?_eq_some_iff.1 hx).1
  replace H := Sat.actBack (a := ActV.live t lb lf ln wa' wc' (ws ++ [(s.fr, s.ref)]) hb' hf hnn) hi H
  exact Done.mk ⟨eff0, .slice none 0 0, _, 0, rfl, .watch hb2 hn k, ((H.front (j := 2) rfl).front (j := 2) rfl).sl0 (en := enSi) (s := 9) 40 (fun _ => rfl)⟩
theorem take6a_ (H : Sat g w (Pt p [.int .i64 nd, va, .int .i64 refs] 100 :: Sl 82 5 enAc va xa :: Acts xa :: l)) (s : SigD) (hl : xa.length ≤ 16) (hb : ¬ takeBad nd s) (x : ActV) (hn : liveAt nd xa (s.to_.1, s.to_.2) = some x) (k : s.kind = 6) (hw : x.hf s.ref = none) : Fc Try.prog 34 #[.pointer (some ⟨p, 0, none⟩), .agg #[.int .i64 s.kind, .int .i64 s.fr.1, .int .i64 s.fr.2, .int .i64 s.to_.1, .int .i64 s.to_.2, .int .i64 s.ref, .int .i64 s.why, .int .i64 s.tag, .string (bs s.body)]] w (fun r w' => ∃ (f : EffD) (vo : Value) (xa' : List ActV) (e : Int), r = .tuple #[.agg #[.int .i64 f.fr.1, .int .i64 f.fr.2, .int .i64 f.tag, .string (bs f.body), .bool f.got, .bool f.lost, .bool f.died, .int .i64 f.why, vo], .int .i64 e] ∧ TakeR nd xa s xa' f e ∧ Sat g w' (Sl 40 9 enSi vo f.out :: Pt p [.int .i64 nd, va, .int .i64 refs] 100 :: Sl 82 5 enAc va xa' :: Acts xa' :: l)) := by
  have hR := TakeR.other hb hn k (by rw [hw]; nofun)
  obtain ⟨hx, hal, hr⟩ := live_inv hn
  obtain ⟨t, lb, lf, ln, wa, wc, ws, hb', hf, hnn, rfl⟩ := live_is hal
  unfold takeBad at hb
  refine Fc.of Try.func34 rfl (by kernel_rfl) ?_
  replace H := opened H hx
  simp only [pcs, List.cons_append, List.nil_append] at H
  have hw2 : hf s.ref = none := hw
  refine rBoxS H ?_
  clear H
  intro p1 w1 H
  refine rAllocS H rfl ?_
  clear H
  intro p2 w2 H
  clear w1
  refine drawzS H [] [(0, .pure), (1, .pure), (2, .held), (3, .pure), (4, .pure), (5, .pure), (6, .held), (7, .pure), (8, .pure), (9, .pure), (10, .pure), (11, .held), (12, .pure), (13, .pure), (14, .pure), (15, .pure), (16, .pure), (17, .held), (18, .pure), (19, .pure), (20, .pure), (21, .pure), (22, .held), (23, .pure), (24, .pure), (25, .pure), (26, .pure), (27, .held), (28, .pure), (29, .pure)] mixed (by kernel_rfl) (by kernel_rfl) ?_
  clear H
  intro w1 H
  clear w2
  refine tk (fun wx HS => rFieldAt rfl ⟨rfl, rfl⟩) ?_
  refine tk (fun wx HS => rFieldAt rfl ⟨rfl, rfl⟩) ?_
  refine tk (fun wx HS => rLd (HS.at 1 rfl) 3 rfl rfl rfl ⟨rfl, rfl⟩) ?_
  refine tk (fun wx HS => rFieldAt rfl ⟨rfl, rfl⟩) ?_
  refine tk (fun wx HS => rLd (HS.at 6 rfl) 0 rfl rfl rfl ⟨rfl, rfl⟩) ?_
  refine br_f (vNe_F (by omega)) ?_
  refine tk (fun wx HS => rFieldAt rfl ⟨rfl, rfl⟩) ?_
  refine tk (fun wx HS => rFieldAt rfl ⟨rfl, rfl⟩) ?_
  refine tk (fun wx HS => rLd (HS.at 1 rfl) 4 rfl rfl rfl ⟨rfl, rfl⟩) ?_
  refine br_f (vLt_F (by omega)) ?_
  refine tk (fun wx HS => rFieldAt rfl ⟨rfl, rfl⟩) ?_
  refine tk (fun wx HS => rFieldAt rfl ⟨rfl, rfl⟩) ?_
  refine tk (fun wx HS => rLd (HS.at 1 rfl) 4 rfl rfl rfl ⟨rfl, rfl⟩) ?_
  refine br_f (vLt_F (by omega)) ?_
  refine tk (fun wx HS => rFieldAt rfl ⟨rfl, rfl⟩) ?_
  refine tk (fun wx HS => rLd (HS.at 1 rfl) 0 rfl rfl rfl ⟨rfl, rfl⟩) ?_
  refine br_f (vLt_F (by omega)) ?_
  refine tk (fun wx HS => rFieldAt rfl ⟨rfl, rfl⟩) ?_
  refine tk (fun wx HS => rLd (HS.at 1 rfl) 0 rfl rfl rfl ⟨rfl, rfl⟩) ?_
  refine cF (vLt_F (by omega)) ?_
  refine rFieldAt rfl ?_
  refine rLdA (H.at 1 rfl) 3 rfl rfl rfl ?_
  refine H.fronts [7, 7] ?_
  clear H
  intro H
  refine CallP.mk (Fc.imp (Go.Proofs.Yticdhdpfimpmoaa.Proc.findY H _ _ ?_ _ hn) ?_)
  · assumption
  clear H
  rintro _ w2 ⟨b1, ⟨o1, ⟨rfl, ⟨h1, H⟩⟩⟩⟩
  refine rPtrNil rfl ?_
  refine cF rfl ?_
  refine rAllocS H rfl ?_
  clear H
  intro p3 w3 H
  clear w2
  refine rFieldAt rfl ?_
  refine rLd (H.at 4 rfl) 0 rfl rfl rfl ?_
  refine bk ?_
  refine cF (vEq_F (by omega)) ?_
  refine cF (vEq_F (by omega)) ?_
  refine cF (vEq_F (by omega)) ?_
  refine cF (vEq_F (by omega)) ?_
  refine cF (vEq_F (by omega)) ?_
  refine cT (vEq_T (by assumption)) ?_
  refine drawzS H [] [(0, .pure), (1, .pure), (2, .pure), (3, .held), (4, .pure), (5, .held), (6, .held), (7, .pure), (8, .pure), (9, .pure), (10, .forced), (11, .free), (12, .pure)] mixed (by kernel_rfl) (by kernel_rfl) ?_
  clear H
  intro w2 H
  clear w3
  refine tk (fun wx HS => rFieldAt rfl ⟨rfl, rfl⟩) ?_
  refine tk (fun wx HS => rLd (HS.el 2 rfl h1 hx) 4 rfl rfl rfl ⟨rfl, rfl⟩) ?_
  refine tk (fun wx HS => rFieldAt rfl ⟨rfl, rfl⟩) ?_
  refine tk (fun wx HS => rLd (HS.at 4 rfl) 5 rfl rfl rfl ⟨rfl, rfl⟩) ?_
  refine tk (fun wx HS => MG.rMapGetN HS 7 rfl hw2 rfl (by first | exact keyInt | exact keyPid) rfl ⟨rfl, rfl⟩) ?_
  refine rAllocS H rfl ?_
  clear H
  intro p4 w3 H
  clear w2
  refine KeepP.mk (H.drop 0 (fun H => H)) ?_
  refine rStAS H 0 rfl rfl rfl rfl ?_
  clear H
  intro w2 H
  clear w3
  refine cF rfl ?_
  refine rLdA (H.at 1 rfl) 0 rfl rfl rfl ?_
  refine rStAS H 4 rfl rfl rfl rfl ?_
  clear H
  intro w3 H
  clear w2
  refine rdAN (H.at 4 rfl) 0 rfl rfl rfl ?_
  replace H := (((((((H.del 0).del 0).del 2).del 2).front (j := 5) rfl).front (j := 5) rfl).front (j := 5) rfl).front (j := 5) rfl
  exact Done.mk ⟨eff0, .slice none 0 0, xa, 0, rfl, hR, (shut0 hx H).sl0 (en := enSi) (s := 9) 40 (fun _ => rfl)⟩
theorem take6b_ (H : Sat g w (Pt p [.int .i64 nd, va, .int .i64 refs] 100 :: Sl 82 5 enAc va xa :: Acts xa :: l)) (s : SigD) (hl : xa.length ≤ 16) (hb : ¬ takeBad nd s) (x : ActV) (hn : liveAt nd xa (s.to_.1, s.to_.2) = some x) (k : s.kind = 6) (y : PidD) (hw : x.hf s.ref = some y) (he : y ≠ s.fr) : Fc Try.prog 34 #[.pointer (some ⟨p, 0, none⟩), .agg #[.int .i64 s.kind, .int .i64 s.fr.1, .int .i64 s.fr.2, .int .i64 s.to_.1, .int .i64 s.to_.2, .int .i64 s.ref, .int .i64 s.why, .int .i64 s.tag, .string (bs s.body)]] w (fun r w' => ∃ (f : EffD) (vo : Value) (xa' : List ActV) (e : Int), r = .tuple #[.agg #[.int .i64 f.fr.1, .int .i64 f.fr.2, .int .i64 f.tag, .string (bs f.body), .bool f.got, .bool f.lost, .bool f.died, .int .i64 f.why, vo], .int .i64 e] ∧ TakeR nd xa s xa' f e ∧ Sat g w' (Sl 40 9 enSi vo f.out :: Pt p [.int .i64 nd, va, .int .i64 refs] 100 :: Sl 82 5 enAc va xa' :: Acts xa' :: l)) := by
  have hR := TakeR.other hb hn k (by rw [hw]; exact fun h => he (Option.some.inj h))
  have hab : ¬ (y.1 = s.fr.1 ∧ y.2 = s.fr.2) := fun h => he (Prod.ext h.1 h.2)
  obtain ⟨hx, hal, hr⟩ := live_inv hn
  obtain ⟨t, lb, lf, ln, wa, wc, ws, hb', hf, hnn, rfl⟩ := live_is hal
  unfold takeBad at hb
  refine Fc.of Try.func34 rfl (by kernel_rfl) ?_
  replace H := opened H hx
  simp only [pcs, List.cons_append, List.nil_append] at H
  have hw2 : hf s.ref = some y := hw
  refine rBoxS H ?_
  clear H
  intro p1 w1 H
  refine rAllocS H rfl ?_
  clear H
  intro p2 w2 H
  clear w1
  refine drawzS H [] [(0, .pure), (1, .pure), (2, .held), (3, .pure), (4, .pure), (5, .pure), (6, .held), (7, .pure), (8, .pure), (9, .pure), (10, .pure), (11, .held), (12, .pure), (13, .pure), (14, .pure), (15, .pure), (16, .pure), (17, .held), (18, .pure), (19, .pure), (20, .pure), (21, .pure), (22, .held), (23, .pure), (24, .pure), (25, .pure), (26, .pure), (27, .held), (28, .pure), (29, .pure)] mixed (by kernel_rfl) (by kernel_rfl) ?_
  clear H
  intro w1 H
  clear w2
  refine tk (fun wx HS => rFieldAt rfl ⟨rfl, rfl⟩) ?_
  refine tk (fun wx HS => rFieldAt rfl ⟨rfl, rfl⟩) ?_
  refine tk (fun wx HS => rLd (HS.at 1 rfl) 3 rfl rfl rfl ⟨rfl, rfl⟩) ?_
  refine tk (fun wx HS => rFieldAt rfl ⟨rfl, rfl⟩) ?_
  refine tk (fun wx HS => rLd (HS.at 6 rfl) 0 rfl rfl rfl ⟨rfl, rfl⟩) ?_
  refine br_f (vNe_F (by omega)) ?_
  refine tk (fun wx HS => rFieldAt rfl ⟨rfl, rfl⟩) ?_
  refine tk (fun wx HS => rFieldAt rfl ⟨rfl, rfl⟩) ?_
  refine tk (fun wx HS => rLd (HS.at 1 rfl) 4 rfl rfl rfl ⟨rfl, rfl⟩) ?_
  refine br_f (vLt_F (by omega)) ?_
  refine tk (fun wx HS => rFieldAt rfl ⟨rfl, rfl⟩) ?_
  refine tk (fun wx HS => rFieldAt rfl ⟨rfl, rfl⟩) ?_
  refine tk (fun wx HS => rLd (HS.at 1 rfl) 4 rfl rfl rfl ⟨rfl, rfl⟩) ?_
  refine br_f (vLt_F (by omega)) ?_
  refine tk (fun wx HS => rFieldAt rfl ⟨rfl, rfl⟩) ?_
  refine tk (fun wx HS => rLd (HS.at 1 rfl) 0 rfl rfl rfl ⟨rfl, rfl⟩) ?_
  refine br_f (vLt_F (by omega)) ?_
  refine tk (fun wx HS => rFieldAt rfl ⟨rfl, rfl⟩) ?_
  refine tk (fun wx HS => rLd (HS.at 1 rfl) 0 rfl rfl rfl ⟨rfl, rfl⟩) ?_
  refine cF (vLt_F (by omega)) ?_
  refine rFieldAt rfl ?_
  refine rLdA (H.at 1 rfl) 3 rfl rfl rfl ?_
  refine H.fronts [7, 7] ?_
  clear H
  intro H
  refine CallP.mk (Fc.imp (Go.Proofs.Yticdhdpfimpmoaa.Proc.findY H _ _ ?_ _ hn) ?_)
  · assumption
  clear H
  rintro _ w2 ⟨b1, ⟨o1, ⟨rfl, ⟨h1, H⟩⟩⟩⟩
  refine rPtrNil rfl ?_
  refine cF rfl ?_
  refine rAllocS H rfl ?_
  clear H
  intro p3 w3 H
  clear w2
  refine rFieldAt rfl ?_
  refine rLd (H.at 4 rfl) 0 rfl rfl rfl ?_
  refine bk ?_
  refine cF (vEq_F (by omega)) ?_
  refine cF (vEq_F (by omega)) ?_
  refine cF (vEq_F (by omega)) ?_
  refine cF (vEq_F (by omega)) ?_
  refine cF (vEq_F (by omega)) ?_
  refine cT (vEq_T (by assumption)) ?_
  refine drawzS H [] [(0, .pure), (1, .pure), (2, .pure), (3, .held), (4, .pure), (5, .held), (6, .held), (7, .pure), (8, .pure), (9, .pure), (10, .forced), (11, .free), (12, .pure)] mixed (by kernel_rfl) (by kernel_rfl) ?_
  clear H
  intro w2 H
  clear w3
  refine tk (fun wx HS => rFieldAt rfl ⟨rfl, rfl⟩) ?_
  refine tk (fun wx HS => rLd (HS.el 2 rfl h1 hx) 4 rfl rfl rfl ⟨rfl, rfl⟩) ?_
  refine tk (fun wx HS => rFieldAt rfl ⟨rfl, rfl⟩) ?_
  refine tk (fun wx HS => rLd (HS.at 4 rfl) 5 rfl rfl rfl ⟨rfl, rfl⟩) ?_
  refine tk (fun wx HS => MG.rMapGetY HS 7 rfl hw2 rfl (by first | exact keyInt | exact keyPid) rfl ⟨rfl, rfl⟩) ?_
  refine rAllocS H rfl ?_
  clear H
  intro p4 w3 H
  clear w2
  refine KeepP.mk (H.drop 0 (fun H => H)) ?_
  refine rStAS H 0 rfl rfl rfl rfl ?_
  clear H
  intro w2 H
  clear w3
  refine rLdA (H.at 0 rfl) 0 rfl rfl rfl ?_
  refine rFieldAt rfl ?_
  refine rLdA (H.at 5 rfl) 1 rfl rfl rfl ?_
  refine rStructEq (by kernel_rfl) (by kernel_rfl) ?_
  refine cF ((by exact pid_f hab)) ?_
  refine rLdA (H.at 1 rfl) 0 rfl rfl rfl ?_
  refine rStAS H 4 rfl rfl rfl rfl ?_
  clear H
  intro w3 H
  clear w2
  refine rdAN (H.at 4 rfl) 0 rfl rfl rfl ?_
  replace H := (((((((H.del 0).del 0).del 2).del 2).front (j := 5) rfl).front (j := 5) rfl).front (j := 5) rfl).front (j := 5) rfl
  exact Done.mk ⟨eff0, .slice none 0 0, xa, 0, rfl, hR, (shut0 hx H).sl0 (en := enSi) (s := 9) 40 (fun _ => rfl)⟩
theorem take6c_ (H : Sat g w (Pt p [.int .i64 nd, va, .int .i64 refs] 100 :: Sl 82 5 enAc va xa :: Acts xa :: l)) (s : SigD) (hl : xa.length ≤ 16) (hb : ¬ takeBad nd s) (x : ActV) (hn : liveAt nd xa (s.to_.1, s.to_.2) = some x) (k : s.kind = 6) (y : PidD) (hw : x.hf s.ref = some y) (he : y = s.fr) (hrn : x.hn ≤ 1000) : Fc Try.prog 34 #[.pointer (some ⟨p, 0, none⟩), .agg #[.int .i64 s.kind, .int .i64 s.fr.1, .int .i64 s.fr.2, .int .i64 s.to_.1, .int .i64 s.to_.2, .int .i64 s.ref, .int .i64 s.why, .int .i64 s.tag, .string (bs s.body)]] w (fun r w' => ∃ (f : EffD) (vo : Value) (xa' : List ActV) (e : Int), r = .tuple #[.agg #[.int .i64 f.fr.1, .int .i64 f.fr.2, .int .i64 f.tag, .string (bs f.body), .bool f.got, .bool f.lost, .bool f.died, .int .i64 f.why, vo], .int .i64 e] ∧ TakeR nd xa s xa' f e ∧ Sat g w' (Sl 40 9 enSi vo f.out :: Pt p [.int .i64 nd, va, .int .i64 refs] 100 :: Sl 82 5 enAc va xa' :: Acts xa' :: l)) := by
  have hR := TakeR.down hb hn k (by rw [hw, he])
  have hab : y.1 = s.fr.1 ∧ y.2 = s.fr.2 := by rw [he]; exact ⟨rfl, rfl⟩
  have hbr : 0 ≤ s.ref % 256 ∧ s.ref % 256 ≤ 255 := by omega
  have hbk : 0 ≤ s.why % 256 ∧ s.why % 256 ≤ 255 := by omega
  obtain ⟨hx, hal, hr⟩ := live_inv hn
  obtain ⟨t, lb, lf, ln, wa, wc, ws, hb', hf, hnn, rfl⟩ := live_is hal
  unfold takeBad at hb
  refine Fc.of Try.func34 rfl (by kernel_rfl) ?_
  replace H := opened H hx
  simp only [pcs, List.cons_append, List.nil_append] at H
  have hw2 : hf s.ref = some y := hw
  refine rBoxS H ?_
  clear H
  intro p1 w1 H
  refine rAllocS H rfl ?_
  clear H
  intro p2 w2 H
  clear w1
  refine drawzS H [] [(0, .pure), (1, .pure), (2, .held), (3, .pure), (4, .pure), (5, .pure), (6, .held), (7, .pure), (8, .pure), (9, .pure), (10, .pure), (11, .held), (12, .pure), (13, .pure), (14, .pure), (15, .pure), (16, .pure), (17, .held), (18, .pure), (19, .pure), (20, .pure), (21, .pure), (22, .held), (23, .pure), (24, .pure), (25, .pure), (26, .pure), (27, .held), (28, .pure), (29, .pure)] mixed (by kernel_rfl) (by kernel_rfl) ?_
  clear H
  intro w1 H
  clear w2
  refine tk (fun wx HS => rFieldAt rfl ⟨rfl, rfl⟩) ?_
  refine tk (fun wx HS => rFieldAt rfl ⟨rfl, rfl⟩) ?_
  refine tk (fun wx HS => rLd (HS.at 1 rfl) 3 rfl rfl rfl ⟨rfl, rfl⟩) ?_
  refine tk (fun wx HS => rFieldAt rfl ⟨rfl, rfl⟩) ?_
  refine tk (fun wx HS => rLd (HS.at 6 rfl) 0 rfl rfl rfl ⟨rfl, rfl⟩) ?_
  refine br_f (vNe_F (by omega)) ?_
  refine tk (fun wx HS => rFieldAt rfl ⟨rfl, rfl⟩) ?_
  refine tk (fun wx HS => rFieldAt rfl ⟨rfl, rfl⟩) ?_
  refine tk (fun wx HS => rLd (HS.at 1 rfl) 4 rfl rfl rfl ⟨rfl, rfl⟩) ?_
  refine br_f (vLt_F (by omega)) ?_
  refine tk (fun wx HS => rFieldAt rfl ⟨rfl, rfl⟩) ?_
  refine tk (fun wx HS => rFieldAt rfl ⟨rfl, rfl⟩) ?_
  refine tk (fun wx HS => rLd (HS.at 1 rfl) 4 rfl rfl rfl ⟨rfl, rfl⟩) ?_
  refine br_f (vLt_F (by omega)) ?_
  refine tk (fun wx HS => rFieldAt rfl ⟨rfl, rfl⟩) ?_
  refine tk (fun wx HS => rLd (HS.at 1 rfl) 0 rfl rfl rfl ⟨rfl, rfl⟩) ?_
  refine br_f (vLt_F (by omega)) ?_
  refine tk (fun wx HS => rFieldAt rfl ⟨rfl, rfl⟩) ?_
  refine tk (fun wx HS => rLd (HS.at 1 rfl) 0 rfl rfl rfl ⟨rfl, rfl⟩) ?_
  refine cF (vLt_F (by omega)) ?_
  refine rFieldAt rfl ?_
  refine rLdA (H.at 1 rfl) 3 rfl rfl rfl ?_
  refine H.fronts [7, 7] ?_
  clear H
  intro H
  refine CallP.mk (Fc.imp (Go.Proofs.Yticdhdpfimpmoaa.Proc.findY H _ _ ?_ _ hn) ?_)
  · assumption
  clear H
  rintro _ w2 ⟨b1, ⟨o1, ⟨rfl, ⟨h1, H⟩⟩⟩⟩
  refine rPtrNil rfl ?_
  refine cF rfl ?_
  refine rAllocS H rfl ?_
  clear H
  intro p3 w3 H
  clear w2
  refine rFieldAt rfl ?_
  refine rLd (H.at 4 rfl) 0 rfl rfl rfl ?_
  refine bk ?_
  refine cF (vEq_F (by omega)) ?_
  refine cF (vEq_F (by omega)) ?_
  refine cF (vEq_F (by omega)) ?_
  refine cF (vEq_F (by omega)) ?_
  refine cF (vEq_F (by omega)) ?_
  refine cT (vEq_T (by assumption)) ?_
  refine drawzS H [] [(0, .pure), (1, .pure), (2, .pure), (3, .held), (4, .pure), (5, .held), (6, .held), (7, .pure), (8, .pure), (9, .pure), (10, .forced), (11, .free), (12, .pure)] mixed (by kernel_rfl) (by kernel_rfl) ?_
  clear H
  intro w2 H
  clear w3
  refine tk (fun wx HS => rFieldAt rfl ⟨rfl, rfl⟩) ?_
  refine tk (fun wx HS => rLd (HS.el 2 rfl h1 hx) 4 rfl rfl rfl ⟨rfl, rfl⟩) ?_
  refine tk (fun wx HS => rFieldAt rfl ⟨rfl, rfl⟩) ?_
  refine tk (fun wx HS => rLd (HS.at 4 rfl) 5 rfl rfl rfl ⟨rfl, rfl⟩) ?_
  refine tk (fun wx HS => MG.rMapGetY HS 7 rfl hw2 rfl (by first | exact keyInt | exact keyPid) rfl ⟨rfl, rfl⟩) ?_
  refine rAllocS H rfl ?_
  clear H
  intro p4 w3 H
  clear w2
  refine KeepP.mk (H.drop 0 (fun H => H)) ?_
  refine rStAS H 0 rfl rfl rfl rfl ?_
  clear H
  intro w2 H
  clear w3
  refine rLdA (H.at 0 rfl) 0 rfl rfl rfl ?_
  refine rFieldAt rfl ?_
  refine rLdA (H.at 5 rfl) 1 rfl rfl rfl ?_
  refine rStructEq (by kernel_rfl) (by kernel_rfl) ?_
  refine cT ((by exact pid_t hab)) ?_
  refine drawzS H [] [(0, .pure), (1, .pure), (2, .pure), (3, .held), (4, .pure), (5, .held), (6, .free)] mixed (by kernel_rfl) (by kernel_rfl) ?_
  clear H
  intro w3 H
  clear w2
  refine tk (fun wx HS => rFieldAt rfl ⟨rfl, rfl⟩) ?_
  refine tk (fun wx HS => rLd (HS.el 3 rfl h1 hx) 4 rfl rfl rfl ⟨rfl, rfl⟩) ?_
  refine tk (fun wx HS => rFieldAt rfl ⟨rfl, rfl⟩) ?_
  refine tk (fun wx HS => rLd (HS.at 5 rfl) 5 rfl rfl rfl ⟨rfl, rfl⟩) ?_
  refine MG.rMapDel H 8 rfl rfl (by first | exact keyInt | exact keyPid) ?_
  intro n1 hn1
  clear H
  intro w2 H
  clear w3
  refine rFieldAt rfl ?_
  refine rLd (H.at 5 rfl) 5 rfl rfl rfl ?_
  refine rConvU8M rfl rfl ?_
  refine rFieldAt rfl ?_
  refine rLd (H.at 5 rfl) 6 rfl rfl rfl ?_
  refine rConvU8M rfl rfl ?_
  refine rBuildSliceS H rfl rfl rfl rfl ?_
  clear H
  intro p5 w3 H
  clear w2
  have hbk1 := byteIsI (x := s.ref % 256) (by omega)
  rw [hbk1] at H
  clear hbk1
  have hbk1 := byteIsI (x := s.why % 256) (by omega)
  rw [hbk1] at H
  clear hbk1
  refine H.ptSl (n := 2) (en := enY) (s := 1) 0 rfl [_, _] rfl rfl (fun _ => rfl) rfl ?_
  clear H
  intro H
  refine rBytesStrS H 0 rfl rfl rfl rfl ?_
  refine drawzS H [2] [(0, .pure), (1, .held), (2, .pure), (3, .pure), (4, .pure), (5, .forced), (6, .pure), (7, .free)] mixed (by kernel_rfl) (by kernel_rfl) ?_
  clear H
  intro w2 H
  clear w3
  refine tk (fun wx HS => rFieldAt rfl ⟨rfl, rfl⟩) ?_
  refine tk (fun wx HS => rLdA (HS.at 5 rfl) 1 rfl rfl rfl ⟨rfl, rfl⟩) ?_
  refine tk (fun wx HS => rBuild rfl rfl rfl ⟨rfl, rfl⟩) ?_
  refine tk (fun wx HS => rFieldAt rfl ⟨rfl, rfl⟩) ?_
  refine rStS H 2 rfl rfl rfl rfl ?_
  clear H
  intro w3 H
  clear w2
  refine KeepP.mk (H.drop 2 (fun H => H)) ?_
  refine tk (fun wx HS => rFieldAt rfl ⟨rfl, rfl⟩) ?_
  refine rStAS H 2 rfl rfl rfl rfl ?_
  clear H
  intro w2 H
  clear w3
  refine rLdA (H.at 2 rfl) 0 rfl rfl rfl ?_
  refine rStAS H 5 rfl rfl rfl rfl ?_
  clear H
  intro w3 H
  clear w2
  refine rdAN (H.at 5 rfl) 0 rfl rfl rfl ?_
  rw [if_neg (by rw [hw2]; nofun)] at hn1
  subst hn1
  replace H := ((((((((H.del 0).del 0).del 0).del 2).del 2).front (j := 5) rfl).front (j := 5) rfl).front (j := 5) rfl).front (j := 5) rfl
  replace H := shut (a' := .live t lb lf ln wa wc ws hb' (upd hf s.ref none) (hnn - 1)) hx rfl H
  exact Done.mk ⟨_, .slice none 0 0, _, 0, rfl, hR, H.sl0 (en := enSi) (s := 9) 40 (fun _ => rfl)⟩
end
end Go.Proofs.Yticdhdpfimpmoaa.Proc
/- Package proc: Take. -/
set_option maxRecDepth 100000
set_option maxHeartbeats 4000000
set_option linter.unusedVariables false
set_option linter.unusedSimpArgs false
namespace Go.Proofs.Yticdhdpfimpmoaa.Proc
open Go Go.Proofs.Yticdhdpfimpmoaa.Eng Go.RowKit
open Go.Proofs.Yticdhdpfimpmoaa.Eng.MG
section
variable {g : Glob} {w : World} {l : List As} {p : Nat} {va : Value} {refs nd : Int} {xa : List ActV}
theorem take_ (H : Sat g w (Pt p [.int .i64 nd, va, .int .i64 refs] 100 :: Sl 82 5 enAc va xa :: Acts xa :: l)) (s : SigD) (hl : xa.length ≤ 16) (hL : LinksC) (hx12 : ∀ x, liveAt nd xa s.to_ = some x → x.ln ≤ 12 ∧ x.ws.length ≤ 1000 ∧ x.hn ≤ 1000) (hwy : -9223372036854775808 ≤ s.why ∧ s.why ≤ 9223372036854775807) : Fc Try.prog 34 #[.pointer (some ⟨p, 0, none⟩), .agg #[.int .i64 s.kind, .int .i64 s.fr.1, .int .i64 s.fr.2, .int .i64 s.to_.1, .int .i64 s.to_.2, .int .i64 s.ref, .int .i64 s.why, .int .i64 s.tag, .string (bs s.body)]] w (fun r w' => ∃ (f : EffD) (vo : Value) (xa' : List ActV) (e : Int), r = .tuple #[.agg #[.int .i64 f.fr.1, .int .i64 f.fr.2, .int .i64 f.tag, .string (bs f.body), .bool f.got, .bool f.lost, .bool f.died, .int .i64 f.why, vo], .int .i64 e] ∧ TakeR nd xa s xa' f e ∧ Sat g w' (Sl 40 9 enSi vo f.out :: Pt p [.int .i64 nd, va, .int .i64 refs] 100 :: Sl 82 5 enAc va xa' :: Acts xa' :: l)) := by
  by_cases hb : takeBad nd s
  · exact takeB_ H s hl hb
  cases hn : liveAt nd xa (s.to_.1, s.to_.2) with
  | none => exact take0_ H s hl hb hn
  | some x =>
    obtain ⟨hx1, hx2, hx3⟩ := hx12 x hn
    have hk : s.kind = 1 ∨ s.kind = 2 ∨ s.kind = 3 ∨ s.kind = 4 ∨ s.kind = 5 ∨ s.kind = 6 := by unfold takeBad at hb; omega
    rcases hk with k | k | k | k | k | k
    · exact take1_ H s hl hb x hn k
    · by_cases he : s.fr = s.to_
      · exact take2a_ H s hl hb x hn k he
      · exact take2b_ H s hl hb x hn k he
    · exact take3_ H s hl hb x hn k
    · exact take4_ H s hl hb x hn k hL ⟨hx1, hx2⟩ hwy
    · exact take5_ H s hl hb x hn k hx2
    · cases hw : x.hf s.ref with
      | none => exact take6a_ H s hl hb x hn k hw
      | some y =>
        by_cases he : y = s.fr
        · exact take6c_ H s hl hb x hn k y hw he hx3
        · exact take6b_ H s hl hb x hn k y hw he
end
end Go.Proofs.Yticdhdpfimpmoaa.Proc
/- Package proc: order. -/
set_option maxRecDepth 100000
set_option maxHeartbeats 4000000
set_option linter.unusedVariables false
set_option linter.unusedSimpArgs false
namespace Go.Proofs.Yticdhdpfimpmoaa.Proc
open Go Go.Proofs.Yticdhdpfimpmoaa.Eng Go.RowKit
open Go.Proofs.Yticdhdpfimpmoaa.Eng.MG
def cmpF (a b : Int) : Int := if a < b then -1 else if b < a then 1 else 0
theorem cmp_lt {a b : Int} (h : a < b) : cmpF a b = -1 := if_pos h
theorem cmp_gt {a b : Int} (h : ¬ a < b) (h2 : b < a) : cmpF a b = 1 := (if_neg h).trans (if_pos h2)
theorem cmp_eq {a b : Int} (h : ¬ a < b) (h2 : ¬ b < a) : cmpF a b = 0 := (if_neg h).trans (if_neg h2)
section
variable {g : Glob} {w : World} {l : List As}
theorem isNaN_ (H : Sat g w l) (a : Int) : Fc Try.prog 56 #[.int .i64 a] w (fun r w' => r = .bool false ∧ Sat g w' l) := by
  refine Fc.of Try.func56 rfl (by kernel_rfl) ?_
  refine Done.mk ?_
  refine ⟨?_, ?_⟩
  · exact congrArg Value.bool (vNe_F (by omega))
  exact H
theorem cmp_ (H : Sat g w l) (a b : Int) : Fc Try.prog 49 #[.int .i64 a, .int .i64 b] w (fun r w' => r = .int .i64 (cmpF a b) ∧ Sat g w' l) := by
  refine Fc.of Try.func49 rfl (by kernel_rfl) ?_
  by_cases h1 : a < b
  · have hc := cmp_lt h1
    rw [hc]
    refine CallP.mk (Fc.imp (Go.Proofs.Yticdhdpfimpmoaa.Proc.isNaN_ H _) ?_)
    clear H
    rintro _ w1 ⟨rfl, H⟩
    refine CallP.mk (Fc.imp (Go.Proofs.Yticdhdpfimpmoaa.Proc.isNaN_ H _) ?_)
    clear H
    rintro _ w2 ⟨rfl, H⟩
    refine cF rfl ?_
    refine cF rfl ?_
    refine cT (vLt_T (by assumption)) ?_
    refine Done.mk ?_
    exact ⟨rfl, H⟩
  · by_cases h2 : b < a
    · have hc := cmp_gt h1 h2
      rw [hc]
      refine CallP.mk (Fc.imp (Go.Proofs.Yticdhdpfimpmoaa.Proc.isNaN_ H _) ?_)
      clear H
      rintro _ w1 ⟨rfl, H⟩
      refine CallP.mk (Fc.imp (Go.Proofs.Yticdhdpfimpmoaa.Proc.isNaN_ H _) ?_)
      clear H
      rintro _ w2 ⟨rfl, H⟩
      refine cF rfl ?_
      refine cF rfl ?_
      refine cF (vLt_F (by omega)) ?_
      refine cT (vLt_T (by assumption)) ?_
      refine Done.mk ?_
      exact ⟨rfl, H⟩
    · have hc := cmp_eq h1 h2
      rw [hc]
      refine CallP.mk (Fc.imp (Go.Proofs.Yticdhdpfimpmoaa.Proc.isNaN_ H _) ?_)
      clear H
      rintro _ w1 ⟨rfl, H⟩
      refine CallP.mk (Fc.imp (Go.Proofs.Yticdhdpfimpmoaa.Proc.isNaN_ H _) ?_)
      clear H
      rintro _ w2 ⟨rfl, H⟩
      refine cF rfl ?_
      refine cF rfl ?_
      refine cF (vLt_F (by omega)) ?_
      refine cF (vLt_F (by omega)) ?_
      refine Done.mk ?_
      exact ⟨rfl, H⟩
end
end Go.Proofs.Yticdhdpfimpmoaa.Proc
/- Package proc: order, cmp.Or. -/
set_option maxRecDepth 100000
set_option maxHeartbeats 4000000
set_option linter.unusedVariables false
set_option linter.unusedSimpArgs false
namespace Go.Proofs.Yticdhdpfimpmoaa.Proc
open Go Go.Proofs.Yticdhdpfimpmoaa.Eng Go.RowKit
open Go.Proofs.Yticdhdpfimpmoaa.Eng.MG
def enZ (n : Int) : List Value := [.int .i64 n]
def ordF (a b : PidD) : Int := if cmpF a.1 b.1 ≠ 0 then cmpF a.1 b.1 else cmpF a.2 b.2
section
variable {g : Glob} {w : World} {l : List As}
theorem or_ {v : Value} {xs : List Int} (H : Sat g w (Sl 3 1 enZ v xs :: l)) (x y : Int) (hxs : xs = [x, y]) : Fc Try.prog 48 #[v] w (fun r w' => r = .int .i64 (if x ≠ 0 then x else y) ∧ Sat g w' l) := by
  refine Fc.of Try.func48 rfl (by kernel_rfl) ?_
  have hlen : xs.length = 2 := by rw [hxs]; rfl
  refine rLenS H 0 rfl rfl ?_
  refine LoopP.rule (α := Nat) (0) (fun x_ => [(8, .int .i64 x_)]) (fun x_ w_ => (x_ ≤ 2) ∧ (1 ≤ x_ → x = 0) ∧ (2 ≤ x_ → y = 0) ∧ Sat g w_ ((Sl 3 1 enZ v xs :: l))) (fun x_ => 2 - x_) ?_ ?_ ?_
  · repeat first | exact mt_nil | refine mt_cons rfl ?_ | refine mt_i rfl (by first | omega | (simp only; omega) | (simp; omega) | (simp; done)) ?_
  · try simp only
    refine ⟨?_, ?_⟩
    · omega
    refine ⟨?_, ?_⟩
    · intro x1
      omega
    refine ⟨?_, ?_⟩
    · intro x1
      omega
    exact H
  clear H
  rintro i f_ w_ ⟨hi, h0, h1, H⟩
  try simp only at hi h0 h1 H ⊢
  rcases (by omega : i = 0 ∨ i = 1 ∨ i = 2) with h | h | h
  · have hx0 : xs[i]? = some x := by rw [h, hxs]; rfl
    by_cases hx : x = 0
    · refine cT (vLt_T (by omega)) ?_
      refine bk ?_
      obtain ⟨b1, o1, E1⟩ := H.elt 0 rfl (i) (by omega)
      refine rIxE E1 rfl rfl rfl ?_
      refine rLd (H.el 0 rfl E1 hx0) 0 rfl rfl rfl ?_
      refine cF (vNe_F (by assumption)) ?_
      refine eqI64 (by omega) ?_
      refine Nxt.mk (i + 1) (mt_i rfl (by first | omega | (simp only; omega) | (simp; omega)) (mt_nil)) ?_ ?_
      · refine ⟨?_, ?_⟩
        · omega
        refine ⟨?_, ?_⟩
        · intro x1
          assumption
        refine ⟨?_, ?_⟩
        · intro x1
          omega
        exact H
      omega
    · rw [if_pos hx]
      refine cT (vLt_T (by omega)) ?_
      refine bk ?_
      obtain ⟨b1, o1, E1⟩ := H.elt 0 rfl (i) (by omega)
      refine rIxE E1 rfl rfl rfl ?_
      refine rLd (H.el 0 rfl E1 hx0) 0 rfl rfl rfl ?_
      refine cT (vNe_T (by assumption)) ?_
      refine Done.mk ?_
      refine ⟨?_, ?_⟩
      · refine int_eq ?_
        omega
      refine H.drop 0 ?_
      clear H
      intro H
      exact H
  · have hx := h0 (by omega)
    rw [if_neg (by omega)]
    have hx1 : xs[i]? = some y := by rw [h, hxs]; rfl
    by_cases hy : y = 0
    · refine cT (vLt_T (by omega)) ?_
      refine bk ?_
      obtain ⟨b1, o1, E1⟩ := H.elt 0 rfl (i) (by omega)
      refine rIxE E1 rfl rfl rfl ?_
      refine rLd (H.el 0 rfl E1 hx1) 0 rfl rfl rfl ?_
      refine cF (vNe_F (by assumption)) ?_
      refine eqI64 (by omega) ?_
      refine Nxt.mk (i + 1) (mt_i rfl (by first | omega | (simp only; omega) | (simp; omega)) (mt_nil)) ?_ ?_
      · refine ⟨?_, ?_⟩
        · omega
        refine ⟨?_, ?_⟩
        · intro x1
          assumption
        refine ⟨?_, ?_⟩
        · intro x1
          assumption
        exact H
      omega
    · refine cT (vLt_T (by omega)) ?_
      refine bk ?_
      obtain ⟨b1, o1, E1⟩ := H.elt 0 rfl (i) (by omega)
      refine rIxE E1 rfl rfl rfl ?_
      refine rLd (H.el 0 rfl E1 hx1) 0 rfl rfl rfl ?_
      refine cT (vNe_T (by assumption)) ?_
      refine Done.mk ?_
      refine ⟨?_, ?_⟩
      · refine int_eq ?_
        omega
      refine H.drop 0 ?_
      clear H
      intro H
      exact H
  · have hx := h0 (by omega)
    have hy := h1 (by omega)
    rw [if_neg (by omega), hy]
    refine cF (vLt_F (by omega)) ?_
    refine Done.mk ?_
    refine ⟨?_, ?_⟩
    · refine int_eq ?_
      omega
    refine H.drop 0 ?_
    clear H
    intro H
    exact H
end
end Go.Proofs.Yticdhdpfimpmoaa.Proc
/- Package proc: order. -/
set_option maxRecDepth 100000
set_option maxHeartbeats 4000000
set_option linter.unusedVariables false
set_option linter.unusedSimpArgs false
namespace Go.Proofs.Yticdhdpfimpmoaa.Proc
open Go Go.Proofs.Yticdhdpfimpmoaa.Eng Go.RowKit
open Go.Proofs.Yticdhdpfimpmoaa.Eng.MG
section
variable {g : Glob} {w : World} {l : List As}
theorem order_ (H : Sat g w l) (a1 a2 b1 b2 : Int) : Fc Try.prog 40 #[.agg #[.int .i64 a1, .int .i64 a2], .agg #[.int .i64 b1, .int .i64 b2]] w (fun r w' => r = .int .i64 (ordF (a1, a2) (b1, b2)) ∧ Sat g w' l) := by
  refine Fc.of Try.func40 rfl (by kernel_rfl) ?_
  refine rBoxS H ?_
  clear H
  intro p1 w1 H
  refine rBoxS H ?_
  clear H
  intro p2 w2 H
  clear w1
  refine drawzS H [] [(0, .pure), (1, .held), (2, .pure), (3, .held), (5, .pure), (6, .held), (7, .pure), (8, .held), (4, .forced), (9, .free), (10, .free), (11, .free), (12, .pure)] mixed (by kernel_rfl) (by kernel_rfl) ?_
  clear H
  intro w1 H
  clear w2
  refine tk (fun wx HS => rFieldAt rfl ⟨rfl, rfl⟩) ?_
  refine tk (fun wx HS => rLd (HS.at 1 rfl) 0 rfl rfl rfl ⟨rfl, rfl⟩) ?_
  refine tk (fun wx HS => rFieldAt rfl ⟨rfl, rfl⟩) ?_
  refine tk (fun wx HS => rLd (HS.at 0 rfl) 0 rfl rfl rfl ⟨rfl, rfl⟩) ?_
  refine tk (fun wx HS => rFieldAt rfl ⟨rfl, rfl⟩) ?_
  refine tk (fun wx HS => rLd (HS.at 1 rfl) 1 rfl rfl rfl ⟨rfl, rfl⟩) ?_
  refine tk (fun wx HS => rFieldAt rfl ⟨rfl, rfl⟩) ?_
  refine tk (fun wx HS => rLd (HS.at 0 rfl) 1 rfl rfl rfl ⟨rfl, rfl⟩) ?_
  refine CallP.mk (Fc.imp (Go.Proofs.Yticdhdpfimpmoaa.Proc.cmp_ H _ _) ?_)
  clear H
  rintro _ w2 ⟨rfl, H⟩
  refine KeepP.mk (H) ?_
  refine CallP.mk (Fc.imp (Go.Proofs.Yticdhdpfimpmoaa.Proc.cmp_ H _ _) ?_)
  clear H
  rintro _ w3 ⟨rfl, H⟩
  refine rBuildSliceS H rfl rfl rfl rfl ?_
  clear H
  intro p3 w4 H
  clear w3
  have hxs : [cmpF a1 b1, cmpF a2 b2] = [cmpF a1 b1, cmpF a2 b2] := rfl
  refine H.ptSl (n := 2) (en := enZ) (s := 1) 0 rfl [cmpF a1 b1, cmpF a2 b2] rfl rfl (fun _ => rfl) rfl ?_
  clear H
  intro H
  refine CallP.mk (Fc.imp (Go.Proofs.Yticdhdpfimpmoaa.Proc.or_ H _ _ hxs) ?_)
  clear H
  rintro _ w3 ⟨rfl, H⟩
  refine Done.mk ?_
  exact ⟨rfl, (H.del 0).del 0⟩
end
end Go.Proofs.Yticdhdpfimpmoaa.Proc
/- Package proc: the insertion sort of pids. -/
set_option maxRecDepth 100000
set_option maxHeartbeats 4000000
set_option linter.unusedVariables false
set_option linter.unusedSimpArgs false
namespace Go.Proofs.Yticdhdpfimpmoaa.Proc
open Go Go.Proofs.Yticdhdpfimpmoaa.Eng Go.RowKit
open Go.Proofs.Yticdhdpfimpmoaa.Eng.MG
def pidLe (a b : PidD) : Prop := 0 ≤ ordF b a
/-- x has come down to place j: the others up to i are in order, and x lies below those that follow it. -/
structure Down (xs0 xs : List PidD) (i j : Nat) (A B R : List PidD) (x : PidD) : Prop where
  perm : xs.Perm xs0
  eq : xs = A ++ x :: (B ++ R)
  la : A.length = j
  lb : j + B.length = i
  ord : (A ++ B).Pairwise pidLe
  low : ∀ b ∈ B, pidLe x b
theorem Down.start {ys : List PidD} {i : Nat} {x : PidD} (hx : ys[i]? = some x) (ho : (ys.take i).Pairwise pidLe) : Down ys ys i i (ys.take i) [] (ys.drop (i + 1)) x := by
  obtain ⟨hi, hxe⟩ := List.getElem?_eq_some_iff.1 hx
  refine ⟨.refl _, ?_, by rw [List.length_take]; omega, rfl, by simpa using ho, by simp⟩
  subst hxe
  simp
theorem Down.at {xs0 xs : List PidD} {i j : Nat} {A B R : List PidD} {x : PidD} (h : Down xs0 xs i j A B R x) : xs[j]? = some x := by
  rw [h.eq, ← h.la]; simp
theorem Down.prev {xs0 xs : List PidD} {i j : Nat} {A B R : List PidD} {x : PidD} (h : Down xs0 xs i j A B R x) (hj : 0 < j) : ∃ y A', A = A' ++ [y] := by
  have hne : A ≠ [] := by intro he; have := h.la; rw [he] at this; simp at this; omega
  exact ⟨A.getLast hne, A.dropLast, (List.dropLast_concat_getLast hne).symm⟩
theorem Down.before {xs0 xs : List PidD} {i j : Nat} {A B R A' : List PidD} {x y : PidD} (h : Down xs0 xs i j A B R x) (hj : 0 < j) (hA : A = A' ++ [y]) : xs[j - 1]? = some y := by
  have hl := h.la
  rw [h.eq]
  subst hA
  have : j - 1 = A'.length := by simp at hl; omega
  rw [this]; simp
theorem le_iff {a b : PidD} : pidLe a b ↔ a.1 < b.1 ∨ (a.1 = b.1 ∧ a.2 ≤ b.2) := by
  unfold pidLe ordF cmpF
  (repeat' split) <;> omega
theorem lt_iff {a b : PidD} : ordF a b < 0 ↔ ¬ pidLe b a := by unfold pidLe; omega
theorem Down.done0 {xs0 xs : List PidD} {i j : Nat} {A B R : List PidD} {x : PidD} (h : Down xs0 xs i j A B R x) (hj : j = 0) : (xs.take (i + 1)).Pairwise pidLe := by
  have hA : A = [] := List.length_eq_zero_iff.1 (h.la.trans hj)
  have ho := h.ord
  have hb : B.length = i := by have := h.lb; omega
  rw [h.eq, hA]
  rw [hA] at ho
  simp only [List.nil_append, List.take_succ_cons] at ho ⊢
  rw [List.take_left' hb]
  exact List.pairwise_cons.2 ⟨h.low, ho⟩
theorem Down.doneC {xs0 xs : List PidD} {i j : Nat} {A B R A' : List PidD} {x y : PidD} (h : Down xs0 xs i j A B R x) (hA : A = A' ++ [y]) (hc : ¬ ordF x y < 0) : (xs.take (i + 1)).Pairwise pidLe := by
  have hl : (A ++ x :: B).length = i + 1 := by have := h.la; have := h.lb; simp; omega
  have e : xs = (A ++ x :: B) ++ R := by rw [h.eq]; simp
  rw [e, List.take_left' hl]
  obtain ⟨h1, h2, h3⟩ := List.pairwise_append.1 h.ord
  have hyx : pidLe y x := by unfold pidLe; omega
  refine List.pairwise_append.2 ⟨h1, List.pairwise_cons.2 ⟨h.low, h2⟩, fun a ha b hb => ?_⟩
  have hay : pidLe a x := by
    rw [hA] at h1 ha
    rcases List.mem_append.1 ha with h4 | h4
    · have h5 := (List.pairwise_append.1 h1).2.2 a h4 y (by simp)
      rw [le_iff] at h5 hyx ⊢; omega
    · rw [List.mem_singleton.1 h4]; exact hyx
  rcases List.mem_cons.1 hb with rfl | hb
  · exact hay
  · exact h3 a ha b hb
theorem Down.step {xs0 xs : List PidD} {i j : Nat} {A B R A' : List PidD} {x y : PidD} (h : Down xs0 xs i j A B R x) (hj : 0 < j) (hA : A = A' ++ [y]) (hc : ordF x y < 0) : Down xs0 ((xs.set j y).set (j - 1) x) i (j - 1) A' (y :: B) R x := by
  have hl := h.la
  have hlb := h.lb
  subst hA
  have hj1 : j - 1 = A'.length := by simp at hl; omega
  have hj2 : j = A'.length + 1 := by simp at hl; omega
  have e : (xs.set j y).set (j - 1) x = A' ++ x :: ((y :: B) ++ R) := by
    rw [h.eq, hj1, hj2]
    simp [List.set_append]
  refine ⟨?_, e, hj1.symm, by simp; omega, by have := h.ord; simpa using this, fun b hb => ?_⟩
  · rw [e]
    refine List.Perm.trans ?_ h.perm
    rw [h.eq]
    simp only [List.append_assoc, List.cons_append, List.nil_append]
    exact (List.Perm.swap _ _ _).append_left A'
  · rcases List.mem_cons.1 hb with rfl | hb
    · rw [lt_iff, le_iff] at hc; rw [le_iff]; omega
    · exact h.low b hb
section
variable {g : Glob} {w : World} {l : List As}
theorem ins_ {v : Value} (xs : List PidD) (n : Int) (hn : n = xs.length) (H : Sat g w (Sl 31 2 enPd v xs :: l)) (hl : xs.length ≤ 12) : Fc Try.prog 59 #[v, .int .i64 0, .int .i64 n, .func (.func 40) #[] #[]] w (fun r w' => ∃ ys, ys.Perm xs ∧ ys.Pairwise pidLe ∧ Sat g w' (Sl 31 2 enPd v ys :: l)) := by
  subst hn
  refine Fc.of Try.func59 rfl (by kernel_rfl) ?_
  have e1 : (xs.take 1).Pairwise pidLe := by cases xs <;> simp
  refine eqI64 (by omega) ?_
  refine LoopP.rule (α := Nat × List PidD) (1, xs) (fun x_ => [(8, .int .i64 x_.1)]) (fun x_ w_ => (1 ≤ x_.1) ∧ (x_.1 ≤ xs.length + 1) ∧ (x_.2.Perm xs) ∧ ((x_.2.take x_.1).Pairwise pidLe) ∧ Sat g w_ ((Sl 31 2 enPd v x_.2 :: l))) (fun x_ => xs.length - x_.1) ?_ ?_ ?_
  · repeat first | exact mt_nil | refine mt_cons rfl ?_ | refine mt_i rfl (by first | omega | (simp only; omega) | (simp; omega) | (simp; done)) ?_
  · try simp only
    refine ⟨?_, ?_⟩
    · omega
    refine ⟨?_, ?_⟩
    · omega
    refine ⟨?_, ?_⟩
    · rfl
    refine ⟨?_, ?_⟩
    · assumption
    exact H
  clear H
  rintro ⟨i, ys⟩ f_ w_ ⟨hi, hi2, hp, ho, H⟩
  try simp only at hi hi2 hp ho H ⊢
  have hyl : ys.length = xs.length := hp.length_eq
  rcases Nat.lt_or_ge i xs.length with hlt | hge
  · obtain ⟨x, hx⟩ : ∃ x, ys[i]? = some x := ⟨_, List.getElem?_eq_getElem (by omega)⟩
    have hd0 : ∃ A B, Down ys ys i i A B (ys.drop (i + 1)) x := ⟨_, _, Down.start hx ho⟩
    refine cT (vLt_T (by omega)) ?_
    refine bk ?_
    refine LoopP.rule (α := List PidD × Nat) (ys, i) (fun x_ => [(9, .int .i64 x_.2)]) (fun x_ w_ => (∃ A B, Down ys x_.1 i x_.2 A B (ys.drop (i + 1)) x) ∧ Sat g w_ ((Sl 31 2 enPd v x_.1 :: l))) (fun x_ => x_.2) ?_ ?_ ?_
    · repeat first | exact mt_nil | refine mt_cons rfl ?_ | refine mt_i rfl (by first | omega | (simp only; omega) | (simp; omega) | (simp; done)) ?_
    · try simp only
      refine ⟨?_, ?_⟩
      · assumption
      exact H
    clear H
    rintro ⟨zs, j⟩ f_ w_ ⟨hd, H⟩
    try simp only at hd H ⊢
    obtain ⟨A, B, hd⟩ := hd
    have hzl : zs.length = xs.length := hd.perm.length_eq.trans hyl
    have hji : j ≤ i := by have := hd.lb; omega
    rcases Nat.eq_zero_or_pos j with hj | hj
    · refine drawzS H [] [(0, .pure), (1, .pure), (2, .pure), (3, .pure), (4, .pure), (5, .pure), (6, .pure), (7, .pure), (8, .held), (9, .pure), (10, .pure), (11, .pure), (12, .pure), (13, .held), (14, .free), (15, .pure), (16, .pure)] mixed (by kernel_rfl) (by kernel_rfl) ?_
      clear H
      intro w1 H
      clear w_
      refine br_f (vLt_F (by omega)) ?_
      refine cF rfl ?_
      refine eqI64 (by omega) ?_
      refine Nxt.mk ((i + 1, zs)) (mt_i rfl (by first | omega | (simp only; omega) | (simp; omega)) (mt_nil)) ?_ ?_
      · refine ⟨?_, ?_⟩
        · omega
        refine ⟨?_, ?_⟩
        · omega
        refine ⟨?_, ?_⟩
        · exact hd.perm.trans hp
        refine ⟨?_, ?_⟩
        · exact hd.done0 hj
        exact H
      omega
    · obtain ⟨y, A', hA⟩ := hd.prev hj
      have hz1 := hd.at
      have hz2 := hd.before hj hA
      by_cases hc : ordF x y < 0
      · refine drawzS H [] [(0, .pure), (1, .pure), (2, .pure), (3, .pure), (4, .pure), (5, .pure), (6, .pure), (7, .pure), (8, .held), (9, .pure), (10, .pure), (11, .pure), (12, .pure), (13, .held), (14, .free), (15, .pure), (16, .pure)] mixed (by kernel_rfl) (by kernel_rfl) ?_
        clear H
        intro w1 H
        clear w_
        refine br_t (vLt_T (by omega)) ?_
        obtain ⟨b1, o1, E1⟩ := H.elt 0 rfl (j) (by omega)
        refine tk (fun wx HS => rIxE E1 rfl rfl rfl ⟨rfl, rfl⟩) ?_
        refine tk (fun wx HS => rLdA (HS.el 0 rfl E1 hz1) 0 rfl rfl rfl ⟨rfl, rfl⟩) ?_
        refine eqI64 (by omega) ?_
        obtain ⟨b2, o2, E2⟩ := H.elt 0 rfl ((j) - 1) (by omega)
        refine tk (fun wx HS => rIxE E2 (by omega) rfl rfl ⟨rfl, rfl⟩) ?_
        refine tk (fun wx HS => rLdA (HS.el 0 rfl E2 hz2) 0 rfl rfl rfl ⟨rfl, rfl⟩) ?_
        refine CallP.mk (Fc.imp (Go.Proofs.Yticdhdpfimpmoaa.Proc.order_ H _ _ _ _) ?_)
        clear H
        rintro _ w2 ⟨rfl, H⟩
        refine cT (vLt_T (by assumption)) ?_
        refine bk ?_
        refine drawzS H [] [(0, .pure), (1, .pure), (2, .pure), (3, .pure), (4, .pure), (5, .pure), (6, .pure), (7, .pure), (8, .pure), (9, .held), (10, .pure), (11, .pure), (12, .pure), (13, .held), (14, .pure), (15, .free), (16, .pure), (17, .free)] mixed (by kernel_rfl) (by kernel_rfl) ?_
        clear H
        intro w3 H
        clear w2
        refine eqI64 (by omega) ?_
        refine eqI64 (by omega) ?_
        refine tk (fun wx HS => rIxE E2 (by omega) rfl rfl ⟨rfl, rfl⟩) ?_
        refine tk (fun wx HS => rLdA (HS.el 0 rfl E2 hz2) 0 rfl rfl rfl ⟨rfl, rfl⟩) ?_
        refine tk (fun wx HS => rIxE E1 rfl rfl rfl ⟨rfl, rfl⟩) ?_
        refine tk (fun wx HS => rLdA (HS.el 0 rfl E1 hz1) 0 rfl rfl rfl ⟨rfl, rfl⟩) ?_
        refine tk (fun wx HS => rIxE E1 rfl rfl rfl ⟨rfl, rfl⟩) ?_
        refine rStEA H 0 rfl E1 hz1 0 ⟨(y.fst), (y.snd)⟩ rfl rfl rfl rfl ?_
        clear H
        intro w2 H
        clear w3
        refine tk (fun wx HS => rIxE E2 (by omega) rfl rfl ⟨rfl, rfl⟩) ?_
        have hx1 : (zs.set j (y.fst, y.snd))[j - 1]? = some _ := setOther hz2 (by omega)
        refine rStEA H 0 rfl E2 hx1 0 ⟨(x.fst), (x.snd)⟩ rfl rfl rfl rfl ?_
        clear H
        intro w3 H
        clear w2
        refine eqI64 (by omega) ?_
        refine Nxt.mk (((zs.set j (y.fst, y.snd)).set (j - 1) (x.fst, x.snd), j - 1)) (mt_i rfl (by first | omega | (simp only; omega) | (simp; omega)) (mt_nil)) ?_ ?_
        · refine ⟨?_, ?_⟩
          · exact ⟨A', y :: B, hd.step hj hA hc⟩
          exact H
        omega
      · refine drawzS H [] [(0, .pure), (1, .pure), (2, .pure), (3, .pure), (4, .pure), (5, .pure), (6, .pure), (7, .pure), (8, .held), (9, .pure), (10, .pure), (11, .pure), (12, .pure), (13, .held), (14, .free), (15, .pure), (16, .pure)] mixed (by kernel_rfl) (by kernel_rfl) ?_
        clear H
        intro w1 H
        clear w_
        refine br_t (vLt_T (by omega)) ?_
        obtain ⟨b1, o1, E1⟩ := H.elt 0 rfl (j) (by omega)
        refine tk (fun wx HS => rIxE E1 rfl rfl rfl ⟨rfl, rfl⟩) ?_
        refine tk (fun wx HS => rLdA (HS.el 0 rfl E1 hz1) 0 rfl rfl rfl ⟨rfl, rfl⟩) ?_
        refine eqI64 (by omega) ?_
        obtain ⟨b2, o2, E2⟩ := H.elt 0 rfl ((j) - 1) (by omega)
        refine tk (fun wx HS => rIxE E2 (by omega) rfl rfl ⟨rfl, rfl⟩) ?_
        refine tk (fun wx HS => rLdA (HS.el 0 rfl E2 hz2) 0 rfl rfl rfl ⟨rfl, rfl⟩) ?_
        refine CallP.mk (Fc.imp (Go.Proofs.Yticdhdpfimpmoaa.Proc.order_ H _ _ _ _) ?_)
        clear H
        rintro _ w2 ⟨rfl, H⟩
        refine cI (fun c1 => ?_) (fun c1 => ?_)
        · replace c1 := vLt_t (c1)
          refine bk ?_
          refine drawzS H [] [(0, .pure), (1, .pure), (2, .pure), (3, .pure), (4, .pure), (5, .pure), (6, .pure), (7, .pure), (8, .pure), (9, .held), (10, .pure), (11, .pure), (12, .pure), (13, .held), (14, .pure), (15, .free), (16, .pure), (17, .free)] mixed (by kernel_rfl) (by kernel_rfl) ?_
          clear H
          intro w3 H
          clear w2
          refine eqI64 (by omega) ?_
          refine eqI64 (by omega) ?_
          refine tk (fun wx HS => rIxE E2 (by omega) rfl rfl ⟨rfl, rfl⟩) ?_
          refine tk (fun wx HS => rLdA (HS.el 0 rfl E2 hz2) 0 rfl rfl rfl ⟨rfl, rfl⟩) ?_
          refine tk (fun wx HS => rIxE E1 rfl rfl rfl ⟨rfl, rfl⟩) ?_
          refine tk (fun wx HS => rLdA (HS.el 0 rfl E1 hz1) 0 rfl rfl rfl ⟨rfl, rfl⟩) ?_
          refine tk (fun wx HS => rIxE E1 rfl rfl rfl ⟨rfl, rfl⟩) ?_
          refine rStEA H 0 rfl E1 hz1 0 ⟨(y.fst), (y.snd)⟩ rfl rfl rfl rfl ?_
          clear H
          intro w2 H
          clear w3
          refine tk (fun wx HS => rIxE E2 (by omega) rfl rfl ⟨rfl, rfl⟩) ?_
          have hx1 : (zs.set j (y.fst, y.snd))[j - 1]? = some _ := setOther hz2 (by omega)
          refine rStEA H 0 rfl E2 hx1 0 ⟨(x.fst), (x.snd)⟩ rfl rfl rfl rfl ?_
          clear H
          intro w3 H
          clear w2
          refine eqI64 (by omega) ?_
          refine Nxt.mk (((zs.set j (y.fst, y.snd)).set (j - 1) (x.fst, x.snd), j - 1)) (mt_i rfl (by first | omega | (simp only; omega) | (simp; omega)) (mt_nil)) ?_ ?_
          · exact absurd c1 hc
          exact absurd c1 hc
        replace c1 := vLt_f (c1)
        refine eqI64 (by omega) ?_
        refine Nxt.mk ((i + 1, zs)) (mt_i rfl (by first | omega | (simp only; omega) | (simp; omega)) (mt_nil)) ?_ ?_
        · refine ⟨?_, ?_⟩
          · omega
          refine ⟨?_, ?_⟩
          · omega
          refine ⟨?_, ?_⟩
          · exact hd.perm.trans hp
          refine ⟨?_, ?_⟩
          · exact hd.doneC hA hc
          exact H
        omega
  · rw [List.take_of_length_le (by omega)] at ho
    refine cF (vLt_F (by omega)) ?_
    refine Done.mk ?_
    exact ⟨ys, hp, ho, H⟩
end
end Go.Proofs.Yticdhdpfimpmoaa.Proc
/- Package proc: pdqsortCmpFunc of at most twelve pids. -/
set_option maxRecDepth 100000
set_option maxHeartbeats 4000000
set_option linter.unusedVariables false
set_option linter.unusedSimpArgs false
namespace Go.Proofs.Yticdhdpfimpmoaa.Proc
open Go Go.Proofs.Yticdhdpfimpmoaa.Eng Go.RowKit
open Go.Proofs.Yticdhdpfimpmoaa.Eng.MG
section
variable {g : Glob} {w : World} {l : List As}
theorem pdq_ {v : Value} (xs : List PidD) (n k : Int) (hn : n = xs.length) (H : Sat g w (Sl 31 2 enPd v xs :: l)) (hl : xs.length ≤ 12) : Fc Try.prog 54 #[v, .int .i64 0, .int .i64 n, .int .i64 k, .func (.func 40) #[] #[]] w (fun r w' => ∃ ys, ys.Perm xs ∧ ys.Pairwise pidLe ∧ Sat g w' (Sl 31 2 enPd v ys :: l)) := by
  subst hn
  refine Fc.of Try.func54 rfl (by kernel_rfl) ?_
  
  refine LoopP.rule (α := Nat) (0) (fun x_ => [(1, .int .i64 0), (2, .int .i64 xs.length), (3, .int .i64 k)]) (fun x_ w_ => (0 ≤ x_) ∧ Sat g w_ ((Sl 31 2 enPd v xs :: l))) (fun x_ => 0) ?_ ?_ ?_
  · repeat first | exact mt_nil | refine mt_cons rfl ?_ | refine mt_i rfl (by first | omega | (simp only; omega) | (simp; omega) | (simp; done)) ?_
  · try simp only
    refine ⟨?_, ?_⟩
    · omega
    exact H
  clear H
  rintro i f_ w_ ⟨hi, H⟩
  try simp only at hi H ⊢
  refine bk ?_
  refine eqI64 (by omega) ?_
  refine cT (vLe_T (by omega)) ?_
  refine CallP.mk (Fc.imp (Go.Proofs.Yticdhdpfimpmoaa.Proc.ins_ _ _ ?_ H ?_) ?_)
  · omega
  · assumption
  clear H
  rintro v' w1 ⟨ys1, ⟨h1, ⟨h2, H⟩⟩⟩
  refine Done.mk ?_
  exact ⟨ys1, by assumption, by assumption, H⟩
end
end Go.Proofs.Yticdhdpfimpmoaa.Proc
/- Package proc: SortFunc of at most twelve pids. -/
set_option maxRecDepth 100000
set_option maxHeartbeats 4000000
set_option linter.unusedVariables false
set_option linter.unusedSimpArgs false
namespace Go.Proofs.Yticdhdpfimpmoaa.Proc
open Go Go.Proofs.Yticdhdpfimpmoaa.Eng Go.RowKit
open Go.Proofs.Yticdhdpfimpmoaa.Eng.MG
section
variable {g : Glob} {w : World} {l : List As}
theorem bln64_ (H : Sat g w l) (x : Int) (hx : 0 ≤ x ∧ x ≤ 12) : Fc Try.prog 68 #[.int .u64 x] w (fun r w' => ∃ k, r = .int .i64 k ∧ Sat g w' l) := by
  refine Fc.of Try.func68 rfl (by kernel_rfl) ?_
  refine cF (vLe_F (by omega)) ?_
  refine cF (vLe_F (by omega)) ?_
  refine cF (vLe_F (by omega)) ?_
  refine rConvU8 (by omega) rfl rfl ?_
  refine rIdxStr rfl (x).toNat (by (simp; omega)) (by (simp; omega)) ?_
  refine rConvInt rfl rfl ?_
  refine EqP.keep ?_
  exact Done.mk ⟨_, rfl, H⟩
theorem bln_ (H : Sat g w l) (x : Int) (hx : 0 ≤ x ∧ x ≤ 12) : Fc Try.prog 55 #[.int .u64 x] w (fun r w' => ∃ k, r = .int .i64 k ∧ Sat g w' l) := by
  refine Fc.of Try.func55 rfl (by kernel_rfl) ?_
  refine cF rfl ?_
  refine CallP.mk (Fc.imp (Go.Proofs.Yticdhdpfimpmoaa.Proc.bln64_ H _ ?_) ?_)
  · assumption
  clear H
  rintro _ w1 ⟨k1, ⟨rfl, H⟩⟩
  refine Done.mk ?_
  exact ⟨_, rfl, H⟩
theorem bsortF_ {v : Value} (xs : List PidD) (H : Sat g w (Sl 31 2 enPd v xs :: l)) (hl : xs.length ≤ 12) : Fc Try.prog 46 #[v, .func (.func 40) #[] #[]] w (fun r w' => ∃ ys, ys.Perm xs ∧ ys.Pairwise pidLe ∧ Sat g w' (Sl 31 2 enPd v ys :: l)) := by
  refine Fc.of Try.func46 rfl (by kernel_rfl) ?_
  refine rLenS H 0 rfl rfl ?_
  refine rConvU64 (by omega) rfl rfl ?_
  refine CallP.mk (Fc.imp (Go.Proofs.Yticdhdpfimpmoaa.Proc.bln_ H _ ?_) ?_)
  · omega
  clear H
  rintro _ w1 ⟨k1, ⟨rfl, H⟩⟩
  refine CallP.mk (Fc.imp (Go.Proofs.Yticdhdpfimpmoaa.Proc.pdq_ _ _ _ ?_ H ?_) ?_)
  · omega
  · assumption
  clear H
  rintro v' w2 ⟨ys1, ⟨h1, ⟨h2, H⟩⟩⟩
  refine Done.mk ?_
  exact ⟨ys1, by assumption, by assumption, H⟩
end
end Go.Proofs.Yticdhdpfimpmoaa.Proc
/- Package proc: maps.Keys. -/
set_option maxRecDepth 100000
set_option maxHeartbeats 4000000
set_option linter.unusedVariables false
set_option linter.unusedSimpArgs false
namespace Go.Proofs.Yticdhdpfimpmoaa.Proc
open Go Go.Proofs.Yticdhdpfimpmoaa.Eng Go.RowKit
open Go.Proofs.Yticdhdpfimpmoaa.Eng.MG
section
variable {g : Glob} {w : World} {l : List As}
theorem keys_ (H : Sat g w l) (mb : Option Nat) : Fc Try.prog 39 #[.map mb] w (fun r w' => ∃ p, r = .func (.func 47) #[] #[.pointer (some ⟨p, 0, none⟩)] ∧ Sat g w' (Pt p [.map mb] 78 :: l)) := by
  refine Fc.of Try.func39 rfl (by kernel_rfl) ?_
  refine rBoxS H ?_
  clear H
  intro p1 w1 H
  refine Done.mk ?_
  exact ⟨_, rfl, H⟩
end
end Go.Proofs.Yticdhdpfimpmoaa.Proc
/- Memory that is written no more: frozen beside what was there. -/
set_option maxRecDepth 100000
set_option linter.unusedVariables false
set_option linter.unusedSimpArgs false
namespace Go.Proofs.Yticdhdpfimpmoaa.Eng
open Go Go.RowKit
/-- g' is g, and more is frozen. -/
structure Ext (g g' : Glob) : Prop where
  os : g'.os = g.os
  tape : g'.tape = g.tape
  output : g'.output = g.output
  fr : ∀ k o, g.fr k = some o → g'.fr k = some o
theorem Ext.refl (g : Glob) : Ext g g := ⟨rfl, rfl, rfl, fun _ _ h => h⟩
theorem Ext.trans {a b c : Glob} (h : Ext a b) (k : Ext b c) : Ext a c := ⟨k.os.trans h.os, k.tape.trans h.tape, k.output.trans h.output, fun _ _ x => k.fr _ _ (h.fr _ _ x)⟩
theorem Ext.hle {g g' : Glob} (E : Ext g g') : Hle (Gh g) (Gh g') := fun b o h => E.fr b o h
section
variable {P : Program} {g g' : Glob} {w w' : World} {l : List As} {A : As} {α : Type} {en : α → List Value} {ok ok' : α → Prop} {s j b o : Nat} {v : Value} {xs : List α} {vs : List Value} {e : TypeId}
theorem FSl.ext (h : FSl g en ok s v xs) (E : Ext g g') : FSl g' en ok s v xs := SlR.mono (RE.mono' en ok) h E.hle
theorem FAt.ext (h : FAt g b o vs) (E : Ext g g') : FAt g' b o vs := AtH.mono h E.hle
theorem FSl.okm (h : FSl g en ok s v xs) (hm : ∀ x ∈ xs, ok x → ok' x) : FSl g en ok' s v xs := by
  obtain ⟨a, cap, h1, h2, h3, h4⟩ := h
  exact ⟨a, cap, h1, h2, h3, fun hx => let ⟨b, o, news, e, k1, k2⟩ := h4 hx; ⟨b, o, news, e, k1, k2.1, fun i x hx => ⟨(k2.2 i x hx).1, hm x (List.mem_of_getElem? hx) (k2.2 i x hx).2⟩⟩⟩
theorem FSl.extN {ok : Glob → α → Prop} (hm : ∀ (g g' : Glob) (x : α), ok g x → Ext g g' → ok g' x) (h : FSl g en (ok g) s v xs) (E : Ext g g') : FSl g' en (ok g') s v xs :=
  FSl.okm (FSl.ext h E) fun _ _ k => hm _ _ _ k E
theorem FSl.all (h : FSl g en ok s v xs) : ∀ x ∈ xs, ok x := fun x hx => by
  obtain ⟨a, cap, h1, h2, h3, h4⟩ := h
  obtain ⟨b, o, news, e, k1, k2⟩ := h4 (List.ne_nil_of_mem hx)
  obtain ⟨i, hi, rfl⟩ := List.mem_iff_getElem.1 hx
  exact (k2.2 i _ (List.getElem?_eq_getElem hi)).2
theorem Rd.tt {w : World} (h : Rd en ok s w v xs) : Rd en (fun _ => True) s w v xs := by
  obtain ⟨a, cap, h1, h2, h3, h4⟩ := h
  exact ⟨a, cap, h1, h2, h3, fun hx => let ⟨b, o, news, e, k1, k2⟩ := h4 hx; ⟨b, o, news, e, k1, k2.1, fun i x hx => ⟨(k2.2 i x hx).1, trivial⟩⟩⟩
theorem FSl.one (h : FSl g en ok s v xs) : v.oneCell' = true := by obtain ⟨a, cap, rfl, _⟩ := h; rfl
theorem FSl.form (h : FSl g en ok s v xs) : ∃ a c, v = .slice a xs.length c := by obtain ⟨a, cap, rfl, _⟩ := h; exact ⟨_, _, rfl⟩
theorem FSl.nil0 (g : Glob) (en : α → List Value) (ok : α → Prop) (s : Nat) : FSl g en ok s (.slice none 0 0) [] := SlR.nil _ _ _
/-- A piece becomes frozen. -/
theorem Sat.freezeA (H : Sat g w l) (hj : l[j]? = some A) : ∃ g' a, Ext g g' ∧ A a ∧ (∀ k o, a k = some o → g'.fr k = some o) ∧ Sat g' w (l.eraseIdx j) := by
  obtain ⟨h, hs, f, b, h1, h2, h3⟩ := H.ex
  obtain rfl : f = g.fr := h2
  obtain ⟨a, c, h4, h5, h6⟩ := (sts_mid hj).1 h3
  refine ⟨{ g with fr := fun k => match a k with
    | some o => some o
    | none => g.fr k }, a, ⟨rfl, rfl, rfl, fun k o hk => ?_⟩, h5, fun k o hk => ?_, H.os, H.tape, H.output, h, hs, _, c, fun k => ?_, rfl, h6⟩
  · dsimp only
    cases ha : a k with
    | none => exact hk
    | some o' =>
      exfalso
      rcases h1 k with ⟨_, q⟩ | ⟨q, _⟩
      · rcases h4 k with ⟨r, _⟩ | ⟨r, _⟩
        · rw [ha, q] at r; cases r
        · rw [ha] at r; cases r
      · rw [hk] at q; cases q
  · dsimp only; rw [hk]
  · dsimp only
    rcases h1 k with ⟨q1, q2⟩ | ⟨q1, q2⟩
    · rcases h4 k with ⟨r1, r2⟩ | ⟨r1, r2⟩
      · left; rw [r1, q2]; exact ⟨q1, r2⟩
      · left; rw [r1]; exact ⟨q1, r2.trans q2⟩
    · rcases h4 k with ⟨r1, r2⟩ | ⟨r1, r2⟩
      · cases ha : a k with
        | none =>
          right
          dsimp only
          exact ⟨q1, by rw [r2, ← q2, ← r1, ha]⟩
        | some o => left; dsimp only; exact ⟨by rw [← q2, ← r1, ha], r2⟩
      · right; rw [r1]; exact ⟨q1, r2.trans q2⟩
theorem Sl.rdf {a : Hp} (h : Sl e s en v xs a) (hf : ∀ k o, a k = some o → g.fr k = some o) (hok : ∀ x ∈ xs, ok x) : FSl g en ok s v xs := by
  rcases h.1 with ⟨rfl, rfl⟩ | ⟨gb, o, cap, cur, rfl, hb, hfit, hnc, hcm, ht⟩
  · exact SlR.nil _ _ _
  · refine ⟨_, cap, rfl, ⟨hnc, hcm⟩, nofun, fun _ => ⟨gb, o, xs.flatMap en, rfl, ⟨cur.toArray, e, (0, 0), hf _ _ hb, fun i x hx => ?_⟩, flat_len h.2 xs, fun i x hx => ⟨flat_part h.2 xs i x hx, hok x (List.mem_of_getElem? hx)⟩⟩⟩
    rw [← ht, List.getElem?_take] at hx
    split at hx
    · rw [List.getElem?_drop] at hx; simpa using hx
    · cases hx
theorem Sat.freeze (H : Sat g w l) (hj : l[j]? = some (Sl e s en v xs)) (hok : ∀ x ∈ xs, ok x) : ∃ g', Ext g g' ∧ FSl g' en ok s v xs ∧ Sat g' w (l.eraseIdx j) := by
  obtain ⟨g', a, E, h1, h2, h3⟩ := H.freezeA hj
  exact ⟨g', E, h1.rdf h2 hok, h3⟩
theorem Sat.frz1 {G : Prop} (H : Sat g w l) (j : Nat) (ok : α → Prop) (hj : l[j]? = some (Sl e s en v xs)) (hok : ∀ x ∈ xs, ok x) (k : ∀ g', Ext g g' → FSl g' en ok s v xs → delA l j fun l' => Sat g' w l' → G) : G := by
  obtain ⟨g', E, h1, h2⟩ := H.freeze hj hok
  have k := k g' E h1
  rw [delA_eq] at k; exact k h2
theorem Sat.taken (H : Sat g w l) (n : Nat) : Sat g w (l.take n) := by
  obtain ⟨h, hs, hx⟩ := H.ex
  exact ⟨H.os, H.tape, H.output, h, hs, sts_take (n := n + 1) hx⟩
theorem Sat.nilS (H : Sat g w l) (e : TypeId) (hs : ∀ x, (en x).length = s) : Sat g w [Sl e s en (.slice none 0 0) []] := (H.sl0 e hs).taken 1
theorem Sat.tl (H : Sat g w (A :: l)) : Sat g w l := H.del 0
/-- The new frozen is forgotten. -/
theorem Sat.forget (H : Sat g' w l) (E : Ext g g') : Sat g w l := by
  obtain ⟨h, hs, f, b, h1, h2, h3⟩ := H.ex
  obtain rfl : f = g'.fr := h2
  refine ⟨H.os.trans E.os, H.tape.trans E.tape, H.output.trans E.output, fun k => match b k with
    | some o => some o
    | none => g.fr k, fun k o hk => ?_, g.fr, b, fun k => ?_, rfl, h3⟩
  · dsimp only at hk
    cases hb : b k with
    | some o' =>
      rw [hb] at hk
      obtain rfl := Option.some.inj hk
      rcases h1 k with ⟨_, q⟩ | ⟨_, q⟩
      · rw [hb] at q; cases q
      · exact hs k _ (q ▸ hb)
    | none =>
      rw [hb] at hk
      have := E.fr k o hk
      rcases h1 k with ⟨q, _⟩ | ⟨q, _⟩
      · exact hs k _ (q ▸ this)
      · rw [this] at q; cases q
  · dsimp only
    cases hb : b k with
    | none => left; exact ⟨rfl, rfl⟩
    | some o =>
      right
      refine ⟨?_, rfl⟩
      cases hg : g.fr k with
      | none => rfl
      | some o' =>
        have := E.fr k o' hg
        rcases h1 k with ⟨_, q⟩ | ⟨q, _⟩
        · rw [hb] at q; cases q
        · rw [this] at q; cases q
theorem Ext.fin {w0 : World} (E : Ext (froz w0) g) (H : Sat g w l) : Below w0.heap.size w0 w := (H.forget E).finish
theorem Ext.start {w0 : World} (E : Ext (froz w0) g) (H : Sat g w l) : Sat (froz w0) w l := H.forget E
/-- A call that is told from g = froz w, used where g is frozen: what it froze is frozen here. -/
theorem Sat.mergeX {l' : List As} (H : Sat g w l) (E : Ext (froz w) g') (H' : Sat g' w' l') : ∃ g2, Ext g g2 ∧ (∀ k o, g'.fr k = some o → w.heap[k]? = none → g2.fr k = some o) ∧ Sat g2 w' (l' ++ l) := by
  obtain ⟨h, hs, hx⟩ := H'.ex
  obtain ⟨f, b, h1, h2, h3⟩ := hx
  obtain rfl : f = g'.fr := h2
  -- the new frozen as a piece ahead of l'
  have H2 : Sat (froz w) w' ((fun h => h = fun k => match w.heap[k]? with
    | some _ => none
    | none => g'.fr k) :: l') := by
    refine ⟨H'.os.trans E.os, H'.tape.trans E.tape, H'.output.trans E.output, h, hs, fun k => w.heap[k]?, fun k => match w.heap[k]? with
      | some _ => none
      | none => h k, fun k => ?_, rfl, fun k => match w.heap[k]? with
      | some _ => none
      | none => g'.fr k, b, fun k => ?_, rfl, h3⟩
    · dsimp only
      cases hw : w.heap[k]? with
      | none => right; exact ⟨rfl, rfl⟩
      | some o =>
        left
        refine ⟨?_, rfl⟩
        have := E.fr k o hw
        rcases h1 k with ⟨q, _⟩ | ⟨q, _⟩
        · rw [← q, this]
        · rw [this] at q; cases q
    · dsimp only
      cases hw : w.heap[k]? with
      | none => exact h1 k
      | some o =>
        dsimp only
        right
        refine ⟨rfl, ?_⟩
        have := E.fr k o hw
        rcases h1 k with ⟨_, q⟩ | ⟨q, _⟩
        · exact q
        · rw [this] at q; cases q
  have H3 := H.merge H2
  obtain ⟨g2, a, E2, ha, hf, hS⟩ := H3.freezeA (j := 0) rfl
  refine ⟨g2, E2, fun k o hk hw => hf k o ?_, hS⟩
  rw [ha]; dsimp only; rw [hw]; exact hk
end
end Go.Proofs.Yticdhdpfimpmoaa.Eng
/- Contracts of the library as contracts of mine; a variable of the library's own. -/
set_option linter.unusedVariables false
namespace Go.Proofs.Yticdhdpfimpmoaa.Eng
open Go
theorem Fc.ofCalls {P : Program} {f : FuncId} {fn : Func} {c : Code} {args : Array Value} {w : World} {R : Value → World → Prop}
    (hf : P.funcs[f]? = some fn) (hb : fn.body = some c) (hn : (fn.name == "runtime.NumGoroutine") = false) (h : Calls P f args w fun e w' => ∃ v, e = .returned v ∧ R v w') : Fc P f args w R := by
  refine ⟨?_, h⟩
  simp only [callFunc, Sem.run_bind, program, Sem.run, Result.andThen_ok, hf]
  rw [if_neg (by rw [hn]; decide), if_neg (by rw [hb]; simp)]
  rfl
theorem fat_cell {w : World} {b : Nat} {v : Value} (h : w.cell? ⟨b, 0, none⟩ = some v) : FAt (froz w) b 0 [v] := by
  unfold World.cell? at h
  split at h
  · rename_i cs e fz hh
    refine ⟨cs, e, fz, hh, fun i u hu => ?_⟩
    rw [if_neg (by simp)] at h
    match i, hu with
    | 0, hu =>
      obtain rfl : v = u := by simpa using hu
      exact h
  · cases h
end Go.Proofs.Yticdhdpfimpmoaa.Eng
/- slices.Collect(maps.Keys(m)) over pids as a contract of mine. -/
set_option maxRecDepth 100000
set_option linter.unusedVariables false
set_option linter.unusedSimpArgs false
namespace Go.Proofs.Yticdhdpfimpmoaa.Proc
open Go Go.RowKit Go.Maps Go.Sort Go.Shelf Go.Proofs.Yticdhdpfimpmoaa.Eng Go.Proofs.Yticdhdpfimpmoaa.Eng.MG
/-- A slice that owns its row is a piece. -/
theorem own_sl {α : Type} {en : α → List Value} {s : Nat} {e : TypeId} {base : Nat} {w : World} {v : Value} {xs : List α} (hs : ∀ x, (en x).length = s) (h : w.ownsRow base e s v xs.length (xs.flatMap en)) :
    ∃ a : Hp, Sl e s en v xs a ∧ Sub a w ∧ ∀ k, k < base → a k = none := by
  rcases h.2 with ⟨rfl, h0⟩ | ⟨g, cap, cur, rfl, hb, hg, h1, h2, h3, h4⟩
  · exact ⟨fun _ => none, ⟨.inl ⟨rfl, List.eq_nil_of_length_eq_zero h0⟩, hs⟩, nofun, fun _ _ => rfl⟩
  · refine ⟨fun k => if k = g then some (.cells cur e (0, 0)) else none, ⟨.inr ⟨g, 0, cap, cur.toList, rfl, if_pos rfl, by simp [h3], h1, h2, by simpa using h4⟩, hs⟩, fun k o hk => ?_, fun k hk => if_neg (by omega)⟩
    dsimp only at hk
    split at hk
    · rename_i e; subst e; obtain rfl := Option.some.inj hk; exact hg
    · cases hk
section
variable {g : Glob} {w : World} {l : List As}
theorem collect_ {p b nn : Nat} {ev : Int → Value} {z0 : Int} {f : PidD → Option Int} (H : Sat g w (Pt p [.map (some b)] 78 :: Mg ekP ev z0 b f nn :: l)) (hn : nn ≤ 1000) :
    Fc Try.prog 45 #[.func (.func 47) #[] #[.pointer (some ⟨p, 0, none⟩)]] w (fun r w' => ∃ ks : List PidD, ks.Nodup ∧ (∀ k, k ∈ ks ↔ f k ≠ none) ∧ ks.length = nn ∧ Sat g w' (Sl 31 2 enPd r ks :: Pt p [.map (some b)] 78 :: Mg ekP ev z0 b f nn :: l)) := by
  obtain ⟨es, clock, m, hb, ok, hm⟩ := mp H 1 rfl
  have hpt := H.pt (j := 0) rfl
  have hcell : w.cell? ⟨p, 0, none⟩ = some (.map (some b)) := by
    obtain ⟨cs, fz, h1, h2⟩ : ∃ cs fz, w.heap[p]? = some (.cells cs 78 fz) ∧ cs = #[.map (some b)] := by
      obtain ⟨a, ha, hs⟩ := H.part (j := 0) rfl
      exact ⟨_, _, hs _ _ ha, rfl⟩
    subst h2
    rw [World.cell?, h1]; rfl
  have hlt : p < w.heap.size := by
    obtain ⟨a, ha, hs⟩ := H.part (j := 0) rfl
    exact (Array.getElem?_eq_some_iff.1 (hs _ _ ha)).1
  refine Fc.ofCalls Try.func45 rfl rfl ?_
  refine (callsIn_wide (n := 5)).1 ?_
  have hseq := keysP_gives Fence.wide (5 - 1 - 1) trivial rfl (by omega) p b clock es ev m ok.row ok.born ok.apart w hlt hcell hb
  refine (pCollect_in Fence.wide 5 trivial trivial rfl (by omega) 47 #[.pointer (some ⟨p, 0, none⟩)] trivial (enters_of Try.func47 (by kernel_rfl) rfl) _ _ (by rw [hm]; simp only [maxLen]; omega) (by rw [hm]; omega) w hseq).mono ?_
  rintro e w' ⟨v, ss, rfl, hS, hrow, _, hbl⟩
  obtain ⟨a, ha, hs, hn⟩ := own_sl (en := enPd) (fun _ => rfl) hrow
  refine ⟨v, rfl, ss, hS.symm.nodup ok.keys, fun k => ?_, by rw [hS.length_eq, List.length_map, hm], H.more hbl ha hs hn⟩
  rw [hS.mem_iff, ← ok.lk k]
  constructor
  · intro hk h0
    obtain ⟨q, hq, rfl⟩ := List.mem_map.1 hk
    exact lk_none.1 h0 q hq rfl
  · intro h0
    cases hv : lk m k with
    | none => exact absurd hv h0
    | some v => exact List.mem_map.2 ⟨_, (lk_mem ok.keys).1 hv, rfl⟩
end
end Go.Proofs.Yticdhdpfimpmoaa.Proc
