/- Snapshots: how they are written and read; what is written is read, cut short it is too short. -/
import Derived.Test.YtffkcgogkhdcdaaTxtL
set_option maxRecDepth 100000
set_option linter.unusedVariables false
set_option linter.unusedSimpArgs false
namespace Go.Proofs.Ytffkcgogkhdcdaa.Shot
open Go.Proofs.Ytffkcgogkhdcdaa.Leb Go.Proofs.Ytffkcgogkhdcdaa.Txt
structure CallD where
  fn : Int
  at_ : Int
  ls : List Int
  ss : List Int
structure ShotD where
  mem : List UInt8
  tab : List Int
  glob : List Int
  host : Int
  calls : List CallD
def callR : Rdr CallD := bindR plainR fun f => bindR plainR fun a => bindR (listR 20 (signedR 64)) fun l => bindR (listR 200 (signedR 64)) fun s => retR ⟨f, a, l, s⟩
def shotR : Rdr ShotD := bindR (countR 2048) fun n => bindR (takeR n) fun m => bindR (listR 16 (signedR 32)) fun t => bindR (listR 8 (signedR 64)) fun g => bindR plainR fun h => bindR (listR 40 callR) fun c => retR ⟨m, t, g, h, c⟩
def callT (c : CallD) : List UInt8 := uleb c.fn.toNat ++ (uleb c.at_.toNat ++ (listT sleb c.ls ++ listT sleb c.ss))
def shotT (x : ShotD) : List UInt8 := uleb x.mem.length ++ (x.mem ++ (listT sleb x.tab ++ (listT sleb x.glob ++ (uleb x.host.toNat ++ listT callT x.calls))))
def isN (n : Int) : Prop := 0 ≤ n ∧ n ≤ 4294967295
instance (n : Int) : Decidable (isN n) := by unfold isN; infer_instance
def isI32 (n : Int) : Prop := -2147483648 ≤ n ∧ n ≤ 2147483647
instance (n : Int) : Decidable (isI32 n) := by unfold isI32; infer_instance
def isI64 (n : Int) : Prop := -9223372036854775808 ≤ n ∧ n ≤ 9223372036854775807
/-- What a call must be to be written. -/
def okC (c : CallD) : Prop := isN c.fn ∧ isN c.at_ ∧ c.ls.length ≤ 20 ∧ c.ss.length ≤ 200
instance (c : CallD) : Decidable (okC c) := by unfold okC; infer_instance
def okS (x : ShotD) : Prop := x.mem.length ≤ 2048 ∧ x.tab.length ≤ 16 ∧ x.glob.length ≤ 8 ∧ (∀ n ∈ x.tab, isI32 n) ∧ isN x.host ∧ x.calls.length ≤ 40 ∧ ∀ c ∈ x.calls, okC c
instance (x : ShotD) : Decidable (okS x) := by unfold okS; infer_instance
/-- All that fits a word. -/
def i64C (c : CallD) : Prop := (∀ n ∈ c.ls, isI64 n) ∧ ∀ n ∈ c.ss, isI64 n
def i64S (x : ShotD) : Prop := (∀ n ∈ x.glob, isI64 n) ∧ ∀ c ∈ x.calls, i64C c
def wr (x : ShotD) : List UInt8 := if okS x then shotT x else []
theorem strictCall : Strict callR := Strict.bind .plain fun _ => Strict.bind .plain fun _ => Strict.bind (.list _ (.signed _)) fun _ => Strict.bind (.list _ (.signed _)) fun _ => .ret _
theorem plainN (n : Int) (h : isN n) : Tx (uleb n.toNat) plainR n := by
  have h1 := Tx.plain n.toNat (by unfold isN at h; omega)
  rwa [show ((n.toNat : Nat) : Int) = n by unfold isN at h; omega] at h1
theorem txCall {c : CallD} (h : okC c) (hi : i64C c) : Tx (callT c) callR c := by
  obtain ⟨h1, h2, h3, h4⟩ := h
  have hl := Tx.list (m := 20) (Strict.signed 64) c.ls (fun n hn => Tx.signed64 n (hi.1 n hn)) h3 (by decide)
  have hs := Tx.list (m := 200) (Strict.signed 64) c.ss (fun n hn => Tx.signed64 n (hi.2 n hn)) h4 (by decide)
  refine Tx.bind (plainN _ h1) (Tx.bind (plainN _ h2) (Tx.bind hl (u := c) ?_ fun _ => .bind (.list _ (.signed _)) fun _ => .ret _) fun _ => .bind (.list _ (.signed _)) fun _ => .bind (.list _ (.signed _)) fun _ => .ret _) fun _ => .bind .plain fun _ => .bind (.list _ (.signed _)) fun _ => .bind (.list _ (.signed _)) fun _ => .ret _
  have := Tx.bind (q := fun s => retR (⟨c.fn, c.at_, c.ls, s⟩ : CallD)) hs (Tx.ret _) fun _ => .ret _
  rwa [List.append_nil] at this
theorem strictShot (m : List UInt8) (t g : List Int) (h : Int) : Strict (bindR (listR 40 callR) fun c => retR (⟨m, t, g, h, c⟩ : ShotD)) := .bind (.list _ strictCall) fun _ => .ret _
theorem txShot {x : ShotD} (h : okS x) (hi : i64S x) : Tx (shotT x) shotR x := by
  obtain ⟨h1, h2, h3, h4, h5, h6, h7⟩ := h
  have ht := Tx.list (m := 16) (Strict.signed 32) x.tab (fun n hn => Tx.signed32 n (h4 n hn)) h2 (by decide)
  have hg := Tx.list (m := 8) (Strict.signed 64) x.glob (fun n hn => Tx.signed64 n (hi.1 n hn)) h3 (by decide)
  have hc := Tx.list (m := 40) strictCall x.calls (fun c hc => txCall (h7 c hc) (hi.2 c hc)) h6 (by decide)
  have hcr : Tx (listT callT x.calls) (bindR (listR 40 callR) fun c => retR (⟨x.mem, x.tab, x.glob, x.host, c⟩ : ShotD)) x := by
    have := Tx.bind (q := fun c => retR (⟨x.mem, x.tab, x.glob, x.host, c⟩ : ShotD)) hc (Tx.ret _) fun _ => .ret _
    rwa [List.append_nil] at this
  refine Tx.bind (Tx.count h1 (by decide)) (Tx.bind (Tx.take x.mem) (Tx.bind ht (Tx.bind hg (Tx.bind (plainN _ h5) hcr ?_) ?_) ?_) ?_) ?_
  · exact fun _ => strictShot _ _ _ _
  · exact fun _ => .bind .plain fun _ => strictShot _ _ _ _
  · exact fun _ => .bind (.list _ (.signed _)) fun _ => .bind .plain fun _ => strictShot _ _ _ _
  · exact fun _ => .bind (.list _ (.signed _)) fun _ => .bind (.list _ (.signed _)) fun _ => .bind .plain fun _ => strictShot _ _ _ _
  · exact fun _ => .bind (.take _) fun _ => .bind (.list _ (.signed _)) fun _ => .bind (.list _ (.signed _)) fun _ => .bind .plain fun _ => strictShot _ _ _ _
/-- What Read answers. -/
def errR (s : List UInt8) : Int := if (shotR s ⟨0, 0⟩).2.bad ≠ 0 then (shotR s ⟨0, 0⟩).2.bad else if (shotR s ⟨0, 0⟩).2.at_ ≠ s.length ∨ wr (shotR s ⟨0, 0⟩).1 ≠ s then 4 else 0
theorem shot_back {x : ShotD} (h : okS x) (hi : i64S x) : errR (shotT x) = 0 ∧ (shotR (shotT x) ⟨0, 0⟩).1 = x := by
  have h1 := (txShot h hi).whole (shotT x) 0 [] (by simp)
  unfold errR
  rw [h1]
  refine ⟨?_, rfl⟩
  simp only [ne_eq, not_true, if_false]
  rw [if_neg]
  unfold wr
  rw [if_pos h]
  simp
theorem shot_cut {x : ShotD} (h : okS x) (hi : i64S x) {j : Nat} (hj : j < (shotT x).length) : errR ((shotT x).take j) = 3 := by
  have h1 := (txShot h hi).cut ((shotT x).take j) 0 j rfl hj
  unfold errR
  rw [if_pos (by rw [h1]; decide), h1]
theorem read_nil : errR [] = 3 := by decide
theorem shotT_ne (x : ShotD) : shotT x ≠ [] := by
  unfold shotT
  intro h
  have := congrArg List.length h
  simp only [List.length_append, List.length_nil] at this
  have := uleb_pos x.mem.length
  omega
theorem read_ok {s : List UInt8} (h : errR s = 0) : okS (shotR s ⟨0, 0⟩).1 ∧ s = shotT (shotR s ⟨0, 0⟩).1 ∧ s ≠ [] := by
  have hne : s ≠ [] := by intro e; rw [e, read_nil] at h; omega
  unfold errR at h
  split at h
  · omega
  split at h
  · omega
  rename_i h1 h2
  have h3 : wr (shotR s ⟨0, 0⟩).1 = s := Decidable.byContradiction fun h3 => h2 (.inr h3)
  by_cases ho : okS (shotR s ⟨0, 0⟩).1
  · unfold wr at h3
    rw [if_pos ho] at h3
    exact ⟨ho, h3.symm, hne⟩
  · unfold wr at h3
    rw [if_neg ho] at h3
    exact absurd h3.symm hne
end Go.Proofs.Ytffkcgogkhdcdaa.Shot
