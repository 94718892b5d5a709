/- Texts of this claim, one behind the other. -/
import Derived.Test.YtooimjefbdokaaaDoorM2
import Derived.MapKept
import Derived.Maps.RangeRun
import Derived.Test.YtooimjefbdokaaaDoorRows
import Derived.WalkKit
import Derived.ProofKit
import Derived.JoinedCond
import Derived.OpenShut
import Derived.ShutString
import Derived.ChangeOld
import Derived.Below
import Derived.Test.YtooimjefbdokaaaDoorM1
import Derived.ChangeArms
/- Instructions: what they are, how they are written and read; what is written is read, and what is read can be written. -/
set_option maxRecDepth 100000
set_option linter.unusedVariables false
set_option linter.unusedSimpArgs false
namespace Go.Proofs.YtooimjefbdokaaaDoor.Ins
open Go.Proofs.YtooimjefbdokaaaDoor.Leb Go.Proofs.YtooimjefbdokaaaDoor.Txt
structure InsD where
  op : Int
  a : Int
  b : Int
  to : List Int
/-- How many bytes a load or store moves. -/
def wid (o : Int) : Int :=
  if o = 44 ∨ o = 45 ∨ o = 48 ∨ o = 49 ∨ o = 58 ∨ o = 60 then 1
  else if o = 46 ∨ o = 47 ∨ o = 50 ∨ o = 51 ∨ o = 59 ∨ o = 61 then 2
  else if o = 40 ∨ o = 52 ∨ o = 53 ∨ o = 54 ∨ o = 62 then 4
  else if o = 41 ∨ o = 55 then 8 else 0
def kd (o b : Int) : Int := if o < b then 127 else 126
/-- Instructions of numbers: what they take and give. -/
def numS (o : Int) : List Int × Int × Bool :=
  if o = 69 ∨ o = 80 then ([kd o 80], 127, true)
  else if 69 < o ∧ o ≤ 90 then ([kd o 80, kd o 80], 127, true)
  else if (103 ≤ o ∧ o ≤ 105) ∨ (121 ≤ o ∧ o ≤ 123) then ([kd o 121], kd o 121, true)
  else if 106 ≤ o ∧ o ≤ 138 then ([kd o 121, kd o 121], kd o 121, true)
  else if o = 167 then ([126], 127, true)
  else if o = 172 ∨ o = 173 then ([127], 126, true)
  else if 192 ≤ o ∧ o ≤ 196 then ([kd o 194], kd o 194, true)
  else ([], 0, false)
/-- What stands beside: 0 unknown, 1 nothing, 2 block, 3 index, 4 ways, 5 indirect, 6 place, 7 zero, 8 const32, 9 const64. -/
def bsd (o : Int) : Int :=
  if o = 2 ∨ o = 3 ∨ o = 4 then 2
  else if o = 12 ∨ o = 13 ∨ o = 16 ∨ (32 ≤ o ∧ o ≤ 36) then 3
  else if o = 14 then 4
  else if o = 17 then 5
  else if 0 < wid o then 6
  else if o = 63 ∨ o = 64 then 7
  else if o = 65 then 8
  else if o = 66 then 9
  else if o ≤ 1 ∨ o = 5 ∨ o = 11 ∨ o = 15 ∨ o = 26 ∨ o = 27 then 1
  else if (numS o).2.2 = true then 1 else 0
def isIdx (n : Int) : Prop := 0 ≤ n ∧ n ≤ 4294967295
instance (n : Int) : Decidable (isIdx n) := by unfold isIdx; infer_instance
def goodK (k a b : Int) : Prop :=
  if k = 1 ∨ k = 7 then a = 0
  else if k = 2 then a = 64 ∨ a = 127 ∨ a = 126
  else if k = 8 then -2147483648 ≤ a ∧ a ≤ 2147483647
  else if k = 6 then isIdx a ∧ isIdx b
  else if k = 3 ∨ k = 4 ∨ k = 5 then isIdx a else True
instance (k a b : Int) : Decidable (goodK k a b) := by unfold goodK; infer_instance
def chk (x : InsD) : Int :=
  if bsd x.op = 0 then 6
  else if 16 < x.to.length then 2
  else if (bsd x.op ≠ 4 ∧ 0 < x.to.length) ∨ (bsd x.op ≠ 6 ∧ x.b ≠ 0) then 1
  else if goodK (bsd x.op) x.a x.b ∧ ∀ n ∈ x.to, isIdx n then 0 else 1
def byt (n : Int) : UInt8 := UInt8.ofNat (n % 256).toNat
def txtB (k : Int) (x : InsD) : List UInt8 :=
  if k = 2 then [byt x.a]
  else if k = 3 then uleb x.a.toNat
  else if k = 4 then uleb x.to.length ++ (x.to.flatMap (fun n => uleb n.toNat) ++ uleb x.a.toNat)
  else if k = 5 then uleb x.a.toNat ++ [0]
  else if k = 6 then uleb x.a.toNat ++ uleb x.b.toNat
  else if k = 7 then [0]
  else if k = 8 ∨ k = 9 then sleb x.a
  else []
def txt (x : InsD) : List UInt8 := byt x.op :: txtB (bsd x.op) x
/-! ## Reading -/
def manyR : Nat → Rdr (List Int)
  | 0 => retR []
  | n + 1 => bindR plainR fun v => bindR (manyR n) fun l => retR (v :: l)
def noughtR : Rdr Unit := bindR octetR fun v => if v ≠ 0 then failRd 4 else retR ()
def blockR (o : Int) : Rdr InsD := bindR octetR fun k => bindR (if k ≠ 64 ∧ k ≠ 127 ∧ k ≠ 126 then failRd 6 else retR ()) fun _ => retR ⟨o, k, 0, []⟩
def waysR (o : Int) : Rdr InsD := bindR plainR fun n => bindR (if 16 < n then failRd 2 else retR ()) fun _ => bindR (manyR (if 16 < n then 0 else n.toNat)) fun l => bindR plainR fun a => retR ⟨o, a, 0, l⟩
def bsdR (o k : Int) : Rdr InsD :=
  if k = 2 then blockR o
  else if k = 3 then bindR plainR fun a => retR ⟨o, a, 0, []⟩
  else if k = 4 then waysR o
  else if k = 5 then bindR plainR fun a => bindR noughtR fun _ => retR ⟨o, a, 0, []⟩
  else if k = 6 then bindR plainR fun a => bindR plainR fun b => retR ⟨o, a, b, []⟩
  else if k = 7 then bindR noughtR fun _ => retR ⟨o, 0, 0, []⟩
  else if k = 8 then bindR (signedR 32) fun a => retR ⟨o, a, 0, []⟩
  else if k = 9 then bindR (signedR 64) fun a => retR ⟨o, a, 0, []⟩
  else retR ⟨o, 0, 0, []⟩
def insR : Rdr InsD := bindR octetR fun o => bindR (if bsd o = 0 then failRd 6 else retR ()) fun _ => bsdR o (bsd o)
def zeroI : InsD := ⟨0, 0, 0, []⟩
/-- What ins.Read answers. -/
def rdI (s : List UInt8) : InsD × Nat × Int :=
  if (insR s ⟨0, 0⟩).2.bad = 0 then ((insR s ⟨0, 0⟩).1, (insR s ⟨0, 0⟩).2.at_, 0) else (zeroI, 0, (insR s ⟨0, 0⟩).2.bad)
theorem Strict.many : ∀ n, Strict (manyR n)
  | 0 => Strict.ret _
  | n + 1 => Strict.plain.bind fun _ => (Strict.many n).bind fun _ => Strict.ret _
theorem Strict.nought : Strict noughtR := Strict.octet.bind fun v => by
  split
  · exact Strict.fail _
  · exact Strict.ret _
theorem Strict.ite {α : Type} {c : Prop} [Decidable c] {p q : Rdr α} (hp : Strict p) (hq : Strict q) : Strict (if c then p else q) := by split <;> assumption
theorem Strict.block (o : Int) : Strict (blockR o) := Strict.octet.bind fun v => (Strict.ite (Strict.fail _) (Strict.ret _)).bind fun _ => Strict.ret _
theorem Strict.ways (o : Int) : Strict (waysR o) := Strict.plain.bind fun n => (Strict.ite (Strict.fail _) (Strict.ret _)).bind fun _ => (Strict.many _).bind fun _ => Strict.plain.bind fun _ => Strict.ret _
theorem Strict.bsd (o k : Int) : Strict (bsdR o k) := by
  unfold bsdR
  refine Strict.ite (Strict.block o) (Strict.ite (Strict.plain.bind fun _ => Strict.ret _) (Strict.ite (Strict.ways o) (Strict.ite (Strict.plain.bind fun _ => Strict.nought.bind fun _ => Strict.ret _) (Strict.ite (Strict.plain.bind fun _ => Strict.plain.bind fun _ => Strict.ret _) (Strict.ite (Strict.nought.bind fun _ => Strict.ret _) (Strict.ite ((Strict.signed _).bind fun _ => Strict.ret _) (Strict.ite ((Strict.signed _).bind fun _ => Strict.ret _) (Strict.ret _))))))))
theorem Strict.ins : Strict insR := Strict.octet.bind fun _ => (Strict.ite (Strict.fail _) (Strict.ret _)).bind fun _ => Strict.bsd _ _
theorem Tx.cg {α : Type} {A A' : List UInt8} {p : Rdr α} {v : α} (h : Tx A p v) (e : A = A') : Tx A' p v := e ▸ h
theorem Tx.many : ∀ (l : List Int), (∀ n ∈ l, isIdx n) → Tx (l.flatMap fun n => uleb n.toNat) (manyR l.length) l
  | [], _ => Tx.ret _
  | n :: l, h => by
    obtain ⟨h1, h2⟩ := h n (List.mem_cons_self ..)
    have h3 := Tx.plain n.toNat (by omega)
    rw [show ((n.toNat : Nat) : Int) = n by omega] at h3
    have := h3.bind (q := fun v => bindR (manyR l.length) fun l' => retR (v :: l')) ((Tx.many l fun m hm => h m (List.mem_cons_of_mem _ hm)).bind (q := fun l' => retR (n :: l')) (Tx.ret _) fun _ => Strict.ret _) fun _ => (Strict.many _).bind fun _ => Strict.ret _
    rw [List.append_nil] at this
    exact this
theorem Tx.nought : Tx [0] noughtR () := by
  have := (Tx.octet 0).bind (q := fun v => if v ≠ 0 then failRd 4 else retR ()) (B := []) (u := ()) (by
    rw [if_neg (by decide)]; exact Tx.ret _) fun v => Strict.ite (Strict.fail _) (Strict.ret _)
  rw [List.append_nil] at this; exact this
theorem Tx.idx {n : Int} (h : isIdx n) : Tx (uleb n.toNat) plainR n := by
  obtain ⟨h1, h2⟩ := h
  have h3 := Tx.plain n.toNat (by omega)
  rw [show ((n.toNat : Nat) : Int) = n by omega] at h3
  exact h3
theorem bsd_cases (o : Int) : bsd o = 0 ∨ bsd o = 1 ∨ bsd o = 2 ∨ bsd o = 3 ∨ bsd o = 4 ∨ bsd o = 5 ∨ bsd o = 6 ∨ bsd o = 7 ∨ bsd o = 8 ∨ bsd o = 9 := by
  unfold bsd
  repeat' split
  all_goals simp
theorem byt_of {n : Int} (h : 0 ≤ n ∧ n ≤ 255) : byt n = UInt8.ofNat n.toNat := by unfold byt; rw [Int.emod_eq_of_lt (by omega) (by omega)]
/-- What stands beside a good instruction is read. -/
theorem Tx.beside {x : InsD} (h0 : bsd x.op ≠ 0) (hto : x.to.length ≤ 16) (h1 : bsd x.op ≠ 4 → x.to = []) (h2 : bsd x.op ≠ 6 → x.b = 0) (hg : goodK (bsd x.op) x.a x.b) (ht : ∀ n ∈ x.to, isIdx n) (ha : -9223372036854775808 ≤ x.a ∧ x.a ≤ 9223372036854775807) : Tx (txtB (bsd x.op) x) (bsdR x.op (bsd x.op)) x := by
  obtain ⟨o, a, b, to⟩ := x
  simp only at h0 hto h1 h2 hg ht ha ⊢
  generalize hk : Ins.bsd o = k at *
  have hkc := bsd_cases o
  rw [hk] at hkc
  unfold goodK at hg
  unfold txtB bsdR
  rcases hkc with rfl | rfl | rfl | rfl | rfl | rfl | rfl | rfl | rfl | rfl
  · exact absurd rfl h0
  · simp at hg h1 h2
    simp only [h1, h2, hg]
    exact Tx.ret _
  · simp at hg h1 h2
    simp only [h1, h2]
    have hb : 0 ≤ a ∧ a ≤ 255 := by omega
    have := (Tx.octetN a hb).bind (q := fun k => bindR (if k ≠ 64 ∧ k ≠ 127 ∧ k ≠ 126 then failRd 6 else retR ()) fun _ => retR (⟨o, k, 0, []⟩ : InsD)) (B := [] ++ []) (u := ⟨o, a, 0, []⟩) ((show Tx [] _ () by rw [if_neg (by omega)]; exact Tx.ret _).bind (Tx.ret _) fun _ => Strict.ret _) fun v => (Strict.ite (Strict.fail _) (Strict.ret _)).bind fun _ => Strict.ret _
    rw [List.append_nil, List.append_nil, ← byt_of hb] at this
    exact this
  · simp at hg h1 h2
    simp only [h1, h2]
    have := (Tx.idx hg).bind (q := fun a => retR (⟨o, a, 0, []⟩ : InsD)) (Tx.ret _) fun _ => Strict.ret _
    rw [List.append_nil] at this
    exact this
  · simp at hg h2
    simp only [h2]
    have hidx : isIdx ((to.length : Nat) : Int) := ⟨by omega, by omega⟩
    have hn : Tx (uleb to.length) plainR ((to.length : Nat) : Int) := by have := Tx.idx hidx; rwa [Int.toNat_natCast] at this
    have := hn.bind (q := fun n => bindR (if 16 < n then failRd 2 else retR ()) fun _ => bindR (manyR (if 16 < n then 0 else n.toNat)) fun l => bindR plainR fun a => retR (⟨o, a, 0, l⟩ : InsD)) (B := [] ++ (to.flatMap (fun n => uleb n.toNat) ++ (uleb a.toNat ++ []))) (u := ⟨o, a, 0, to⟩) ((show Tx [] _ () by rw [if_neg (by omega)]; exact Tx.ret _).bind (by
      rw [if_neg (by omega), Int.toNat_natCast]
      exact (Tx.many to ht).bind ((Tx.idx hg).bind (Tx.ret _) fun _ => Strict.ret _) fun _ => Strict.plain.bind fun _ => Strict.ret _) fun _ => (Strict.many _).bind fun _ => Strict.plain.bind fun _ => Strict.ret _) fun n => (Strict.ite (Strict.fail _) (Strict.ret _)).bind fun _ => (Strict.many _).bind fun _ => Strict.plain.bind fun _ => Strict.ret _
    rw [List.nil_append, List.append_nil] at this
    exact this
  · simp at hg h1 h2
    simp only [h1, h2]
    have := (Tx.idx hg).bind (q := fun a => bindR noughtR fun _ => retR (⟨o, a, 0, []⟩ : InsD)) (Tx.nought.bind (Tx.ret _) fun _ => Strict.ret _) fun _ => Strict.nought.bind fun _ => Strict.ret _
    rw [List.append_nil] at this
    exact this
  · simp at hg h1
    simp only [h1]
    have := (Tx.idx hg.1).bind (q := fun a => bindR plainR fun b => retR (⟨o, a, b, []⟩ : InsD)) ((Tx.idx hg.2).bind (Tx.ret _) fun _ => Strict.ret _) fun _ => Strict.plain.bind fun _ => Strict.ret _
    rw [List.append_nil] at this
    exact this
  · simp at hg h1 h2
    simp only [h1, h2, hg]
    have := Tx.nought.bind (q := fun _ => retR (⟨o, 0, 0, []⟩ : InsD)) (Tx.ret _) fun _ => Strict.ret _
    rw [List.append_nil] at this
    exact this
  · simp at hg h1 h2
    simp only [h1, h2]
    have := (Tx.signed32 a hg).bind (q := fun a => retR (⟨o, a, 0, []⟩ : InsD)) (Tx.ret _) fun _ => Strict.ret _
    rw [List.append_nil] at this
    exact this
  · simp at h1 h2
    simp only [h1, h2]
    have := (Tx.signed64 a ha).bind (q := fun a => retR (⟨o, a, 0, []⟩ : InsD)) (Tx.ret _) fun _ => Strict.ret _
    rw [List.append_nil] at this
    exact this
theorem chk_ok {x : InsD} (h : chk x = 0) : bsd x.op ≠ 0 ∧ x.to.length ≤ 16 ∧ (bsd x.op ≠ 4 → x.to = []) ∧ (bsd x.op ≠ 6 → x.b = 0) ∧ goodK (bsd x.op) x.a x.b ∧ ∀ n ∈ x.to, isIdx n := by
  unfold chk at h
  split at h
  · cases h
  split at h
  · cases h
  split at h
  · cases h
  split at h
  · rename_i h1 h2 h3 h4
    refine ⟨h1, by omega, fun h5 => ?_, fun h5 => ?_, h4.1, h4.2⟩
    · exact List.eq_nil_of_length_eq_zero (by
        apply Decidable.byContradiction
        intro h6; exact h3 (.inl ⟨h5, by omega⟩))
    · apply Decidable.byContradiction
      intro h6; exact h3 (.inr ⟨h5, h6⟩)
  · cases h
theorem ok_chk {x : InsD} (h0 : bsd x.op ≠ 0) (h1 : x.to.length ≤ 16) (h2 : bsd x.op ≠ 4 → x.to = []) (h3 : bsd x.op ≠ 6 → x.b = 0) (h4 : goodK (bsd x.op) x.a x.b) (h5 : ∀ n ∈ x.to, isIdx n) : chk x = 0 := by
  unfold chk
  rw [if_neg h0, if_neg (by omega), if_neg, if_pos ⟨h4, h5⟩]
  rintro (⟨h, h6⟩ | ⟨h, h6⟩)
  · rw [h2 h] at h6; simp at h6
  · exact h6 (h3 h)
theorem Tx.insr {x : InsD} (h : chk x = 0) (hop : 0 ≤ x.op ∧ x.op ≤ 255) (ha : -9223372036854775808 ≤ x.a ∧ x.a ≤ 9223372036854775807) : Tx (txt x) insR x := by
  obtain ⟨h0, h1, h2, h3, h4, h5⟩ := chk_ok h
  have := (Tx.octetN x.op hop).bind (q := fun o => bindR (if Ins.bsd o = 0 then failRd 6 else retR ()) fun _ => bsdR o (Ins.bsd o)) (B := [] ++ txtB (Ins.bsd x.op) x) (u := x) ((show Tx [] _ () by rw [if_neg h0]; exact Tx.ret _).bind (Tx.beside h0 h1 h2 h3 h4 h5 ha) fun _ => Strict.bsd _ _) fun _ => (Strict.ite (Strict.fail _) (Strict.ret _)).bind fun _ => Strict.bsd _ _
  rw [List.nil_append, ← byt_of hop] at this
  exact this
/-- What is written is read as it was, whatever follows. -/
theorem rdI_txt {x : InsD} (h : chk x = 0) (hop : 0 ≤ x.op ∧ x.op ≤ 255) (ha : -9223372036854775808 ≤ x.a ∧ x.a ≤ 9223372036854775807) (more : List UInt8) : rdI (txt x ++ more) = (x, (txt x).length, 0) := by
  have := (Tx.insr h hop ha).whole (txt x ++ more) 0 more rfl
  unfold rdI
  rw [this, if_pos rfl, Nat.zero_add]
theorem rdI_cut {x : InsD} (h : chk x = 0) (hop : 0 ≤ x.op ∧ x.op ≤ 255) (ha : -9223372036854775808 ≤ x.a ∧ x.a ≤ 9223372036854775807) {j : Nat} (hj : j < (txt x).length) : (rdI ((txt x).take j)).2.2 = 3 := by
  have := (Tx.insr h hop ha).cut ((txt x).take j) 0 j rfl hj
  unfold rdI
  rw [if_neg (by rw [this]; decide)]
  exact this
/-! ## What was read -/
theorem Gt.fail {e : Int} (he : e ≠ 0) (Q : Unit → Nat → Prop) : Gt (failRd e) Q := fun s k _ h0 => absurd h0 (by unfold failRd failR; simpa using he)
theorem Gt.many : ∀ n, Gt (manyR n) (fun l m => l.length = n ∧ (∀ x ∈ l, isIdx x) ∧ (l.flatMap fun n => uleb n.toNat).length ≤ m)
  | 0 => (Gt.ret _).imp fun v n ⟨h1, h2⟩ => by subst h1; exact ⟨rfl, nofun, Nat.zero_le _⟩
  | n + 1 => by
    refine (Gt.plain.bind (fun v m hv => (Gt.many n).bind (fun l m hl => Gt.ret (v :: l)) fun _ => Strict.ret _) fun _ => (Strict.many _).bind fun _ => Strict.ret _).imp ?_
    rintro u k ⟨v, m, m', ⟨q, rfl, hq, hl⟩, ⟨l, m1, m2, ⟨g1, g2, g3⟩, ⟨rfl, rfl⟩, rfl⟩, rfl⟩
    refine ⟨by simp [g1], fun x hx => ?_, ?_⟩
    · rcases List.mem_cons.1 hx with rfl | hx
      · exact ⟨by omega, by omega⟩
      · exact g2 x hx
    · rw [List.flatMap_cons, List.length_append, Int.toNat_natCast]; omega
theorem Gt.nought : Gt noughtR (fun _ n => n = 1) := by
  refine (Gt.octet.bind (Q' := fun _ _ n => n = 0) (fun v n hv => ?_) fun v => Strict.ite (Strict.fail _) (Strict.ret _)).imp ?_
  · split
    · exact Gt.fail (by decide) _
    · exact (Gt.ret _).imp fun _ _ h => h.2
  · rintro u n ⟨v, m, m', ⟨_, _, rfl⟩, rfl, rfl⟩; rfl
/-- What was read can be written, with no more bytes. -/
def Told (o : Int) (x : InsD) (n : Nat) : Prop := x.op = o ∧ chk x = 0 ∧ (txtB (bsd o) x).length ≤ n ∧ -9223372036854775808 ≤ x.a ∧ x.a ≤ 9223372036854775807 ∧ I64a x.b
where I64a (b : Int) : Prop := -9223372036854775808 ≤ b ∧ b ≤ 9223372036854775807
theorem Gt.beside (o : Int) (h0 : bsd o ≠ 0) : Gt (bsdR o (bsd o)) (Told o) := by
  have hkc := bsd_cases o
  have mk : ∀ {k : Int} {a b : Int} {to : List Int} {n : Nat}, bsd o = k → to.length ≤ 16 → (k ≠ 4 → to = []) → (k ≠ 6 → b = 0) → goodK k a b → (∀ n ∈ to, isIdx n) → (txtB k ⟨o, a, b, to⟩).length ≤ n → -9223372036854775808 ≤ a ∧ a ≤ 9223372036854775807 → -9223372036854775808 ≤ b ∧ b ≤ 9223372036854775807 → Told o ⟨o, a, b, to⟩ n := by
    intro k a b to n hk h1 h2 h3 h4 h5 h6 h7 h8
    subst hk
    exact ⟨rfl, ok_chk h0 h1 h2 h3 h4 h5, h6, h7.1, h7.2, h8⟩
  unfold bsdR
  rcases hkc with hk | hk | hk | hk | hk | hk | hk | hk | hk | hk <;> rw [hk] at h0 ⊢
  · exact absurd rfl h0
  · refine (Gt.ret _).imp ?_
    rintro v n ⟨rfl, rfl⟩
    exact mk hk (Nat.zero_le _) (fun _ => rfl) (fun _ => rfl) (by simp [goodK]) nofun (by simp [txtB]) (by omega) (by omega)
  · refine (Gt.octet.bind (Q' := fun (k : Int) (x : InsD) (n : Nat) => n = 0 ∧ (k = 64 ∨ k = 127 ∨ k = 126) ∧ x = ⟨o, k, 0, []⟩) (fun v n hv => ?_) fun v => (Strict.ite (Strict.fail _) (Strict.ret _)).bind fun _ => Strict.ret _).imp ?_
    · refine (Gt.bind (Q := fun _ n => n = 0 ∧ (v = 64 ∨ v = 127 ∨ v = 126)) ?_ (fun _ n _ => Gt.ret _) fun _ => Strict.ret _).imp ?_
      · split
        · exact Gt.fail (by decide) _
        · rename_i hv2
          exact (Gt.ret _).imp fun _ _ h => ⟨h.2, by omega⟩
      · rintro u n ⟨_, m, m', ⟨rfl, h1⟩, ⟨rfl, rfl⟩, rfl⟩; exact ⟨rfl, h1, rfl⟩
    · rintro u n ⟨v, m, m', ⟨_, _, rfl⟩, ⟨rfl, h1, rfl⟩, rfl⟩
      exact mk hk (Nat.zero_le _) (fun _ => rfl) (fun _ => rfl) (by simpa [goodK] using h1) nofun (by simp [txtB]) (by omega) (by omega)
  · refine (Gt.plain.bind (fun v n hv => Gt.ret _) fun _ => Strict.ret _).imp ?_
    rintro u n ⟨v, m, m', ⟨q, rfl, hq, hl⟩, ⟨rfl, rfl⟩, rfl⟩
    exact mk hk (Nat.zero_le _) (fun _ => rfl) (fun _ => rfl) (by simp [goodK, isIdx]; omega) nofun (by simpa [txtB] using hl) (by omega) (by omega)
  · refine (Gt.plain.bind (Q' := fun (v : Int) (x : InsD) (n : Nat) => ∃ l : List Int, ∃ q : Nat, l.length = v ∧ v ≤ 16 ∧ (∀ x ∈ l, isIdx x) ∧ q < 2 ^ 32 ∧ (l.flatMap fun n => uleb n.toNat).length + (uleb q).length ≤ n ∧ x = ⟨o, q, 0, l⟩) (fun v n hv => ?_) fun v => (Strict.ite (Strict.fail _) (Strict.ret _)).bind fun _ => (Strict.many _).bind fun _ => Strict.plain.bind fun _ => Strict.ret _).imp ?_
    · refine (Gt.bind (Q := fun _ n => n = 0 ∧ v ≤ 16) ?_ (Q' := fun _ (x : InsD) (n : Nat) => ∃ l : List Int, ∃ q : Nat, l.length = v ∧ v ≤ 16 ∧ (∀ x ∈ l, isIdx x) ∧ q < 2 ^ 32 ∧ (l.flatMap fun n => uleb n.toNat).length + (uleb q).length ≤ n ∧ x = ⟨o, q, 0, l⟩) (fun _ n hn => ?_) fun _ => (Strict.many _).bind fun _ => Strict.plain.bind fun _ => Strict.ret _).imp ?_
      · split
        · exact Gt.fail (by decide) _
        · exact (Gt.ret _).imp fun _ _ h => ⟨h.2, by omega⟩
      · rw [if_neg (by omega)]
        refine ((Gt.many v.toNat).bind (fun l n hl => Gt.plain.bind (fun a n ha => Gt.ret _) fun _ => Strict.ret _) fun _ => Strict.plain.bind fun _ => Strict.ret _).imp ?_
        rintro u k ⟨l, m1, m2, ⟨g1, g2, g3⟩, ⟨a, m3, m4, ⟨q, rfl, hq, hl⟩, ⟨rfl, rfl⟩, rfl⟩, rfl⟩
        obtain ⟨p, rfl, _⟩ := hv
        exact ⟨l, q, by rw [g1]; simp, by omega, g2, hq, by omega, rfl⟩
      · rintro u n ⟨_, m, m', ⟨rfl, _⟩, h, rfl⟩
        rw [Nat.zero_add]; exact h
    · rintro u n ⟨v, m, m', ⟨p, rfl, hp, hl⟩, ⟨l, q, h1, h2, h3, h4, h5, rfl⟩, rfl⟩
      have hlp : l.length = p := by omega
      refine mk hk (by omega) (fun h => absurd rfl h) (fun _ => rfl) (by simp [goodK, isIdx]; omega) h3 ?_ (by omega) (by omega)
      unfold txtB
      rw [if_neg (by decide), if_neg (by decide), if_pos rfl, hlp]
      simp only [List.length_append, Int.toNat_natCast]
      omega
  · refine (Gt.plain.bind (fun v n hv => Gt.nought.bind (fun _ n hn => Gt.ret _) fun _ => Strict.ret _) fun _ => Strict.nought.bind fun _ => Strict.ret _).imp ?_
    rintro u n ⟨v, m, m', ⟨q, rfl, hq, hl⟩, ⟨_, m1, m2, rfl, ⟨rfl, rfl⟩, rfl⟩, rfl⟩
    exact mk hk (Nat.zero_le _) (fun _ => rfl) (fun _ => rfl) (by simp [goodK, isIdx]; omega) nofun (by simp [txtB]; omega) (by omega) (by omega)
  · refine (Gt.plain.bind (fun v n hv => Gt.plain.bind (fun b n hn => Gt.ret _) fun _ => Strict.ret _) fun _ => Strict.plain.bind fun _ => Strict.ret _).imp ?_
    rintro u n ⟨v, m, m', ⟨q, rfl, hq, hl⟩, ⟨_, m1, m2, ⟨q2, rfl, hq2, hl2⟩, ⟨rfl, rfl⟩, rfl⟩, rfl⟩
    exact mk hk (Nat.zero_le _) (fun _ => rfl) (fun h => absurd rfl h) (by simp [goodK, isIdx]; omega) nofun (by simp [txtB]; omega) (by omega) (by omega)
  · refine (Gt.nought.bind (fun _ n hn => Gt.ret _) fun _ => Strict.ret _).imp ?_
    rintro u n ⟨_, m1, m2, rfl, ⟨rfl, rfl⟩, rfl⟩
    exact mk hk (Nat.zero_le _) (fun _ => rfl) (fun _ => rfl) (by simp [goodK]) nofun (by simp [txtB]) (by omega) (by omega)
  · refine ((Gt.signed 32 (.inl rfl)).bind (fun v n hv => Gt.ret _) fun _ => Strict.ret _).imp ?_
    rintro u n ⟨v, m, m', ⟨h1, h2, h3⟩, ⟨rfl, rfl⟩, rfl⟩
    simp at h1 h2
    exact mk hk (Nat.zero_le _) (fun _ => rfl) (fun _ => rfl) (by simp [goodK]; omega) nofun (by simpa [txtB] using h3) (by omega) (by omega)
  · refine ((Gt.signed 64 (.inr rfl)).bind (fun v n hv => Gt.ret _) fun _ => Strict.ret _).imp ?_
    rintro u n ⟨v, m, m', ⟨h1, h2, h3⟩, ⟨rfl, rfl⟩, rfl⟩
    simp at h1 h2
    exact mk hk (Nat.zero_le _) (fun _ => rfl) (fun _ => rfl) (by simp [goodK]) nofun (by simpa [txtB] using h3) (by omega) (by omega)
theorem Gt.insr : Gt insR (fun x n => 0 ≤ x.op ∧ x.op ≤ 255 ∧ chk x = 0 ∧ (txt x).length ≤ n ∧ (-9223372036854775808 ≤ x.a ∧ x.a ≤ 9223372036854775807) ∧ -9223372036854775808 ≤ x.b ∧ x.b ≤ 9223372036854775807) := by
  refine (Gt.octet.bind (Q' := fun o x n => Told o x n) (fun o n ho => ?_) fun _ => (Strict.ite (Strict.fail _) (Strict.ret _)).bind fun _ => Strict.bsd _ _).imp ?_
  · refine (Gt.bind (Q := fun _ n => n = 0 ∧ bsd o ≠ 0) (Q' := fun _ => Told o) ?_ (fun _ n hn => Gt.beside o hn.2) fun _ => Strict.bsd _ _).imp ?_
    · split
      · exact Gt.fail (by decide) _
      · rename_i h; exact (Gt.ret _).imp fun _ _ h' => ⟨h'.2, h⟩
    · rintro u n ⟨_, m, m', ⟨rfl, _⟩, h, rfl⟩
      rw [Nat.zero_add]; exact h
  · rintro x n ⟨o, m, m', ⟨h1, h2, rfl⟩, ⟨rfl, h3, h4, h5, h6, h7⟩, rfl⟩
    exact ⟨h1, h2, h3, by unfold txt; simp only [List.length_cons]; omega, ⟨h5, h6⟩, h7⟩
theorem rdI_told {s : List UInt8} {x : InsD} {n : Nat} (h : rdI s = (x, n, 0)) : n ≤ s.length ∧ 0 ≤ x.op ∧ x.op ≤ 255 ∧ chk x = 0 ∧ (txt x).length ≤ n ∧ (-9223372036854775808 ≤ x.a ∧ x.a ≤ 9223372036854775807) ∧ -9223372036854775808 ≤ x.b ∧ x.b ≤ 9223372036854775807 := by
  unfold rdI at h
  split at h
  · rename_i h0
    obtain ⟨h1, m, h2, h3⟩ := Gt.insr s 0 (Nat.zero_le _) h0
    simp only [Prod.mk.injEq] at h
    obtain ⟨rfl, rfl, _⟩ := h
    rw [Nat.zero_add] at h2
    rw [← h2] at h3
    exact ⟨h1, h3⟩
  · rename_i h0
    simp only [Prod.mk.injEq] at h
    exact absurd h.2.2 h0
end Go.Proofs.YtooimjefbdokaaaDoor.Ins
/- Bodies: which blocks are open; what is checked; how a body is written and read. -/
set_option maxRecDepth 100000
set_option linter.unusedVariables false
set_option linter.unusedSimpArgs false
namespace Go.Proofs.YtooimjefbdokaaaDoor.Nest
open Go.Proofs.YtooimjefbdokaaaDoor.Leb Go.Proofs.YtooimjefbdokaaaDoor.Txt Go.Proofs.YtooimjefbdokaaaDoor.Ins
structure NS where
  op : List Int
  last : List Int
  over : Bool
def ns0 : NS := ⟨[-1], [2], false⟩
/-- The walker takes an instruction: its state, what is closed, what is wrong. -/
def nextS (st : NS) (o k : Int) : NS × Int × Int :=
  if st.over = true then (st, -2, 4)
  else if o = 2 ∨ o = 3 ∨ o = 4 then if 12 ≤ st.op.length - 1 then (st, -2, 7) else (⟨st.op ++ [k], st.last ++ [o], st.over⟩, -2, 0)
  else if o = 5 then if st.last.getD (st.op.length - 1) 0 ≠ 4 then (st, -2, 4) else (⟨st.op, st.last.set (st.op.length - 1) 5, st.over⟩, st.op.getD (st.op.length - 1) 0, 0)
  else if o = 11 then (⟨st.op.take (st.op.length - 1), st.last.take (st.op.length - 1), decide (st.op.length - 1 = 0)⟩, st.op.getD (st.op.length - 1) 0, 0)
  else (st, -2, 0)
structure NOk (st : NS) : Prop where
  len : st.last.length = st.op.length
  pos : st.over = false → 0 < st.op.length
  le : st.op.length ≤ 13
theorem ns0_ok : NOk ns0 := ⟨rfl, fun _ => by decide, by decide⟩
theorem nextS_ok {st : NS} (h : NOk st) (o k : Int) : NOk (nextS st o k).1 := by
  obtain ⟨h1, h2, h3⟩ := h
  unfold nextS
  split
  · exact ⟨h1, h2, h3⟩
  rename_i ho
  have h2 := h2 (by simpa using ho)
  split
  · split
    · exact ⟨h1, fun _ => h2, h3⟩
    · exact ⟨by simp [h1], fun _ => by simp, by simp; omega⟩
  split
  · split
    · exact ⟨h1, fun _ => h2, h3⟩
    · exact ⟨by simp [h1], fun _ => h2, h3⟩
  split
  · refine ⟨by simp [h1], fun hd => ?_, by simp; omega⟩
    have : ¬ (st.op.length - 1 = 0) := by simpa using hd
    simp; omega
  · exact ⟨h1, fun _ => h2, h3⟩
/-- The rest of a body, from place k on. -/
def goB : List InsD → Nat → NS → Int
  | [], _, st => if st.over = true then 0 else 3
  | x :: r, k, st => if chk x ≠ 0 then chk x else if (nextS st x.op k).2.2 ≠ 0 then (nextS st x.op k).2.2 else goB r (k + 1) (nextS st x.op k).1
def chkB (l : List InsD) : Int := if 200 < l.length then 2 else goB l 0 ns0
/-- The state ahead of place k. -/
def stB (l : List InsD) : Nat → NS
  | 0 => ns0
  | k + 1 => match l[k]? with
    | none => stB l k
    | some x => (nextS (stB l k) x.op k).1
theorem stB_succ {l : List InsD} {k : Nat} {x : InsD} (h : l[k]? = some x) : stB l (k + 1) = (nextS (stB l k) x.op k).1 := by
  show (match l[k]? with | none => stB l k | some x => (nextS (stB l k) x.op k).1) = _
  rw [h]
theorem stB_ok (l : List InsD) : ∀ k, NOk (stB l k)
  | 0 => ns0_ok
  | k + 1 => by
    show NOk (match l[k]? with | none => stB l k | some x => (nextS (stB l k) x.op k).1)
    split
    · exact stB_ok l k
    · exact nextS_ok (stB_ok l k) _ _
/-- What is so far as it should be. -/
def SoFar (l : List InsD) (k : Nat) : Prop := ∀ i x, i < k → l[i]? = some x → chk x = 0 ∧ (nextS (stB l i) x.op i).2.2 = 0
theorem SoFar.zero (l : List InsD) : SoFar l 0 := fun i x h => absurd h (Nat.not_lt_zero i)
theorem SoFar.succ {l : List InsD} {k : Nat} {x : InsD} (h : SoFar l k) (hx : l[k]? = some x) (h1 : chk x = 0) (h2 : (nextS (stB l k) x.op k).2.2 = 0) : SoFar l (k + 1) := fun i y hi hy => by
  by_cases e : i = k
  · subst e; rw [hx] at hy; obtain rfl := Option.some.inj hy; exact ⟨h1, h2⟩
  · exact h i y (by omega) hy
theorem goB_from {l : List InsD} {k : Nat} (hk : k ≤ l.length) (h : SoFar l k) : goB l 0 ns0 = goB (l.drop k) k (stB l k) := by
  induction k with
  | zero => rfl
  | succ k ih =>
    have hlt : k < l.length := hk
    have hx : l[k]? = some l[k] := List.getElem?_eq_getElem hlt
    obtain ⟨h1, h2⟩ := h k _ (Nat.lt_succ_self k) hx
    rw [ih (by omega) (fun i x hi => h i x (by omega)), List.drop_eq_getElem_cons hlt, goB, if_neg (by rw [h1]; simp), if_neg (by rw [h2]; simp), stB_succ hx]
theorem chkB_large {l : List InsD} (h : 200 < l.length) : chkB l = 2 := if_pos h
theorem chkB_chk {l : List InsD} {k : Nat} {x : InsD} (hl : l.length ≤ 200) (h : SoFar l k) (hx : l[k]? = some x) (hc : chk x ≠ 0) : chkB l = chk x := by
  have hlt := (List.getElem?_eq_some_iff.1 hx).1
  unfold chkB
  rw [if_neg (by omega), goB_from (Nat.le_of_lt hlt) h, List.drop_eq_getElem_cons hlt]
  obtain rfl : l[k] = x := by rw [List.getElem?_eq_getElem hlt] at hx; exact Option.some.inj hx
  rw [goB, if_pos hc]
theorem chkB_next {l : List InsD} {k : Nat} {x : InsD} (hl : l.length ≤ 200) (h : SoFar l k) (hx : l[k]? = some x) (hc : chk x = 0) (hn : (nextS (stB l k) x.op k).2.2 ≠ 0) : chkB l = (nextS (stB l k) x.op k).2.2 := by
  have hlt := (List.getElem?_eq_some_iff.1 hx).1
  unfold chkB
  rw [if_neg (by omega), goB_from (Nat.le_of_lt hlt) h, List.drop_eq_getElem_cons hlt]
  obtain rfl : l[k] = x := by rw [List.getElem?_eq_getElem hlt] at hx; exact Option.some.inj hx
  rw [goB, if_neg (by rw [hc]; simp), if_pos hn]
theorem chkB_end {l : List InsD} {k : Nat} (hl : l.length ≤ 200) (h : SoFar l k) (hk : k = l.length) : chkB l = if (stB l k).over = true then 0 else 3 := by
  unfold chkB
  rw [if_neg (by omega), goB_from (by omega) h, List.drop_of_length_le (by omega), goB]
theorem chkB_ok {l : List InsD} (h : chkB l = 0) : l.length ≤ 200 ∧ SoFar l l.length ∧ (stB l l.length).over = true := by
  unfold chkB at h
  split at h
  · cases h
  rename_i hl
  have key : ∀ n k, k + n = l.length → SoFar l k → goB (l.drop k) k (stB l k) = 0 → SoFar l l.length ∧ (stB l l.length).over = true := by
    intro n
    induction n with
    | zero =>
      intro k hk hs hg
      rw [List.drop_of_length_le (by omega), goB] at hg
      obtain rfl : k = l.length := by omega
      refine ⟨hs, ?_⟩
      split at hg
      · assumption
      · cases hg
    | succ n ih =>
      intro k hk hs hg
      have hlt : k < l.length := by omega
      have hx : l[k]? = some l[k] := List.getElem?_eq_getElem hlt
      rw [List.drop_eq_getElem_cons hlt, goB] at hg
      split at hg
      · rename_i hc; exact absurd hg hc
      rename_i hc
      split at hg
      · rename_i hn; exact absurd hg hn
      rename_i hn
      exact ih (k + 1) (by omega) (hs.succ hx (Decidable.not_not.1 hc) (Decidable.not_not.1 hn)) (by rw [stB_succ hx]; exact hg)
  have := key l.length 0 (by omega) (SoFar.zero l) h
  exact ⟨by omega, this⟩
end Go.Proofs.YtooimjefbdokaaaDoor.Nest
/- Bodies that are written and read. -/
set_option maxRecDepth 100000
set_option linter.unusedVariables false
set_option linter.unusedSimpArgs false
namespace Go.Proofs.YtooimjefbdokaaaDoor.Nest
open Go.Proofs.YtooimjefbdokaaaDoor.Leb Go.Proofs.YtooimjefbdokaaaDoor.Txt Go.Proofs.YtooimjefbdokaaaDoor.Ins
def txtL (l : List InsD) : List UInt8 := l.flatMap txt
/-- What is read of a body, from byte k on, with what was read before. -/
def rdG : Nat → List UInt8 → Nat → List InsD → NS → List InsD × Nat × Int
  | 0, _, _, _, _ => ([], 0, 2)
  | f + 1, s, k, acc, st =>
    if st.over = true then (acc, k, 0)
    else if (rdI (s.drop k)).2.2 ≠ 0 then ([], 0, (rdI (s.drop k)).2.2)
    else if acc.length = 200 then ([], 0, 2)
    else if (nextS st (rdI (s.drop k)).1.op acc.length).2.2 ≠ 0 then ([], 0, (nextS st (rdI (s.drop k)).1.op acc.length).2.2)
    else rdG f s (k + (rdI (s.drop k)).2.1) (acc ++ [(rdI (s.drop k)).1]) (nextS st (rdI (s.drop k)).1.op acc.length).1
def rdB (s : List UInt8) : List InsD × Nat × Int := rdG 201 s 0 [] ns0
/-- What is so far read of s. -/
structure RdI (s : List UInt8) (acc : List InsD) (k : Nat) (st : NS) : Prop where
  eq : rdB s = rdG (201 - acc.length) s k acc st
  le : acc.length ≤ 200
  ks : k ≤ s.length
  st : st = stB acc acc.length
  far : SoFar acc acc.length
  tx : (txtL acc).length ≤ k
  ops : ∀ x ∈ acc, (0 ≤ x.op ∧ x.op ≤ 255) ∧ (-9223372036854775808 ≤ x.a ∧ x.a ≤ 9223372036854775807) ∧ -9223372036854775808 ≤ x.b ∧ x.b ≤ 9223372036854775807
theorem RdI.zero (s : List UInt8) : RdI s [] 0 ns0 := ⟨rfl, Nat.zero_le _, Nat.zero_le _, rfl, SoFar.zero _, Nat.zero_le _, nofun⟩
theorem stB_app (l r : List InsD) : ∀ k, k ≤ l.length → stB (l ++ r) k = stB l k
  | 0, _ => rfl
  | k + 1, h => by
    have hx : l[k]? = some l[k] := List.getElem?_eq_getElem h
    rw [stB_succ hx, stB_succ (by rw [List.getElem?_append_left h]; exact hx), stB_app l r k (by omega)]
theorem SoFar.app {l : List InsD} {k : Nat} (h : SoFar l k) (hk : k ≤ l.length) (r : List InsD) : SoFar (l ++ r) k := fun i x hi hx => by
  rw [List.getElem?_append_left (by omega)] at hx
  rw [stB_app _ _ _ (by omega)]
  exact h i x hi hx
theorem RdI.step {s : List UInt8} {acc : List InsD} {k n : Nat} {st st' : NS} {x : InsD} {is : Int} (h : RdI s acc k st) (ho : st.over = false) (hr : rdI (s.drop k) = (x, n, 0)) (hl : acc.length ≠ 200) (hn : nextS st x.op acc.length = (st', is, 0)) : RdI s (acc ++ [x]) (k + n) st' := by
  obtain ⟨h1, h2, h3, h4, h5, h6, h7⟩ := h
  obtain ⟨t1, t2, t3, t4, t5, t6, t7⟩ := rdI_told hr
  rw [List.length_drop] at t1
  have hlen : (acc ++ [x]).length = acc.length + 1 := by simp
  have hst : nextS (stB (acc ++ [x]) acc.length) x.op acc.length = (st', is, 0) := by rw [stB_app _ _ _ (Nat.le_refl _), ← h4]; exact hn
  have hx : (acc ++ [x])[acc.length]? = some x := by rw [List.getElem?_append_right (Nat.le_refl _)]; simp
  refine ⟨?_, by omega, by omega, ?_, ?_, ?_, fun y hy => ?_⟩
  · rw [h1, show 201 - acc.length = (201 - (acc ++ [x]).length) + 1 by omega, rdG, if_neg (by rw [ho]; simp), hr]
    simp only [hn]
    rw [if_neg (by simp), if_neg hl, if_neg (by simp)]
  · rw [hlen, stB_succ hx, hst]
  · rw [hlen]
    exact (h5.app (Nat.le_refl _) [x]).succ hx t4 (by rw [hst])
  · unfold txtL at *
    rw [List.flatMap_append, List.length_append, List.flatMap_cons, List.flatMap_nil, List.append_nil]; omega
  · rcases List.mem_append.1 hy with hy | hy
    · exact h7 y hy
    · rw [List.mem_singleton.1 hy]; exact ⟨⟨t2, t3⟩, t6, t7⟩
theorem RdI.bad {s : List UInt8} {acc : List InsD} {k n : Nat} {st : NS} {x : InsD} {e : Int} (h : RdI s acc k st) (ho : st.over = false) (hr : rdI (s.drop k) = (x, n, e)) (he : e ≠ 0) : rdB s = ([], 0, e) := by
  rw [h.eq, show 201 - acc.length = (200 - acc.length) + 1 by have := h.le; omega, rdG, if_neg (by rw [ho]; simp), hr]
  simp only
  rw [if_pos he]
theorem RdI.full {s : List UInt8} {acc : List InsD} {k n : Nat} {st : NS} {x : InsD} (h : RdI s acc k st) (ho : st.over = false) (hr : rdI (s.drop k) = (x, n, 0)) (hl : acc.length = 200) : rdB s = ([], 0, 2) := by
  rw [h.eq, show 201 - acc.length = (200 - acc.length) + 1 by have := h.le; omega, rdG, if_neg (by rw [ho]; simp), hr]
  simp only
  rw [if_neg (by simp), if_pos hl]
theorem RdI.no {s : List UInt8} {acc : List InsD} {k n : Nat} {st st' : NS} {x : InsD} {is e : Int} (h : RdI s acc k st) (ho : st.over = false) (hr : rdI (s.drop k) = (x, n, 0)) (hl : acc.length ≠ 200) (hn : nextS st x.op acc.length = (st', is, e)) (he : e ≠ 0) : rdB s = ([], 0, e) := by
  rw [h.eq, show 201 - acc.length = (200 - acc.length) + 1 by have := h.le; omega, rdG, if_neg (by rw [ho]; simp), hr]
  simp only [hn]
  rw [if_neg (by simp), if_neg hl, if_pos he]
theorem RdI.over {s : List UInt8} {acc : List InsD} {k : Nat} {st : NS} (h : RdI s acc k st) (ho : st.over = true) : rdB s = (acc, k, 0) := by
  rw [h.eq, show 201 - acc.length = (200 - acc.length) + 1 by have := h.le; omega, rdG, if_pos ho]
/-- What was read is a body, and can be written with no more bytes. -/
theorem RdI.told {s : List UInt8} {acc : List InsD} {k : Nat} {st : NS} (h : RdI s acc k st) (ho : st.over = true) : chkB acc = 0 ∧ (txtL acc).length ≤ k ∧ k ≤ s.length := by
  refine ⟨?_, h.tx, h.ks⟩
  rw [chkB_end h.le h.far rfl, ← h.st, if_pos ho]
theorem over_no {st : NS} (h : st.over = true) (o k : Int) : (nextS st o k).2.2 = 4 := by unfold nextS; rw [if_pos h]
theorem txtL_take {l : List InsD} {k : Nat} {x : InsD} (h : l[k]? = some x) : txtL (l.take (k + 1)) = txtL (l.take k) ++ txt x := by
  unfold txtL
  rw [List.take_add_one, h, List.flatMap_append]; simp
theorem txtL_split {l : List InsD} {k : Nat} {x : InsD} (h : l[k]? = some x) : txtL l = txtL (l.take k) ++ (txt x ++ txtL (l.drop (k + 1))) := by
  have hlt := (List.getElem?_eq_some_iff.1 h).1
  conv => lhs; rw [← List.take_append_drop k l]
  unfold txtL
  obtain rfl : l[k] = x := by rw [List.getElem?_eq_getElem hlt] at h; exact Option.some.inj h
  rw [List.flatMap_append, List.drop_eq_getElem_cons hlt, List.flatMap_cons]
theorem stB_take (l : List InsD) (m : Nat) : ∀ k, k ≤ m → stB (l.take m) k = stB l k
  | 0, _ => rfl
  | k + 1, h => by
    cases hx : l[k]? with
    | none =>
      have h2 : (l.take m)[k]? = none := by rw [List.getElem?_take, if_pos (by omega)]; exact hx
      show (match (l.take m)[k]? with | none => stB (l.take m) k | some x => (nextS (stB (l.take m) k) x.op k).1) = (match l[k]? with | none => stB l k | some x => (nextS (stB l k) x.op k).1)
      rw [h2, hx]
      exact stB_take l m k (by omega)
    | some x => rw [stB_succ hx, stB_succ (by rw [List.getElem?_take, if_pos (by omega)]; exact hx), stB_take l m k (by omega)]
def opsOk (l : List InsD) : Prop := ∀ x ∈ l, (0 ≤ x.op ∧ x.op ≤ 255) ∧ (-9223372036854775808 ≤ x.a ∧ x.a ≤ 9223372036854775807)
/-- The first k instructions of a body are read from any text that begins with theirs. -/
theorem rd_first {l : List InsD} (h : chkB l = 0) (ho : opsOk l) {s rest : List UInt8} : ∀ k, k ≤ l.length → s = txtL (l.take k) ++ rest → RdI s (l.take k) (txtL (l.take k)).length (stB l k) := by
  obtain ⟨h1, h2, h3⟩ := chkB_ok h
  intro k
  induction k generalizing rest with
  | zero => intro _ _; exact RdI.zero s
  | succ k ih =>
    intro hk hs
    have hx : l[k]? = some l[k] := List.getElem?_eq_getElem hk
    obtain ⟨c1, c2⟩ := h2 k _ hk hx
    rw [txtL_take hx, List.append_assoc] at hs
    have hI := ih (by omega) hs
    have hlen : (l.take k).length = k := by rw [List.length_take]; omega
    have hmem := ho _ (List.mem_of_getElem? hx)
    have hr : rdI (s.drop (txtL (l.take k)).length) = (l[k], (txt l[k]).length, 0) := by
      rw [hs, List.drop_left]; exact rdI_txt c1 hmem.1 hmem.2 rest
    have hov : (stB l k).over = false := by
      cases hov : (stB l k).over with
      | false => rfl
      | true => rw [over_no hov] at c2; cases c2
    have hn : nextS (stB l k) l[k].op (l.take k).length = ((nextS (stB l k) l[k].op k).1, (nextS (stB l k) l[k].op k).2.1, 0) := by rw [hlen, ← c2]
    have := hI.step hov hr (by omega) hn
    rw [show l.take k ++ [l[k]] = l.take (k + 1) by rw [List.take_add_one, hx]; rfl, ← List.length_append, ← txtL_take hx, ← stB_succ hx] at this
    exact this
theorem rdB_txt {l : List InsD} (h : chkB l = 0) (ho : opsOk l) (more : List UInt8) : rdB (txtL l ++ more) = (l, (txtL l).length, 0) := by
  obtain ⟨h1, h2, h3⟩ := chkB_ok h
  have := rd_first h ho (s := txtL l ++ more) (rest := more) l.length (Nat.le_refl _) (by rw [List.take_length])
  rw [List.take_length] at this
  exact this.over h3
theorem rdB_cut {l : List InsD} (h : chkB l = 0) (ho : opsOk l) {j : Nat} (hj : j < (txtL l).length) : (rdB ((txtL l).take j)).2.2 = 3 := by
  obtain ⟨h1, h2, h3⟩ := chkB_ok h
  -- the instruction that is cut
  have key : ∀ n k, k + n = l.length → (txtL (l.take k)).length ≤ j → ∃ m x, m < l.length ∧ l[m]? = some x ∧ (txtL (l.take m)).length ≤ j ∧ j < (txtL (l.take m)).length + (txt x).length := by
    intro n
    induction n with
    | zero =>
      intro k hk hle
      obtain rfl : k = l.length := by omega
      rw [List.take_length] at hle; omega
    | succ n ih =>
      intro k hk hle
      have hlt : k < l.length := by omega
      have hx : l[k]? = some l[k] := List.getElem?_eq_getElem hlt
      by_cases hc : j < (txtL (l.take k)).length + (txt l[k]).length
      · exact ⟨k, _, hlt, hx, hle, hc⟩
      · exact ih (k + 1) (by omega) (by rw [txtL_take hx, List.length_append]; omega)
  obtain ⟨m, x, hm, hx, hle, hlt⟩ := key l.length 0 (by omega) (Nat.zero_le _)
  have hsp := txtL_split hx
  have hs : (txtL l).take j = txtL (l.take m) ++ (txt x).take (j - (txtL (l.take m)).length) := by
    rw [hsp, List.take_append, List.take_of_length_le hle, List.take_append_of_le_length (by omega)]
  have hI := rd_first h ho m (Nat.le_of_lt hm) hs
  obtain ⟨c1, c2⟩ := h2 m _ hm hx
  have hov : (stB l m).over = false := by
    cases hov : (stB l m).over with
    | false => rfl
    | true => rw [over_no hov] at c2; cases c2
  have hmem := ho _ (List.mem_of_getElem? hx)
  have hc := rdI_cut c1 hmem.1 hmem.2 (j := j - (txtL (l.take m)).length) (by omega)
  rcases hr : rdI ((txt x).take (j - (txtL (l.take m)).length)) with ⟨y, n, e⟩
  rw [hr] at hc
  have hc : e = 3 := hc
  subst hc
  rw [hI.bad (x := y) (n := n) (e := 3) hov (by rw [hs, List.drop_left]; exact hr) (by decide)]
theorem txtL_pos {l : List InsD} (h : l ≠ []) : 0 < (txtL l).length := by
  cases l with
  | nil => exact absurd rfl h
  | cons x r => unfold txtL; rw [List.flatMap_cons, List.length_append]; unfold txt; simp; omega
theorem chkB_ne {l : List InsD} (h : chkB l = 0) : l ≠ [] := by
  rintro rfl
  exact absurd h (by decide)
end Go.Proofs.YtooimjefbdokaaaDoor.Nest
/- Package ins: Width, kindAt, numeric, besides. -/
set_option maxRecDepth 100000
set_option maxHeartbeats 4000000
set_option linter.unusedVariables false
set_option linter.unusedSimpArgs false
namespace Go.Proofs.YtooimjefbdokaaaDoor.Ins
open Go Go.Proofs.YtooimjefbdokaaaDoor.Eng Go.RowKit
def enK (n : Int) : List Value := [.int .u8 n]
theorem width (o : Int) (w : World) : Fc Tryd.prog 41 #[.int .u8 o] w (fun v w' => (∃ r, v = .int .i64 r ∧ r = wid o) ∧ w = w') := by
  refine Fc.of Tryd.func41 rfl (by kernel_rfl) ?_
  have H := Sat.start w
  refine bk ?_
  refine cI (fun c1 => ?_) (fun c1 => ?_)
  · replace c1 := vEq_t (c1)
    refine cT (vEq_T (by assumption)) ?_
    refine Done.mk ?_
    (unfold wid; simp only [*]; simp; done)
  replace c1 := vEq_f (c1)
  refine cI (fun c2 => ?_) (fun c2 => ?_)
  · replace c2 := vEq_t (c2)
    refine cT (vEq_T (by assumption)) ?_
    refine Done.mk ?_
    (unfold wid; simp only [*]; simp; done)
  replace c2 := vEq_f (c2)
  refine cI (fun c3 => ?_) (fun c3 => ?_)
  · replace c3 := vEq_t (c3)
    refine cT (vEq_T (by assumption)) ?_
    refine Done.mk ?_
    (unfold wid; simp only [*]; simp; done)
  replace c3 := vEq_f (c3)
  refine cI (fun c4 => ?_) (fun c4 => ?_)
  · replace c4 := vEq_t (c4)
    refine cT (vEq_T (by assumption)) ?_
    refine Done.mk ?_
    (unfold wid; simp only [*]; simp; done)
  replace c4 := vEq_f (c4)
  refine cI (fun c5 => ?_) (fun c5 => ?_)
  · replace c5 := vEq_t (c5)
    refine cT (vEq_T (by assumption)) ?_
    refine Done.mk ?_
    (unfold wid; simp only [*]; simp; done)
  replace c5 := vEq_f (c5)
  refine cI (fun c6 => ?_) (fun c6 => ?_)
  · replace c6 := vEq_t (c6)
    refine Done.mk ?_
    (unfold wid; simp only [*]; simp; done)
  replace c6 := vEq_f (c6)
  refine cI (fun c7 => ?_) (fun c7 => ?_)
  · replace c7 := vEq_t (c7)
    refine cT (vEq_T (by assumption)) ?_
    refine Done.mk ?_
    (unfold wid; simp only [*]; simp; done)
  replace c7 := vEq_f (c7)
  refine cI (fun c8 => ?_) (fun c8 => ?_)
  · replace c8 := vEq_t (c8)
    refine cT (vEq_T (by assumption)) ?_
    refine Done.mk ?_
    (unfold wid; simp only [*]; simp; done)
  replace c8 := vEq_f (c8)
  refine cI (fun c9 => ?_) (fun c9 => ?_)
  · replace c9 := vEq_t (c9)
    refine cT (vEq_T (by assumption)) ?_
    refine Done.mk ?_
    (unfold wid; simp only [*]; simp; done)
  replace c9 := vEq_f (c9)
  refine cI (fun c10 => ?_) (fun c10 => ?_)
  · replace c10 := vEq_t (c10)
    refine cT (vEq_T (by assumption)) ?_
    refine Done.mk ?_
    (unfold wid; simp only [*]; simp; done)
  replace c10 := vEq_f (c10)
  refine cI (fun c11 => ?_) (fun c11 => ?_)
  · replace c11 := vEq_t (c11)
    refine cT (vEq_T (by assumption)) ?_
    refine Done.mk ?_
    (unfold wid; simp only [*]; simp; done)
  replace c11 := vEq_f (c11)
  refine cI (fun c12 => ?_) (fun c12 => ?_)
  · replace c12 := vEq_t (c12)
    refine Done.mk ?_
    (unfold wid; simp only [*]; simp; done)
  replace c12 := vEq_f (c12)
  refine cI (fun c13 => ?_) (fun c13 => ?_)
  · replace c13 := vEq_t (c13)
    refine cT (vEq_T (by assumption)) ?_
    refine Done.mk ?_
    (unfold wid; simp only [*]; simp; done)
  replace c13 := vEq_f (c13)
  refine cI (fun c14 => ?_) (fun c14 => ?_)
  · replace c14 := vEq_t (c14)
    refine cT (vEq_T (by assumption)) ?_
    refine Done.mk ?_
    (unfold wid; simp only [*]; simp; done)
  replace c14 := vEq_f (c14)
  refine cI (fun c15 => ?_) (fun c15 => ?_)
  · replace c15 := vEq_t (c15)
    refine cT (vEq_T (by assumption)) ?_
    refine Done.mk ?_
    (unfold wid; simp only [*]; simp; done)
  replace c15 := vEq_f (c15)
  refine cI (fun c16 => ?_) (fun c16 => ?_)
  · replace c16 := vEq_t (c16)
    refine cT (vEq_T (by assumption)) ?_
    refine Done.mk ?_
    (unfold wid; simp only [*]; simp; done)
  replace c16 := vEq_f (c16)
  refine cI (fun c17 => ?_) (fun c17 => ?_)
  · replace c17 := vEq_t (c17)
    refine Done.mk ?_
    (unfold wid; simp only [*]; simp; done)
  replace c17 := vEq_f (c17)
  refine cI (fun c18 => ?_) (fun c18 => ?_)
  · replace c18 := vEq_t (c18)
    refine cT (vEq_T (by assumption)) ?_
    refine Done.mk ?_
    (unfold wid; simp only [*]; simp; done)
  replace c18 := vEq_f (c18)
  refine cI (fun c19 => ?_) (fun c19 => ?_)
  · replace c19 := vEq_t (c19)
    refine Done.mk ?_
    (unfold wid; simp only [*]; simp; done)
  replace c19 := vEq_f (c19)
  refine Done.mk ?_
  (unfold wid; simp only [*]; simp; done)
theorem num1 {g : Glob} {w : World} {l : List As} {p : Nat} {o : Int} (H : Sat g w (Pt p [.int .u8 o] 5 :: l)) (b : Int) :
    Fc Tryd.prog 62 #[.int .u8 b, .pointer (some ⟨p, 0, none⟩)] w (fun v w' => (∃ r, v = .int .u8 r ∧ r = kd o b) ∧ w = w') := by
  refine Fc.of Tryd.func62 rfl (by kernel_rfl) ?_
  refine rLd (H.at 0 rfl) 0 rfl rfl rfl ?_
  refine cI (fun c1 => ?_) (fun c1 => ?_)
  · replace c1 := vLt_t (c1)
    refine Done.mk ?_
    refine ⟨?_, ?_⟩
    · refine ⟨127, ?_⟩
      refine ⟨?_, ?_⟩
      · refine int_eq ?_
        omega
      (unfold kd; rw [if_pos (by assumption)])
    rfl
  replace c1 := vLt_f (c1)
  refine Done.mk ?_
  refine ⟨?_, ?_⟩
  · refine ⟨126, ?_⟩
    refine ⟨?_, ?_⟩
    · refine int_eq ?_
      omega
    (unfold kd; rw [if_neg (by omega)])
  rfl
theorem numeric (o : Int) (w : World) : Fc Tryd.prog 47 #[.int .u8 o] w (fun v w' => ∃ u k b xs, v = .tuple #[u, .int .u8 k, .bool b] ∧ numS o = (xs, k, b) ∧ Sat (froz w) w' [Sl 93 1 enK u xs]) := by
  refine Fc.of Tryd.func47 rfl (by kernel_rfl) ?_
  have H := Sat.start w
  refine rBoxS H ?_
  clear H
  intro p1 w1 H
  refine bk ?_
  refine rLd (H.at 0 rfl) 0 rfl rfl rfl ?_
  refine cI (fun c1 => ?_) (fun c1 => ?_)
  · replace c1 := vEq_t (c1)
    refine cT (vEq_T (by assumption)) ?_
    refine CallP.mk (Fc.imp (Go.Proofs.YtooimjefbdokaaaDoor.Ins.num1 H _) ?_)
    rintro _ _ ⟨⟨r1, ⟨rfl, h1⟩⟩, rfl⟩
    refine rBuildSliceS H rfl rfl rfl rfl ?_
    clear H
    intro p2 w2 H
    clear w1
    refine Done.mk ?_
    (refine H.ptSl (n := 1) (en := enK) (s := 1) 0 rfl [_] rfl rfl (fun _ => rfl) rfl ?_; intro H; exact ⟨_, _, _, _, rfl, by unfold numS; repeat first | rw [if_pos (by omega)] | rw [if_neg (by omega)] | (subst_vars; rfl), H.del 1⟩)
  replace c1 := vEq_f (c1)
  refine rLd (H.at 0 rfl) 0 rfl rfl rfl ?_
  refine cI (fun c2 => ?_) (fun c2 => ?_)
  · replace c2 := vEq_t (c2)
    refine CallP.mk (Fc.imp (Go.Proofs.YtooimjefbdokaaaDoor.Ins.num1 H _) ?_)
    rintro _ _ ⟨⟨r1, ⟨rfl, h1⟩⟩, rfl⟩
    refine rBuildSliceS H rfl rfl rfl rfl ?_
    clear H
    intro p2 w2 H
    clear w1
    refine Done.mk ?_
    (refine H.ptSl (n := 1) (en := enK) (s := 1) 0 rfl [_] rfl rfl (fun _ => rfl) rfl ?_; intro H; exact ⟨_, _, _, _, rfl, by unfold numS; repeat first | rw [if_pos (by omega)] | rw [if_neg (by omega)] | (subst_vars; rfl), H.del 1⟩)
  replace c2 := vEq_f (c2)
  refine rLd (H.at 0 rfl) 0 rfl rfl rfl ?_
  refine br (fun c3 => ?_) (fun c3 => ?_)
  · replace c3 := vLt_t (c3)
    refine rLd (H.at 0 rfl) 0 rfl rfl rfl ?_
    refine cI (fun c4 => ?_) (fun c4 => ?_)
    · replace c4 := vLe_t (c4)
      refine CallP.mk (Fc.imp (Go.Proofs.YtooimjefbdokaaaDoor.Ins.num1 H _) ?_)
      rintro _ _ ⟨⟨r1, ⟨rfl, h1⟩⟩, rfl⟩
      refine rBuildSliceS H rfl rfl rfl rfl ?_
      clear H
      intro p2 w2 H
      clear w1
      refine Done.mk ?_
      (refine H.ptSl (n := 2) (en := enK) (s := 1) 0 rfl [_, _] rfl rfl (fun _ => rfl) rfl ?_; intro H; exact ⟨_, _, _, _, rfl, by unfold numS; repeat first | rw [if_pos (by omega)] | rw [if_neg (by omega)] | (subst_vars; rfl), H.del 1⟩)
    replace c4 := vLe_f (c4)
    refine rLd (H.at 0 rfl) 0 rfl rfl rfl ?_
    refine br (fun c5 => ?_) (fun c5 => ?_)
    · replace c5 := vLe_t (c5)
      refine rLd (H.at 0 rfl) 0 rfl rfl rfl ?_
      refine cI (fun c6 => ?_) (fun c6 => ?_)
      · replace c6 := vLe_t (c6)
        refine cT (vLe_T (by assumption)) ?_
        refine CallP.mk (Fc.imp (Go.Proofs.YtooimjefbdokaaaDoor.Ins.num1 H _) ?_)
        rintro _ _ ⟨⟨r1, ⟨rfl, h1⟩⟩, rfl⟩
        refine rBuildSliceS H rfl rfl rfl rfl ?_
        clear H
        intro p2 w2 H
        clear w1
        refine Done.mk ?_
        (refine H.ptSl (n := 1) (en := enK) (s := 1) 0 rfl [_] rfl rfl (fun _ => rfl) rfl ?_; intro H; exact ⟨_, _, _, _, rfl, by unfold numS; repeat first | rw [if_pos (by omega)] | rw [if_neg (by omega)] | (subst_vars; rfl), H.del 1⟩)
      replace c6 := vLe_f (c6)
      refine rLd (H.at 0 rfl) 0 rfl rfl rfl ?_
      refine br (fun c7 => ?_) (fun c7 => ?_)
      · replace c7 := vLe_t (c7)
        refine rLd (H.at 0 rfl) 0 rfl rfl rfl ?_
        refine cI (fun c8 => ?_) (fun c8 => ?_)
        · replace c8 := vLe_t (c8)
          refine CallP.mk (Fc.imp (Go.Proofs.YtooimjefbdokaaaDoor.Ins.num1 H _) ?_)
          rintro _ _ ⟨⟨r1, ⟨rfl, h1⟩⟩, rfl⟩
          refine rBuildSliceS H rfl rfl rfl rfl ?_
          clear H
          intro p2 w2 H
          clear w1
          refine Done.mk ?_
          (refine H.ptSl (n := 1) (en := enK) (s := 1) 0 rfl [_] rfl rfl (fun _ => rfl) rfl ?_; intro H; exact ⟨_, _, _, _, rfl, by unfold numS; repeat first | rw [if_pos (by omega)] | rw [if_neg (by omega)] | (subst_vars; rfl), H.del 1⟩)
        replace c8 := vLe_f (c8)
        refine rLd (H.at 0 rfl) 0 rfl rfl rfl ?_
        refine br_t (vLe_T (by assumption)) ?_
        refine rLd (H.at 0 rfl) 0 rfl rfl rfl ?_
        refine cI (fun c9 => ?_) (fun c9 => ?_)
        · replace c9 := vLe_t (c9)
          refine CallP.mk (Fc.imp (Go.Proofs.YtooimjefbdokaaaDoor.Ins.num1 H _) ?_)
          rintro _ _ ⟨⟨r1, ⟨rfl, h1⟩⟩, rfl⟩
          refine rBuildSliceS H rfl rfl rfl rfl ?_
          clear H
          intro p2 w2 H
          clear w1
          refine Done.mk ?_
          (refine H.ptSl (n := 2) (en := enK) (s := 1) 0 rfl [_, _] rfl rfl (fun _ => rfl) rfl ?_; intro H; exact ⟨_, _, _, _, rfl, by unfold numS; repeat first | rw [if_pos (by omega)] | rw [if_neg (by omega)] | (subst_vars; rfl), H.del 1⟩)
        replace c9 := vLe_f (c9)
        refine rLd (H.at 0 rfl) 0 rfl rfl rfl ?_
        refine cI (fun c10 => ?_) (fun c10 => ?_)
        · replace c10 := vEq_t (c10)
          refine rBuildSliceS H rfl rfl rfl rfl ?_
          clear H
          intro p2 w2 H
          clear w1
          refine Done.mk ?_
          (refine H.ptSl (n := 1) (en := enK) (s := 1) 0 rfl [_] rfl rfl (fun _ => rfl) rfl ?_; intro H; exact ⟨_, _, _, _, rfl, by unfold numS; repeat first | rw [if_pos (by omega)] | rw [if_neg (by omega)] | (subst_vars; rfl), H.del 1⟩)
        replace c10 := vEq_f (c10)
        refine rLd (H.at 0 rfl) 0 rfl rfl rfl ?_
        refine cI (fun c11 => ?_) (fun c11 => ?_)
        · replace c11 := vEq_t (c11)
          refine cT (vEq_T (by assumption)) ?_
          refine rBuildSliceS H rfl rfl rfl rfl ?_
          clear H
          intro p2 w2 H
          clear w1
          refine Done.mk ?_
          (refine H.ptSl (n := 1) (en := enK) (s := 1) 0 rfl [_] rfl rfl (fun _ => rfl) rfl ?_; intro H; exact ⟨_, _, _, _, rfl, by unfold numS; repeat first | rw [if_pos (by omega)] | rw [if_neg (by omega)] | (subst_vars; rfl), H.del 1⟩)
        replace c11 := vEq_f (c11)
        refine rLd (H.at 0 rfl) 0 rfl rfl rfl ?_
        refine cI (fun c12 => ?_) (fun c12 => ?_)
        · replace c12 := vEq_t (c12)
          refine rBuildSliceS H rfl rfl rfl rfl ?_
          clear H
          intro p2 w2 H
          clear w1
          refine Done.mk ?_
          (refine H.ptSl (n := 1) (en := enK) (s := 1) 0 rfl [_] rfl rfl (fun _ => rfl) rfl ?_; intro H; exact ⟨_, _, _, _, rfl, by unfold numS; repeat first | rw [if_pos (by omega)] | rw [if_neg (by omega)] | (subst_vars; rfl), H.del 1⟩)
        replace c12 := vEq_f (c12)
        refine rLd (H.at 0 rfl) 0 rfl rfl rfl ?_
        refine br (fun c13 => ?_) (fun c13 => ?_)
        · replace c13 := vLe_t (c13)
          refine rLd (H.at 0 rfl) 0 rfl rfl rfl ?_
          refine cI (fun c14 => ?_) (fun c14 => ?_)
          · replace c14 := vLe_t (c14)
            refine CallP.mk (Fc.imp (Go.Proofs.YtooimjefbdokaaaDoor.Ins.num1 H _) ?_)
            rintro _ _ ⟨⟨r1, ⟨rfl, h1⟩⟩, rfl⟩
            refine rBuildSliceS H rfl rfl rfl rfl ?_
            clear H
            intro p2 w2 H
            clear w1
            refine Done.mk ?_
            (refine H.ptSl (n := 1) (en := enK) (s := 1) 0 rfl [_] rfl rfl (fun _ => rfl) rfl ?_; intro H; exact ⟨_, _, _, _, rfl, by unfold numS; repeat first | rw [if_pos (by omega)] | rw [if_neg (by omega)] | (subst_vars; rfl), H.del 1⟩)
          replace c14 := vLe_f (c14)
          refine Done.mk ?_
          exact ⟨_, _, _, [], rfl, by unfold numS; repeat first | rw [if_pos (by omega)] | rw [if_neg (by omega)], (H.del 0).sl0 (en := enK) (s := 1) 93 (fun _ => rfl)⟩
        replace c13 := vLe_f (c13)
        refine cF rfl ?_
        refine Done.mk ?_
        exact ⟨_, _, _, [], rfl, by unfold numS; repeat first | rw [if_pos (by omega)] | rw [if_neg (by omega)], (H.del 0).sl0 (en := enK) (s := 1) 93 (fun _ => rfl)⟩
      replace c7 := vLe_f (c7)
      refine cF rfl ?_
      refine rLd (H.at 0 rfl) 0 rfl rfl rfl ?_
      refine br_t (vLe_T (by assumption)) ?_
      refine rLd (H.at 0 rfl) 0 rfl rfl rfl ?_
      refine cT (vLe_T (by omega)) ?_
      refine CallP.mk (Fc.imp (Go.Proofs.YtooimjefbdokaaaDoor.Ins.num1 H _) ?_)
      rintro _ _ ⟨⟨r1, ⟨rfl, h1⟩⟩, rfl⟩
      refine rBuildSliceS H rfl rfl rfl rfl ?_
      clear H
      intro p2 w2 H
      clear w1
      refine Done.mk ?_
      (refine H.ptSl (n := 2) (en := enK) (s := 1) 0 rfl [_, _] rfl rfl (fun _ => rfl) rfl ?_; intro H; exact ⟨_, _, _, _, rfl, by unfold numS; repeat first | rw [if_pos (by omega)] | rw [if_neg (by omega)] | (subst_vars; rfl), H.del 1⟩)
    replace c5 := vLe_f (c5)
    refine cF rfl ?_
    refine rLd (H.at 0 rfl) 0 rfl rfl rfl ?_
    refine br_f (vLe_F (by omega)) ?_
    refine cF rfl ?_
    refine rLd (H.at 0 rfl) 0 rfl rfl rfl ?_
    refine br_f (vLe_F (by omega)) ?_
    refine cF rfl ?_
    refine rLd (H.at 0 rfl) 0 rfl rfl rfl ?_
    refine cF (vEq_F (by omega)) ?_
    refine rLd (H.at 0 rfl) 0 rfl rfl rfl ?_
    refine cF (vEq_F (by omega)) ?_
    refine rLd (H.at 0 rfl) 0 rfl rfl rfl ?_
    refine cF (vEq_F (by omega)) ?_
    refine rLd (H.at 0 rfl) 0 rfl rfl rfl ?_
    refine br_f (vLe_F (by omega)) ?_
    refine cF rfl ?_
    refine Done.mk ?_
    exact ⟨_, _, _, [], rfl, by unfold numS; repeat first | rw [if_pos (by omega)] | rw [if_neg (by omega)], (H.del 0).sl0 (en := enK) (s := 1) 93 (fun _ => rfl)⟩
  replace c3 := vLt_f (c3)
  refine cF rfl ?_
  refine rLd (H.at 0 rfl) 0 rfl rfl rfl ?_
  refine br_f (vLe_F (by omega)) ?_
  refine cF rfl ?_
  refine rLd (H.at 0 rfl) 0 rfl rfl rfl ?_
  refine br_f (vLe_F (by omega)) ?_
  refine cF rfl ?_
  refine rLd (H.at 0 rfl) 0 rfl rfl rfl ?_
  refine br_f (vLe_F (by omega)) ?_
  refine cF rfl ?_
  refine rLd (H.at 0 rfl) 0 rfl rfl rfl ?_
  refine cF (vEq_F (by omega)) ?_
  refine rLd (H.at 0 rfl) 0 rfl rfl rfl ?_
  refine cF (vEq_F (by omega)) ?_
  refine rLd (H.at 0 rfl) 0 rfl rfl rfl ?_
  refine cF (vEq_F (by omega)) ?_
  refine rLd (H.at 0 rfl) 0 rfl rfl rfl ?_
  refine br_f (vLe_F (by omega)) ?_
  refine cF rfl ?_
  refine Done.mk ?_
  exact ⟨_, _, _, [], rfl, by unfold numS; repeat first | rw [if_pos (by omega)] | rw [if_neg (by omega)], (H.del 0).sl0 (en := enK) (s := 1) 93 (fun _ => rfl)⟩
theorem besides (o : Int) (w : World) : Fc Tryd.prog 36 #[.int .u8 o] w (fun v w' => (∃ r, v = .int .i64 r ∧ r = bsd o) ∧ Sat (froz w) w' []) := by
  refine Fc.of Tryd.func36 rfl (by kernel_rfl) ?_
  have H := Sat.start w
  refine bk ?_
  refine br (fun c1 => ?_) (fun c1 => ?_)
  · replace c1 := vEq_t (c1)
    refine cT rfl ?_
    refine Done.mk ?_
    refine ⟨?_, ?_⟩
    · refine ⟨2, ?_⟩
      refine ⟨?_, ?_⟩
      · refine int_eq ?_
        omega
      (unfold bsd; repeat first | rw [if_pos (by omega)] | rw [if_neg (by omega)] | rw [if_pos (by rw [hn]; assumption)] | rw [if_neg (by rw [hn]; simp; assumption)])
    exact H
  replace c1 := vEq_f (c1)
  refine br (fun c2 => ?_) (fun c2 => ?_)
  · replace c2 := vEq_t (c2)
    refine cT rfl ?_
    refine Done.mk ?_
    refine ⟨?_, ?_⟩
    · refine ⟨2, ?_⟩
      refine ⟨?_, ?_⟩
      · refine int_eq ?_
        omega
      (unfold bsd; repeat first | rw [if_pos (by omega)] | rw [if_neg (by omega)] | rw [if_pos (by rw [hn]; assumption)] | rw [if_neg (by rw [hn]; simp; assumption)])
    exact H
  replace c2 := vEq_f (c2)
  refine cI (fun c3 => ?_) (fun c3 => ?_)
  · replace c3 := vEq_t (c3)
    refine Done.mk ?_
    refine ⟨?_, ?_⟩
    · refine ⟨2, ?_⟩
      refine ⟨?_, ?_⟩
      · refine int_eq ?_
        omega
      (unfold bsd; repeat first | rw [if_pos (by omega)] | rw [if_neg (by omega)] | rw [if_pos (by rw [hn]; assumption)] | rw [if_neg (by rw [hn]; simp; assumption)])
    exact H
  replace c3 := vEq_f (c3)
  refine cI (fun c4 => ?_) (fun c4 => ?_)
  · replace c4 := vEq_t (c4)
    refine cT (vEq_T (by assumption)) ?_
    refine Done.mk ?_
    refine ⟨?_, ?_⟩
    · refine ⟨3, ?_⟩
      refine ⟨?_, ?_⟩
      · refine int_eq ?_
        omega
      (unfold bsd; repeat first | rw [if_pos (by omega)] | rw [if_neg (by omega)] | rw [if_pos (by rw [hn]; assumption)] | rw [if_neg (by rw [hn]; simp; assumption)])
    exact H
  replace c4 := vEq_f (c4)
  refine cI (fun c5 => ?_) (fun c5 => ?_)
  · replace c5 := vEq_t (c5)
    refine cT (vEq_T (by assumption)) ?_
    refine Done.mk ?_
    refine ⟨?_, ?_⟩
    · refine ⟨3, ?_⟩
      refine ⟨?_, ?_⟩
      · refine int_eq ?_
        omega
      (unfold bsd; repeat first | rw [if_pos (by omega)] | rw [if_neg (by omega)] | rw [if_pos (by rw [hn]; assumption)] | rw [if_neg (by rw [hn]; simp; assumption)])
    exact H
  replace c5 := vEq_f (c5)
  refine cI (fun c6 => ?_) (fun c6 => ?_)
  · replace c6 := vEq_t (c6)
    refine cT (vEq_T (by assumption)) ?_
    refine Done.mk ?_
    refine ⟨?_, ?_⟩
    · refine ⟨3, ?_⟩
      refine ⟨?_, ?_⟩
      · refine int_eq ?_
        omega
      (unfold bsd; repeat first | rw [if_pos (by omega)] | rw [if_neg (by omega)] | rw [if_pos (by rw [hn]; assumption)] | rw [if_neg (by rw [hn]; simp; assumption)])
    exact H
  replace c6 := vEq_f (c6)
  refine br (fun c7 => ?_) (fun c7 => ?_)
  · replace c7 := vLe_t (c7)
    refine cI (fun c8 => ?_) (fun c8 => ?_)
    · replace c8 := vLe_t (c8)
      refine Done.mk ?_
      refine ⟨?_, ?_⟩
      · refine ⟨3, ?_⟩
        refine ⟨?_, ?_⟩
        · refine int_eq ?_
          omega
        (unfold bsd; repeat first | rw [if_pos (by omega)] | rw [if_neg (by omega)] | rw [if_pos (by rw [hn]; assumption)] | rw [if_neg (by rw [hn]; simp; assumption)])
      exact H
    replace c8 := vLe_f (c8)
    refine cF (vEq_F (by omega)) ?_
    refine cF (vEq_F (by omega)) ?_
    refine CallP.mk (Fc.imp (Go.Proofs.YtooimjefbdokaaaDoor.Ins.width _ _) ?_)
    rintro _ _ ⟨⟨r1, ⟨rfl, h1⟩⟩, rfl⟩
    refine cI (fun c9 => ?_) (fun c9 => ?_)
    · replace c9 := vLt_t (c9)
      refine Done.mk ?_
      refine ⟨?_, ?_⟩
      · refine ⟨6, ?_⟩
        refine ⟨?_, ?_⟩
        · refine int_eq ?_
          omega
        (unfold bsd; repeat first | rw [if_pos (by omega)] | rw [if_neg (by omega)] | rw [if_pos (by rw [hn]; assumption)] | rw [if_neg (by rw [hn]; simp; assumption)])
      exact H
    replace c9 := vLt_f (c9)
    refine cI (fun c10 => ?_) (fun c10 => ?_)
    · replace c10 := vEq_t (c10)
      refine cT (vEq_T (by assumption)) ?_
      refine Done.mk ?_
      refine ⟨?_, ?_⟩
      · refine ⟨7, ?_⟩
        refine ⟨?_, ?_⟩
        · refine int_eq ?_
          omega
        (unfold bsd; repeat first | rw [if_pos (by omega)] | rw [if_neg (by omega)] | rw [if_pos (by rw [hn]; assumption)] | rw [if_neg (by rw [hn]; simp; assumption)])
      exact H
    replace c10 := vEq_f (c10)
    refine cI (fun c11 => ?_) (fun c11 => ?_)
    · replace c11 := vEq_t (c11)
      refine Done.mk ?_
      refine ⟨?_, ?_⟩
      · refine ⟨7, ?_⟩
        refine ⟨?_, ?_⟩
        · refine int_eq ?_
          omega
        (unfold bsd; repeat first | rw [if_pos (by omega)] | rw [if_neg (by omega)] | rw [if_pos (by rw [hn]; assumption)] | rw [if_neg (by rw [hn]; simp; assumption)])
      exact H
    replace c11 := vEq_f (c11)
    refine cI (fun c12 => ?_) (fun c12 => ?_)
    · replace c12 := vEq_t (c12)
      refine Done.mk ?_
      refine ⟨?_, ?_⟩
      · refine ⟨8, ?_⟩
        refine ⟨?_, ?_⟩
        · refine int_eq ?_
          omega
        (unfold bsd; repeat first | rw [if_pos (by omega)] | rw [if_neg (by omega)] | rw [if_pos (by rw [hn]; assumption)] | rw [if_neg (by rw [hn]; simp; assumption)])
      exact H
    replace c12 := vEq_f (c12)
    refine cI (fun c13 => ?_) (fun c13 => ?_)
    · replace c13 := vEq_t (c13)
      refine Done.mk ?_
      refine ⟨?_, ?_⟩
      · refine ⟨9, ?_⟩
        refine ⟨?_, ?_⟩
        · refine int_eq ?_
          omega
        (unfold bsd; repeat first | rw [if_pos (by omega)] | rw [if_neg (by omega)] | rw [if_pos (by rw [hn]; assumption)] | rw [if_neg (by rw [hn]; simp; assumption)])
      exact H
    replace c13 := vEq_f (c13)
    refine cF (vLe_F (by omega)) ?_
    refine cF (vEq_F (by omega)) ?_
    refine cF (vEq_F (by omega)) ?_
    refine cF (vEq_F (by omega)) ?_
    refine cF (vEq_F (by omega)) ?_
    refine cF (vEq_F (by omega)) ?_
    refine CallP.mk (Fc.imp (Go.Proofs.YtooimjefbdokaaaDoor.Ins.numeric _ _) ?_)
    rintro _ w1 ⟨u1, ⟨k1, ⟨b1, ⟨xs1, ⟨rfl, ⟨h2, H'⟩⟩⟩⟩⟩⟩
    refine H.mergeK H' ?_
    clear H H'
    intro H
    have hn := congrArg (fun q => q.2.2) h2
    simp only at hn
    refine cI (fun c14 => ?_) (fun c14 => ?_)
    · refine Done.mk ?_
      refine ⟨?_, ?_⟩
      · refine ⟨1, ?_⟩
        refine ⟨?_, ?_⟩
        · refine int_eq ?_
          omega
        (unfold bsd; repeat first | rw [if_pos (by omega)] | rw [if_neg (by omega)] | rw [if_pos (by rw [hn]; assumption)] | rw [if_neg (by rw [hn]; simp; assumption)])
      refine H.firsts 0 ?_
      clear H
      intro H
      exact H
    refine Done.mk ?_
    refine ⟨?_, ?_⟩
    · refine ⟨0, ?_⟩
      refine ⟨?_, ?_⟩
      · refine int_eq ?_
        omega
      (unfold bsd; repeat first | rw [if_pos (by omega)] | rw [if_neg (by omega)] | rw [if_pos (by rw [hn]; assumption)] | rw [if_neg (by rw [hn]; simp; assumption)])
    refine H.firsts 0 ?_
    clear H
    intro H
    exact H
  replace c7 := vLe_f (c7)
  refine cF rfl ?_
  refine cI (fun c8 => ?_) (fun c8 => ?_)
  · replace c8 := vEq_t (c8)
    refine Done.mk ?_
    refine ⟨?_, ?_⟩
    · refine ⟨4, ?_⟩
      refine ⟨?_, ?_⟩
      · refine int_eq ?_
        omega
      (unfold bsd; repeat first | rw [if_pos (by omega)] | rw [if_neg (by omega)] | rw [if_pos (by rw [hn]; assumption)] | rw [if_neg (by rw [hn]; simp; assumption)])
    exact H
  replace c8 := vEq_f (c8)
  refine cI (fun c9 => ?_) (fun c9 => ?_)
  · replace c9 := vEq_t (c9)
    refine Done.mk ?_
    refine ⟨?_, ?_⟩
    · refine ⟨5, ?_⟩
      refine ⟨?_, ?_⟩
      · refine int_eq ?_
        omega
      (unfold bsd; repeat first | rw [if_pos (by omega)] | rw [if_neg (by omega)] | rw [if_pos (by rw [hn]; assumption)] | rw [if_neg (by rw [hn]; simp; assumption)])
    exact H
  replace c9 := vEq_f (c9)
  refine CallP.mk (Fc.imp (Go.Proofs.YtooimjefbdokaaaDoor.Ins.width _ _) ?_)
  rintro _ _ ⟨⟨r1, ⟨rfl, h1⟩⟩, rfl⟩
  refine cI (fun c10 => ?_) (fun c10 => ?_)
  · replace c10 := vLt_t (c10)
    refine Done.mk ?_
    refine ⟨?_, ?_⟩
    · refine ⟨6, ?_⟩
      refine ⟨?_, ?_⟩
      · refine int_eq ?_
        omega
      (unfold bsd; repeat first | rw [if_pos (by omega)] | rw [if_neg (by omega)] | rw [if_pos (by rw [hn]; assumption)] | rw [if_neg (by rw [hn]; simp; assumption)])
    exact H
  replace c10 := vLt_f (c10)
  refine cF (vEq_F (by omega)) ?_
  refine cF (vEq_F (by omega)) ?_
  refine cF (vEq_F (by omega)) ?_
  refine cF (vEq_F (by omega)) ?_
  refine cI (fun c11 => ?_) (fun c11 => ?_)
  · replace c11 := vLe_t (c11)
    refine cT (vLe_T (by assumption)) ?_
    refine Done.mk ?_
    refine ⟨?_, ?_⟩
    · refine ⟨1, ?_⟩
      refine ⟨?_, ?_⟩
      · refine int_eq ?_
        omega
      (unfold bsd; repeat first | rw [if_pos (by omega)] | rw [if_neg (by omega)] | rw [if_pos (by rw [hn]; assumption)] | rw [if_neg (by rw [hn]; simp; assumption)])
    exact H
  replace c11 := vLe_f (c11)
  refine cI (fun c12 => ?_) (fun c12 => ?_)
  · replace c12 := vEq_t (c12)
    refine cT (vEq_T (by assumption)) ?_
    refine Done.mk ?_
    refine ⟨?_, ?_⟩
    · refine ⟨1, ?_⟩
      refine ⟨?_, ?_⟩
      · refine int_eq ?_
        omega
      (unfold bsd; repeat first | rw [if_pos (by omega)] | rw [if_neg (by omega)] | rw [if_pos (by rw [hn]; assumption)] | rw [if_neg (by rw [hn]; simp; assumption)])
    exact H
  replace c12 := vEq_f (c12)
  refine cI (fun c13 => ?_) (fun c13 => ?_)
  · replace c13 := vEq_t (c13)
    refine cT (vEq_T (by assumption)) ?_
    refine Done.mk ?_
    refine ⟨?_, ?_⟩
    · refine ⟨1, ?_⟩
      refine ⟨?_, ?_⟩
      · refine int_eq ?_
        omega
      (unfold bsd; repeat first | rw [if_pos (by omega)] | rw [if_neg (by omega)] | rw [if_pos (by rw [hn]; assumption)] | rw [if_neg (by rw [hn]; simp; assumption)])
    exact H
  replace c13 := vEq_f (c13)
  refine cI (fun c14 => ?_) (fun c14 => ?_)
  · replace c14 := vEq_t (c14)
    refine cT (vEq_T (by assumption)) ?_
    refine Done.mk ?_
    refine ⟨?_, ?_⟩
    · refine ⟨1, ?_⟩
      refine ⟨?_, ?_⟩
      · refine int_eq ?_
        omega
      (unfold bsd; repeat first | rw [if_pos (by omega)] | rw [if_neg (by omega)] | rw [if_pos (by rw [hn]; assumption)] | rw [if_neg (by rw [hn]; simp; assumption)])
    exact H
  replace c14 := vEq_f (c14)
  refine cI (fun c15 => ?_) (fun c15 => ?_)
  · replace c15 := vEq_t (c15)
    refine cT (vEq_T (by assumption)) ?_
    refine Done.mk ?_
    refine ⟨?_, ?_⟩
    · refine ⟨1, ?_⟩
      refine ⟨?_, ?_⟩
      · refine int_eq ?_
        omega
      (unfold bsd; repeat first | rw [if_pos (by omega)] | rw [if_neg (by omega)] | rw [if_pos (by rw [hn]; assumption)] | rw [if_neg (by rw [hn]; simp; assumption)])
    exact H
  replace c15 := vEq_f (c15)
  refine cI (fun c16 => ?_) (fun c16 => ?_)
  · replace c16 := vEq_t (c16)
    refine Done.mk ?_
    refine ⟨?_, ?_⟩
    · refine ⟨1, ?_⟩
      refine ⟨?_, ?_⟩
      · refine int_eq ?_
        omega
      (unfold bsd; repeat first | rw [if_pos (by omega)] | rw [if_neg (by omega)] | rw [if_pos (by rw [hn]; assumption)] | rw [if_neg (by rw [hn]; simp; assumption)])
    exact H
  replace c16 := vEq_f (c16)
  refine CallP.mk (Fc.imp (Go.Proofs.YtooimjefbdokaaaDoor.Ins.numeric _ _) ?_)
  rintro _ w1 ⟨u1, ⟨k1, ⟨b1, ⟨xs1, ⟨rfl, ⟨h2, H'⟩⟩⟩⟩⟩⟩
  refine H.mergeK H' ?_
  clear H H'
  intro H
  have hn := congrArg (fun q => q.2.2) h2
  simp only at hn
  refine cI (fun c17 => ?_) (fun c17 => ?_)
  · refine Done.mk ?_
    refine ⟨?_, ?_⟩
    · refine ⟨1, ?_⟩
      refine ⟨?_, ?_⟩
      · refine int_eq ?_
        omega
      (unfold bsd; repeat first | rw [if_pos (by omega)] | rw [if_neg (by omega)] | rw [if_pos (by rw [hn]; assumption)] | rw [if_neg (by rw [hn]; simp; assumption)])
    refine H.firsts 0 ?_
    clear H
    intro H
    exact H
  refine Done.mk ?_
  refine ⟨?_, ?_⟩
  · refine ⟨0, ?_⟩
    refine ⟨?_, ?_⟩
    · refine int_eq ?_
      omega
    (unfold bsd; repeat first | rw [if_pos (by omega)] | rw [if_neg (by omega)] | rw [if_pos (by rw [hn]; assumption)] | rw [if_neg (by rw [hn]; simp; assumption)])
  refine H.firsts 0 ?_
  clear H
  intro H
  exact H
theorem isIndex (n : Int) (w : World) : Fc Tryd.prog 37 #[.int .i64 n] w (fun v w' => (∃ b, v = .bool b ∧ (b = true ↔ isIdx n)) ∧ w = w') := by
  refine Fc.of Tryd.func37 rfl (by kernel_rfl) ?_
  have H := Sat.start w
  refine br (fun c1 => ?_) (fun c1 => ?_)
  · replace c1 := vLe_t (c1)
    refine Done.mk ?_
    exact ⟨⟨_, rfl, by unfold isIdx; simp [vLe_iff]; omega⟩, rfl⟩
  replace c1 := vLe_f (c1)
  refine Done.mk ?_
  exact ⟨⟨_, rfl, by unfold isIdx; simp [vLe_iff]; omega⟩, rfl⟩
end Go.Proofs.YtooimjefbdokaaaDoor.Ins
/- Package ins: Check. -/
set_option maxRecDepth 100000
set_option maxHeartbeats 4000000
set_option linter.unusedVariables false
set_option linter.unusedSimpArgs false
namespace Go.Proofs.YtooimjefbdokaaaDoor.Ins
open Go Go.Proofs.YtooimjefbdokaaaDoor.Eng Go.RowKit
def enI (n : Int) : List Value := [.int .i64 n]
def okI (n : Int) : Prop := I64 n
theorem chk_0 {x : InsD} (h : bsd x.op = 0) : chk x = 6 := by unfold chk; rw [if_pos h]
theorem chk_2 {x : InsD} (h : bsd x.op ≠ 0) (h2 : 16 < x.to.length) : chk x = 2 := by unfold chk; rw [if_neg h, if_pos h2]
theorem chk_1 {x : InsD} (h : bsd x.op ≠ 0) (h2 : x.to.length ≤ 16) (h3 : (bsd x.op ≠ 4 ∧ 0 < x.to.length) ∨ (bsd x.op ≠ 6 ∧ x.b ≠ 0)) : chk x = 1 := by unfold chk; rw [if_neg h, if_neg (by omega), if_pos h3]
theorem chk_g {x : InsD} {q : Bool} (h : bsd x.op ≠ 0) (h2 : x.to.length ≤ 16) (h3 : bsd x.op = 4 ∨ x.to.length = 0) (h4 : bsd x.op = 6 ∨ x.b = 0) (hq : q = true ↔ goodK (bsd x.op) x.a x.b ∧ ∀ n ∈ x.to, isIdx n) : chk x = if q then 0 else 1 := by
  unfold chk
  rw [if_neg h, if_neg (by omega), if_neg (by omega)]
  by_cases hg : goodK (bsd x.op) x.a x.b ∧ ∀ n ∈ x.to, isIdx n
  · rw [if_pos hg, if_pos (hq.2 hg)]
  · rw [if_neg hg, if_neg (fun h => hg (hq.1 h))]
theorem all_take {p : Int → Prop} {l : List Int} {k : Nat} {x : Int} (hx : l[k]? = some x) : (∀ n ∈ l.take (k + 1), p n) ↔ (∀ n ∈ l.take k, p n) ∧ p x := by
  rw [List.take_add_one, hx]
  simp only [Option.toList_some, List.mem_append, List.mem_singleton]
  exact ⟨fun h => ⟨fun n hn => h n (.inl hn), h x (.inr rfl)⟩, fun h n hn => hn.elim (h.1 n) (fun e => e ▸ h.2)⟩
theorem allT {P : Prop} {p : Int → Prop} {l : List Int} {k : Nat} {x : Int} {b : Bool} (hx : l[k]? = some x) (h : P ∧ ∀ n ∈ l.take k, p n) (hb : b = true ↔ p x) : b = true ↔ P ∧ ∀ n ∈ l.take (k + 1), p n := by
  rw [all_take hx, hb]
  exact ⟨fun q => ⟨h.1, h.2, q⟩, fun q => q.2.2⟩
theorem allF {P : Prop} {p : Int → Prop} {l : List Int} {k : Nat} {x : Int} (hx : l[k]? = some x) (h : ¬ (P ∧ ∀ n ∈ l.take k, p n)) : false = true ↔ P ∧ ∀ n ∈ l.take (k + 1), p n := by
  rw [all_take hx]
  exact ⟨nofun, fun q => absurd ⟨q.1, q.2.1⟩ h⟩
theorem chk_y {x : InsD} {k : Nat} (h : bsd x.op ≠ 0) (h2 : x.to.length ≤ 16) (h3 : bsd x.op = 4 ∨ x.to.length = 0) (h4 : bsd x.op = 6 ∨ x.b = 0) (hq : goodK (bsd x.op) x.a x.b ∧ ∀ n ∈ x.to.take k, isIdx n) (hk : x.to.length ≤ k) : chk x = 0 := by
  rw [List.take_of_length_le hk] at hq
  rw [chk_g h h2 h3 h4 (q := true) ⟨fun _ => hq, fun _ => rfl⟩]; rfl
theorem chk_n {x : InsD} {k : Nat} (h : bsd x.op ≠ 0) (h2 : x.to.length ≤ 16) (h3 : bsd x.op = 4 ∨ x.to.length = 0) (h4 : bsd x.op = 6 ∨ x.b = 0) (hq : ¬ (goodK (bsd x.op) x.a x.b ∧ ∀ n ∈ x.to.take k, isIdx n)) (hk : x.to.length ≤ k) : chk x = 1 := by
  rw [List.take_of_length_le hk] at hq
  rw [chk_g h h2 h3 h4 (q := false) ⟨nofun, fun h => absurd h hq⟩]; rfl
theorem goodK_17 {k a b : Int} (h : k = 1 ∨ k = 7) : goodK k a b ↔ a = 0 := by unfold goodK; rw [if_pos h]
theorem goodK_2 {k a b : Int} (h : k = 2) : goodK k a b ↔ a = 64 ∨ a = 127 ∨ a = 126 := by subst h; unfold goodK; simp
theorem goodK_8 {k a b : Int} (h : k = 8) : goodK k a b ↔ -2147483648 ≤ a ∧ a ≤ 2147483647 := by subst h; unfold goodK; simp
theorem goodK_6 {k a b : Int} (h : k = 6) : goodK k a b ↔ isIdx a ∧ isIdx b := by subst h; unfold goodK; simp
theorem goodK_345 {k a b : Int} (h : k = 3 ∨ k = 4 ∨ k = 5) : goodK k a b ↔ isIdx a := by unfold goodK; rw [if_neg (by omega), if_neg (by omega), if_neg (by omega), if_neg (by omega), if_pos h]
theorem goodK_9 {k a b : Int} (h : k ≠ 1) (h7 : k ≠ 7) (h2 : k ≠ 2) (h8 : k ≠ 8) (h6 : k ≠ 6) (h3 : k ≠ 3) (h4 : k ≠ 4) (h5 : k ≠ 5) : goodK k a b ↔ True := by unfold goodK; rw [if_neg (by omega), if_neg (by omega), if_neg (by omega), if_neg (by omega), if_neg (by omega)]
theorem fits32 {a : Int} (ha : I64 a) : vEq a (vWrap .i64 (vWrap .i32 a)) = true ↔ -2147483648 ≤ a ∧ a ≤ 2147483647 := by
  have h : -2147483648 ≤ vWrap .i32 a ∧ vWrap .i32 a ≤ 2147483647 ∧ (a = vWrap .i32 a ↔ -2147483648 ≤ a ∧ a ≤ 2147483647) := by
    unfold vWrap IntKind.wrap
    simp [IntKind.bits, IntKind.signed]
    split <;> omega
  rw [wi64 (by omega), vEq_iff]
  simp only [decide_eq_true_eq]
  exact h.2.2
theorem check (o a b : Int) (tv : Value) (to : List Int) (w : World) (ha : I64 a) (hx : Rd enI okI 1 w tv to) : Fc Tryd.prog 22 #[.agg #[.int .u8 o, .int .i64 a, .int .i64 b, tv]] w (fun v w' => (∃ r, v = .int .i64 r ∧ r = chk ⟨o, a, b, to⟩) ∧ Sat (froz w) w' []) := by
  refine Fc.of Tryd.func22 rfl (by kernel_rfl) ?_
  have H := Sat.start w
  have hx := hx.fz
  refine rBoxS H ?_
  clear H
  intro p1 w1 H
  refine rFieldAt rfl ?_
  refine rLd (H.at 0 rfl) 0 rfl rfl rfl ?_
  refine CallP.mk (Fc.imp (Go.Proofs.YtooimjefbdokaaaDoor.Ins.besides _ _) ?_)
  rintro _ w2 ⟨⟨r1, ⟨rfl, h1⟩⟩, H'⟩
  refine H.mergeK H' ?_
  clear H H'
  intro H
  refine block_join (α := Unit) (fun x_ => []) (fun x_ w_ => (bsd o ≠ 0) ∧ (to.length ≤ 16) ∧ (bsd o = 4 ∨ to.length = 0) ∧ (bsd o = 6 ∨ b = 0) ∧ Sat (froz w) w_ ([Pt p1 [.int .u8 o, .int .i64 a, .int .i64 b, tv] 38])) ?_ ?_
  · refine cI (fun c1 => ?_) (fun c1 => ?_)
    · replace c1 := vEq_t (c1)
      refine Done.mk ?_
      refine ⟨?_, ?_⟩
      · refine ⟨6, ?_⟩
        refine ⟨?_, ?_⟩
        · refine int_eq ?_
          omega
        exact (chk_0 (by simp only; omega)).symm
      refine H.firsts 0 ?_
      clear H
      intro H
      exact H
    replace c1 := vEq_f (c1)
    refine rFieldAt rfl ?_
    refine rLd (H.at 0 rfl) 3 rfl rfl rfl ?_
    refine rLenF hx rfl ?_
    refine cI (fun c2 => ?_) (fun c2 => ?_)
    · replace c2 := vLt_t (c2)
      refine Done.mk ?_
      refine ⟨?_, ?_⟩
      · refine ⟨2, ?_⟩
        refine ⟨?_, ?_⟩
        · refine int_eq ?_
          omega
        exact (chk_2 (by simp only; omega) (by simp only; omega)).symm
      refine H.firsts 0 ?_
      clear H
      intro H
      exact H
    replace c2 := vLt_f (c2)
    refine br (fun c3 => ?_) (fun c3 => ?_)
    · replace c3 := vNe_t (c3)
      refine rFieldAt rfl ?_
      refine rLd (H.at 0 rfl) 3 rfl rfl rfl ?_
      refine rLenF hx rfl ?_
      refine cI (fun c4 => ?_) (fun c4 => ?_)
      · replace c4 := vLt_t (c4)
        refine cT (vLt_T (by assumption)) ?_
        refine Done.mk ?_
        refine ⟨?_, ?_⟩
        · refine ⟨1, ?_⟩
          refine ⟨?_, ?_⟩
          · refine int_eq ?_
            omega
          exact (chk_1 (by simp only; omega) (by simp only; omega) (by simp only; omega)).symm
        refine H.firsts 0 ?_
        clear H
        intro H
        exact H
      replace c4 := vLt_f (c4)
      refine br (fun c5 => ?_) (fun c5 => ?_)
      · replace c5 := vNe_t (c5)
        refine rFieldAt rfl ?_
        refine rLd (H.at 0 rfl) 2 rfl rfl rfl ?_
        refine cI (fun c6 => ?_) (fun c6 => ?_)
        · replace c6 := vNe_t (c6)
          refine Done.mk ?_
          refine ⟨?_, ?_⟩
          · refine ⟨1, ?_⟩
            refine ⟨?_, ?_⟩
            · refine int_eq ?_
              omega
            exact (chk_1 (by simp only; omega) (by simp only; omega) (by simp only; omega)).symm
          refine H.firsts 0 ?_
          clear H
          intro H
          exact H
        replace c6 := vNe_f (c6)
        refine Jn.mk (()) (mt_nil) ?_
        refine ⟨?_, ?_⟩
        · intro x1
          omega
        refine ⟨?_, ?_⟩
        · omega
        refine ⟨?_, ?_⟩
        · refine (Or.inr ?_)
          omega
        refine ⟨?_, ?_⟩
        · refine (Or.inr ?_)
          assumption
        exact H
      replace c5 := vNe_f (c5)
      refine cF rfl ?_
      refine Jn.mk (()) (mt_nil) ?_
      refine ⟨?_, ?_⟩
      · intro x1
        omega
      refine ⟨?_, ?_⟩
      · omega
      refine ⟨?_, ?_⟩
      · refine (Or.inr ?_)
        omega
      refine ⟨?_, ?_⟩
      · refine (Or.inl ?_)
        omega
      exact H
    replace c3 := vNe_f (c3)
    refine cF rfl ?_
    refine br_t (vNe_T (by omega)) ?_
    refine rFieldAt rfl ?_
    refine rLd (H.at 0 rfl) 2 rfl rfl rfl ?_
    refine cI (fun c4 => ?_) (fun c4 => ?_)
    · replace c4 := vNe_t (c4)
      refine Done.mk ?_
      refine ⟨?_, ?_⟩
      · refine ⟨1, ?_⟩
        refine ⟨?_, ?_⟩
        · refine int_eq ?_
          omega
        exact (chk_1 (by simp only; omega) (by simp only; omega) (by simp only; omega)).symm
      refine H.firsts 0 ?_
      clear H
      intro H
      exact H
    replace c4 := vNe_f (c4)
    refine Jn.mk (()) (mt_nil) ?_
    refine ⟨?_, ?_⟩
    · intro x1
      omega
    refine ⟨?_, ?_⟩
    · omega
    refine ⟨?_, ?_⟩
    · refine (Or.inl ?_)
      omega
    refine ⟨?_, ?_⟩
    · refine (Or.inr ?_)
      assumption
    exact H
  clear H
  rintro _ f_ w_ ⟨h0, h2, h3, h4, H⟩
  try simp only at h0 h2 h3 h4 H ⊢
  
  refine block_join (α := Bool) (fun x_ => [(4, .bool x_)]) (fun x_ w_ => (x_ = true ↔ goodK (bsd o) a b) ∧ Sat (froz w) w_ ([Pt p1 [.int .u8 o, .int .i64 a, .int .i64 b, tv] 38])) ?_ ?_
  · refine cI (fun c1 => ?_) (fun c1 => ?_)
    · replace c1 := vEq_t (c1)
      refine cT (vEq_T (by assumption)) ?_
      refine rFieldAt rfl ?_
      refine rLd (H.at 0 rfl) 1 rfl rfl rfl ?_
      refine Jn.mk (vEq a 0) (mt_cons rfl (mt_nil)) ?_
      refine ⟨?_, ?_⟩
      · exact Iff.trans (by simp [vEq_iff]) (goodK_17 (by omega)).symm
      exact H
    replace c1 := vEq_f (c1)
    refine cI (fun c2 => ?_) (fun c2 => ?_)
    · replace c2 := vEq_t (c2)
      refine rFieldAt rfl ?_
      refine rLd (H.at 0 rfl) 1 rfl rfl rfl ?_
      refine Jn.mk (vEq a 0) (mt_cons rfl (mt_nil)) ?_
      refine ⟨?_, ?_⟩
      · exact Iff.trans (by simp [vEq_iff]) (goodK_17 (by omega)).symm
      exact H
    replace c2 := vEq_f (c2)
    refine cI (fun c3 => ?_) (fun c3 => ?_)
    · replace c3 := vEq_t (c3)
      refine rFieldAt rfl ?_
      refine rLd (H.at 0 rfl) 1 rfl rfl rfl ?_
      refine br (fun c4 => ?_) (fun c4 => ?_)
      · replace c4 := vEq_t (c4)
        refine Jn.mk (true) (mt_cons rfl (mt_nil)) ?_
        refine ⟨?_, ?_⟩
        · exact Iff.trans (by simp; omega) (goodK_2 (by omega)).symm
        exact H
      replace c4 := vEq_f (c4)
      refine rFieldAt rfl ?_
      refine rLd (H.at 0 rfl) 1 rfl rfl rfl ?_
      refine br (fun c5 => ?_) (fun c5 => ?_)
      · replace c5 := vEq_t (c5)
        refine Jn.mk (true) (mt_cons rfl (mt_nil)) ?_
        refine ⟨?_, ?_⟩
        · exact Iff.trans (by simp; omega) (goodK_2 (by omega)).symm
        exact H
      replace c5 := vEq_f (c5)
      refine rFieldAt rfl ?_
      refine rLd (H.at 0 rfl) 1 rfl rfl rfl ?_
      refine Jn.mk (vEq a 126) (mt_cons rfl (mt_nil)) ?_
      refine ⟨?_, ?_⟩
      · exact Iff.trans (by simp [vEq_iff]; omega) (goodK_2 (by omega)).symm
      exact H
    replace c3 := vEq_f (c3)
    refine cI (fun c4 => ?_) (fun c4 => ?_)
    · replace c4 := vEq_t (c4)
      refine rFieldAt rfl ?_
      refine rLd (H.at 0 rfl) 1 rfl rfl rfl ?_
      refine rFieldAt rfl ?_
      refine rLd (H.at 0 rfl) 1 rfl rfl rfl ?_
      refine rConvInt rfl rfl ?_
      refine rConvInt rfl rfl ?_
      refine Jn.mk (vEq a (vWrap IntKind.i64 (vWrap IntKind.i32 a))) (mt_cons rfl (mt_nil)) ?_
      refine ⟨?_, ?_⟩
      · exact Iff.trans (fits32 ha) (goodK_8 (by omega)).symm
      exact H
    replace c4 := vEq_f (c4)
    refine cI (fun c5 => ?_) (fun c5 => ?_)
    · replace c5 := vEq_t (c5)
      refine rFieldAt rfl ?_
      refine rLd (H.at 0 rfl) 1 rfl rfl rfl ?_
      refine CallP.mk (Fc.imp (Go.Proofs.YtooimjefbdokaaaDoor.Ins.isIndex _ _) ?_)
      rintro _ _ ⟨⟨b1, ⟨rfl, h5⟩⟩, rfl⟩
      refine br (fun c6 => ?_) (fun c6 => ?_)
      · replace c6 := h5.1 (c6)
        refine rFieldAt rfl ?_
        refine rLd (H.at 0 rfl) 2 rfl rfl rfl ?_
        refine CallP.mk (Fc.imp (Go.Proofs.YtooimjefbdokaaaDoor.Ins.isIndex _ _) ?_)
        rintro _ _ ⟨⟨b2, ⟨rfl, h6⟩⟩, rfl⟩
        refine Jn.mk (b2) (mt_cons rfl (mt_nil)) ?_
        refine ⟨?_, ?_⟩
        · exact Iff.trans (by simp [*]) (goodK_6 (by omega)).symm
        exact H
      replace c6 := iff_f h5 (c6)
      refine Jn.mk (false) (mt_cons rfl (mt_nil)) ?_
      refine ⟨?_, ?_⟩
      · exact Iff.trans (by simp [*]) (goodK_6 (by omega)).symm
      exact H
    replace c5 := vEq_f (c5)
    refine cI (fun c6 => ?_) (fun c6 => ?_)
    · replace c6 := vEq_t (c6)
      refine cT (vEq_T (by assumption)) ?_
      refine rFieldAt rfl ?_
      refine rLd (H.at 0 rfl) 1 rfl rfl rfl ?_
      refine CallP.mk (Fc.imp (Go.Proofs.YtooimjefbdokaaaDoor.Ins.isIndex _ _) ?_)
      rintro _ _ ⟨⟨b1, ⟨rfl, h5⟩⟩, rfl⟩
      refine Jn.mk (b1) (mt_cons rfl (mt_nil)) ?_
      refine ⟨?_, ?_⟩
      · exact Iff.trans (by assumption) (goodK_345 (by omega)).symm
      exact H
    replace c6 := vEq_f (c6)
    refine cI (fun c7 => ?_) (fun c7 => ?_)
    · replace c7 := vEq_t (c7)
      refine cT (vEq_T (by assumption)) ?_
      refine rFieldAt rfl ?_
      refine rLd (H.at 0 rfl) 1 rfl rfl rfl ?_
      refine CallP.mk (Fc.imp (Go.Proofs.YtooimjefbdokaaaDoor.Ins.isIndex _ _) ?_)
      rintro _ _ ⟨⟨b1, ⟨rfl, h5⟩⟩, rfl⟩
      refine Jn.mk (b1) (mt_cons rfl (mt_nil)) ?_
      refine ⟨?_, ?_⟩
      · exact Iff.trans (by assumption) (goodK_345 (by omega)).symm
      exact H
    replace c7 := vEq_f (c7)
    refine cI (fun c8 => ?_) (fun c8 => ?_)
    · replace c8 := vEq_t (c8)
      refine rFieldAt rfl ?_
      refine rLd (H.at 0 rfl) 1 rfl rfl rfl ?_
      refine CallP.mk (Fc.imp (Go.Proofs.YtooimjefbdokaaaDoor.Ins.isIndex _ _) ?_)
      rintro _ _ ⟨⟨b1, ⟨rfl, h5⟩⟩, rfl⟩
      refine Jn.mk (b1) (mt_cons rfl (mt_nil)) ?_
      refine ⟨?_, ?_⟩
      · exact Iff.trans (by assumption) (goodK_345 (by omega)).symm
      exact H
    replace c8 := vEq_f (c8)
    refine Jn.mk (true) (mt_cons rfl (mt_nil)) ?_
    refine ⟨?_, ?_⟩
    · exact Iff.trans (by simp) (goodK_9 (by omega) (by omega) (by omega) (by omega) (by omega) (by omega) (by omega) (by omega)).symm
    exact H
  clear H
  rintro q f_ w_ ⟨hq, H⟩
  try simp only at hq H ⊢
  refine rFieldAt rfl ?_
  refine rLd (H.at 0 rfl) 3 rfl rfl rfl ?_
  refine rLenF hx rfl ?_
  refine LoopP.rule (α := Nat × Bool) (0, q) (fun x_ => [(85, .int .i64 x_.1), (4, .bool x_.2)]) (fun x_ w_ => (x_.1 ≤ to.length) ∧ (x_.2 = true ↔ goodK (bsd o) a b ∧ ∀ n ∈ to.take x_.1, isIdx n) ∧ Sat (froz w) w_ ([Pt p1 [.int .u8 o, .int .i64 a, .int .i64 b, tv] 38])) (fun x_ => to.length - x_.1) ?_ ?_ ?_
  · repeat first | exact mt_nil | refine mt_cons rfl ?_ | refine mt_i rfl (by first | omega | (simp only; omega) | (simp; omega) | (simp; done)) ?_
  · try simp only
    refine ⟨?_, ?_⟩
    · omega
    refine ⟨?_, ?_⟩
    · (rw [hq]; simp)
    exact H
  clear H
  rintro ⟨k, u⟩ f_ w_ ⟨hk, hu, H⟩
  try simp only at hk hu H ⊢
  refine cI (fun c1 => ?_) (fun c1 => ?_)
  · replace c1 := vLt_t (c1)
    refine bk ?_
    obtain ⟨x1, hx1⟩ : ∃ x, (to)[(k)]? = some x := ⟨_, List.getElem?_eq_getElem (by omega)⟩
    obtain ⟨b1, o1, E1, F1, hok1⟩ := FSl.elt hx hx1
    refine rIxE E1 rfl rfl rfl ?_
    refine rLd (H.fat F1) 0 rfl rfl rfl ?_
    refine br (fun c2 => ?_) (fun c2 => ?_)
    · replace c2 := hu.1 (c2)
      refine CallP.mk (Fc.imp (Go.Proofs.YtooimjefbdokaaaDoor.Ins.isIndex _ _) ?_)
      rintro _ _ ⟨⟨b2, ⟨rfl, h5⟩⟩, rfl⟩
      refine eqI64 (by omega) ?_
      refine Nxt.mk ((k + 1, b2)) (mt_i rfl (by first | omega | (simp only; omega) | (simp; omega)) (mt_cons rfl (mt_nil))) ?_ ?_
      · refine ⟨?_, ?_⟩
        · omega
        refine ⟨?_, ?_⟩
        · exact allT hx1 (by assumption) (by assumption)
        exact H
      omega
    replace c2 := iff_f hu (c2)
    refine eqI64 (by omega) ?_
    refine Nxt.mk ((k + 1, false)) (mt_i rfl (by first | omega | (simp only; omega) | (simp; omega)) (mt_cons rfl (mt_nil))) ?_ ?_
    · refine ⟨?_, ?_⟩
      · omega
      refine ⟨?_, ?_⟩
      · exact allF hx1 (by assumption)
      exact H
    omega
  replace c1 := vLt_f (c1)
  refine cI (fun c2 => ?_) (fun c2 => ?_)
  · replace c2 := iff_f hu (not_t (c2))
    refine Done.mk ?_
    refine ⟨?_, ?_⟩
    · refine ⟨1, ?_⟩
      refine ⟨?_, ?_⟩
      · refine int_eq ?_
        omega
      exact (chk_n (k := k) (by simp only; omega) (by simp only; omega) (by simp only; omega) (by simp only; omega) (by assumption) (by simp only; omega)).symm
    refine H.firsts 0 ?_
    clear H
    intro H
    exact H
  replace c2 := hu.1 (not_f (c2))
  refine Done.mk ?_
  refine ⟨?_, ?_⟩
  · refine ⟨0, ?_⟩
    refine ⟨?_, ?_⟩
    · refine int_eq ?_
      omega
    exact (chk_y (k := k) (by simp only; omega) (by simp only; omega) (by simp only; omega) (by simp only; omega) (by assumption) (by simp only; omega)).symm
  refine H.firsts 0 ?_
  clear H
  intro H
  exact H
end Go.Proofs.YtooimjefbdokaaaDoor.Ins
/- Plain facts behind the walks of package leb. -/
set_option maxRecDepth 100000
set_option linter.unusedVariables false
set_option linter.unusedSimpArgs false
namespace Go.Proofs.YtooimjefbdokaaaDoor.Leb
open Go Go.Proofs.YtooimjefbdokaaaDoor.Eng Go.RowKit
theorem byteV_of (c : Nat) (h : c < 256) {x : Int} (hx : x = c) : Value.int .u8 x = byteV (UInt8.ofNat c) := by
  rw [hx, byteV, byte_toNat h]
theorem acc_or (k : IntKind) (acc t i bits : Nat) (hk : k = .u64 ∨ k = .i64) (hb : bits ≤ 64) (hacc : acc < 2 ^ (7 * i)) (hmax : ((acc + t * 2 ^ (7 * i) : Nat) : Int) ≤ k.max) :
    vOr k (acc : Int) ((t * 2 ^ (7 * i) : Nat) : Int) = ((acc + t * 2 ^ (7 * i) : Nat) : Int) := by
  rw [vOr_add k acc _ (7 * i) hacc (Nat.dvd_mul_left _ _) (by omega)]
  omega
theorem acc_step (acc k c bits : Nat) (hb : bits ≤ 64) (hacc : acc < 2 ^ (7 * k)) (h7 : 7 * k < bits) (hbd : acc + c % 128 * 2 ^ (7 * k) < 2 ^ bits) :
    vOr .u64 (acc : Int) (vShl .u64 (vWrap .u64 (vAnd .u8 (c : Int) 127)) ((7 * k : Nat) : Int)) = ((acc + c % 128 * 2 ^ (7 * k) : Nat) : Int) := by
  have h64 : (2 : Nat) ^ bits ≤ 2 ^ 64 := Nat.pow_le_pow_right (by decide) hb
  have e1 : vAnd .u8 (c : Int) 127 = ((c % 128 : Nat) : Int) := by rw [vAnd127]; omega
  rw [e1, wu64 (by omega), vShl_eq _ _ _ (by simp [IntKind.bits]; omega)]
  have e2 : ((c % 128 : Nat) : Int) * 2 ^ (7 * k) = ((c % 128 * 2 ^ (7 * k) : Nat) : Int) := by
    rw [Int.natCast_mul]; norm_cast
  rw [e2, wu64 (by omega)]
  refine acc_or .u64 acc (c % 128) k bits (.inl rfl) hb hacc ?_
  generalize c % 128 * 2 ^ (7 * k) = t at *
  simp [IntKind.max, IntKind.bits, IntKind.signed]; omega
theorem acc_bd {acc k c bits : Nat} (hacc : acc < 2 ^ (7 * k)) (h7 : 7 * k < bits) (hno : ¬ (bits < 7 * k + 7 ∧ c / 2 ^ (bits - 7 * k) ≠ 0)) : acc + c % 128 * 2 ^ (7 * k) < 2 ^ bits := by
  have e : (2 : Nat) ^ bits = 2 ^ (bits - 7 * k) * 2 ^ (7 * k) := by rw [← Nat.pow_add]; congr 1; omega
  have h1 : c % 128 < 2 ^ (bits - 7 * k) := by
    by_cases h : bits < 7 * k + 7
    · have h2 : c / 2 ^ (bits - 7 * k) = 0 := Decidable.byContradiction fun h2 => hno ⟨h, h2⟩
      have := (Nat.div_eq_zero_iff.1 h2).resolve_left (Nat.ne_of_gt (Nat.two_pow_pos _))
      exact Nat.lt_of_le_of_lt (Nat.mod_le _ _) this
    · have : (2 : Nat) ^ 7 ≤ 2 ^ (bits - 7 * k) := Nat.pow_le_pow_right (by decide) (by omega)
      omega
  have h2 : (c % 128 + 1) * 2 ^ (7 * k) ≤ 2 ^ (bits - 7 * k) * 2 ^ (7 * k) := Nat.mul_le_mul_right _ h1
  rw [Nat.add_mul] at h2
  omega
theorem cont_bd {k c bits : Nat} (hb : bits = 32 ∨ bits = 64) (h7 : 7 * k < bits) (hc : 128 ≤ c) (hno : ¬ (bits < 7 * k + 7 ∧ c / 2 ^ (bits - 7 * k) ≠ 0)) : 7 * (k + 1) < bits := by
  by_cases h : bits < 7 * k + 7
  · exfalso
    apply hno
    refine ⟨h, fun h2 => ?_⟩
    have h3 := (Nat.div_eq_zero_iff.1 h2).resolve_left (Nat.ne_of_gt (Nat.two_pow_pos _))
    have : (2 : Nat) ^ (bits - 7 * k) ≤ 2 ^ 7 := Nat.pow_le_pow_right (by decide) (by omega)
    omega
  · omega
theorem acc_next {acc k c : Nat} (hacc : acc < 2 ^ (7 * k)) : acc + c % 128 * 2 ^ (7 * k) < 2 ^ (7 * (k + 1)) := by
  rw [pow_succ7]
  have h2 : (c % 128 + 1) * 2 ^ (7 * k) ≤ 128 * 2 ^ (7 * k) := Nat.mul_le_mul_right _ (by omega)
  rw [Nat.add_mul] at h2
  omega
theorem wrap_i8 {x : Int} (h : 0 ≤ x ∧ x < 256) : vWrap .i8 x = if x < 128 then x else x - 256 := by
  unfold vWrap
  simp [IntKind.wrap, IntKind.bits, IntKind.signed]
  split <;> split <;> omega
theorem sev_walk (c : Nat) (hc : c < 256) : vShr .i64 (vWrap .i64 (vWrap .i8 (vShl .u8 (c : Int) 1))) 1 = sev c := by
  have e1 : vShl .u8 (c : Int) 1 = ((2 * c % 256 : Nat) : Int) := by
    have := vShl_eq .u8 c 1 (by decide)
    rw [show ((1 : Nat) : Int) = 1 from rfl] at this
    rw [this]
    unfold vWrap
    simp [IntKind.wrap, IntKind.bits, IntKind.signed]; omega
  have e2 : vWrap .i8 ((2 * c % 256 : Nat) : Int) = if c % 128 < 64 then ((2 * (c % 128) : Nat) : Int) else ((2 * (c % 128) : Nat) : Int) - 256 := by
    rw [wrap_i8 (by omega)]
    split <;> split <;> omega
  have e3 := vShr_eq .i64 (sev c * 2) 1 (by decide)
  rw [show ((1 : Nat) : Int) = 1 from rfl] at e3
  have e4 : vWrap .i8 ((2 * c % 256 : Nat) : Int) = sev c * 2 := by
    rw [e2]; unfold sev; split <;> omega
  have hs : -64 ≤ sev c ∧ sev c < 64 := by unfold sev; split <;> omega
  rw [e1, e4, wi64 (by omega), e3]
  omega
theorem acc_stepS (acc k c : Nat) (hk : 7 * k < 63) (hacc : acc < 2 ^ (7 * k)) (h63 : acc + c % 128 * 2 ^ (7 * k) < 2 ^ 63) :
    vOr .i64 (acc : Int) (vShl .i64 (vWrap .i64 (vAnd .u8 (c : Int) 127)) ((7 * k : Nat) : Int)) = ((acc + c % 128 * 2 ^ (7 * k) : Nat) : Int) := by
  have e1 : vAnd .u8 (c : Int) 127 = ((c % 128 : Nat) : Int) := by rw [vAnd127]; omega
  rw [e1, wi64 (by omega), vShl_eq _ _ _ (by simp [IntKind.bits]; omega)]
  have e2 : ((c % 128 : Nat) : Int) * 2 ^ (7 * k) = ((c % 128 * 2 ^ (7 * k) : Nat) : Int) := by
    rw [Int.natCast_mul]; norm_cast
  rw [e2, wi64 (by omega)]
  refine acc_or .i64 acc (c % 128) k 64 (.inr rfl) (by decide) hacc ?_
  generalize c % 128 * 2 ^ (7 * k) = t at *
  simp [IntKind.max, IntKind.bits, IntKind.signed]; omega
theorem vOr_i64 (a : Nat) (b : Int) (n : Nat) (ha : a < 2 ^ n) (hn : n ≤ 63) (hb : (2 ^ n : Int) ∣ b) (h1 : -9223372036854775808 ≤ b) (h2 : b ≤ 9223372036854775807) : vOr .i64 (a : Int) b = a + b := by
  obtain ⟨c, rfl⟩ := hb
  have hp : (0 : Int) < 2 ^ n := by exact_mod_cast Nat.two_pow_pos n
  have h64 : (2 : Int) ^ 64 = 2 ^ n * 2 ^ (64 - n) := by rw [← Int.pow_add]; congr 1; omega
  have han : ((2 ^ n : Nat) : Int) = 2 ^ n := by norm_cast
  have ha' : (a : Int) < 2 ^ n := by omega
  have hlt63 : (2 : Int) ^ n ≤ 2 ^ 63 := by exact_mod_cast Nat.pow_le_pow_right (by decide) hn
  unfold vOr
  have ea : (BitVec.ofInt IntKind.i64.bits (a : Int)).toNat = a := by
    have := ofInt_toNat 64 a
    rw [Int.emod_eq_of_lt (by omega) (by omega)] at this
    show (BitVec.ofInt 64 (a : Int)).toNat = a
    omega
  have eb : (((BitVec.ofInt IntKind.i64.bits (2 ^ n * c)).toNat : Nat) : Int) = 2 ^ n * (c % 2 ^ (64 - n)) := by
    have := ofInt_toNat 64 (2 ^ n * c)
    show (((BitVec.ofInt 64 (2 ^ n * c)).toNat : Nat) : Int) = _
    rw [this, h64, Int.mul_emod_mul_of_pos _ _ hp]
  have hp2 : (0 : Int) < 2 ^ (64 - n) := by exact_mod_cast Nat.two_pow_pos _
  have hc0 : 0 ≤ c % 2 ^ (64 - n) := Int.emod_nonneg _ (Int.ne_of_gt hp2)
  obtain ⟨d, hd⟩ := Int.eq_ofNat_of_zero_le hc0
  have eb' : (BitVec.ofInt IntKind.i64.bits (2 ^ n * c)).toNat = 2 ^ n * d := by
    have : (((BitVec.ofInt IntKind.i64.bits (2 ^ n * c)).toNat : Nat) : Int) = ((2 ^ n * d : Nat) : Int) := by
      rw [eb, hd, Int.natCast_mul, han]
    omega
  rw [BitVec.toNat_or, ea, eb', Nat.or_comm, ← Nat.two_pow_add_eq_or_of_lt ha]
  have h3 : ((2 ^ n * d + a : Nat) : Int) = (2 ^ n * c + a) % 2 ^ 64 := by
    rw [Int.natCast_add, Int.natCast_mul, han]
    rw [← hd, ← Int.mul_emod_mul_of_pos _ _ hp, ← h64]
    have h5 : 0 ≤ 2 ^ n * c % 2 ^ 64 := Int.emod_nonneg _ (by decide)
    have h6 : 2 ^ n * c % 2 ^ 64 + a < 2 ^ 64 := by
      rw [h64, Int.mul_emod_mul_of_pos _ _ hp]
      have : c % 2 ^ (64 - n) + 1 ≤ 2 ^ (64 - n) := Int.emod_lt_of_pos _ (by exact_mod_cast Nat.two_pow_pos _)
      have h7 := Int.mul_le_mul_of_nonneg_left this (Int.le_of_lt hp)
      rw [Int.mul_add, Int.mul_one] at h7
      omega
    rw [Int.add_emod, Int.emod_eq_of_lt (a := (a : Int)) (by omega) (by omega), Int.emod_eq_of_lt (by omega) h6]
  have hbnd : 2 ^ n * c + (a : Int) ≤ 9223372036854775807 := by
    by_cases hc : c < 0
    · have : 2 ^ n * c ≤ 2 ^ n * (-1) := Int.mul_le_mul_of_nonneg_left (by omega) (Int.le_of_lt hp)
      omega
    · have h8 : (2 : Int) ^ 63 = 2 ^ n * 2 ^ (63 - n) := by rw [← Int.pow_add]; congr 1; omega
      have h9 : c < 2 ^ (63 - n) := by
        apply Decidable.byContradiction
        intro h
        have h10 := Int.mul_le_mul_of_nonneg_left (Int.not_lt.1 h) (Int.le_of_lt hp)
        rw [← h8] at h10
        omega
      have h11 := Int.mul_le_mul_of_nonneg_left (show c + 1 ≤ 2 ^ (63 - n) from h9) (Int.le_of_lt hp)
      rw [← h8, Int.mul_add, Int.mul_one] at h11
      omega
  rw [h3]
  have h12 : IntKind.i64.wrap ((2 ^ n * c + (a : Int)) % 2 ^ 64) = IntKind.i64.wrap (2 ^ n * c + a) := by
    unfold IntKind.wrap
    rw [show IntKind.i64.bits = 64 from rfl, Int.emod_emod]
  rw [h12]
  have h13 := wi64 (n := 2 ^ n * c + a) ⟨by omega, hbnd⟩
  unfold vWrap at h13
  rw [h13]; omega
end Go.Proofs.YtooimjefbdokaaaDoor.Leb
/- (without the signed half) Package leb: writing. -/
set_option maxRecDepth 100000
set_option maxHeartbeats 4000000
set_option linter.unusedVariables false
set_option linter.unusedSimpArgs false
namespace Go.Proofs.YtooimjefbdokaaaDoor.Leb
open Go Go.Proofs.YtooimjefbdokaaaDoor.Eng Go.RowKit
theorem or128 {x : Nat} (h : x < 128) : x ||| 128 = x + 128 := by
  have := Nat.two_pow_add_eq_or_of_lt (i := 7) h 1
  rw [Nat.mul_one] at this
  rw [Nat.or_comm]
  show 2 ^ 7 ||| x = x + 128
  rw [← this]; omega
end Go.Proofs.YtooimjefbdokaaaDoor.Leb
/- Package leb: writing. -/
set_option maxRecDepth 100000
set_option maxHeartbeats 4000000
set_option linter.unusedVariables false
set_option linter.unusedSimpArgs false
namespace Go.Proofs.YtooimjefbdokaaaDoor.Leb
open Go Go.Proofs.YtooimjefbdokaaaDoor.Eng Go.RowKit
end Go.Proofs.YtooimjefbdokaaaDoor.Leb
/- Package ins: Write. -/
set_option maxRecDepth 100000
set_option maxHeartbeats 4000000
set_option linter.unusedVariables false
set_option linter.unusedSimpArgs false
namespace Go.Proofs.YtooimjefbdokaaaDoor.Ins
open Go Go.Proofs.YtooimjefbdokaaaDoor.Eng Go.RowKit
open Leb
theorem chk_facts {o a b : Int} {to : List Int} (h : chk ⟨o, a, b, to⟩ = 0) : bsd o ≠ 0 ∧ to.length ≤ 16 ∧ (bsd o ≠ 4 → to = []) ∧ (bsd o ≠ 6 → b = 0) ∧ (bsd o = 1 ∨ bsd o = 7 → a = 0) ∧ (bsd o = 2 → a = 64 ∨ a = 127 ∨ a = 126) ∧ (bsd o = 8 → I32 a) ∧ (bsd o = 6 → (0 ≤ a ∧ a ≤ 4294967295) ∧ 0 ≤ b ∧ b ≤ 4294967295) ∧ (bsd o = 3 ∨ bsd o = 4 ∨ bsd o = 5 → 0 ≤ a ∧ a ≤ 4294967295) ∧ ∀ n ∈ to, 0 ≤ n ∧ n ≤ 4294967295 := by
  obtain ⟨h0, h1, h2, h3, h4, h5⟩ := chk_ok h
  simp only at h0 h1 h2 h3 h4 h5
  exact ⟨h0, h1, h2, h3, fun k => (goodK_17 k).1 h4, fun k => (goodK_2 k).1 h4, fun k => (goodK_8 k).1 h4, fun k => (goodK_6 k).1 h4, fun k => (goodK_345 k).1 h4, h5⟩
theorem txt_of {o a b : Int} {to : List Int} {c : UInt8} {t : List UInt8} (hc : byt o = c) (h : txtB (bsd o) ⟨o, a, b, to⟩ = t) : [c] ++ t = txt ⟨o, a, b, to⟩ := by unfold txt; rw [hc, h]; rfl
theorem txt_of0 {o a b : Int} {to : List Int} {c : UInt8} (hc : byt o = c) (h : txtB (bsd o) ⟨o, a, b, to⟩ = []) : [c] = txt ⟨o, a, b, to⟩ := by unfold txt; rw [hc, h]
theorem txtB_2 {k : Int} {x : InsD} (h : k = 2) : txtB k x = [byt x.a] := by subst h; rfl
theorem txtB_3 {k : Int} {x : InsD} (h : k = 3) : txtB k x = uleb x.a.toNat := by subst h; rfl
theorem txtB_4 {k : Int} {x : InsD} (h : k = 4) : txtB k x = uleb x.to.length ++ (x.to.flatMap (fun n => uleb n.toNat) ++ uleb x.a.toNat) := by subst h; rfl
theorem txtB_5 {k : Int} {x : InsD} (h : k = 5) : txtB k x = uleb x.a.toNat ++ [0] := by subst h; rfl
theorem txtB_6 {k : Int} {x : InsD} (h : k = 6) : txtB k x = uleb x.a.toNat ++ uleb x.b.toNat := by subst h; rfl
theorem txtB_7 {k : Int} {x : InsD} (h : k = 7) : txtB k x = [0] := by subst h; rfl
theorem txtB_89 {k : Int} {x : InsD} (h : k = 8 ∨ k = 9) : txtB k x = sleb x.a := by rcases h with rfl | rfl <;> rfl
theorem txtB_n {k : Int} {x : InsD} (h2 : k ≠ 2) (h3 : k ≠ 3) (h4 : k ≠ 4) (h5 : k ≠ 5) (h6 : k ≠ 6) (h7 : k ≠ 7) (h8 : k ≠ 8) (h9 : k ≠ 9) : txtB k x = [] := by
  unfold txtB
  rw [if_neg h2, if_neg h3, if_neg h4, if_neg h5, if_neg h6, if_neg h7, if_neg (by omega)]
theorem flat_takeS {f : Int → List UInt8} {l : List Int} {k : Nat} {x : Int} (hx : l[k]? = some x) : (l.take (k + 1)).flatMap f = (l.take k).flatMap f ++ f x := by
  rw [List.take_add_one, hx, List.flatMap_append]; simp
end Go.Proofs.YtooimjefbdokaaaDoor.Ins
/- Maps from texts to numbers, as functions with a size. -/
set_option maxRecDepth 100000
set_option linter.unusedVariables false
set_option linter.unusedSimpArgs false
namespace Go.Proofs.YtooimjefbdokaaaDoor.Eng
open Go Go.RowKit
/-- What a list of pairs holds at a key. -/
def lk (m : List (List UInt8 × Int)) (k : List UInt8) : Option Int := match m with
  | [] => none
  | p :: r => if p.1 = k then some p.2 else lk r k
abbrev MF := List UInt8 → Option Int
def mf0 : MF := fun _ => none
def upd (f : List UInt8 → Option Int) (k : List UInt8) (o : Option Int) : List UInt8 → Option Int := fun x => if x = k then o else f x
theorem upd_same (f : List UInt8 → Option Int) (k : List UInt8) (o : Option Int) : upd f k o k = o := if_pos rfl
theorem upd_ne (f : List UInt8 → Option Int) {k x : List UInt8} (o : Option Int) (h : x ≠ k) : upd f k o x = f x := if_neg h
def enM (p : List UInt8 × Int) : Value × Value := (.string (bs p.1), .int .i64 p.2)
def kv (e : MapEntry) : Value × Value := (e.key, e.val)
theorem lk_none {m : List (List UInt8 × Int)} {k : List UInt8} : lk m k = none ↔ ∀ p ∈ m, p.1 ≠ k := by
  induction m with
  | nil => simp [lk]
  | cons p r ih =>
    rw [lk]
    split
    · rename_i h; simp [h]
    · rename_i h; rw [ih]; simp [h]
theorem lk_mem {m : List (List UInt8 × Int)} (hn : (m.map (·.1)).Nodup) {k : List UInt8} {v : Int} : lk m k = some v ↔ (k, v) ∈ m := by
  induction m with
  | nil => simp [lk]
  | cons p r ih =>
    rw [List.map_cons, List.nodup_cons] at hn
    rw [lk]
    split
    · rename_i h
      constructor
      · intro e; obtain rfl := Option.some.inj e; rw [← h]; exact List.mem_cons_self ..
      · intro e
        rcases List.mem_cons.1 e with e | e
        · rw [← e]
        · exact absurd (List.mem_map.2 ⟨_, e, rfl⟩) (h ▸ hn.1)
    · rename_i h
      rw [ih hn.2]
      constructor
      · intro e; exact List.mem_cons_of_mem _ e
      · intro e
        rcases List.mem_cons.1 e with e | e
        · exact absurd (by rw [← e]) h
        · exact e
/-- The entry of a key: its place, with nothing of that key ahead of it. -/
theorem lk_at {m : List (List UInt8 × Int)} {k : List UInt8} {v : Int} (h : lk m k = some v) : ∃ j, m[j]? = some (k, v) ∧ ∀ (i : Nat) (p : List UInt8 × Int), i < j → m[i]? = some p → p.1 ≠ k := by
  induction m with
  | nil => cases h
  | cons p r ih =>
    rw [lk] at h
    split at h
    · rename_i e
      obtain rfl := Option.some.inj h
      exact ⟨0, by subst e; rfl, fun i p hi => absurd hi (Nat.not_lt_zero i)⟩
    · rename_i e
      obtain ⟨j, h1, h2⟩ := ih h
      refine ⟨j + 1, h1, fun i q hi hq => ?_⟩
      cases i with
      | zero => obtain rfl := Option.some.inj hq; exact e
      | succ i => exact h2 i q (by omega) hq
theorem findNow_none {k : List UInt8} : ∀ (es : List MapEntry) (m : List (List UInt8 × Int)) (i : Nat), es.map kv = m.map enM → lk m k = none → Instr.findNow .string (.string (bs k)) es i = some none := by
  intro es
  induction es with
  | nil => intro m i _ _; rfl
  | cons e r ih =>
    intro m i he hl
    cases m with
    | nil => cases he
    | cons p m =>
      rw [List.map_cons, List.map_cons] at he
      injection he with h1 h2
      rw [lk] at hl
      split at hl
      · cases hl
      · rename_i hp
        have hk : e.key = .string (bs p.1) := congrArg Prod.fst h1
        have hs : Instr.sameNow .string (.string (bs k)) e.key = some false := by
          rw [hk]
          obtain ⟨r, h1, h2⟩ := MapKept.sameNow_of_keys (d := .string) (a := .string (bs k)) (b := .string (bs p.1)) trivial trivial
          rw [h1]
          cases r with
          | false => rfl
          | true =>
            have := h2.1 rfl
            simp only [Value.string.injEq] at this
            exact absurd (bs_inj this).symm hp
        rw [Instr.findNow, hs]
        exact ih m (i + 1) h2 hl
theorem findNow_some {k : List UInt8} {v : Int} : ∀ (es : List MapEntry) (m : List (List UInt8 × Int)) (i j : Nat), es.map kv = m.map enM → m[j]? = some (k, v) → (∀ (i' : Nat) (p : List UInt8 × Int), i' < j → m[i']? = some p → p.1 ≠ k) → Instr.findNow .string (.string (bs k)) es i = some (some (i + j, .int .i64 v)) := by
  intro es
  induction es with
  | nil =>
    intro m i j he hj _
    cases m with
    | nil => cases hj
    | cons p m => cases he
  | cons e r ih =>
    intro m i j he hj hb
    cases m with
    | nil => cases hj
    | cons p m =>
      rw [List.map_cons, List.map_cons] at he
      injection he with h1 h2
      have hk : e.key = .string (bs p.1) := congrArg Prod.fst h1
      have hv : e.val = .int .i64 p.2 := congrArg Prod.snd h1
      have hs : ∀ b, (k == p.1) = b → Instr.sameNow .string (.string (bs k)) e.key = some b := fun b hb => by
        rw [hk]
        obtain ⟨r, h1, h2⟩ := MapKept.sameNow_of_keys (d := .string) (a := .string (bs k)) (b := .string (bs p.1)) trivial trivial
        rw [h1, ← hb]
        congr 1
        rw [Bool.eq_iff_iff, h2, beq_iff_eq]
        simp only [Value.string.injEq]
        exact ⟨bs_inj, congrArg bs⟩
      cases j with
      | zero =>
        obtain rfl := Option.some.inj hj
        rw [Instr.findNow, hs true (by simp), hv]
        rfl
      | succ j =>
        have hne := hb 0 p (by omega) rfl
        rw [Instr.findNow, hs false (by simpa using fun h => hne h.symm)]
        have := ih m (i + 1) j h2 hj (fun i' q hi hq => hb (i' + 1) q (by omega) hq)
        rw [show i + (j + 1) = i + 1 + j by omega]
        exact this
structure MapOk (es : Array MapEntry) (clock : Nat) (f : List UInt8 → Option Int) (m : List (List UInt8 × Int)) : Prop where
  row : es.toList.map kv = m.map enM
  keys : (m.map (·.1)).Nodup
  lk : ∀ k, lk m k = f k
  born : ∀ e ∈ es.toList, e.born < clock
  apart : (es.toList.map (·.born)).Nodup
/-- A map in block b: what it holds, and how much. -/
def Mp (b : Nat) (f : List UInt8 → Option Int) (n : Nat) : As := fun h => ∃ es clock m, h b = some (.map es clock) ∧ MapOk es clock f m ∧ m.length = n
section
variable {P : Program} {g : Glob} {w w' : World} {l : List As} {f : List UInt8 → Option Int} {n n0 j b p : Nat} {t kt et ty : TypeId} {k : List UInt8} {v : Int}
theorem keyInt : MapKept.IsKey .string (.string (bs k)) := by trivial
theorem Sat.mp (H : Sat g w l) (j : Nat) (hj : l[j]? = some (Mp b f n)) : ∃ es clock m, w.heap[b]? = some (.map es clock) ∧ MapOk es clock f m ∧ m.length = n := by
  obtain ⟨a, ⟨es, clock, m, h1, h2, h3⟩, hs⟩ := H.part hj
  exact ⟨es, clock, m, hs b _ h1, h2, h3⟩
theorem rMakeMap {K : Value → World → Prop} (H : Sat g w l) (h : ∀ b w', Sat g w' (Mp b (fun _ => none) 0 :: l) → K (.map (some b)) w') : RunP P (Instr.makeMap t none) w K := by
  refine ⟨_, w.alloc (.map #[] 0), rfl, h _ _ (H.more ((Below.refl _ _).alloc (Nat.le_refl _) _) (a := fun k => if k = w.heap.size then some (.map #[] 0) else none) ⟨#[], 0, [], if_pos rfl, ⟨rfl, List.nodup_nil, fun _ => rfl, nofun, List.nodup_nil⟩, rfl⟩ (fun k o hk => ?_) fun k hk => if_neg (by omega))⟩
  dsimp only at hk
  split at hk
  · rename_i e; subst e; obtain rfl := Option.some.inj hk; exact heap_alloc_new w _
  · cases hk
theorem Sat.setMp {o : Obj} {A' : As} {es : Array MapEntry} {clock : Nat} {m : List (List UInt8 × Int)} (H : Sat g w l) (j : Nat) (hj : l[j]? = some (Mp b f n)) (hb : w.heap[b]? = some (.map es clock)) (hA : ∀ h : Hp, h b = some o → A' h) : Sat g { w with heap := w.heap.setIfInBounds b o } (l.set j A') := by
  obtain ⟨h1, h2⟩ := MapKept.heap_set (o' := o) hb
  refine H.step hj rfl rfl rfl fun a ha sa => ⟨fun k => if k = b then some o else none, hA _ (if_pos rfl), fun k o' hk => ?_, fun k hk hn => ?_⟩
  · dsimp only at hk
    split at hk
    · rename_i e; subst e; obtain rfl := Option.some.inj hk; exact h1
    · cases hk
  · obtain ⟨es', clock', m', h3, _⟩ := ha
    have hne : k ≠ b := fun e => by subst e; rw [h3] at hn; cases hn
    exact ⟨if_neg hne, h2 k hne⟩
theorem rMapLen {K : Value → World → Prop} (H : Sat g w l) (j : Nat) (hj : l[j]? = some (Mp b f n)) (ht : P.underlying t = some (.map kt et)) (h : K (.int .i64 n) w) : RunP P (Builtin.len_ #[t] ty #[.map (some b)]) w K := by
  obtain ⟨es, clock, m, hb, ok, hn⟩ := H.mp j hj
  refine ⟨_, w, ?_, h⟩
  have e : es.size = n := by
    have := congrArg List.length ok.row
    simpa [hn] using this
  simp [Builtin.len_, run_underlying ht, MapKept.run_getObj_map hb, Result.andThen, e]
  rfl
theorem run_zero {z : Value} (w : World) (hz : (P.info? et).bind (fun i => i.zero) = some z) : (zeroValue et).run P w = .ok z w := by
  cases hi : P.info? et with
  | none => rw [hi] at hz; cases hz
  | some i =>
    rw [hi] at hz
    simp only [Option.bind_some] at hz
    simp [zeroValue, typeInfo, hi, hz]
theorem rMapGet {K : Value → World → Prop} (H : Sat g w l) (j : Nat) (hj : l[j]? = some (Mp b f n)) (ht : P.underlying t = some (.map kt et)) (hk : P.underlying kt = some .string) (hz : (P.info? et).bind (fun i => i.zero) = some (.int .i64 0))
    (h : ∀ x c, ((c = true ∧ f k = some x) ∨ (c = false ∧ f k = none ∧ x = 0)) → K (.tuple #[.int .i64 x, .bool c]) w) : RunP P (Instr.lookup t (.map (some b)) (.string (bs k)) true) w K := by
  obtain ⟨es, clock, m, hb, ok, hn⟩ := H.mp j hj
  have hl := ok.lk k
  cases hf : f k with
  | none =>
    rw [hf] at hl
    have h1 := findNow_none es.toList m 0 ok.row hl
    exact ⟨_, w, by simp [Instr.lookup, run_underlying ht, MapKept.run_getObj_map hb, MapKept.run_checkKey hk keyInt, MapKept.run_findKey hk h1, run_zero w hz, Result.andThen], h 0 false (.inr ⟨rfl, hf, rfl⟩)⟩
  | some x =>
    rw [hf] at hl
    obtain ⟨i, h2, h3⟩ := lk_at hl
    have h1 := findNow_some es.toList m 0 i ok.row h2 h3
    exact ⟨_, w, by simp [Instr.lookup, run_underlying ht, MapKept.run_getObj_map hb, MapKept.run_checkKey hk keyInt, MapKept.run_findKey hk h1, Result.andThen], h x true (.inl ⟨rfl, hf⟩)⟩
theorem rMapGet1 {K : Value → World → Prop} (H : Sat g w l) (j : Nat) (hj : l[j]? = some (Mp b f n)) (ht : P.underlying t = some (.map kt et)) (hk : P.underlying kt = some .string) (hz : (P.info? et).bind (fun i => i.zero) = some (.int .i64 0))
    (h : ∀ x, x = (f k).getD 0 → K (.int .i64 x) w) : RunP P (Instr.lookup t (.map (some b)) (.string (bs k)) false) w K := by
  obtain ⟨es, clock, m, hb, ok, hn⟩ := H.mp j hj
  have hl := ok.lk k
  cases hf : f k with
  | none =>
    rw [hf] at hl
    have h1 := findNow_none es.toList m 0 ok.row hl
    exact ⟨_, w, by simp [Instr.lookup, run_underlying ht, MapKept.run_getObj_map hb, MapKept.run_checkKey hk keyInt, MapKept.run_findKey hk h1, run_zero w hz, Result.andThen], h 0 (by rw [hf]; rfl)⟩
  | some x =>
    rw [hf] at hl
    obtain ⟨i, h2, h3⟩ := lk_at hl
    have h1 := findNow_some es.toList m 0 i ok.row h2 h3
    exact ⟨_, w, by simp [Instr.lookup, run_underlying ht, MapKept.run_getObj_map hb, MapKept.run_checkKey hk keyInt, MapKept.run_findKey hk h1, Result.andThen], h x (by rw [hf]; rfl)⟩
theorem lk_snoc {m : List (List UInt8 × Int)} {k : List UInt8} {v : Int} (h : lk m k = none) (x : List UInt8) : lk (m ++ [(k, v)]) x = if x = k then some v else lk m x := by
  induction m with
  | nil =>
    show (if k = x then some v else none) = _
    by_cases e : x = k
    · rw [if_pos e, if_pos e.symm]
    · rw [if_neg e, if_neg (Ne.symm e)]; rfl
  | cons p r ih =>
    rw [lk] at h
    split at h
    · cases h
    rename_i hp
    rw [List.cons_append, lk, lk]
    by_cases e : p.1 = x
    · rw [if_pos e, if_pos e, if_neg (fun e2 => hp (e.trans e2))]
    · rw [if_neg e, if_neg e]; exact ih h
theorem lk_set {m : List (List UInt8 × Int)} {k : List UInt8} {v v' : Int} {i : Nat} (hn : (m.map (·.1)).Nodup) (h : m[i]? = some (k, v)) (x : List UInt8) : lk (m.set i (k, v')) x = if x = k then some v' else lk m x := by
  induction m generalizing i with
  | nil => cases h
  | cons p r ih =>
    rw [List.map_cons, List.nodup_cons] at hn
    cases i with
    | zero =>
      obtain rfl := Option.some.inj h
      rw [List.set_cons_zero, lk, lk]
      by_cases e : x = k
      · rw [if_pos e, if_pos e.symm]
      · rw [if_neg e, if_neg (fun e2 => e e2.symm), if_neg (fun e2 => e e2.symm)]
    | succ i =>
      rw [List.set_cons_succ, lk, lk]
      have hpk : p.1 ≠ k := fun e => hn.1 (e ▸ List.mem_map.2 ⟨_, List.mem_of_getElem? h, rfl⟩)
      by_cases e : p.1 = x
      · rw [if_pos e, if_pos e, if_neg (fun e2 => hpk (e.trans e2))]
      · rw [if_neg e, if_neg e]; exact ih hn.2 h
theorem lk_del {m : List (List UInt8 × Int)} {k : List UInt8} {v : Int} {i : Nat} (hn : (m.map (·.1)).Nodup) (h : m[i]? = some (k, v)) (x : List UInt8) : lk (m.eraseIdx i) x = if x = k then none else lk m x := by
  induction m generalizing i with
  | nil => cases h
  | cons p r ih =>
    rw [List.map_cons, List.nodup_cons] at hn
    cases i with
    | zero =>
      obtain rfl := Option.some.inj h
      rw [List.eraseIdx_cons_zero, lk]
      by_cases e : x = k
      · rw [if_pos e]
        exact lk_none.2 fun q hq e2 => hn.1 (e ▸ e2 ▸ List.mem_map.2 ⟨q, hq, rfl⟩)
      · rw [if_neg e, if_neg (fun e2 => e e2.symm)]
    | succ i =>
      rw [List.eraseIdx_cons_succ, lk, lk]
      have hpk : p.1 ≠ k := fun e => hn.1 (e ▸ List.mem_map.2 ⟨_, List.mem_of_getElem? h, rfl⟩)
      by_cases e : p.1 = x
      · rw [if_pos e, if_pos e, if_neg (fun e2 => hpk (e.trans e2))]
      · rw [if_neg e, if_neg e]; exact ih hn.2 h
theorem rMapPut {K : World → Prop} (H : Sat g w l) (j : Nat) (hj : l[j]? = some (Mp b f n)) (ht : P.underlying t = some (.map kt et)) (hk : P.underlying kt = some .string)
    (h : ∀ n', n' = (if f k = none then n + 1 else n) → setA l j (Mp b (upd f k (some v)) n') fun l' => ∀ w', Sat g w' l' → K w') : DoP P (Instr.mapUpdate t (.map (some b)) (.string (bs k)) (.int .i64 v)) w K := by
  obtain ⟨es, clock, m, hb, ok, hn⟩ := H.mp j hj
  have hl := ok.lk k
  have h := h _ rfl
  rw [setA_eq] at h
  cases hf : f k with
  | none =>
    rw [hf] at hl
    have h1 := findNow_none es.toList m 0 ok.row hl
    refine ⟨_, by simp [Instr.mapUpdate, run_underlying ht, MapKept.run_getObj_map hb, MapKept.run_checkKey hk keyInt, MapKept.run_findKey hk h1, MapKept.run_setObj_map _ hb, Result.andThen]; rfl, h _ (H.setMp (m := m) j hj hb fun hp e => ⟨_, _, m ++ [(k, v)], e, ⟨?_, ?_, fun x => ?_, ?_, ?_⟩, ?_⟩)⟩
    · rw [Array.toList_push, List.map_append, List.map_append, ok.row]; rfl
    · rw [List.map_append, List.nodup_append]
      refine ⟨ok.keys, by simp, fun a ha c hc e => ?_⟩
      obtain ⟨q, hq, rfl⟩ := List.mem_map.1 ha
      have hc : c = k := by simpa using hc
      exact lk_none.1 hl q hq (e.trans hc)
    · rw [lk_snoc hl]; unfold upd; rw [ok.lk]
    · intro e he
      rw [Array.toList_push] at he
      rcases List.mem_append.1 he with he | he
      · have := ok.born e he; omega
      · obtain rfl : e = _ := by simpa using he
        exact Nat.lt_succ_self _
    · rw [Array.toList_push, List.map_append, List.nodup_append]
      refine ⟨ok.apart, by simp, fun a ha c hc e => ?_⟩
      obtain ⟨q, hq, rfl⟩ := List.mem_map.1 ha
      have hc : c = clock := by simpa using hc
      have := ok.born q hq
      omega
    · rw [List.length_append, hn, if_pos hf]; rfl
  | some x =>
    rw [hf] at hl
    obtain ⟨i, h2, h3⟩ := lk_at hl
    have h1 := findNow_some es.toList m 0 i ok.row h2 h3
    rw [Nat.zero_add] at h1
    have hil : i < es.size := by
      have := congrArg List.length ok.row
      have := (List.getElem?_eq_some_iff.1 h2).1
      simp at *; omega
    have hei : kv es[i] = enM (k, x) := by
      have := congrArg (·[i]?) ok.row
      simp only [List.getElem?_map, h2, Option.map_some, Array.getElem?_toList, Array.getElem?_eq_getElem hil] at this
      exact Option.some.inj this
    have hke : es[i].key = .string (bs k) := congrArg Prod.fst hei
    have hmod : (es.modify i fun e => { e with key := .string (bs k), val := .int .i64 v }).toList = es.toList.set i { es[i] with key := .string (bs k), val := .int .i64 v } := by
      rw [Array.toList_modify]
      apply List.ext_getElem?
      intro q
      rw [List.getElem?_modify, List.getElem?_set]
      split
      · rename_i e
        subst e
        simp [hil]
      · simp
    refine ⟨_, by simp [Instr.mapUpdate, run_underlying ht, MapKept.run_getObj_map hb, MapKept.run_checkKey hk keyInt, MapKept.run_findKey hk h1, hil, hke, MapKept.run_keyThatStays (d := .string) keyInt, MapKept.run_setObj_map _ hb, Result.andThen]; rfl, h _ (H.setMp (m := m) j hj hb fun hp e => ⟨_, _, m.set i (k, v), e, ⟨?_, ?_, fun y => ?_, ?_, ?_⟩, ?_⟩)⟩
    · rw [hmod, List.map_set, List.map_set, ok.row]; rfl
    · rw [List.map_set]
      have : (m.map (·.1)).set i k = m.map (·.1) := by
        apply List.ext_getElem?
        intro q
        rw [List.getElem?_set]
        split
        · rename_i e
          subst e
          rw [if_pos (by simpa using (List.getElem?_eq_some_iff.1 h2).1), List.getElem?_map, h2]; rfl
        · rfl
      rw [this]; exact ok.keys
    · rw [lk_set ok.keys h2]; unfold upd; rw [ok.lk]
    · intro e he
      rw [hmod] at he
      rcases List.mem_or_eq_of_mem_set he with he | he
      · exact ok.born e he
      · rw [he]; exact ok.born es[i] (by simp)
    · rw [hmod, List.map_set]
      have : (es.toList.map (·.born)).set i es[i].born = es.toList.map (·.born) := by
        apply List.ext_getElem?
        intro q
        rw [List.getElem?_set]
        split
        · rename_i e
          subst e
          simp [hil]
        · rfl
      show ((es.toList.map (·.born)).set i es[i].born).Nodup
      rw [this]; exact ok.apart
    · rw [List.length_set, hn, if_neg (by rw [hf]; nofun)]
theorem rMapDel {K : Value → World → Prop} {kt2 : TypeId} (H : Sat g w l) (j : Nat) (hj : l[j]? = some (Mp b f n)) (ht : P.underlying t = some (.map kt et)) (hk : P.underlying kt = some .string)
    (h : ∀ n', n' = (if f k = none then n else n - 1) → setA l j (Mp b (upd f k none) n') fun l' => ∀ w', Sat g w' l' → K (.tuple #[]) w') : RunP P (Builtin.delete_ #[t, kt2] ty #[.map (some b), .string (bs k)]) w K := by
  obtain ⟨es, clock, m, hb, ok, hn⟩ := H.mp j hj
  have hl := ok.lk k
  have h := h _ rfl
  rw [setA_eq] at h
  cases hf : f k with
  | none =>
    rw [hf] at hl
    have h1 := findNow_none es.toList m 0 ok.row hl
    refine ⟨_, _, by simp [Builtin.delete_, run_underlying ht, MapKept.run_getObj_map hb, MapKept.run_checkKey hk keyInt, MapKept.run_findKey hk h1, MapKept.run_setObj_map _ hb, Result.andThen], h _ (H.setMp (m := m) j hj hb fun hp e => ⟨_, _, m, e, ⟨ok.row, ok.keys, fun x => ?_, ok.born, ok.apart⟩, ?_⟩)⟩
    · unfold upd
      split
      · rename_i e; rw [e]; exact hl
      · exact ok.lk x
    · rw [hn, if_pos hf]
  | some x =>
    rw [hf] at hl
    obtain ⟨i, h2, h3⟩ := lk_at hl
    have h1 := findNow_some es.toList m 0 i ok.row h2 h3
    rw [Nat.zero_add] at h1
    have hsub : (es.eraseIdxIfInBounds i).toList = es.toList.eraseIdx i := by simp
    refine ⟨_, _, by simp [Builtin.delete_, run_underlying ht, MapKept.run_getObj_map hb, MapKept.run_checkKey hk keyInt, MapKept.run_findKey hk h1, MapKept.run_setObj_map _ hb, Result.andThen]; rfl, h _ (H.setMp (m := m) j hj hb fun hp e => ⟨_, _, m.eraseIdx i, e, ⟨?_, ?_, fun x => ?_, ?_, ?_⟩, ?_⟩)⟩
    · rw [hsub, ChangeMaps.map_eraseIdx, ChangeMaps.map_eraseIdx, ok.row]
    · rw [ChangeMaps.map_eraseIdx]; exact (List.eraseIdx_sublist _ _).nodup ok.keys
    · rw [lk_del ok.keys h2]; unfold upd; rw [ok.lk]
    · intro e he
      rw [hsub] at he
      exact ok.born e ((List.eraseIdx_sublist _ _).subset he)
    · rw [hsub, ChangeMaps.map_eraseIdx]; exact (List.eraseIdx_sublist _ _).nodup ok.apart
    · rw [if_neg (by rw [hf]; nofun), List.length_eraseIdx, if_pos (List.getElem?_eq_some_iff.1 h2).1, hn]
theorem rMapGetY {K : Value → World → Prop} {x : Int} (H : Sat g w l) (j : Nat) (hj : l[j]? = some (Mp b f n)) (hf : f k = some x) (ht : P.underlying t = some (.map kt et)) (hk : P.underlying kt = some .string) (hz : (P.info? et).bind (fun i => i.zero) = some (.int .i64 0))
    (h : K (.tuple #[.int .i64 x, .bool true]) w) : RunP P (Instr.lookup t (.map (some b)) (.string (bs k)) true) w K :=
  rMapGet H j hj ht hk hz fun y c hc => by
    rcases hc with ⟨rfl, h2⟩ | ⟨rfl, h2, _⟩
    · rw [hf] at h2; obtain rfl := Option.some.inj h2; exact h
    · rw [hf] at h2; cases h2
theorem rMapGetN {K : Value → World → Prop} (H : Sat g w l) (j : Nat) (hj : l[j]? = some (Mp b f n)) (hf : f k = none) (ht : P.underlying t = some (.map kt et)) (hk : P.underlying kt = some .string) (hz : (P.info? et).bind (fun i => i.zero) = some (.int .i64 0))
    (h : K (.tuple #[.int .i64 0, .bool false]) w) : RunP P (Instr.lookup t (.map (some b)) (.string (bs k)) true) w K :=
  rMapGet H j hj ht hk hz fun y c hc => by
    rcases hc with ⟨rfl, h2⟩ | ⟨rfl, h2, rfl⟩
    · rw [hf] at h2; cases h2
    · exact h
theorem rMapGetY1 {K : Value → World → Prop} {x : Int} (H : Sat g w l) (j : Nat) (hj : l[j]? = some (Mp b f n)) (hf : f k = some x) (ht : P.underlying t = some (.map kt et)) (hk : P.underlying kt = some .string) (hz : (P.info? et).bind (fun i => i.zero) = some (.int .i64 0))
    (h : K (.int .i64 x) w) : RunP P (Instr.lookup t (.map (some b)) (.string (bs k)) false) w K :=
  rMapGet1 H j hj ht hk hz fun y hy => by rw [hf] at hy; obtain rfl : y = x := hy; exact h
theorem rMapGetN1 {K : Value → World → Prop} (H : Sat g w l) (j : Nat) (hj : l[j]? = some (Mp b f n)) (hf : f k = none) (ht : P.underlying t = some (.map kt et)) (hk : P.underlying kt = some .string) (hz : (P.info? et).bind (fun i => i.zero) = some (.int .i64 0))
    (h : K (.int .i64 0) w) : RunP P (Instr.lookup t (.map (some b)) (.string (bs k)) false) w K :=
  rMapGet1 H j hj ht hk hz fun y hy => by rw [hf] at hy; obtain rfl : y = 0 := hy; exact h
theorem cgMp {f' : List UInt8 → Option Int} {n' : Nat} (h1 : f = f') (h2 : n = n') : Mp b f n = Mp b f' n' := by rw [h1, h2]
end
end Go.Proofs.YtooimjefbdokaaaDoor.Eng
/- What every row's proof of this seat shares. -/
namespace Go.Proofs.YtooimjefbdokaaaDoor.Row
theorem own : ownKnob Tryd.prog.godebug = none := by kernel_rfl
theorem laidOut : laidOutB Tryd.prog = true := by kernel_rfl
end Go.Proofs.YtooimjefbdokaaaDoor.Row
set_option maxRecDepth 100000
namespace Go.Proofs.YtooimjefbdokaaaDoor.Eng
open Go
theorem open_bs {s : ByteArray} (h : s.size ≤ maxLen) : ∃ l, s = bs l ∧ l.length ≤ 9223372036854775807 ∧ l = s.data.toList := by
  refine ⟨s.data.toList, bs_of s, ?_, rfl⟩
  have : s.size = s.data.toList.length := by rw [Array.length_toList]; rfl
  unfold maxLen at h
  omega
theorem bd_wf {k : IntKind} {a : Int} (h : (Lit.int k a).wf = true) : k.min ≤ a ∧ a ≤ k.max := by
  simpa [Lit.wf] using h
theorem bd_u64 {a : Int} (h : (Lit.int .u64 a).wf = true) : 0 ≤ a ∧ a ≤ 18446744073709551615 := bd_wf h
theorem bd_i64 {a : Int} (h : (Lit.int .i64 a).wf = true) : -9223372036854775808 ≤ a ∧ a ≤ 9223372036854775807 := bd_wf h
theorem bd_u32 {a : Int} (h : (Lit.int .u32 a).wf = true) : 0 ≤ a ∧ a ≤ 4294967295 := bd_wf h
theorem bd_i32 {a : Int} (h : (Lit.int .i32 a).wf = true) : -2147483648 ≤ a ∧ a ≤ 2147483647 := bd_wf h
theorem bd_u8 {a : Int} (h : (Lit.int .u8 a).wf = true) : 0 ≤ a ∧ a ≤ 255 := bd_wf h
end Go.Proofs.YtooimjefbdokaaaDoor.Eng
/- Arguments that are slices, of flat elements or of slices again: opened. -/
set_option linter.unusedVariables false
namespace Go.Proofs.YtooimjefbdokaaaDoor.Eng
open Go Go.RowKit
/-- The kinds of a cell. -/
inductive Lk where
  | int (k : IntKind)
  | bool
  | str
def fitL : Lk → Value → Prop
  | .int k, v => ∃ n, v = .int k n ∧ k.min ≤ n ∧ n ≤ k.max
  | .bool, v => ∃ b, v = .bool b
  | .str, v => ∃ l, v = .string (bs l) ∧ l.length ≤ 9223372036854775807
def fitsL : List Lk → List Value → Prop
  | [], cs => cs = []
  | k :: ks, cs => ∃ v r, cs = v :: r ∧ fitL k v ∧ fitsL ks r
def leafSz : Value → Nat
  | .string s => s.size
  | _ => 0
def cellsSz (cs : List Value) : Nat := (cs.map leafSz).sum
def flatFs (P : Program) (rec : TypeId → Option (List Lk)) : Nat → List Field → Option (List Lk)
  | _, [] => some []
  | off, f :: fs => match rec f.type with
    | none => none
    | some ks => if f.offset = off ∧ ks.length = P.cellsOf f.type then match flatFs P rec (off + ks.length) fs with
      | none => none
      | some r => some (ks ++ r)
      else none
def flatK (P : Program) : Nat → TypeId → Option (List Lk)
  | 0, _ => none
  | n + 1, t => match P.underlying t with
    | some (.int k) => some [.int k]
    | some .bool => some [.bool]
    | some .string => some [.str]
    | some (.struct fs) => match flatFs P (flatK P n) 0 fs.toList with
      | some ks => if ks.length = P.cellsOf t then some ks else none
      | none => none
    | some (.array m e) => match flatK P n e with
      | some ks => if ks.length = P.cellsOf e ∧ m * ks.length = P.cellsOf t then some (List.replicate m ks).flatten else none
      | none => none
    | _ => none
theorem fitsL_append {k1 k2 : List Lk} {c1 c2 : List Value} (h1 : fitsL k1 c1) (h2 : fitsL k2 c2) : fitsL (k1 ++ k2) (c1 ++ c2) := by
  induction k1 generalizing c1 with
  | nil => obtain rfl : c1 = [] := h1; exact h2
  | cons k ks ih => obtain ⟨v, r, rfl, hv, hr⟩ := h1; exact ⟨v, r ++ c2, rfl, hv, ih hr⟩
theorem fitsL_length {ks : List Lk} {cs : List Value} (h : fitsL ks cs) : cs.length = ks.length := by
  induction ks generalizing cs with
  | nil => obtain rfl : cs = [] := h; rfl
  | cons k ks ih => obtain ⟨v, r, rfl, hv, hr⟩ := h; simp [ih hr]
theorem cellsSz_append (a b : List Value) : cellsSz (a ++ b) = cellsSz a + cellsSz b := by simp [cellsSz]
section
variable {H : Type} {enc : TypeId × Value → H} {P : Program} {w : World} {base : Nat} {sp : Nat → Bool} {held : Bool}
theorem bulk_pos (d : DataW H) : 1 ≤ Rows.uptoBulk d := by
  cases d with
  | lit l => cases l <;> simp [Rows.uptoBulk]
  | _ => simp [Rows.uptoBulk]
theorem bulkAll_append (a b : List (DataW H)) : Rows.uptoBulkAll (a ++ b) = Rows.uptoBulkAll a + Rows.uptoBulkAll b := by
  induction a with
  | nil => simp [Rows.uptoBulkAll]
  | cons x r ih => simp [Rows.uptoBulkAll, ih]; omega
theorem flatK_open (n : Nat) : ∀ {fuel : Nat} {t : TypeId} {cs : List Value} {x : DataW H × List MemPlace} {ks : List Lk}, flatK P n t = some ks → DataW.trod enc P w base sp held fuel t cs = some x → fitsL ks cs ∧ cellsSz cs + 1 ≤ Rows.uptoBulk x.1 := by
  induction n with
  | zero => intro _ _ _ _ _ h; cases h
  | succ n ih =>
    intro fuel t cs x ks hf h
    unfold flatK at hf
    split at hf
    · rename_i k hu
      obtain rfl := Option.some.inj hf
      obtain ⟨m, rfl, rfl, hw⟩ := DataW.trod_int hu h
      have := bd_wf hw
      exact ⟨⟨_, _, rfl, ⟨m, rfl, this.1, this.2⟩, rfl⟩, by simp [cellsSz, leafSz, Rows.uptoBulk]⟩
    · rename_i hu
      obtain rfl := Option.some.inj hf
      obtain ⟨b, rfl, rfl⟩ := DataW.trod_bool hu h
      exact ⟨⟨_, _, rfl, ⟨b, rfl⟩, rfl⟩, by simp [cellsSz, leafSz, Rows.uptoBulk]⟩
    · rename_i hu
      obtain rfl := Option.some.inj hf
      obtain ⟨s, rfl, rfl, hs⟩ := DataW.trod_string hu h
      obtain ⟨l, rfl, hl, e⟩ := open_bs hs
      refine ⟨⟨_, _, rfl, ⟨l, rfl, hl⟩, rfl⟩, ?_⟩
      simp [cellsSz, leafSz, Rows.uptoBulk, bs_size, ← e]
    · rename_i fs hu
      split at hf
      · rename_i ks' hks
        split at hf
        · rename_i hlen
          obtain rfl := Option.some.inj hf
          obtain ⟨xs, m, rfl, rfl, hcl, hxl, hel⟩ := DataW.trod_struct hu h
          have key : ∀ (l : List Field) (i off : Nat) (ks : List Lk), (∀ j f, l[j]? = some f → DataW.trod enc P w base sp held m f.type ((cs.drop f.offset).take (P.cellsOf f.type)) = xs[i + j]?) → i + l.length = xs.length →
              flatFs P (flatK P n) off l = some ks → off + ks.length = cs.length → fitsL ks (cs.drop off) ∧ cellsSz (cs.drop off) ≤ Rows.uptoBulkAll ((xs.drop i).map (·.1)) := by
            intro l
            induction l with
            | nil =>
              intro i off ks hj hil hfs hl
              unfold flatFs at hfs
              obtain rfl := Option.some.inj hfs
              rw [List.drop_eq_nil_of_le (by simp at hl; omega)]
              exact ⟨rfl, by simp [cellsSz]⟩
            | cons f l ihl =>
              intro i off ks hj hil hfs hl
              unfold flatFs at hfs
              split at hfs
              · cases hfs
              · rename_i kf hkf
                split at hfs
                · rename_i hoff
                  split at hfs
                  · cases hfs
                  · rename_i kr hkr
                    obtain rfl := Option.some.inj hfs
                    rw [List.length_append] at hl
                    have h0 := hj 0 f rfl
                    rw [Nat.add_zero] at h0
                    have hi : i < xs.length := by simp at hil; omega
                    rw [List.getElem?_eq_getElem hi, hoff.1, ← hoff.2] at h0
                    obtain ⟨a1, a2⟩ := ih hkf h0
                    obtain ⟨b1, b2⟩ := ihl (i + 1) (off + kf.length) kr (fun j g hg => by have := hj (j + 1) g hg; rwa [show i + (j + 1) = i + 1 + j by omega] at this) (by simp at hil; omega) hkr (by omega)
                    have e : cs.drop off = (cs.drop off).take kf.length ++ cs.drop (off + kf.length) := by rw [← List.drop_drop, List.take_append_drop]
                    rw [e]
                    refine ⟨fitsL_append a1 b1, ?_⟩
                    rw [cellsSz_append, List.drop_eq_getElem_cons hi]
                    simp only [List.map_cons, Rows.uptoBulkAll]
                    omega
                · cases hfs
          have := key fs.toList 0 0 ks' (fun j f hf => by have := hel j f (by simpa using hf); rwa [Nat.zero_add]) (by simp [hxl]) hks (by omega)
          simp only [List.drop_zero] at this
          refine ⟨this.1, ?_⟩
          simp only [Rows.uptoBulk]
          omega
        · cases hf
      · cases hf
    · rename_i m e hu
      split at hf
      · rename_i ks' hks
        split at hf
        · rename_i hlen
          obtain rfl := Option.some.inj hf
          obtain ⟨xs, fm, rfl, rfl, hcl, hxl, hel⟩ := DataW.trod_array hu h
          have key : ∀ (j i : Nat), i + j = m → fitsL (List.replicate j ks').flatten (cs.drop (i * ks'.length)) ∧ cellsSz (cs.drop (i * ks'.length)) ≤ Rows.uptoBulkAll ((xs.drop i).map (·.1)) := by
            intro j
            induction j with
            | zero =>
              intro i hij
              rw [List.drop_eq_nil_of_le (by rw [hcl, ← hlen.2, show i = m by omega]; exact Nat.le_refl _)]
              exact ⟨rfl, by simp [cellsSz]⟩
            | succ j ihj =>
              intro i hij
              have hi : i < xs.length := by omega
              have h0 := hel i (by omega)
              rw [List.getElem?_eq_getElem hi, ← hlen.1] at h0
              obtain ⟨a1, a2⟩ := ih hks h0
              obtain ⟨b1, b2⟩ := ihj (i + 1) (by omega)
              have e1 : cs.drop (i * ks'.length) = (cs.drop (i * ks'.length)).take ks'.length ++ cs.drop ((i + 1) * ks'.length) := by
                rw [Nat.succ_mul, ← List.drop_drop, List.take_append_drop]
              rw [e1, List.replicate_succ, List.flatten_cons]
              refine ⟨fitsL_append a1 b1, ?_⟩
              rw [cellsSz_append, List.drop_eq_getElem_cons hi]
              simp only [List.map_cons, Rows.uptoBulkAll]
              omega
          have := key m 0 (by omega)
          simp only [Nat.zero_mul, List.drop_zero] at this
          refine ⟨this.1, ?_⟩
          simp only [Rows.uptoBulk]
          omega
        · cases hf
      · cases hf
    · cases hf
/-! ## Slices -/
/-- What a type's readings give: a reading of the cells as a thing, of no more than so much. -/
def OpensT (enc : TypeId × Value → H) (P : Program) (w : World) (sp : Nat → Bool) (held : Bool) {α : Type} (t : TypeId) (R : Hv → List Value → α → Prop) (sz : α → Nat) : Prop :=
  ∀ {fuel : Nat} {cs : List Value} {x : DataW H × List MemPlace}, DataW.trod enc P w 0 sp held fuel t cs = some x → ∃ a, R (Rg w 0 w.heap.size) cs a ∧ sz a ≤ Rows.uptoBulk x.1
theorem choose_list {α : Type} {n : Nat} {p : Nat → α → Prop} (h : ∀ i, i < n → ∃ x, p i x) : ∃ l : List α, l.length = n ∧ ∀ i x, l[i]? = some x → p i x := by
  induction n with
  | zero => exact ⟨[], rfl, fun i x hx => by simp at hx⟩
  | succ n ih =>
    obtain ⟨l, hl, hp⟩ := ih (fun i hi => h i (by omega))
    obtain ⟨x, hx⟩ := h n (by omega)
    refine ⟨l ++ [x], by simp [hl], fun i y hy => ?_⟩
    by_cases hi : i < n
    · rw [List.getElem?_append_left (by omega)] at hy; exact hp i y hy
    · rw [List.getElem?_append_right (by omega)] at hy
      have : i = n := by
        have := (List.getElem?_eq_some_iff.1 hy).1
        simp at this; omega
      subst this
      rw [hl, Nat.sub_self] at hy
      obtain rfl := Option.some.inj hy
      exact hx
theorem sum_le {α : Type} (sz : α → Nat) : ∀ (xs : List α) (ds : List (DataW H)), xs.length = ds.length → (∀ (i : Nat) (x : α) (d : DataW H), xs[i]? = some x → ds[i]? = some d → sz x ≤ Rows.uptoBulk d) → (xs.map sz).sum ≤ Rows.uptoBulkAll ds := by
  intro xs
  induction xs with
  | nil => intro ds _ _; simp
  | cons x xs ih =>
    intro ds hl h
    cases ds with
    | nil => simp at hl
    | cons d ds =>
      have h0 := h 0 x d rfl rfl
      have := ih ds (by simpa using hl) (fun i y e hy he => h (i + 1) y e hy he)
      simp only [List.map_cons, List.sum_cons, Rows.uptoBulkAll]
      omega
theorem len_le_bulk (ds : List (DataW H)) : ds.length ≤ Rows.uptoBulkAll ds := by
  induction ds with
  | nil => simp
  | cons d ds ih => have := bulk_pos d; simp only [List.length_cons, Rows.uptoBulkAll]; omega
/-- A slice of things that are read, read. -/
theorem open_sl {α : Type} {t e : TypeId} {R : Hv → List Value → α → Prop} {sz : α → Nat} (s : Nat) (hs : P.cellsOf e = s) (hs0 : 0 < s) (ht : P.underlying t = some (.slice e)) (he : OpensT enc P w sp held e R sz) :
    OpensT enc P w sp held t (fun H cs xs => ∃ v, cs = [v] ∧ SlR R s H v xs) (fun xs => (xs.map sz).sum + 1 + 0 * xs.length) ∧
    (∀ {fuel : Nat} {v : Value} {x : DataW H × List MemPlace}, DataW.trod enc P w 0 sp held fuel t [v] = some x → ∃ xs : List α, SlR R s (Rg w 0 w.heap.size) v xs ∧ (xs.map sz).sum + 1 ≤ Rows.uptoBulk x.1 ∧ xs.length + 1 ≤ Rows.uptoBulk x.1 ∧ (∀ r : Nat, ((DataW.weights P t x.1).all (· ≤ r)) = true → xs.length * P.bytesOf e ≤ r)) := by
  have main : ∀ {fuel : Nat} {cs : List Value} {x : DataW H × List MemPlace}, DataW.trod enc P w 0 sp held fuel t cs = some x → ∃ (v : Value) (xs : List α), cs = [v] ∧ SlR R s (Rg w 0 w.heap.size) v xs ∧ (xs.map sz).sum + 1 ≤ Rows.uptoBulk x.1 ∧ xs.length + 1 ≤ Rows.uptoBulk x.1 ∧ (∀ r : Nat, ((DataW.weights P t x.1).all (· ≤ r)) = true → xs.length * P.bytesOf e ≤ r) := by
    intro fuel cs x h
    rcases DataW.trod_slice ht h with ⟨rfl, rfl⟩ | ⟨a, len, cap, elems, rest, n, rfl, rfl, rfl, hb, hlc, hcm, hel, hat, _, _⟩
    · exact ⟨_, [], rfl, SlR.nil _ _ _, by simp [Rows.uptoBulk], by simp [Rows.uptoBulk], fun r _ => by simp⟩
    · have hx : ∀ i, i < len → ∃ y : α, ∃ ci, w.cells? 0 (a.add (i * s)) s = some ci ∧ R (Rg w 0 w.heap.size) ci y ∧ ∀ d, (elems.map (·.1))[i]? = some d → sz y ≤ Rows.uptoBulk d := by
        intro i hi
        have h0 := hat i hi
        rw [hs, List.getElem?_eq_getElem (by omega), Option.bind_eq_some_iff] at h0
        obtain ⟨ci, h1, h2⟩ := h0
        obtain ⟨y, h3, h4⟩ := he h2
        refine ⟨y, ci, h1, h3, fun d hd => ?_⟩
        rw [List.getElem?_map, List.getElem?_eq_getElem (by omega)] at hd
        obtain rfl := Option.some.inj hd
        exact h4
      obtain ⟨xs, hxl, hxs⟩ := choose_list hx
      have hml : xs.length = (elems.map (·.1)).length := by simp; omega
      have hsum := sum_le sz xs (elems.map (·.1)) hml (fun i y d hy hd => by obtain ⟨ci, _, _, h⟩ := hxs i y hy; exact h d hd)
      have hlb := len_le_bulk (elems.map (·.1))
      refine ⟨_, xs, rfl, ?_, by simp only [Rows.uptoBulk]; omega, by simp only [Rows.uptoBulk]; rw [hml]; omega, fun r hr => ?_⟩
      rotate_left
      · simp only [DataW.weights, ht, List.all_cons, Bool.and_eq_true, decide_eq_true_eq, List.length_map] at hr
        refine Nat.le_trans (Nat.mul_le_mul_right _ ?_) hr.1
        omega
      refine ⟨some a, cap, by rw [hxl], by unfold maxLen at hcm; omega, (fun h => by cases h), fun hne => ?_⟩
      have hlen : 0 < len := by
        rw [← hxl]; exact List.length_pos_iff.2 hne
      obtain ⟨y0, hy0⟩ : ∃ y, xs[0]? = some y := ⟨xs[0], List.getElem?_eq_getElem (by omega)⟩
      obtain ⟨c0, hc0, _, _⟩ := hxs 0 y0 hy0
      obtain ⟨b, o, spot⟩ := a
      have hcells : ∀ i ci, w.cells? 0 ((⟨b, o, spot⟩ : Addr).add (i * s)) s = some ci → ci.length = s ∧ ∀ j, j < s → w.cell? (((⟨b, o, spot⟩ : Addr).add (i * s)).add j) = ci[j]? := fun i ci h => by
        have := World.cells?_some h
        exact ⟨this.2.1, this.2.2⟩
      have hspot : spot = none := by
        have h1 := (hcells 0 c0 hc0).2 0 hs0
        have hc0l := (hcells 0 c0 hc0).1
        rw [List.getElem?_eq_getElem (by omega)] at h1
        simp only [Nat.zero_mul] at h1
        cases spot with
        | none => rfl
        | some q =>
          exfalso
          simp only [Addr.add, if_true, World.cell?] at h1
          split at h1 <;> simp at h1
      subst hspot
      have hblk : ∃ C ty fz, w.heap[b]? = some (.cells C ty fz) := by
        have h1 := (hcells 0 c0 hc0).2 0 hs0
        have hc0l := (hcells 0 c0 hc0).1
        rw [List.getElem?_eq_getElem (by omega)] at h1
        simp only [Nat.zero_mul, Addr.add, if_true, World.cell?] at h1
        split at h1
        · rename_i C ty fz hh; exact ⟨C, ty, fz, hh⟩
        · cases h1
      obtain ⟨C, ty, fz, hC⟩ := hblk
      have hcell : ∀ k, w.cell? ⟨b, k, none⟩ = C[k]? := fun k => by simp [World.cell?, hC]
      have hin : ∀ i, i < len → ∀ j, j < s → ∀ y ci, xs[i]? = some y → w.cells? 0 ((⟨b, o, none⟩ : Addr).add (i * s)) s = some ci → C[o + i * s + j]? = ci[j]? := fun i hi j hj y ci hy hci => by
        have := (hcells i ci hci).2 j hj
        rw [Addr.add_lit, Addr.add_lit, hcell] at this
        exact this
      have hCl : o + len * s ≤ C.size := by
        obtain ⟨y, hy⟩ : ∃ y, xs[len - 1]? = some y := ⟨xs[len - 1], List.getElem?_eq_getElem (by omega)⟩
        obtain ⟨ci, hci, _, _⟩ := hxs (len - 1) y hy
        have h1 := hin (len - 1) (by omega) (s - 1) (by omega) y ci hy hci
        have hl := (hcells (len - 1) ci hci).1
        rw [List.getElem?_eq_getElem (by omega)] at h1
        have h2 := (Array.getElem?_eq_some_iff.1 h1).1
        have e : len * s = (len - 1) * s + s := by rw [← Nat.succ_mul]; congr 1; omega
        omega
      refine ⟨b, o, (C.toList.drop o).take (len * s), rfl, ⟨C, ty, fz, ⟨Nat.zero_le _, (Array.getElem?_eq_some_iff.1 hC).1, hC⟩, fun i v hv => ?_⟩, ?_, fun i y hy => ?_⟩
      · rw [List.getElem?_take] at hv
        split at hv
        · rw [List.getElem?_drop] at hv; simpa using hv
        · cases hv
      · simp [hxl]; omega
      · obtain ⟨ci, hci, hR, _⟩ := hxs i y hy
        have hi : i < len := by rw [← hxl]; exact (List.getElem?_eq_some_iff.1 hy).1
        have hl := (hcells i ci hci).1
        have e : (((C.toList.drop o).take (len * s)).drop (i * s)).take s = ci := by
          apply List.ext_getElem?
          intro j
          rw [List.getElem?_take]
          split
          · rename_i hj
            have hle : i * s + s ≤ len * s := by rw [← Nat.succ_mul]; exact Nat.mul_le_mul_right _ hi
            rw [List.getElem?_drop, List.getElem?_take, if_pos (by omega), List.getElem?_drop, ← hin i hi j hj y ci hy hci, Nat.add_assoc]
            simp
          · rw [List.getElem?_eq_none (by omega)]
        rw [e]; exact hR
  refine ⟨fun {fuel cs x} h => ?_, fun {fuel v x} h => ?_⟩
  · obtain ⟨v, xs, h1, h2, h3, _⟩ := main h
    exact ⟨xs, ⟨v, h1, h2⟩, by simp only [Nat.zero_mul, Nat.add_zero]; exact h3⟩
  · obtain ⟨v', xs, h1, h2, h3, h4, h5⟩ := main h
    obtain rfl : v = v' := by simpa using h1
    exact ⟨xs, h2, h3, h4, h5⟩
theorem open_flat {α : Type} {t : TypeId} {ks : List Lk} (n : Nat) (hf : flatK P n t = some ks) {en : α → List Value} {ok : α → Prop} (h : ∀ cs, fitsL ks cs → ∃ x, cs = en x ∧ ok x) : OpensT enc P w sp held t (RE en ok) (fun x => cellsSz (en x) + 1) := by
  intro fuel cs x hx
  obtain ⟨h1, h2⟩ := flatK_open n hf hx
  obtain ⟨a, rfl, ha⟩ := h cs h1
  exact ⟨a, ⟨rfl, ha⟩, h2⟩
/-! ## A law's arguments -/
theorem arg_struct {r : Reach} {b0 : Nat} {t : TypeId} {fs : Array Field} {ks : List Lk} {v : Value} {d : DataW H} {ps : List MemPlace} (ht : P.underlying t = some (.struct fs)) (n : Nat) (hf : flatK P n t = some ks) (hval : Value.okWide P w r b0 t v) (h : DataW.Trod enc P w base sp held t v d ps) :
    ∃ cs : List Value, v = .agg cs.toArray ∧ fitsL ks cs ∧ cellsSz cs + 1 ≤ Rows.uptoBulk d := by
  unfold Value.okWide at hval
  rw [ht] at hval
  obtain ⟨cs, rfl, _⟩ := hval
  obtain ⟨fuel, hh⟩ := h
  obtain ⟨h1, h2⟩ := flatK_open n hf hh
  exact ⟨cs.toList, by simp, h1, h2⟩
theorem arg_sl {α : Type} {r : Reach} {b0 : Nat} {t e : TypeId} {R : Hv → List Value → α → Prop} {sz : α → Nat} {v : Value} {d : DataW H} {ps : List MemPlace} (s : Nat) (hs : P.cellsOf e = s) (hs0 : 0 < s) (ht : P.underlying t = some (.slice e)) (he : OpensT enc P w sp held e R sz)
    (hval : Value.okWide P w r b0 t v) (h : DataW.Trod enc P w 0 sp held t v d ps) : ∃ xs : List α, SlR R s (Rg w 0 w.heap.size) v xs ∧ (xs.map sz).sum + 1 ≤ Rows.uptoBulk d ∧ xs.length + 1 ≤ Rows.uptoBulk d ∧ (∀ r : Nat, ((DataW.weights P t d).all (· ≤ r)) = true → xs.length * P.bytesOf e ≤ r) := by
  have hc : v.cells = #[v] := by
    unfold Value.okWide at hval
    rw [ht] at hval
    dsimp only at hval
    unfold Cell.okWide at hval
    rw [ht] at hval
    cases v <;> first | rfl | (exfalso; simp [Cell.ok, ht] at hval)
  obtain ⟨fuel, hh⟩ := h
  rw [hc] at hh
  exact (open_sl s hs hs0 ht he).2 hh
end
end Go.Proofs.YtooimjefbdokaaaDoor.Eng
/- Arguments that are structures of flat parts and of slices: opened. -/
set_option linter.unusedVariables false
namespace Go.Proofs.YtooimjefbdokaaaDoor.Eng
open Go Go.RowKit
section
variable {H : Type} {enc : TypeId × Value → H} {P : Program} {w : World} {base : Nat} {sp : Nat → Bool} {held : Bool}
/-- What the fields l of a structure give, from cell off on. -/
structure OpT (enc : TypeId × Value → H) (P : Program) (w : World) (sp : Nat → Bool) (held : Bool) {α : Type} (t : TypeId) (R : Hv → List Value → α → Prop) (sz : α → Nat) : Prop where
  o : OpensT enc P w sp held t R sz
structure OpensFs (enc : TypeId × Value → H) (P : Program) (w : World) (sp : Nat → Bool) (held : Bool) {α : Type} (l : List Field) (off : Nat) (R : Hv → List Value → α → Prop) (sz : α → Nat) : Prop where
  o : ∀ {n : Nat} {cs : List Value} {xs : List (DataW H × List MemPlace)}, (∀ (i : Nat) (f : Field), l[i]? = some f → DataW.trod enc P w 0 sp held n f.type ((cs.drop f.offset).take (P.cellsOf f.type)) = xs[i]?) → l.length = xs.length →
    ∃ a, R (Rg w 0 w.heap.size) (cs.drop off) a ∧ sz a ≤ Rows.uptoBulkAll (xs.map (·.1))
theorem openFs_nil {off : Nat} : OpensFs enc P w sp held [] off (fun _ _ (_ : Unit) => True) (fun _ => 0) := by
  refine ⟨?_⟩
  intro n cs xs _ hl
  exact ⟨(), trivial, Nat.zero_le _⟩
theorem openFs_cons {α β : Type} {f : Field} {l : List Field} {off : Nat} {R : Hv → List Value → α → Prop} {sz : α → Nat} {R' : Hv → List Value → β → Prop} {sz' : β → Nat} (ho : f.offset = off) (h : OpT enc P w sp held f.type R sz)
    (h' : OpensFs enc P w sp held l (off + P.cellsOf f.type) R' sz') :
    OpensFs enc P w sp held (f :: l) off (fun H cs (x : α × β) => R H (cs.take (P.cellsOf f.type)) x.1 ∧ R' H (cs.drop (P.cellsOf f.type)) x.2) (fun x => sz x.1 + sz' x.2) := by
  refine ⟨?_⟩
  intro n cs xs hj hl
  cases xs with
  | nil => simp at hl
  | cons x xs =>
    have h0 := hj 0 f rfl
    subst ho
    obtain ⟨a, a1, a2⟩ := h.o h0
    obtain ⟨b, b1, b2⟩ := h'.o (cs := cs) (xs := xs) (fun i g hg => by have := hj (i + 1) g hg; simpa using this) (by simpa using hl)
    refine ⟨(a, b), ⟨a1, ?_⟩, ?_⟩
    · rw [List.drop_drop]; exact b1
    · simp only [List.map_cons, Rows.uptoBulkAll]; omega
theorem open_structN {α : Type} {t : TypeId} {fs : Array Field} {R : Hv → List Value → α → Prop} {sz : α → Nat} (n0 : Nat) (ht : P.underlying t = some (.struct fs)) (hc : P.cellsOf t = n0) (h : OpensFs enc P w sp held fs.toList 0 R sz) :
    OpT enc P w sp held t (fun H cs a => cs.length = n0 ∧ R H cs a) (fun a => sz a) := by
  refine ⟨?_⟩
  intro fuel cs x hx
  obtain ⟨xs, n, rfl, rfl, hl, hxl, hj⟩ := DataW.trod_struct ht hx
  obtain ⟨a, h1, h2⟩ := h.o (n := n) (cs := cs) (xs := xs) (fun i f hf => hj i f (by simpa using hf)) (by simp [hxl])
  refine ⟨a, ⟨hl.trans hc, by simpa using h1⟩, ?_⟩
  show sz a ≤ Rows.uptoBulk (.agg (xs.map (·.1)))
  rw [Rows.uptoBulk]; omega
theorem OpT.map {α β : Type} {t : TypeId} {R : Hv → List Value → α → Prop} {sz : α → Nat} {R' : Hv → List Value → β → Prop} {sz' : β → Nat} (h : OpT enc P w sp held t R sz) (hm : ∀ H cs a, R H cs a → ∃ b, R' H cs b ∧ sz' b ≤ sz a) : OpT enc P w sp held t R' sz' := by
  refine ⟨?_⟩
  intro fuel cs x hx
  obtain ⟨a, h1, h2⟩ := h.o hx
  obtain ⟨b, h3, h4⟩ := hm _ _ _ h1
  exact ⟨b, h3, Nat.le_trans h4 h2⟩
theorem SlR.conv {α : Type} {R R' : Hv → List Value → α → Prop} {s : Nat} {H H' : Hv} {v : Value} {xs : List α} (h : SlR R s H v xs) (hh : Hle H H') (hR : ∀ cs x, R H cs x → R' H' cs x) : SlR R' s H' v xs := by
  obtain ⟨a, cap, h1, h2, h3, h4⟩ := h
  exact ⟨a, cap, h1, h2, h3, fun hx => let ⟨b, o, news, e, k1, k2⟩ := h4 hx; ⟨b, o, news, e, k1.mono hh, k2.1, fun i x hx => hR _ _ (k2.2 i x hx)⟩⟩
theorem rg_froz (w : World) : Hle (Rg w 0 w.heap.size) (Gh (froz w)) := fun b o ⟨_, _, h⟩ => h
theorem opFlat {α : Type} {t : TypeId} {ks : List Lk} (n : Nat) (hf : flatK P n t = some ks) {en : α → List Value} {ok : α → Prop} (h : ∀ cs, fitsL ks cs → ∃ x, cs = en x ∧ ok x) : OpT enc P w sp held t (RE en ok) (fun x => cellsSz (en x) + 1) := ⟨open_flat n hf h⟩
theorem opSl {α : Type} {t e : TypeId} {R : Hv → List Value → α → Prop} {sz : α → Nat} (s : Nat) (hs : P.cellsOf e = s) (hs0 : 0 < s) (ht : P.underlying t = some (.slice e)) (he : OpT enc P w sp held e R sz) :
    OpT enc P w sp held t (fun H cs xs => ∃ v, cs = [v] ∧ SlR R s H v xs) (fun xs => (xs.map sz).sum + 1 + 0 * xs.length) := ⟨(open_sl s hs hs0 ht he.o).1⟩
theorem arg_slN {α : Type} {r : Reach} {b0 : Nat} {t e : TypeId} {R : Hv → List Value → α → Prop} {sz : α → Nat} {v : Value} {d : DataW H} {ps : List MemPlace} (s : Nat) (hs : P.cellsOf e = s) (hs0 : 0 < s) (ht : P.underlying t = some (.slice e)) (he : OpT enc P w sp held e R sz)
    (hval : Value.okWide P w r b0 t v) (h : DataW.Trod enc P w 0 sp held t v d ps) : ∃ xs : List α, SlR R s (Rg w 0 w.heap.size) v xs ∧ (xs.map sz).sum + 1 ≤ Rows.uptoBulk d ∧ xs.length + 1 ≤ Rows.uptoBulk d ∧ (∀ r : Nat, ((DataW.weights P t d).all (· ≤ r)) = true → xs.length * P.bytesOf e ≤ r) :=
  arg_sl s hs hs0 ht he.o hval h
/-- An argument that is a structure. -/
theorem arg_st {α : Type} {r : Reach} {b0 : Nat} {t : TypeId} {fs : Array Field} {R : Hv → List Value → α → Prop} {sz : α → Nat} {v : Value} {d : DataW H} {ps : List MemPlace} (ht : P.underlying t = some (.struct fs)) (he : OpT enc P w sp held t R sz)
    (hval : Value.okWide P w r b0 t v) (h : DataW.Trod enc P w 0 sp held t v d ps) : ∃ (cs : List Value) (a : α), v = .agg cs.toArray ∧ R (Rg w 0 w.heap.size) cs a ∧ sz a ≤ Rows.uptoBulk d := by
  unfold Value.okWide at hval
  rw [ht] at hval
  obtain ⟨cs, rfl, _⟩ := hval
  obtain ⟨fuel, hh⟩ := h
  obtain ⟨a, h1, h2⟩ := he.o hh
  exact ⟨cs.toList, a, by simp, h1, h2⟩
end
end Go.Proofs.YtooimjefbdokaaaDoor.Eng
/- Arguments that are instructions, opened. -/
set_option maxRecDepth 100000
set_option linter.unusedVariables false
namespace Go.Proofs.YtooimjefbdokaaaDoor.Ins
open Go Go.RowKit Go.Proofs.YtooimjefbdokaaaDoor.Eng
/-- An instruction as it lies: its list is told by its slice. -/
structure InsV where
  op : Int
  a : Int
  b : Int
  tv : Value
  to : List Int
def InsV.d (x : InsV) : InsD := ⟨x.op, x.a, x.b, x.to⟩
def enV (x : InsV) : List Value := [.int .u8 x.op, .int .i64 x.a, .int .i64 x.b, x.tv]
def okH (H : Hv) (x : InsV) : Prop := U8 x.op ∧ I64 x.a ∧ I64 x.b ∧ SlR (RE enI okI) 1 H x.tv x.to
/-- An instruction whose list is frozen. -/
structure okV (g : Glob) (x : InsV) : Prop where
  op : U8 x.op
  a : I64 x.a
  b : I64 x.b
  to : FSl g enI okI 1 x.tv x.to
theorem okV.ext {g g' : Glob} {x : InsV} (h : okV g x) (E : Ext g g') : okV g' x := ⟨h.op, h.a, h.b, h.to.ext E⟩
theorem okV.of {g : Glob} {H : Hv} {x : InsV} (h : okH H x) (hh : Hle H (Gh g)) : okV g x := ⟨h.1, h.2.1, h.2.2.1, h.2.2.2.mono (RE.mono' enI okI) hh⟩
section
variable {H : Type} {enc : TypeId × Value → H} {w : World} {sp : Nat → Bool} {held : Bool}
theorem fitsI1 (cs : List Value) (h : fitsL [.int .i64] cs) : ∃ x, cs = enI x ∧ okI x := by
  obtain ⟨_, _, rfl, ⟨a, rfl, ha⟩, rfl⟩ := h
  exact ⟨a, rfl, ha⟩
theorem fitsB1 (cs : List Value) (h : fitsL [.int .u8] cs) : ∃ x, cs = enK x ∧ U8 x := by
  obtain ⟨_, _, rfl, ⟨a, rfl, ha⟩, rfl⟩ := h
  exact ⟨a, rfl, ha⟩
theorem open_i64s : OpT enc Tryd.prog w sp held 36 (fun H cs xs => ∃ v, cs = [v] ∧ SlR (RE enI okI) 1 H v xs) (fun xs => (xs.map (fun x => cellsSz (enI x) + 1)).sum + 1 + 0 * xs.length) :=
  opSl 1 rfl (by decide) Tryd.underlying36 (opFlat 6 rfl fitsI1)
theorem sum_len {α : Type} (f : α → Nat) (xs : List α) : xs.length ≤ (xs.map (fun x => f x + 1)).sum := by
  induction xs with
  | nil => exact Nat.zero_le _
  | cons a r ih => simp only [List.length_cons, List.map_cons, List.sum_cons]; omega
theorem open_ins : OpT enc Tryd.prog w sp held 38 (fun H cs x => cs = enV x ∧ okH H x) (fun x => x.to.length) := by
  refine (open_structN 4 Tryd.underlying38 rfl (openFs_cons rfl (opFlat (en := enK) (ok := U8) 6 rfl fitsB1) (openFs_cons rfl (opFlat (en := enI) (ok := okI) 6 rfl fitsI1) (openFs_cons rfl (opFlat (en := enI) (ok := okI) 6 rfl fitsI1) (openFs_cons rfl open_i64s openFs_nil))))).map ?_
  rintro H cs ⟨o, a, b, to, _⟩ ⟨hl, ⟨h1, h1'⟩, ⟨h2, h2'⟩, ⟨h3, h3'⟩, ⟨v, h4, h5⟩, _⟩
  refine ⟨⟨o, a, b, v, to⟩, ⟨?_, h1', h2', h3', h5⟩, by have := sum_len (fun x => cellsSz (enI x)) to; show to.length ≤ _; dsimp only; omega⟩
  match cs, hl with
  | [c0, c1, c2, c3], _ =>
    have e1 : [c0] = enK o := h1
    have e2 : [c1] = enI a := h2
    have e3 : [c2] = enI b := h3
    have e4 : [c3] = [v] := h4
    simp only [enK, enI, List.cons.injEq, and_true] at e1 e2 e3 e4
    show _ = [_, _, _, _]
    rw [e1, e2, e3, e4]
end
theorem fIns {w : World} {v : Value} {xs : List InsV} (h : SlR (fun H cs x => cs = enV x ∧ okH H x) 4 (Rg w 0 w.heap.size) v xs) : FSl (froz w) enV (okV (froz w)) 4 v xs :=
  h.conv (rg_froz w) fun _ _ h => ⟨h.1, okV.of h.2 (rg_froz w)⟩
end Go.Proofs.YtooimjefbdokaaaDoor.Ins
/- Are two instructions the same? -/
set_option maxRecDepth 100000
set_option maxHeartbeats 4000000
set_option linter.unusedVariables false
set_option linter.unusedSimpArgs false
namespace Go.Proofs.YtooimjefbdokaaaDoor.Ins
open Go Go.Proofs.YtooimjefbdokaaaDoor.Eng Go.RowKit
theorem eq_step {α : Type} {xs ys : List α} {i : Nat} (h : ∀ q, q < i → xs[q]? = ys[q]?) (h1 : xs[i]? = ys[i]?) : ∀ q, q < i + 1 → xs[q]? = ys[q]? := fun q hq => by
  rcases Nat.lt_or_ge q i with h2 | h2
  · exact h q h2
  · rw [show q = i by omega]; exact h1
theorem eq_all {α : Type} {xs ys : List α} {i : Nat} (h1 : xs.length ≤ i) (h2 : ys.length ≤ i) (h : ∀ q, q < i → xs[q]? = ys[q]?) : xs = ys := by
  apply List.ext_getElem?
  intro q
  rcases Nat.lt_or_ge q i with h3 | h3
  · exact h q h3
  · rw [List.getElem?_eq_none (by omega), List.getElem?_eq_none (by omega)]
theorem eq64 (w : World) (u v : Value) (xs ys : List Int) (hx : Rd enI (fun _ => True) 1 w u xs) (hy : Rd enI (fun _ => True) 1 w v ys) :
    Fc Tryd.prog 35 #[u, v] w (fun r w' => ∃ b, r = .bool b ∧ (b = true ↔ xs = ys) ∧ Sat (froz w) w' []) := by
  refine Fc.of Tryd.func35 rfl (by kernel_rfl) ?_
  have H := Sat.start w
  have hx := hx.fz
  have hy := hy.fz
  have hlx := hx.len
  refine rLenF hx rfl ?_
  refine rLenF hy rfl ?_
  refine cI (fun c1 => ?_) (fun c1 => ?_)
  · replace c1 := vNe_t (c1)
    refine Done.mk ?_
    exact ⟨false, rfl, ⟨nofun, fun h => absurd (congrArg List.length h) (by omega)⟩, H⟩
  replace c1 := vNe_f (c1)
  refine rLenF hx rfl ?_
  refine LoopP.rule (α := Nat) (0) (fun x_ => [(14, .int .i64 x_)]) (fun x_ w_ => (x_ ≤ xs.length) ∧ (∀ q, q < x_ → xs[q]? = ys[q]?) ∧ Sat (froz w) w_ ([])) (fun x_ => xs.length - x_) ?_ ?_ ?_
  · repeat first | exact mt_nil | refine mt_cons rfl ?_ | refine mt_i rfl (by first | omega | (simp only; omega) | (simp; omega) | (simp; done)) ?_
  · try simp only
    refine ⟨?_, ?_⟩
    · omega
    refine ⟨?_, ?_⟩
    · (intro q hq; exact absurd hq (Nat.not_lt_zero q))
    exact H
  clear H
  rintro i f_ w_ ⟨hi, he, H⟩
  try simp only at hi he H ⊢
  refine cI (fun c2 => ?_) (fun c2 => ?_)
  · replace c2 := vLt_t (c2)
    refine bk ?_
    obtain ⟨x1, hx1⟩ : ∃ x, (xs)[(i)]? = some x := ⟨_, List.getElem?_eq_getElem (by omega)⟩
    obtain ⟨b1, o1, E1, F1, hok1⟩ := FSl.elt hx hx1
    refine rIxE E1 rfl rfl rfl ?_
    refine rLd (H.fat F1) 0 rfl rfl rfl ?_
    obtain ⟨x2, hx2⟩ : ∃ x, (ys)[(i)]? = some x := ⟨_, List.getElem?_eq_getElem (by omega)⟩
    obtain ⟨b2, o2, E2, F2, hok2⟩ := FSl.elt hy hx2
    refine rIxE E2 rfl rfl rfl ?_
    refine rLd (H.fat F2) 0 rfl rfl rfl ?_
    refine cI (fun c3 => ?_) (fun c3 => ?_)
    · replace c3 := vNe_t (c3)
      refine Done.mk ?_
      refine ⟨false, ?_⟩
      refine ⟨?_, ?_⟩
      · exact congrArg Value.bool (rfl)
      refine ⟨?_, ?_⟩
      · exact ⟨nofun, fun h => absurd (by subst h; exact Option.some.inj (hx1.symm.trans hx2)) (by assumption)⟩
      exact H
    replace c3 := vNe_f (c3)
    refine eqI64 (by omega) ?_
    refine Nxt.mk (i + 1) (mt_i rfl (by first | omega | (simp only; omega) | (simp; omega)) (mt_nil)) ?_ ?_
    · refine ⟨?_, ?_⟩
      · omega
      refine ⟨?_, ?_⟩
      · exact eq_step (by assumption) (by rw [hx1, hx2]; exact congrArg some (by assumption))
      exact H
    omega
  replace c2 := vLt_f (c2)
  refine Done.mk ?_
  exact ⟨true, rfl, ⟨fun _ => eq_all (by omega) (by omega) he, fun _ => rfl⟩, H⟩
theorem sameIns (w : World) (o a b : Int) (tv : Value) (to : List Int) (o' a' b' : Int) (tv' : Value) (to' : List Int) (hx : Rd enI (fun _ => True) 1 w tv to) (hy : Rd enI (fun _ => True) 1 w tv' to') :
    Fc Tryd.prog 20 #[.agg #[.int .u8 o, .int .i64 a, .int .i64 b, tv], .agg #[.int .u8 o', .int .i64 a', .int .i64 b', tv']] w (fun r w' => ∃ q, r = .bool q ∧ (q = true ↔ (⟨o, a, b, to⟩ : InsD) = ⟨o', a', b', to'⟩) ∧ Sat (froz w) w' []) := by
  refine Fc.of Tryd.func20 rfl (by kernel_rfl) ?_
  have H := Sat.start w
  have hx := hx.fz
  have hy := hy.fz
  refine rBoxS H ?_
  clear H
  intro p1 w1 H
  refine rBoxS H ?_
  clear H
  intro p2 w2 H
  clear w1
  refine rFieldAt rfl ?_
  refine rLd (H.at 1 rfl) 0 rfl rfl rfl ?_
  refine rFieldAt rfl ?_
  refine rLd (H.at 0 rfl) 0 rfl rfl rfl ?_
  refine br (fun c1 => ?_) (fun c1 => ?_)
  · replace c1 := vEq_t (c1)
    refine rFieldAt rfl ?_
    refine rLd (H.at 1 rfl) 1 rfl rfl rfl ?_
    refine rFieldAt rfl ?_
    refine rLd (H.at 0 rfl) 1 rfl rfl rfl ?_
    refine br (fun c2 => ?_) (fun c2 => ?_)
    · replace c2 := vEq_t (c2)
      refine rFieldAt rfl ?_
      refine rLd (H.at 1 rfl) 2 rfl rfl rfl ?_
      refine rFieldAt rfl ?_
      refine rLd (H.at 0 rfl) 2 rfl rfl rfl ?_
      refine br (fun c3 => ?_) (fun c3 => ?_)
      · replace c3 := vEq_t (c3)
        refine rFieldAt rfl ?_
        refine rLd (H.at 1 rfl) 3 rfl rfl rfl ?_
        refine rFieldAt rfl ?_
        refine rLd (H.at 0 rfl) 3 rfl rfl rfl ?_
        refine CallP.mk (Fc.imp (Go.Proofs.YtooimjefbdokaaaDoor.Ins.eq64 _ _ _ _ _ (H.rd hx) (H.rd hy)) ?_)
        rintro _ w1 ⟨b1, ⟨rfl, ⟨h1, H'⟩⟩⟩
        refine H.mergeK H' ?_
        clear H H'
        intro H
        refine Done.mk ?_
        refine ⟨b1, ?_⟩
        refine ⟨?_, ?_⟩
        · rfl
        refine ⟨?_, ?_⟩
        · (rw [InsD.mk.injEq]; simp [*]; done)
        refine H.firsts 0 ?_
        clear H
        intro H
        exact H
      replace c3 := vEq_f (c3)
      refine Done.mk ?_
      refine ⟨false, ?_⟩
      refine ⟨?_, ?_⟩
      · exact congrArg Value.bool (rfl)
      refine ⟨?_, ?_⟩
      · (rw [InsD.mk.injEq]; simp [*]; done)
      refine H.firsts 0 ?_
      clear H
      intro H
      exact H
    replace c2 := vEq_f (c2)
    refine Done.mk ?_
    refine ⟨false, ?_⟩
    refine ⟨?_, ?_⟩
    · exact congrArg Value.bool (rfl)
    refine ⟨?_, ?_⟩
    · (rw [InsD.mk.injEq]; simp [*]; done)
    refine H.firsts 0 ?_
    clear H
    intro H
    exact H
  replace c1 := vEq_f (c1)
  refine Done.mk ?_
  refine ⟨false, ?_⟩
  refine ⟨?_, ?_⟩
  · exact congrArg Value.bool (rfl)
  refine ⟨?_, ?_⟩
  · (rw [InsD.mk.injEq]; simp [*]; done)
  refine H.firsts 0 ?_
  clear H
  intro H
  exact H
end Go.Proofs.YtooimjefbdokaaaDoor.Ins
/- Package nest: the walker. -/
set_option maxRecDepth 100000
set_option maxHeartbeats 4000000
set_option linter.unusedVariables false
set_option linter.unusedSimpArgs false
namespace Go.Proofs.YtooimjefbdokaaaDoor.Nest
open Go Go.Proofs.YtooimjefbdokaaaDoor.Eng Go.RowKit
open Ins
section
variable {g : Glob} {w : World} {l : List As} {e : TypeId} {s j h : Nat} {α : Type} {en : α → List Value} {v v' : Value} {xs : List α}
/-- A row of which a beginning is kept. -/
theorem _root_.Go.Proofs.YtooimjefbdokaaaDoor.Eng.Sat.ofVw (H : Sat g w l) (j : Nat) (hj : l[j]? = some (Sl e s en v xs)) (V : Vw v s xs.length 0 h v') : Sat g w (l.set j (Sl e s en v' (xs.take h))) := by
  obtain ⟨ad, cap, hv, hh, hnc, hcm, ha, rfl⟩ := V
  have ho := H.off j hj
  refine H.slSet (lo := 0) hj ?_ (Gr.same w ?_)
  · rcases ho.1 with ⟨h1, h2⟩ | ⟨gb, o, cap', cur, h1, h2, h3, h4, h5, h6, h7⟩
    · subst h2
      rw [h1] at hv
      injection hv with e1 e2 e3
      subst e1; subst e3
      have : h = 0 := by simpa using hh
      subst this
      exact ⟨.inl ⟨rfl, by simp⟩, ho.2⟩
    · rw [h1] at hv
      injection hv with e1 e2 e3
      subst e1; subst e3
      refine ⟨.inr ⟨gb, o, cap', cur, ?_, h2, h3, h4, by rw [List.length_take]; omega, h6, ?_⟩, ho.2⟩
      · rw [List.length_take, Nat.min_eq_left hh]
        simp [Addr.add_zero']
      · rw [List.length_take, Nat.min_eq_left hh, ← flat_take ho.2 xs h hh, ← h7, List.take_take]
        congr 1
        have := Nat.mul_le_mul_right s hh
        omega
  · rcases ho.1 with ⟨h1, h2⟩ | ⟨gb, o, cap', cur, h1, h2, h3, h4, h5, h6, h7⟩
    · rw [h1] at hv
      injection hv with e1 e2 e3
      subst e1; subst e3
      left; rw [h1]; simp [Value.ownBlock]
    · rw [h1] at hv
      injection hv with e1 e2 e3
      subst e1; subst e3
      left; rw [h1]; simp [Value.ownBlock, Addr.add_zero']
end
theorem begin_ (w : World) : Fc Tryd.prog 21 #[] w (fun v w' => ∃ p vo vl, v = .pointer (some ⟨p, 0, none⟩) ∧ Sat (froz w) w' [Pt p [vo, vl, .bool false] 65, Sl 3 1 enI vo ns0.op, Sl 5 1 enK vl ns0.last]) := by
  refine Fc.of Tryd.func21 rfl (by kernel_rfl) ?_
  have H := Sat.start w
  refine rBuildSliceS H rfl rfl rfl rfl ?_
  clear H
  intro p1 w1 H
  refine rBuildSliceS H rfl rfl rfl rfl ?_
  clear H
  intro p2 w2 H
  clear w1
  refine rBuild rfl rfl rfl ?_
  refine rBoxS H ?_
  clear H
  intro p3 w1 H
  clear w2
  refine H.ptSl (n := 1) (en := enK) (s := 1) 1 rfl [_] rfl rfl (fun _ => rfl) rfl ?_
  clear H
  intro H
  refine H.ptSl (n := 1) (en := enI) (s := 1) 2 rfl [_] rfl rfl (fun _ => rfl) rfl ?_
  clear H
  intro H
  refine Done.mk ?_
  refine ⟨p3, Value.slice (some { block := p1, off := 0 }) 1 1, Value.slice (some { block := p2, off := 0 }) 1 1, ?_⟩
  refine ⟨?_, ?_⟩
  · rfl
  refine H.fronts [1, 2, 2] ?_
  clear H
  intro H
  exact H
section
variable {g : Glob} {w : World} {l : List As}
theorem nx_over {op last : List Int} {o k : Int} : nextS ⟨op, last, true⟩ o k = (⟨op, last, true⟩, -2, 4) := rfl
theorem nx_deep {op last : List Int} {o k : Int} (ho : o = 2 ∨ o = 3 ∨ o = 4) (h : 12 ≤ op.length - 1) : nextS ⟨op, last, false⟩ o k = (⟨op, last, false⟩, -2, 7) := by
  unfold nextS; rw [if_neg (by simp), if_pos ho, if_pos h]
theorem nx_open {op last : List Int} {o k : Int} (ho : o = 2 ∨ o = 3 ∨ o = 4) (h : op.length - 1 < 12) : nextS ⟨op, last, false⟩ o k = (⟨op ++ [k], last ++ [o], false⟩, -2, 0) := by
  unfold nextS; rw [if_neg (by simp), if_pos ho, if_neg (by simp only; omega)]
theorem nx_else_no {op last : List Int} {o k x : Int} (ho : o = 5) (hx : last[op.length - 1]? = some x) (h : x ≠ 4) : nextS ⟨op, last, false⟩ o k = (⟨op, last, false⟩, -2, 4) := by
  unfold nextS; rw [if_neg (by simp), if_neg (by omega), if_pos ho, if_pos (by simp only [List.getD_eq_getElem?_getD, hx]; exact h)]
theorem nx_else {op last : List Int} {o k x y : Int} (ho : o = 5) (hx : last[op.length - 1]? = some x) (h : x = 4) (hy : op[op.length - 1]? = some y) : nextS ⟨op, last, false⟩ o k = (⟨op, last.set (op.length - 1) 5, false⟩, y, 0) := by
  unfold nextS; rw [if_neg (by simp), if_neg (by omega), if_pos ho, if_neg (by simp only [List.getD_eq_getElem?_getD, hx]; simpa using h)]
  simp only [List.getD_eq_getElem?_getD, hy]; rfl
theorem nx_end {op last : List Int} {o k y : Int} (ho : o = 11) (hy : op[op.length - 1]? = some y) : nextS ⟨op, last, false⟩ o k = (⟨op.take (op.length - 1), last.take (op.length - 1), decide (op.length - 1 = 0)⟩, y, 0) := by
  unfold nextS; rw [if_neg (by simp), if_neg (by omega), if_neg (by omega), if_pos ho]
  simp only [List.getD_eq_getElem?_getD, hy]; rfl
theorem nx_end' {op last : List Int} {o k y : Int} (ho : o = 11) (hy : op[op.length - 1]? = some y) (hp : 0 < op.length) : nextS ⟨op, last, false⟩ o k = (⟨op.take (op.length - 1), last.take (op.length - 1), vEq ((op.length : Int) - 1) 0⟩, y, 0) := by
  rw [nx_end ho hy, vEq_iff, show decide ((op.length : Int) - 1 = 0) = decide (op.length - 1 = 0) from decide_eq_decide.2 (by omega)]
theorem nx_else_ {op last : List Int} {o k : Int} (h2 : o ≠ 2) (h3 : o ≠ 3) (h4 : o ≠ 4) (h5 : o ≠ 5) (h11 : o ≠ 11) : nextS ⟨op, last, false⟩ o k = (⟨op, last, false⟩, -2, 0) := by
  unfold nextS; rw [if_neg (by simp), if_neg (by omega), if_neg h5, if_neg h11]
theorem next {p : Nat} {vo vl : Value} (st : NS) (hst : NOk st) (H : Sat g w (Pt p [vo, vl, .bool st.over] 65 :: Sl 3 1 enI vo st.op :: Sl 5 1 enK vl st.last :: l)) (o a b k : Int) (tv : Value) :
    Fc Tryd.prog 23 #[.pointer (some ⟨p, 0, none⟩), .agg #[.int .u8 o, .int .i64 a, .int .i64 b, tv], .int .i64 k] w
    (fun v w' => ∃ (op' last' : List Int) (ov' : Bool) (vo' vl' : Value) (is e : Int), v = .tuple #[.int .i64 is, .int .i64 e] ∧ nextS st o k = (⟨op', last', ov'⟩, is, e) ∧ Sat g w' (Pt p [vo', vl', .bool ov'] 65 :: Sl 3 1 enI vo' op' :: Sl 5 1 enK vl' last' :: l)) := by
  refine Fc.of Tryd.func23 rfl (by kernel_rfl) ?_
  obtain ⟨hs1, hs2, hs3⟩ := hst
  obtain ⟨op, last, ov⟩ := st
  simp only at hs1 hs2 hs3 H
  cases ov
  · have hs4 := hs2 rfl
    clear hs2
    refine rBoxS H ?_
    clear H
    intro p1 w1 H
    refine rFieldAt rfl ?_
    refine rLd (H.at 1 rfl) 0 rfl rfl rfl ?_
    refine rLenS H 2 rfl rfl ?_
    refine eqI64 (by omega) ?_
    refine bk ?_
    refine rFieldAt rfl ?_
    refine rLd (H.at 1 rfl) 2 rfl rfl rfl ?_
    refine cF rfl ?_
    refine rFieldAt rfl ?_
    refine rLd (H.at 0 rfl) 0 rfl rfl rfl ?_
    refine cI (fun c1 => ?_) (fun c1 => ?_)
    · replace c1 := vEq_t (c1)
      refine cT (vEq_T (by assumption)) ?_
      refine cI (fun c2 => ?_) (fun c2 => ?_)
      · replace c2 := vLe_t (c2)
        refine Done.mk ?_
        refine ⟨op, last, false, vo, vl, -2, 7, ?_⟩
        refine ⟨?_, ?_⟩
        · rfl
        refine ⟨?_, ?_⟩
        · exact nx_deep (by omega) (by omega)
        refine H.fronts [3, 3, 3] ?_
        clear H
        intro H
        refine H.drop 3 ?_
        clear H
        intro H
        exact H
      replace c2 := vLe_f (c2)
      refine rFieldAt rfl ?_
      refine rLd (H.at 1 rfl) 0 rfl rfl rfl ?_
      refine rBuildSliceS H rfl rfl rfl rfl ?_
      clear H
      intro p2 w2 H
      clear w1
      refine rApS (ys := [_]) 8 H 3 rfl (H.at 0 rfl) rfl (fun y _ => rfl) rfl rfl rfl (by omega) (by omega) ?_
      intro v1
      clear H
      intro w1 H
      clear w2
      refine rFieldAt rfl ?_
      refine rStS H 2 rfl rfl rfl (H.one 3 rfl) ?_
      clear H
      intro w2 H
      clear w1
      refine drawzS H [] [(0, .pure), (1, .pure), (2, .pure), (3, .pure), (4, .held), (5, .pure), (6, .held), (7, .forced), (8, .free), (9, .pure), (10, .pure), (11, .free)] mixed (by kernel_rfl) (by kernel_rfl) ?_
      clear H
      intro w1 H
      clear w2
      refine tk (fun wx HS => rFieldAt rfl ⟨rfl, rfl⟩) ?_
      refine tk (fun wx HS => rLd (HS.at 2 rfl) 1 rfl rfl rfl ⟨rfl, rfl⟩) ?_
      refine tk (fun wx HS => rFieldAt rfl ⟨rfl, rfl⟩) ?_
      refine tk (fun wx HS => rLd (HS.at 1 rfl) 0 rfl rfl rfl ⟨rfl, rfl⟩) ?_
      refine rBuildSliceS H rfl rfl rfl rfl ?_
      clear H
      intro p3 w2 H
      clear w1
      refine KeepP.mk (H.drop 0 (fun H => H)) ?_
      refine rApS (ys := [_]) 1 H 5 rfl (H.at 0 rfl) rfl (fun y _ => rfl) rfl rfl rfl (by omega) (by omega) ?_
      intro v2
      clear H
      intro w1 H
      clear w2
      refine tk (fun wx HS => rFieldAt rfl ⟨rfl, rfl⟩) ?_
      refine rStS H 3 rfl rfl rfl (H.one 5 rfl) ?_
      clear H
      intro w2 H
      clear w1
      refine Done.mk ?_
      refine ⟨op ++ [k], last ++ [o], false, v1, v2, -2, 0, ?_⟩
      refine ⟨?_, ?_⟩
      · rfl
      refine ⟨?_, ?_⟩
      · exact nx_open (by omega) (by omega)
      refine H.fronts [5, 5, 5] ?_
      clear H
      intro H
      refine H.drop 5 ?_
      clear H
      intro H
      refine H.drop 4 ?_
      clear H
      intro H
      refine H.drop 3 ?_
      clear H
      intro H
      exact H
    replace c1 := vEq_f (c1)
    refine rFieldAt rfl ?_
    refine rLd (H.at 0 rfl) 0 rfl rfl rfl ?_
    refine cI (fun c2 => ?_) (fun c2 => ?_)
    · replace c2 := vEq_t (c2)
      refine cT (vEq_T (by assumption)) ?_
      refine cI (fun c3 => ?_) (fun c3 => ?_)
      · replace c3 := vLe_t (c3)
        refine Done.mk ?_
        refine ⟨op, last, false, vo, vl, -2, 7, ?_⟩
        refine ⟨?_, ?_⟩
        · rfl
        refine ⟨?_, ?_⟩
        · exact nx_deep (by omega) (by omega)
        refine H.fronts [3, 3, 3] ?_
        clear H
        intro H
        refine H.drop 3 ?_
        clear H
        intro H
        exact H
      replace c3 := vLe_f (c3)
      refine rFieldAt rfl ?_
      refine rLd (H.at 1 rfl) 0 rfl rfl rfl ?_
      refine rBuildSliceS H rfl rfl rfl rfl ?_
      clear H
      intro p2 w2 H
      clear w1
      refine rApS (ys := [_]) 8 H 3 rfl (H.at 0 rfl) rfl (fun y _ => rfl) rfl rfl rfl (by omega) (by omega) ?_
      intro v1
      clear H
      intro w1 H
      clear w2
      refine rFieldAt rfl ?_
      refine rStS H 2 rfl rfl rfl (H.one 3 rfl) ?_
      clear H
      intro w2 H
      clear w1
      refine drawzS H [] [(0, .pure), (1, .pure), (2, .pure), (3, .pure), (4, .held), (5, .pure), (6, .held), (7, .forced), (8, .free), (9, .pure), (10, .pure), (11, .free)] mixed (by kernel_rfl) (by kernel_rfl) ?_
      clear H
      intro w1 H
      clear w2
      refine tk (fun wx HS => rFieldAt rfl ⟨rfl, rfl⟩) ?_
      refine tk (fun wx HS => rLd (HS.at 2 rfl) 1 rfl rfl rfl ⟨rfl, rfl⟩) ?_
      refine tk (fun wx HS => rFieldAt rfl ⟨rfl, rfl⟩) ?_
      refine tk (fun wx HS => rLd (HS.at 1 rfl) 0 rfl rfl rfl ⟨rfl, rfl⟩) ?_
      refine rBuildSliceS H rfl rfl rfl rfl ?_
      clear H
      intro p3 w2 H
      clear w1
      refine KeepP.mk (H.drop 0 (fun H => H)) ?_
      refine rApS (ys := [_]) 1 H 5 rfl (H.at 0 rfl) rfl (fun y _ => rfl) rfl rfl rfl (by omega) (by omega) ?_
      intro v2
      clear H
      intro w1 H
      clear w2
      refine tk (fun wx HS => rFieldAt rfl ⟨rfl, rfl⟩) ?_
      refine rStS H 3 rfl rfl rfl (H.one 5 rfl) ?_
      clear H
      intro w2 H
      clear w1
      refine Done.mk ?_
      refine ⟨op ++ [k], last ++ [o], false, v1, v2, -2, 0, ?_⟩
      refine ⟨?_, ?_⟩
      · rfl
      refine ⟨?_, ?_⟩
      · exact nx_open (by omega) (by omega)
      refine H.fronts [5, 5, 5] ?_
      clear H
      intro H
      refine H.drop 5 ?_
      clear H
      intro H
      refine H.drop 4 ?_
      clear H
      intro H
      refine H.drop 3 ?_
      clear H
      intro H
      exact H
    replace c2 := vEq_f (c2)
    refine rFieldAt rfl ?_
    refine rLd (H.at 0 rfl) 0 rfl rfl rfl ?_
    refine cI (fun c3 => ?_) (fun c3 => ?_)
    · replace c3 := vEq_t (c3)
      refine cI (fun c4 => ?_) (fun c4 => ?_)
      · replace c4 := vLe_t (c4)
        refine Done.mk ?_
        refine ⟨op, last, false, vo, vl, -2, 7, ?_⟩
        refine ⟨?_, ?_⟩
        · rfl
        refine ⟨?_, ?_⟩
        · exact nx_deep (by omega) (by omega)
        refine H.fronts [3, 3, 3] ?_
        clear H
        intro H
        refine H.drop 3 ?_
        clear H
        intro H
        exact H
      replace c4 := vLe_f (c4)
      refine rFieldAt rfl ?_
      refine rLd (H.at 1 rfl) 0 rfl rfl rfl ?_
      refine rBuildSliceS H rfl rfl rfl rfl ?_
      clear H
      intro p2 w2 H
      clear w1
      refine rApS (ys := [_]) 8 H 3 rfl (H.at 0 rfl) rfl (fun y _ => rfl) rfl rfl rfl (by omega) (by omega) ?_
      intro v1
      clear H
      intro w1 H
      clear w2
      refine rFieldAt rfl ?_
      refine rStS H 2 rfl rfl rfl (H.one 3 rfl) ?_
      clear H
      intro w2 H
      clear w1
      refine drawzS H [] [(0, .pure), (1, .pure), (2, .pure), (3, .pure), (4, .held), (5, .pure), (6, .held), (7, .forced), (8, .free), (9, .pure), (10, .pure), (11, .free)] mixed (by kernel_rfl) (by kernel_rfl) ?_
      clear H
      intro w1 H
      clear w2
      refine tk (fun wx HS => rFieldAt rfl ⟨rfl, rfl⟩) ?_
      refine tk (fun wx HS => rLd (HS.at 2 rfl) 1 rfl rfl rfl ⟨rfl, rfl⟩) ?_
      refine tk (fun wx HS => rFieldAt rfl ⟨rfl, rfl⟩) ?_
      refine tk (fun wx HS => rLd (HS.at 1 rfl) 0 rfl rfl rfl ⟨rfl, rfl⟩) ?_
      refine rBuildSliceS H rfl rfl rfl rfl ?_
      clear H
      intro p3 w2 H
      clear w1
      refine KeepP.mk (H.drop 0 (fun H => H)) ?_
      refine rApS (ys := [_]) 1 H 5 rfl (H.at 0 rfl) rfl (fun y _ => rfl) rfl rfl rfl (by omega) (by omega) ?_
      intro v2
      clear H
      intro w1 H
      clear w2
      refine tk (fun wx HS => rFieldAt rfl ⟨rfl, rfl⟩) ?_
      refine rStS H 3 rfl rfl rfl (H.one 5 rfl) ?_
      clear H
      intro w2 H
      clear w1
      refine Done.mk ?_
      refine ⟨op ++ [k], last ++ [o], false, v1, v2, -2, 0, ?_⟩
      refine ⟨?_, ?_⟩
      · rfl
      refine ⟨?_, ?_⟩
      · exact nx_open (by omega) (by omega)
      refine H.fronts [5, 5, 5] ?_
      clear H
      intro H
      refine H.drop 5 ?_
      clear H
      intro H
      refine H.drop 4 ?_
      clear H
      intro H
      refine H.drop 3 ?_
      clear H
      intro H
      exact H
    replace c3 := vEq_f (c3)
    refine rFieldAt rfl ?_
    refine rLd (H.at 0 rfl) 0 rfl rfl rfl ?_
    refine cI (fun c4 => ?_) (fun c4 => ?_)
    · replace c4 := vEq_t (c4)
      refine rFieldAt rfl ?_
      refine rLd (H.at 1 rfl) 1 rfl rfl rfl ?_
      obtain ⟨x1, hx1⟩ : ∃ x, (last)[((op.length) - 1)]? = some x := ⟨_, List.getElem?_eq_getElem (by omega)⟩
      obtain ⟨b1, o1, E1⟩ := H.elt 3 rfl ((op.length) - 1) (by omega)
      refine rIxE E1 (by omega) rfl rfl ?_
      refine rLd (H.el 3 rfl E1 hx1) 0 rfl rfl rfl ?_
      refine cI (fun c5 => ?_) (fun c5 => ?_)
      · replace c5 := vNe_t (c5)
        refine Done.mk ?_
        refine ⟨op, last, false, vo, vl, -2, 4, ?_⟩
        refine ⟨?_, ?_⟩
        · rfl
        refine ⟨?_, ?_⟩
        · exact nx_else_no (by omega) hx1 (by assumption)
        refine H.fronts [3, 3, 3] ?_
        clear H
        intro H
        refine H.drop 3 ?_
        clear H
        intro H
        exact H
      replace c5 := vNe_f (c5)
      refine rFieldAt rfl ?_
      refine rLd (H.at 1 rfl) 1 rfl rfl rfl ?_
      refine rIxE E1 (by omega) rfl rfl ?_
      refine rStE H 3 rfl E1 hx1 0 (5) rfl rfl rfl rfl ?_
      clear H
      intro w2 H
      clear w1
      refine rFieldAt rfl ?_
      refine rLd (H.at 1 rfl) 0 rfl rfl rfl ?_
      obtain ⟨x2, hx2⟩ : ∃ x, (op)[((op.length) - 1)]? = some x := ⟨_, List.getElem?_eq_getElem (by omega)⟩
      obtain ⟨b2, o2, E2⟩ := H.elt 2 rfl ((op.length) - 1) (by omega)
      refine rIxE E2 (by omega) rfl rfl ?_
      refine rLd (H.el 2 rfl E2 hx2) 0 rfl rfl rfl ?_
      refine Done.mk ?_
      refine ⟨op, last.set (op.length - 1) 5, false, vo, vl, x2, 0, ?_⟩
      refine ⟨?_, ?_⟩
      · rfl
      refine ⟨?_, ?_⟩
      · exact nx_else (by omega) hx1 (by assumption) (by assumption)
      refine H.fronts [3, 3, 3] ?_
      clear H
      intro H
      refine H.drop 3 ?_
      clear H
      intro H
      exact H
    replace c4 := vEq_f (c4)
    refine rFieldAt rfl ?_
    refine rLd (H.at 0 rfl) 0 rfl rfl rfl ?_
    refine cI (fun c5 => ?_) (fun c5 => ?_)
    · replace c5 := vEq_t (c5)
      refine rFieldAt rfl ?_
      refine rLd (H.at 1 rfl) 0 rfl rfl rfl ?_
      obtain ⟨x1, hx1⟩ : ∃ x, (op)[((op.length) - 1)]? = some x := ⟨_, List.getElem?_eq_getElem (by omega)⟩
      obtain ⟨b1, o1, E1⟩ := H.elt 2 rfl ((op.length) - 1) (by omega)
      refine rIxE E1 (by omega) rfl rfl ?_
      refine rLd (H.el 2 rfl E1 hx1) 0 rfl rfl rfl ?_
      refine drawzS H [] [(0, .pure), (1, .pure), (2, .pure), (3, .pure), (4, .pure), (5, .held), (6, .pure), (7, .pure), (8, .pure), (9, .pure), (10, .pure), (11, .held), (12, .pure), (13, .pure), (14, .pure), (15, .pure), (16, .free), (17, .pure), (18, .pure), (19, .free)] mixed (by kernel_rfl) (by kernel_rfl) ?_
      clear H
      intro w2 H
      clear w1
      refine tk (fun wx HS => rFieldAt rfl ⟨rfl, rfl⟩) ?_
      refine tk (fun wx HS => rLd (HS.at 1 rfl) 0 rfl rfl rfl ⟨rfl, rfl⟩) ?_
      obtain ⟨v1, V1⟩ := H.vw 2 rfl (0) (((op.length) - 1)) (by omega) (by omega)
      refine tk (fun wx HS => rSlVw V1 rfl rfl (.inl ⟨rfl, rfl⟩) (.inr ⟨_, by first | rfl | (congr 2; omega)⟩) ⟨rfl, rfl⟩) ?_
      refine tk (fun wx HS => rFieldAt rfl ⟨rfl, rfl⟩) ?_
      refine tk (fun wx HS => rLd (HS.at 1 rfl) 1 rfl rfl rfl ⟨rfl, rfl⟩) ?_
      obtain ⟨v2, V2⟩ := H.vw 3 rfl (0) (((op.length) - 1)) (by omega) (by omega)
      refine tk (fun wx HS => rSlVw V2 rfl rfl (.inl ⟨rfl, rfl⟩) (.inr ⟨_, by first | rfl | (congr 2; omega)⟩) ⟨rfl, rfl⟩) ?_
      refine tk (fun wx HS => rFieldAt rfl ⟨rfl, rfl⟩) ?_
      refine rStS H 1 rfl rfl rfl (by simp only [Bool.and_true, H.one 2 rfl, H.one 3 rfl, Vw.one V2, Vw.one V1]) ?_
      clear H
      intro w1 H
      clear w2
      refine tk (fun wx HS => rFieldAt rfl ⟨rfl, rfl⟩) ?_
      refine rStS H 1 rfl rfl rfl (by simp only [Bool.and_true, H.one 2 rfl, H.one 3 rfl, Vw.one V2, Vw.one V1]) ?_
      clear H
      intro w2 H
      clear w1
      refine rFieldAt rfl ?_
      refine rStS H 1 rfl rfl rfl rfl ?_
      clear H
      intro w1 H
      clear w2
      refine Done.mk ?_
      exact ⟨_, _, _, v1, v2, _, _, rfl, nx_end' (by omega) hx1 hs4, ((H.ofVw 2 rfl V1).ofVw 3 rfl V2).del 0⟩
    replace c5 := vEq_f (c5)
    refine Done.mk ?_
    refine ⟨op, last, false, vo, vl, -2, 0, ?_⟩
    refine ⟨?_, ?_⟩
    · rfl
    refine ⟨?_, ?_⟩
    · exact nx_else_ (by omega) (by omega) (by omega) (by omega) (by omega)
    refine H.fronts [3, 3, 3] ?_
    clear H
    intro H
    refine H.drop 3 ?_
    clear H
    intro H
    exact H
  · refine rBoxS H ?_
    clear H
    intro p1 w1 H
    refine rFieldAt rfl ?_
    refine rLd (H.at 1 rfl) 0 rfl rfl rfl ?_
    refine rLenS H 2 rfl rfl ?_
    refine eqI64 (by omega) ?_
    refine bk ?_
    refine rFieldAt rfl ?_
    refine rLd (H.at 1 rfl) 2 rfl rfl rfl ?_
    refine cT rfl ?_
    refine Done.mk ?_
    refine ⟨op, last, true, vo, vl, -2, 4, ?_⟩
    refine ⟨?_, ?_⟩
    · rfl
    refine ⟨?_, ?_⟩
    · rfl
    refine H.fronts [3, 3, 3] ?_
    clear H
    intro H
    refine H.drop 3 ?_
    clear H
    intro H
    exact H
end
end Go.Proofs.YtooimjefbdokaaaDoor.Nest
/- Package nest: Check alone. -/
set_option maxRecDepth 100000
set_option maxHeartbeats 4000000
set_option linter.unusedVariables false
set_option linter.unusedSimpArgs false
namespace Go.Proofs.YtooimjefbdokaaaDoor.Nest
open Go Go.Proofs.YtooimjefbdokaaaDoor.Eng Go.RowKit
open Ins
section
variable {g : Glob} {w : World} {l : List As}
theorem map_get {xs : List InsV} {k : Nat} {x : InsV} (h : xs[k]? = some x) : (xs.map InsV.d)[k]? = some x.d := by rw [List.getElem?_map, h]; rfl
theorem dd (x : InsV) : (⟨x.op, x.a, x.b, x.to⟩ : InsD) = x.d := rfl
section
variable {xs : List InsV} {k : Nat} {x : InsV} {r is e : Int} {st st' : NS}
theorem ck1 (hl : xs.length ≤ 200) (hF : SoFar (xs.map InsV.d) k) (hx : xs[k]? = some x) (h : r = chk ⟨x.op, x.a, x.b, x.to⟩) (hr : r ≠ 0) : r = chkB (xs.map InsV.d) := by
  rw [dd] at h
  rw [chkB_chk (by simpa using hl) hF (map_get hx) (h ▸ hr), h]
theorem ck2 (hl : xs.length ≤ 200) (hF : SoFar (xs.map InsV.d) k) (hx : xs[k]? = some x) (h : r = chk ⟨x.op, x.a, x.b, x.to⟩) (hr : r = 0) (hst : stB (xs.map InsV.d) k = st) (hn : nextS st x.op k = (st', is, e)) (he : e ≠ 0) : e = chkB (xs.map InsV.d) := by
  rw [dd, hr] at h
  have hn' : nextS (stB (xs.map InsV.d) k) x.d.op k = (st', is, e) := by rw [hst]; exact hn
  rw [chkB_next (by simpa using hl) hF (map_get hx) h.symm (by rw [hn']; exact he), hn']
theorem ck3 (hx : xs[k]? = some x) (hst : stB (xs.map InsV.d) k = st) (hn : nextS st x.op k = (st', is, e)) : stB (xs.map InsV.d) (k + 1) = st' := by
  rw [stB_succ (map_get hx), hst]; show (nextS st x.op k).1 = _; rw [hn]
theorem ck4 (hF : SoFar (xs.map InsV.d) k) (hx : xs[k]? = some x) (h : r = chk ⟨x.op, x.a, x.b, x.to⟩) (hr : r = 0) (hst : stB (xs.map InsV.d) k = st) (hn : nextS st x.op k = (st', is, e)) (he : e = 0) : SoFar (xs.map InsV.d) (k + 1) := by
  rw [dd, hr] at h
  exact hF.succ (map_get hx) h.symm (by rw [hst]; show (nextS st x.op k).2.2 = 0; rw [hn]; exact he)
theorem ck5 {op last : List Int} {ov : Bool} (hl : xs.length ≤ 200) (hF : SoFar (xs.map InsV.d) k) (hk : k = xs.length) (hst : stB (xs.map InsV.d) k = ⟨op, last, ov⟩) (ho : ov = false) : 3 = chkB (xs.map InsV.d) := by
  rw [chkB_end (by simpa using hl) hF (by simpa using hk), hst, ho]; rfl
theorem ck6 {op last : List Int} {ov : Bool} (hl : xs.length ≤ 200) (hF : SoFar (xs.map InsV.d) k) (hk : k = xs.length) (hst : stB (xs.map InsV.d) k = ⟨op, last, ov⟩) (ho : ov = true) : 0 = chkB (xs.map InsV.d) := by
  rw [chkB_end (by simpa using hl) hF (by simpa using hk), hst, ho]; rfl
end
theorem check (H : Sat g w l) (v : Value) (xs : List InsV) (hx : FSl g enV (okV g) 4 v xs) : Fc Tryd.prog 8 #[v] w (fun r w' => (∃ e, r = .int .i64 e ∧ e = chkB (xs.map InsV.d)) ∧ Sat g w' l) := by
  refine Fc.of Tryd.func8 rfl (by kernel_rfl) ?_
  have hml : (xs.map InsV.d).length = xs.length := List.length_map ..
  refine rLenF hx rfl ?_
  refine cI (fun c1 => ?_) (fun c1 => ?_)
  · replace c1 := vLt_t (c1)
    refine Done.mk ?_
    refine ⟨?_, ?_⟩
    · refine ⟨2, ?_⟩
      refine ⟨?_, ?_⟩
      · refine int_eq ?_
        omega
      exact (chkB_large (by omega)).symm
    exact H
  replace c1 := vLt_f (c1)
  refine CallP.mk (Fc.imp (Go.Proofs.YtooimjefbdokaaaDoor.Nest.begin_ _) ?_)
  rintro _ w1 ⟨p1, ⟨vo1, ⟨vl1, ⟨rfl, H'⟩⟩⟩⟩
  refine H.mergeK H' ?_
  clear H H'
  intro H
  refine rLenF hx rfl ?_
  refine LoopP.rule (α := Nat × List Int × List Int × Bool × Value × Value) (0, ns0.op, ns0.last, ns0.over, vo1, vl1) (fun x_ => [(15, .int .i64 x_.1)]) (fun x_ w_ => (x_.1 ≤ xs.length) ∧ (stB (xs.map InsV.d) x_.1 = ⟨x_.2.1, x_.2.2.1, x_.2.2.2.1⟩) ∧ (SoFar (xs.map InsV.d) x_.1) ∧ Sat g w_ ((Pt p1 [x_.2.2.2.2.1, x_.2.2.2.2.2, .bool x_.2.2.2.1] 65 :: Sl 3 1 enI x_.2.2.2.2.1 x_.2.1 :: Sl 5 1 enK x_.2.2.2.2.2 x_.2.2.1 :: l))) (fun x_ => xs.length - x_.1) ?_ ?_ ?_
  · repeat first | exact mt_nil | refine mt_cons rfl ?_ | refine mt_i rfl (by first | omega | (simp only; omega) | (simp; omega) | (simp; done)) ?_
  · try simp only
    refine ⟨?_, ?_⟩
    · omega
    refine ⟨?_, ?_⟩
    · rfl
    refine ⟨?_, ?_⟩
    · exact SoFar.zero _
    exact H
  clear H
  rintro ⟨k, op, last, ov, vo, vl⟩ f_ w_ ⟨hk, hst, hF, H⟩
  try simp only at hk hst hF H ⊢
  have hok := stB_ok (xs.map InsV.d) k
  rw [hst] at hok
  refine cI (fun c2 => ?_) (fun c2 => ?_)
  · replace c2 := vLt_t (c2)
    refine bk ?_
    obtain ⟨x1, hx1⟩ : ∃ x, (xs)[(k)]? = some x := ⟨_, List.getElem?_eq_getElem (by omega)⟩
    obtain ⟨b1, o1, E1, F1, hok1⟩ := FSl.elt hx hx1
    have hok1_op := hok1.op
    have hok1_a := hok1.a
    have hok1_b := hok1.b
    have hok1_to := hok1.to
    refine rIxE E1 rfl rfl rfl ?_
    refine rLdA (H.fat F1) 0 rfl rfl rfl ?_
    refine rAllocS H rfl ?_
    clear H
    intro p2 w2 H
    clear w_
    refine rStAS H 0 rfl rfl rfl (by simp only [List.all_cons, List.all_nil, H.one 2 rfl, H.one 3 rfl, FSl.one hok1_to, FSl.one hx]; rfl) ?_
    clear H
    intro w3 H
    clear w2
    refine rLdA (H.at 0 rfl) 0 rfl rfl rfl ?_
    refine CallP.mk (Fc.imp (Go.Proofs.YtooimjefbdokaaaDoor.Ins.check _ _ _ _ _ _ ?_ (H.rd hok1_to)) ?_)
    · assumption
    rintro _ w2 ⟨⟨r1, ⟨rfl, h1⟩⟩, H'⟩
    refine H.mergeK H' ?_
    clear H H'
    intro H
    refine cI (fun c3 => ?_) (fun c3 => ?_)
    · replace c3 := vNe_t (c3)
      refine Done.mk ?_
      refine ⟨?_, ?_⟩
      · refine ⟨r1, ?_⟩
        refine ⟨?_, ?_⟩
        · refine int_eq ?_
          omega
        exact ck1 (by omega) hF hx1 h1 (by assumption)
      refine H.drop 3 ?_
      clear H
      intro H
      refine H.drop 2 ?_
      clear H
      intro H
      refine H.drop 1 ?_
      clear H
      intro H
      refine H.drop 0 ?_
      clear H
      intro H
      exact H
    replace c3 := vNe_f (c3)
    refine rLdA (H.at 0 rfl) 0 rfl rfl rfl ?_
    refine H.fronts [3, 3, 3] ?_
    clear H
    intro H
    refine CallP.mk (Fc.imp (Go.Proofs.YtooimjefbdokaaaDoor.Nest.next _ hok H _ _ _ _ _) ?_)
    clear H
    rintro _ w4 ⟨op'1, ⟨last'1, ⟨ov'1, ⟨vo'1, ⟨vl'1, ⟨is1, ⟨e1, ⟨rfl, ⟨h2, H⟩⟩⟩⟩⟩⟩⟩⟩⟩
    refine cI (fun c4 => ?_) (fun c4 => ?_)
    · replace c4 := vNe_t (c4)
      refine Done.mk ?_
      refine ⟨?_, ?_⟩
      · refine ⟨e1, ?_⟩
        refine ⟨?_, ?_⟩
        · refine int_eq ?_
          omega
        exact ck2 (by omega) hF hx1 h1 (by assumption) hst h2 (by assumption)
      refine H.drop 3 ?_
      clear H
      intro H
      refine H.drop 2 ?_
      clear H
      intro H
      refine H.drop 1 ?_
      clear H
      intro H
      refine H.drop 0 ?_
      clear H
      intro H
      exact H
    replace c4 := vNe_f (c4)
    refine eqI64 (by omega) ?_
    refine Nxt.mk ((k + 1, op'1, last'1, ov'1, vo'1, vl'1)) (mt_i rfl (by first | omega | (simp only; omega) | (simp; omega)) (mt_nil)) ?_ ?_
    · refine ⟨?_, ?_⟩
      · omega
      refine ⟨?_, ?_⟩
      · exact ck3 hx1 hst h2
      refine ⟨?_, ?_⟩
      · exact ck4 hF hx1 h1 (by assumption) hst h2 (by assumption)
      refine H.drop 3 ?_
      clear H
      intro H
      exact H
    omega
  replace c2 := vLt_f (c2)
  refine rFieldAt rfl ?_
  refine rLd (H.at 0 rfl) 2 rfl rfl rfl ?_
  refine cI (fun c3 => ?_) (fun c3 => ?_)
  · replace c3 := not_t (c3)
    refine Done.mk ?_
    refine ⟨?_, ?_⟩
    · refine ⟨3, ?_⟩
      refine ⟨?_, ?_⟩
      · refine int_eq ?_
        omega
      exact ck5 (by omega) hF (by omega) hst (by assumption)
    refine H.drop 2 ?_
    clear H
    intro H
    refine H.drop 1 ?_
    clear H
    intro H
    refine H.drop 0 ?_
    clear H
    intro H
    exact H
  replace c3 := not_f (c3)
  refine Done.mk ?_
  refine ⟨?_, ?_⟩
  · refine ⟨0, ?_⟩
    refine ⟨?_, ?_⟩
    · refine int_eq ?_
      omega
    exact ck6 (by omega) hF (by omega) hst (by assumption)
  refine H.drop 2 ?_
  clear H
  intro H
  refine H.drop 1 ?_
  clear H
  intro H
  refine H.drop 0 ?_
  clear H
  intro H
  exact H
end
end Go.Proofs.YtooimjefbdokaaaDoor.Nest
/- Slices of frozen slices in a region. -/
set_option maxRecDepth 100000
set_option linter.unusedVariables false
namespace Go.Proofs.YtooimjefbdokaaaDoor.Eng
open Go Go.RowKit
section
variable {P : Program} {g : Glob} {α : Type} {en : α → List Value} {ok : α → Prop} {s : Nat} {t e : TypeId} {v : Value} {xs : List α} {K : Value → Prop} {S : World → Prop}
theorem tkSlF {lo hi : Option Value} (hs : FSl g en ok s v xs) (a h : Nat) (ht : P.underlying t = some (.slice e)) (hsz : (P.info? e).map (fun i => i.size) = some s) (ha : a ≤ h) (hh : h ≤ xs.length)
    (hlo : lo = none ∧ a = 0 ∨ ∃ k, lo = some (.int k a)) (hhi : hi = none ∧ h = xs.length ∨ ∃ k, hi = some (.int k h)) (k : ∀ v', FSl g en ok s v' ((xs.take h).drop a) → K v') : TkP P S (Instr.sliceAt t v lo hi none) K := by
  obtain ⟨ad, cap, rfl, h2, h3, h4⟩ := hs
  refine TkP.of _ (fun w _ => ?_) (k _ (slr_part (sz := s) ⟨ad, cap, rfl, h2, h3, h4⟩ ha hh))
  refine rSlB (cap := cap) (l := a) (h := h) (m := cap) ht hsz ?_ ⟨rfl, rfl⟩
  unfold Instr.sliceBounds
  rcases hlo with ⟨rfl, rfl⟩ | ⟨kl, rfl⟩ <;> rcases hhi with ⟨rfl, rfl⟩ | ⟨kh, rfl⟩
  · simp
  · simp [run_sliceBound (P := P) w kh (h : Int) cap _ (by omega) (by omega)]
  · simp [run_sliceBound (P := P) w kl (a : Int) xs.length _ (by omega) (by omega)]
  · simp [run_sliceBound (P := P) w kh (h : Int) cap _ (by omega) (by omega), run_sliceBound (P := P) w kl (a : Int) h _ (by omega) (by omega)]
end
end Go.Proofs.YtooimjefbdokaaaDoor.Eng
/- The document's Rest. -/
set_option maxRecDepth 100000
set_option maxHeartbeats 4000000
set_option linter.unusedVariables false
set_option linter.unusedSimpArgs false
namespace Go.Proofs.YtooimjefbdokaaaDoor.Ref
open Go Go.Proofs.YtooimjefbdokaaaDoor.Eng Go.RowKit
def enI (n : Int) : List Value := [.int .i64 n]
theorem rem_pos {a b : Int} (h : 0 ≤ a) : vRem a b = a % b := by unfold vRem; exact Int.tmod_eq_emod_of_nonneg h
theorem rem_ways {a b : Int} (hb : 0 < b) (h : a < 0) : (vRem a b = 0 ∧ a % b = 0) ∨ (vRem a b < 0 ∧ a % b = vRem a b + b) := by
  unfold vRem
  rw [Int.tmod_eq_emod]
  have h1 := Int.emod_nonneg a (Int.ne_of_gt hb)
  have h2 := Int.emod_lt_of_pos a hb
  by_cases hd : b ∣ a
  · left
    have := Int.emod_eq_zero_of_dvd hd
    rw [if_pos (.inr hd)]
    omega
  · right
    rw [if_neg (by rintro (h' | h'); omega; exact hd h')]
    have : (b.natAbs : Int) = b := by omega
    rw [this]
    omega
theorem eq_step {α : Type} {xs ys : List α} {i : Nat} (h : ∀ q, q < i → xs[q]? = ys[q]?) (h1 : xs[i]? = ys[i]?) : ∀ q, q < i + 1 → xs[q]? = ys[q]? := fun q hq => by
  rcases Nat.lt_or_ge q i with h2 | h2
  · exact h q h2
  · rw [show q = i by omega]; exact h1
theorem eq_all {α : Type} {xs ys : List α} {i : Nat} (h1 : xs.length ≤ i) (h2 : ys.length ≤ i) (h : ∀ q, q < i → xs[q]? = ys[q]?) : xs = ys := by
  apply List.ext_getElem?
  intro q
  rcases Nat.lt_or_ge q i with h3 | h3
  · exact h q h3
  · rw [List.getElem?_eq_none (by omega), List.getElem?_eq_none (by omega)]
def turnT (t : List UInt8) (a bits : Int) : List UInt8 := t.set ((vRem a t.length + t.length) % t.length).toNat (UInt8.ofNat ((t[((vRem a t.length + t.length) % t.length).toNat]?.getD 0).toNat ^^^ (bits % 256).toNat))
end Go.Proofs.YtooimjefbdokaaaDoor.Ref
