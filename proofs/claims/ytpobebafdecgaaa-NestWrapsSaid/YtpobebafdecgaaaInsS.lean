/- Instructions: what they are, how they are written and read; what is written is read, and what is read can be written. -/
import Derived.Test.YtpobebafdecgaaaTxt
set_option maxRecDepth 100000
set_option linter.unusedVariables false
set_option linter.unusedSimpArgs false
namespace Go.Proofs.Ytpobebafdecgaaa.Ins
open Go.Proofs.Ytpobebafdecgaaa.Leb Go.Proofs.Ytpobebafdecgaaa.Txt
structure InsD where
  op : Int
  a : Int
  b : Int
  to : List Int
/-- How many bytes a load or store moves. -/
def wid (o : Int) : Int :=
  if o = 44 ∨ o = 45 ∨ o = 48 ∨ o = 49 ∨ o = 58 ∨ o = 60 then 1
  else if o = 46 ∨ o = 47 ∨ o = 50 ∨ o = 51 ∨ o = 59 ∨ o = 61 then 2
  else if o = 40 ∨ o = 52 ∨ o = 53 ∨ o = 54 ∨ o = 62 then 4
  else if o = 41 ∨ o = 55 then 8 else 0
def kd (o b : Int) : Int := if o < b then 127 else 126
/-- Instructions of numbers: what they take and give. -/
def numS (o : Int) : List Int × Int × Bool :=
  if o = 69 ∨ o = 80 then ([kd o 80], 127, true)
  else if 69 < o ∧ o ≤ 90 then ([kd o 80, kd o 80], 127, true)
  else if (103 ≤ o ∧ o ≤ 105) ∨ (121 ≤ o ∧ o ≤ 123) then ([kd o 121], kd o 121, true)
  else if 106 ≤ o ∧ o ≤ 138 then ([kd o 121, kd o 121], kd o 121, true)
  else if o = 167 then ([126], 127, true)
  else if o = 172 ∨ o = 173 then ([127], 126, true)
  else if 192 ≤ o ∧ o ≤ 196 then ([kd o 194], kd o 194, true)
  else ([], 0, false)
/-- What stands beside: 0 unknown, 1 nothing, 2 block, 3 index, 4 ways, 5 indirect, 6 place, 7 zero, 8 const32, 9 const64. -/
def bsd (o : Int) : Int :=
  if o = 2 ∨ o = 3 ∨ o = 4 then 2
  else if o = 12 ∨ o = 13 ∨ o = 16 ∨ (32 ≤ o ∧ o ≤ 36) then 3
  else if o = 14 then 4
  else if o = 17 then 5
  else if 0 < wid o then 6
  else if o = 63 ∨ o = 64 then 7
  else if o = 65 then 8
  else if o = 66 then 9
  else if o ≤ 1 ∨ o = 5 ∨ o = 11 ∨ o = 15 ∨ o = 26 ∨ o = 27 then 1
  else if (numS o).2.2 = true then 1 else 0
def isIdx (n : Int) : Prop := 0 ≤ n ∧ n ≤ 4294967295
instance (n : Int) : Decidable (isIdx n) := by unfold isIdx; infer_instance
def goodK (k a b : Int) : Prop :=
  if k = 1 ∨ k = 7 then a = 0
  else if k = 2 then a = 64 ∨ a = 127 ∨ a = 126
  else if k = 8 then -2147483648 ≤ a ∧ a ≤ 2147483647
  else if k = 6 then isIdx a ∧ isIdx b
  else if k = 3 ∨ k = 4 ∨ k = 5 then isIdx a else True
instance (k a b : Int) : Decidable (goodK k a b) := by unfold goodK; infer_instance
def chk (x : InsD) : Int :=
  if bsd x.op = 0 then 6
  else if 16 < x.to.length then 2
  else if (bsd x.op ≠ 4 ∧ 0 < x.to.length) ∨ (bsd x.op ≠ 6 ∧ x.b ≠ 0) then 1
  else if goodK (bsd x.op) x.a x.b ∧ ∀ n ∈ x.to, isIdx n then 0 else 1
def byt (n : Int) : UInt8 := UInt8.ofNat (n % 256).toNat
def txtB (k : Int) (x : InsD) : List UInt8 :=
  if k = 2 then [byt x.a]
  else if k = 3 then uleb x.a.toNat
  else if k = 4 then uleb x.to.length ++ (x.to.flatMap (fun n => uleb n.toNat) ++ uleb x.a.toNat)
  else if k = 5 then uleb x.a.toNat ++ [0]
  else if k = 6 then uleb x.a.toNat ++ uleb x.b.toNat
  else if k = 7 then [0]
  else if k = 8 ∨ k = 9 then sleb x.a
  else []
def txt (x : InsD) : List UInt8 := byt x.op :: txtB (bsd x.op) x
/-! ## Reading -/
def manyR : Nat → Rdr (List Int)
  | 0 => retR []
  | n + 1 => bindR plainR fun v => bindR (manyR n) fun l => retR (v :: l)
def noughtR : Rdr Unit := bindR octetR fun v => if v ≠ 0 then failRd 4 else retR ()
def blockR (o : Int) : Rdr InsD := bindR octetR fun k => bindR (if k ≠ 64 ∧ k ≠ 127 ∧ k ≠ 126 then failRd 6 else retR ()) fun _ => retR ⟨o, k, 0, []⟩
def waysR (o : Int) : Rdr InsD := bindR plainR fun n => bindR (if 16 < n then failRd 2 else retR ()) fun _ => bindR (manyR (if 16 < n then 0 else n.toNat)) fun l => bindR plainR fun a => retR ⟨o, a, 0, l⟩
def bsdR (o k : Int) : Rdr InsD :=
  if k = 2 then blockR o
  else if k = 3 then bindR plainR fun a => retR ⟨o, a, 0, []⟩
  else if k = 4 then waysR o
  else if k = 5 then bindR plainR fun a => bindR noughtR fun _ => retR ⟨o, a, 0, []⟩
  else if k = 6 then bindR plainR fun a => bindR plainR fun b => retR ⟨o, a, b, []⟩
  else if k = 7 then bindR noughtR fun _ => retR ⟨o, 0, 0, []⟩
  else if k = 8 then bindR (signedR 32) fun a => retR ⟨o, a, 0, []⟩
  else if k = 9 then bindR (signedR 64) fun a => retR ⟨o, a, 0, []⟩
  else retR ⟨o, 0, 0, []⟩
def insR : Rdr InsD := bindR octetR fun o => bindR (if bsd o = 0 then failRd 6 else retR ()) fun _ => bsdR o (bsd o)
def zeroI : InsD := ⟨0, 0, 0, []⟩
/-- What ins.Read answers. -/
def rdI (s : List UInt8) : InsD × Nat × Int :=
  if (insR s ⟨0, 0⟩).2.bad = 0 then ((insR s ⟨0, 0⟩).1, (insR s ⟨0, 0⟩).2.at_, 0) else (zeroI, 0, (insR s ⟨0, 0⟩).2.bad)
theorem Strict.many : ∀ n, Strict (manyR n)
  | 0 => Strict.ret _
  | n + 1 => Strict.plain.bind fun _ => (Strict.many n).bind fun _ => Strict.ret _
theorem Strict.nought : Strict noughtR := Strict.octet.bind fun v => by
  split
  · exact Strict.fail _
  · exact Strict.ret _
theorem Strict.ite {α : Type} {c : Prop} [Decidable c] {p q : Rdr α} (hp : Strict p) (hq : Strict q) : Strict (if c then p else q) := by split <;> assumption
theorem Strict.block (o : Int) : Strict (blockR o) := Strict.octet.bind fun v => (Strict.ite (Strict.fail _) (Strict.ret _)).bind fun _ => Strict.ret _
theorem Strict.ways (o : Int) : Strict (waysR o) := Strict.plain.bind fun n => (Strict.ite (Strict.fail _) (Strict.ret _)).bind fun _ => (Strict.many _).bind fun _ => Strict.plain.bind fun _ => Strict.ret _
theorem Strict.bsd (o k : Int) : Strict (bsdR o k) := by
  unfold bsdR
  refine Strict.ite (Strict.block o) (Strict.ite (Strict.plain.bind fun _ => Strict.ret _) (Strict.ite (Strict.ways o) (Strict.ite (Strict.plain.bind fun _ => Strict.nought.bind fun _ => Strict.ret _) (Strict.ite (Strict.plain.bind fun _ => Strict.plain.bind fun _ => Strict.ret _) (Strict.ite (Strict.nought.bind fun _ => Strict.ret _) (Strict.ite ((Strict.signed _).bind fun _ => Strict.ret _) (Strict.ite ((Strict.signed _).bind fun _ => Strict.ret _) (Strict.ret _))))))))
theorem Strict.ins : Strict insR := Strict.octet.bind fun _ => (Strict.ite (Strict.fail _) (Strict.ret _)).bind fun _ => Strict.bsd _ _
theorem Tx.cg {α : Type} {A A' : List UInt8} {p : Rdr α} {v : α} (h : Tx A p v) (e : A = A') : Tx A' p v := e ▸ h
theorem Tx.many : ∀ (l : List Int), (∀ n ∈ l, isIdx n) → Tx (l.flatMap fun n => uleb n.toNat) (manyR l.length) l
  | [], _ => Tx.ret _
  | n :: l, h => by
    obtain ⟨h1, h2⟩ := h n (List.mem_cons_self ..)
    have h3 := Tx.plain n.toNat (by omega)
    rw [show ((n.toNat : Nat) : Int) = n by omega] at h3
    have := h3.bind (q := fun v => bindR (manyR l.length) fun l' => retR (v :: l')) ((Tx.many l fun m hm => h m (List.mem_cons_of_mem _ hm)).bind (q := fun l' => retR (n :: l')) (Tx.ret _) fun _ => Strict.ret _) fun _ => (Strict.many _).bind fun _ => Strict.ret _
    rw [List.append_nil] at this
    exact this
theorem Tx.nought : Tx [0] noughtR () := by
  have := (Tx.octet 0).bind (q := fun v => if v ≠ 0 then failRd 4 else retR ()) (B := []) (u := ()) (by
    rw [if_neg (by decide)]; exact Tx.ret _) fun v => Strict.ite (Strict.fail _) (Strict.ret _)
  rw [List.append_nil] at this; exact this
theorem Tx.idx {n : Int} (h : isIdx n) : Tx (uleb n.toNat) plainR n := by
  obtain ⟨h1, h2⟩ := h
  have h3 := Tx.plain n.toNat (by omega)
  rw [show ((n.toNat : Nat) : Int) = n by omega] at h3
  exact h3
theorem bsd_cases (o : Int) : bsd o = 0 ∨ bsd o = 1 ∨ bsd o = 2 ∨ bsd o = 3 ∨ bsd o = 4 ∨ bsd o = 5 ∨ bsd o = 6 ∨ bsd o = 7 ∨ bsd o = 8 ∨ bsd o = 9 := by
  unfold bsd
  repeat' split
  all_goals simp
theorem byt_of {n : Int} (h : 0 ≤ n ∧ n ≤ 255) : byt n = UInt8.ofNat n.toNat := by unfold byt; rw [Int.emod_eq_of_lt (by omega) (by omega)]
/-- What stands beside a good instruction is read. -/
theorem Tx.beside {x : InsD} (h0 : bsd x.op ≠ 0) (hto : x.to.length ≤ 16) (h1 : bsd x.op ≠ 4 → x.to = []) (h2 : bsd x.op ≠ 6 → x.b = 0) (hg : goodK (bsd x.op) x.a x.b) (ht : ∀ n ∈ x.to, isIdx n) (ha : -9223372036854775808 ≤ x.a ∧ x.a ≤ 9223372036854775807) : Tx (txtB (bsd x.op) x) (bsdR x.op (bsd x.op)) x := by
  obtain ⟨o, a, b, to⟩ := x
  simp only at h0 hto h1 h2 hg ht ha ⊢
  generalize hk : Ins.bsd o = k at *
  have hkc := bsd_cases o
  rw [hk] at hkc
  unfold goodK at hg
  unfold txtB bsdR
  rcases hkc with rfl | rfl | rfl | rfl | rfl | rfl | rfl | rfl | rfl | rfl
  · exact absurd rfl h0
  · simp at hg h1 h2
    simp only [h1, h2, hg]
    exact Tx.ret _
  · simp at hg h1 h2
    simp only [h1, h2]
    have hb : 0 ≤ a ∧ a ≤ 255 := by omega
    have := (Tx.octetN a hb).bind (q := fun k => bindR (if k ≠ 64 ∧ k ≠ 127 ∧ k ≠ 126 then failRd 6 else retR ()) fun _ => retR (⟨o, k, 0, []⟩ : InsD)) (B := [] ++ []) (u := ⟨o, a, 0, []⟩) ((show Tx [] _ () by rw [if_neg (by omega)]; exact Tx.ret _).bind (Tx.ret _) fun _ => Strict.ret _) fun v => (Strict.ite (Strict.fail _) (Strict.ret _)).bind fun _ => Strict.ret _
    rw [List.append_nil, List.append_nil, ← byt_of hb] at this
    exact this
  · simp at hg h1 h2
    simp only [h1, h2]
    have := (Tx.idx hg).bind (q := fun a => retR (⟨o, a, 0, []⟩ : InsD)) (Tx.ret _) fun _ => Strict.ret _
    rw [List.append_nil] at this
    exact this
  · simp at hg h2
    simp only [h2]
    have hidx : isIdx ((to.length : Nat) : Int) := ⟨by omega, by omega⟩
    have hn : Tx (uleb to.length) plainR ((to.length : Nat) : Int) := by have := Tx.idx hidx; rwa [Int.toNat_natCast] at this
    have := hn.bind (q := fun n => bindR (if 16 < n then failRd 2 else retR ()) fun _ => bindR (manyR (if 16 < n then 0 else n.toNat)) fun l => bindR plainR fun a => retR (⟨o, a, 0, l⟩ : InsD)) (B := [] ++ (to.flatMap (fun n => uleb n.toNat) ++ (uleb a.toNat ++ []))) (u := ⟨o, a, 0, to⟩) ((show Tx [] _ () by rw [if_neg (by omega)]; exact Tx.ret _).bind (by
      rw [if_neg (by omega), Int.toNat_natCast]
      exact (Tx.many to ht).bind ((Tx.idx hg).bind (Tx.ret _) fun _ => Strict.ret _) fun _ => Strict.plain.bind fun _ => Strict.ret _) fun _ => (Strict.many _).bind fun _ => Strict.plain.bind fun _ => Strict.ret _) fun n => (Strict.ite (Strict.fail _) (Strict.ret _)).bind fun _ => (Strict.many _).bind fun _ => Strict.plain.bind fun _ => Strict.ret _
    rw [List.nil_append, List.append_nil] at this
    exact this
  · simp at hg h1 h2
    simp only [h1, h2]
    have := (Tx.idx hg).bind (q := fun a => bindR noughtR fun _ => retR (⟨o, a, 0, []⟩ : InsD)) (Tx.nought.bind (Tx.ret _) fun _ => Strict.ret _) fun _ => Strict.nought.bind fun _ => Strict.ret _
    rw [List.append_nil] at this
    exact this
  · simp at hg h1
    simp only [h1]
    have := (Tx.idx hg.1).bind (q := fun a => bindR plainR fun b => retR (⟨o, a, b, []⟩ : InsD)) ((Tx.idx hg.2).bind (Tx.ret _) fun _ => Strict.ret _) fun _ => Strict.plain.bind fun _ => Strict.ret _
    rw [List.append_nil] at this
    exact this
  · simp at hg h1 h2
    simp only [h1, h2, hg]
    have := Tx.nought.bind (q := fun _ => retR (⟨o, 0, 0, []⟩ : InsD)) (Tx.ret _) fun _ => Strict.ret _
    rw [List.append_nil] at this
    exact this
  · simp at hg h1 h2
    simp only [h1, h2]
    have := (Tx.signed32 a hg).bind (q := fun a => retR (⟨o, a, 0, []⟩ : InsD)) (Tx.ret _) fun _ => Strict.ret _
    rw [List.append_nil] at this
    exact this
  · simp at h1 h2
    simp only [h1, h2]
    have := (Tx.signed64 a ha).bind (q := fun a => retR (⟨o, a, 0, []⟩ : InsD)) (Tx.ret _) fun _ => Strict.ret _
    rw [List.append_nil] at this
    exact this
theorem chk_ok {x : InsD} (h : chk x = 0) : bsd x.op ≠ 0 ∧ x.to.length ≤ 16 ∧ (bsd x.op ≠ 4 → x.to = []) ∧ (bsd x.op ≠ 6 → x.b = 0) ∧ goodK (bsd x.op) x.a x.b ∧ ∀ n ∈ x.to, isIdx n := by
  unfold chk at h
  split at h
  · cases h
  split at h
  · cases h
  split at h
  · cases h
  split at h
  · rename_i h1 h2 h3 h4
    refine ⟨h1, by omega, fun h5 => ?_, fun h5 => ?_, h4.1, h4.2⟩
    · exact List.eq_nil_of_length_eq_zero (by
        apply Decidable.byContradiction
        intro h6; exact h3 (.inl ⟨h5, by omega⟩))
    · apply Decidable.byContradiction
      intro h6; exact h3 (.inr ⟨h5, h6⟩)
  · cases h
theorem ok_chk {x : InsD} (h0 : bsd x.op ≠ 0) (h1 : x.to.length ≤ 16) (h2 : bsd x.op ≠ 4 → x.to = []) (h3 : bsd x.op ≠ 6 → x.b = 0) (h4 : goodK (bsd x.op) x.a x.b) (h5 : ∀ n ∈ x.to, isIdx n) : chk x = 0 := by
  unfold chk
  rw [if_neg h0, if_neg (by omega), if_neg, if_pos ⟨h4, h5⟩]
  rintro (⟨h, h6⟩ | ⟨h, h6⟩)
  · rw [h2 h] at h6; simp at h6
  · exact h6 (h3 h)
theorem Tx.insr {x : InsD} (h : chk x = 0) (hop : 0 ≤ x.op ∧ x.op ≤ 255) (ha : -9223372036854775808 ≤ x.a ∧ x.a ≤ 9223372036854775807) : Tx (txt x) insR x := by
  obtain ⟨h0, h1, h2, h3, h4, h5⟩ := chk_ok h
  have := (Tx.octetN x.op hop).bind (q := fun o => bindR (if Ins.bsd o = 0 then failRd 6 else retR ()) fun _ => bsdR o (Ins.bsd o)) (B := [] ++ txtB (Ins.bsd x.op) x) (u := x) ((show Tx [] _ () by rw [if_neg h0]; exact Tx.ret _).bind (Tx.beside h0 h1 h2 h3 h4 h5 ha) fun _ => Strict.bsd _ _) fun _ => (Strict.ite (Strict.fail _) (Strict.ret _)).bind fun _ => Strict.bsd _ _
  rw [List.nil_append, ← byt_of hop] at this
  exact this
/-- What is written is read as it was, whatever follows. -/
theorem rdI_txt {x : InsD} (h : chk x = 0) (hop : 0 ≤ x.op ∧ x.op ≤ 255) (ha : -9223372036854775808 ≤ x.a ∧ x.a ≤ 9223372036854775807) (more : List UInt8) : rdI (txt x ++ more) = (x, (txt x).length, 0) := by
  have := (Tx.insr h hop ha).whole (txt x ++ more) 0 more rfl
  unfold rdI
  rw [this, if_pos rfl, Nat.zero_add]
theorem rdI_cut {x : InsD} (h : chk x = 0) (hop : 0 ≤ x.op ∧ x.op ≤ 255) (ha : -9223372036854775808 ≤ x.a ∧ x.a ≤ 9223372036854775807) {j : Nat} (hj : j < (txt x).length) : (rdI ((txt x).take j)).2.2 = 3 := by
  have := (Tx.insr h hop ha).cut ((txt x).take j) 0 j rfl hj
  unfold rdI
  rw [if_neg (by rw [this]; decide)]
  exact this
/-! ## What was read -/
theorem Gt.fail {e : Int} (he : e ≠ 0) (Q : Unit → Nat → Prop) : Gt (failRd e) Q := fun s k _ h0 => absurd h0 (by unfold failRd failR; simpa using he)
theorem Gt.many : ∀ n, Gt (manyR n) (fun l m => l.length = n ∧ (∀ x ∈ l, isIdx x) ∧ (l.flatMap fun n => uleb n.toNat).length ≤ m)
  | 0 => (Gt.ret _).imp fun v n ⟨h1, h2⟩ => by subst h1; exact ⟨rfl, nofun, Nat.zero_le _⟩
  | n + 1 => by
    refine (Gt.plain.bind (fun v m hv => (Gt.many n).bind (fun l m hl => Gt.ret (v :: l)) fun _ => Strict.ret _) fun _ => (Strict.many _).bind fun _ => Strict.ret _).imp ?_
    rintro u k ⟨v, m, m', ⟨q, rfl, hq, hl⟩, ⟨l, m1, m2, ⟨g1, g2, g3⟩, ⟨rfl, rfl⟩, rfl⟩, rfl⟩
    refine ⟨by simp [g1], fun x hx => ?_, ?_⟩
    · rcases List.mem_cons.1 hx with rfl | hx
      · exact ⟨by omega, by omega⟩
      · exact g2 x hx
    · rw [List.flatMap_cons, List.length_append, Int.toNat_natCast]; omega
theorem Gt.nought : Gt noughtR (fun _ n => n = 1) := by
  refine (Gt.octet.bind (Q' := fun _ _ n => n = 0) (fun v n hv => ?_) fun v => Strict.ite (Strict.fail _) (Strict.ret _)).imp ?_
  · split
    · exact Gt.fail (by decide) _
    · exact (Gt.ret _).imp fun _ _ h => h.2
  · rintro u n ⟨v, m, m', ⟨_, _, rfl⟩, rfl, rfl⟩; rfl
/-- What was read can be written, with no more bytes. -/
def Told (o : Int) (x : InsD) (n : Nat) : Prop := x.op = o ∧ chk x = 0 ∧ (txtB (bsd o) x).length ≤ n ∧ -9223372036854775808 ≤ x.a ∧ x.a ≤ 9223372036854775807 ∧ I64a x.b
where I64a (b : Int) : Prop := -9223372036854775808 ≤ b ∧ b ≤ 9223372036854775807
theorem Gt.beside (o : Int) (h0 : bsd o ≠ 0) : Gt (bsdR o (bsd o)) (Told o) := by
  have hkc := bsd_cases o
  have mk : ∀ {k : Int} {a b : Int} {to : List Int} {n : Nat}, bsd o = k → to.length ≤ 16 → (k ≠ 4 → to = []) → (k ≠ 6 → b = 0) → goodK k a b → (∀ n ∈ to, isIdx n) → (txtB k ⟨o, a, b, to⟩).length ≤ n → -9223372036854775808 ≤ a ∧ a ≤ 9223372036854775807 → -9223372036854775808 ≤ b ∧ b ≤ 9223372036854775807 → Told o ⟨o, a, b, to⟩ n := by
    intro k a b to n hk h1 h2 h3 h4 h5 h6 h7 h8
    subst hk
    exact ⟨rfl, ok_chk h0 h1 h2 h3 h4 h5, h6, h7.1, h7.2, h8⟩
  unfold bsdR
  rcases hkc with hk | hk | hk | hk | hk | hk | hk | hk | hk | hk <;> rw [hk] at h0 ⊢
  · exact absurd rfl h0
  · refine (Gt.ret _).imp ?_
    rintro v n ⟨rfl, rfl⟩
    exact mk hk (Nat.zero_le _) (fun _ => rfl) (fun _ => rfl) (by simp [goodK]) nofun (by simp [txtB]) (by omega) (by omega)
  · refine (Gt.octet.bind (Q' := fun (k : Int) (x : InsD) (n : Nat) => n = 0 ∧ (k = 64 ∨ k = 127 ∨ k = 126) ∧ x = ⟨o, k, 0, []⟩) (fun v n hv => ?_) fun v => (Strict.ite (Strict.fail _) (Strict.ret _)).bind fun _ => Strict.ret _).imp ?_
    · refine (Gt.bind (Q := fun _ n => n = 0 ∧ (v = 64 ∨ v = 127 ∨ v = 126)) ?_ (fun _ n _ => Gt.ret _) fun _ => Strict.ret _).imp ?_
      · split
        · exact Gt.fail (by decide) _
        · rename_i hv2
          exact (Gt.ret _).imp fun _ _ h => ⟨h.2, by omega⟩
      · rintro u n ⟨_, m, m', ⟨rfl, h1⟩, ⟨rfl, rfl⟩, rfl⟩; exact ⟨rfl, h1, rfl⟩
    · rintro u n ⟨v, m, m', ⟨_, _, rfl⟩, ⟨rfl, h1, rfl⟩, rfl⟩
      exact mk hk (Nat.zero_le _) (fun _ => rfl) (fun _ => rfl) (by simpa [goodK] using h1) nofun (by simp [txtB]) (by omega) (by omega)
  · refine (Gt.plain.bind (fun v n hv => Gt.ret _) fun _ => Strict.ret _).imp ?_
    rintro u n ⟨v, m, m', ⟨q, rfl, hq, hl⟩, ⟨rfl, rfl⟩, rfl⟩
    exact mk hk (Nat.zero_le _) (fun _ => rfl) (fun _ => rfl) (by simp [goodK, isIdx]; omega) nofun (by simpa [txtB] using hl) (by omega) (by omega)
  · refine (Gt.plain.bind (Q' := fun (v : Int) (x : InsD) (n : Nat) => ∃ l : List Int, ∃ q : Nat, l.length = v ∧ v ≤ 16 ∧ (∀ x ∈ l, isIdx x) ∧ q < 2 ^ 32 ∧ (l.flatMap fun n => uleb n.toNat).length + (uleb q).length ≤ n ∧ x = ⟨o, q, 0, l⟩) (fun v n hv => ?_) fun v => (Strict.ite (Strict.fail _) (Strict.ret _)).bind fun _ => (Strict.many _).bind fun _ => Strict.plain.bind fun _ => Strict.ret _).imp ?_
    · refine (Gt.bind (Q := fun _ n => n = 0 ∧ v ≤ 16) ?_ (Q' := fun _ (x : InsD) (n : Nat) => ∃ l : List Int, ∃ q : Nat, l.length = v ∧ v ≤ 16 ∧ (∀ x ∈ l, isIdx x) ∧ q < 2 ^ 32 ∧ (l.flatMap fun n => uleb n.toNat).length + (uleb q).length ≤ n ∧ x = ⟨o, q, 0, l⟩) (fun _ n hn => ?_) fun _ => (Strict.many _).bind fun _ => Strict.plain.bind fun _ => Strict.ret _).imp ?_
      · split
        · exact Gt.fail (by decide) _
        · exact (Gt.ret _).imp fun _ _ h => ⟨h.2, by omega⟩
      · rw [if_neg (by omega)]
        refine ((Gt.many v.toNat).bind (fun l n hl => Gt.plain.bind (fun a n ha => Gt.ret _) fun _ => Strict.ret _) fun _ => Strict.plain.bind fun _ => Strict.ret _).imp ?_
        rintro u k ⟨l, m1, m2, ⟨g1, g2, g3⟩, ⟨a, m3, m4, ⟨q, rfl, hq, hl⟩, ⟨rfl, rfl⟩, rfl⟩, rfl⟩
        obtain ⟨p, rfl, _⟩ := hv
        exact ⟨l, q, by rw [g1]; simp, by omega, g2, hq, by omega, rfl⟩
      · rintro u n ⟨_, m, m', ⟨rfl, _⟩, h, rfl⟩
        rw [Nat.zero_add]; exact h
    · rintro u n ⟨v, m, m', ⟨p, rfl, hp, hl⟩, ⟨l, q, h1, h2, h3, h4, h5, rfl⟩, rfl⟩
      have hlp : l.length = p := by omega
      refine mk hk (by omega) (fun h => absurd rfl h) (fun _ => rfl) (by simp [goodK, isIdx]; omega) h3 ?_ (by omega) (by omega)
      unfold txtB
      rw [if_neg (by decide), if_neg (by decide), if_pos rfl, hlp]
      simp only [List.length_append, Int.toNat_natCast]
      omega
  · refine (Gt.plain.bind (fun v n hv => Gt.nought.bind (fun _ n hn => Gt.ret _) fun _ => Strict.ret _) fun _ => Strict.nought.bind fun _ => Strict.ret _).imp ?_
    rintro u n ⟨v, m, m', ⟨q, rfl, hq, hl⟩, ⟨_, m1, m2, rfl, ⟨rfl, rfl⟩, rfl⟩, rfl⟩
    exact mk hk (Nat.zero_le _) (fun _ => rfl) (fun _ => rfl) (by simp [goodK, isIdx]; omega) nofun (by simp [txtB]; omega) (by omega) (by omega)
  · refine (Gt.plain.bind (fun v n hv => Gt.plain.bind (fun b n hn => Gt.ret _) fun _ => Strict.ret _) fun _ => Strict.plain.bind fun _ => Strict.ret _).imp ?_
    rintro u n ⟨v, m, m', ⟨q, rfl, hq, hl⟩, ⟨_, m1, m2, ⟨q2, rfl, hq2, hl2⟩, ⟨rfl, rfl⟩, rfl⟩, rfl⟩
    exact mk hk (Nat.zero_le _) (fun _ => rfl) (fun h => absurd rfl h) (by simp [goodK, isIdx]; omega) nofun (by simp [txtB]; omega) (by omega) (by omega)
  · refine (Gt.nought.bind (fun _ n hn => Gt.ret _) fun _ => Strict.ret _).imp ?_
    rintro u n ⟨_, m1, m2, rfl, ⟨rfl, rfl⟩, rfl⟩
    exact mk hk (Nat.zero_le _) (fun _ => rfl) (fun _ => rfl) (by simp [goodK]) nofun (by simp [txtB]) (by omega) (by omega)
  · refine ((Gt.signed 32 (.inl rfl)).bind (fun v n hv => Gt.ret _) fun _ => Strict.ret _).imp ?_
    rintro u n ⟨v, m, m', ⟨h1, h2, h3⟩, ⟨rfl, rfl⟩, rfl⟩
    simp at h1 h2
    exact mk hk (Nat.zero_le _) (fun _ => rfl) (fun _ => rfl) (by simp [goodK]; omega) nofun (by simpa [txtB] using h3) (by omega) (by omega)
  · refine ((Gt.signed 64 (.inr rfl)).bind (fun v n hv => Gt.ret _) fun _ => Strict.ret _).imp ?_
    rintro u n ⟨v, m, m', ⟨h1, h2, h3⟩, ⟨rfl, rfl⟩, rfl⟩
    simp at h1 h2
    exact mk hk (Nat.zero_le _) (fun _ => rfl) (fun _ => rfl) (by simp [goodK]) nofun (by simpa [txtB] using h3) (by omega) (by omega)
theorem Gt.insr : Gt insR (fun x n => 0 ≤ x.op ∧ x.op ≤ 255 ∧ chk x = 0 ∧ (txt x).length ≤ n ∧ (-9223372036854775808 ≤ x.a ∧ x.a ≤ 9223372036854775807) ∧ -9223372036854775808 ≤ x.b ∧ x.b ≤ 9223372036854775807) := by
  refine (Gt.octet.bind (Q' := fun o x n => Told o x n) (fun o n ho => ?_) fun _ => (Strict.ite (Strict.fail _) (Strict.ret _)).bind fun _ => Strict.bsd _ _).imp ?_
  · refine (Gt.bind (Q := fun _ n => n = 0 ∧ bsd o ≠ 0) (Q' := fun _ => Told o) ?_ (fun _ n hn => Gt.beside o hn.2) fun _ => Strict.bsd _ _).imp ?_
    · split
      · exact Gt.fail (by decide) _
      · rename_i h; exact (Gt.ret _).imp fun _ _ h' => ⟨h'.2, h⟩
    · rintro u n ⟨_, m, m', ⟨rfl, _⟩, h, rfl⟩
      rw [Nat.zero_add]; exact h
  · rintro x n ⟨o, m, m', ⟨h1, h2, rfl⟩, ⟨rfl, h3, h4, h5, h6, h7⟩, rfl⟩
    exact ⟨h1, h2, h3, by unfold txt; simp only [List.length_cons]; omega, ⟨h5, h6⟩, h7⟩
theorem rdI_told {s : List UInt8} {x : InsD} {n : Nat} (h : rdI s = (x, n, 0)) : n ≤ s.length ∧ 0 ≤ x.op ∧ x.op ≤ 255 ∧ chk x = 0 ∧ (txt x).length ≤ n ∧ (-9223372036854775808 ≤ x.a ∧ x.a ≤ 9223372036854775807) ∧ -9223372036854775808 ≤ x.b ∧ x.b ≤ 9223372036854775807 := by
  unfold rdI at h
  split at h
  · rename_i h0
    obtain ⟨h1, m, h2, h3⟩ := Gt.insr s 0 (Nat.zero_le _) h0
    simp only [Prod.mk.injEq] at h
    obtain ⟨rfl, rfl, _⟩ := h
    rw [Nat.zero_add] at h2
    rw [← h2] at h3
    exact ⟨h1, h3⟩
  · rename_i h0
    simp only [Prod.mk.injEq] at h
    exact absurd h.2.2 h0
end Go.Proofs.Ytpobebafdecgaaa.Ins
