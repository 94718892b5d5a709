/- The memory as a list of pieces that lie apart. -/
import Derived.Test.YtcpniokopahakaaDoorOff
import Derived.Test.YtcpniokopahakaaDoorPlanZ
set_option linter.unusedVariables false
set_option linter.unusedSimpArgs false
namespace Go.Proofs.YtcpniokopahakaaDoor.Eng
open Go Go.RowKit
abbrev Hp := Nat → Option Obj
abbrev As := Hp → Prop
/-- h lies in two parts. -/
def Spl (h a b : Hp) : Prop := ∀ k, (a k = h k ∧ b k = none) ∨ (a k = none ∧ b k = h k)
def sts : List As → As
  | [], _ => True
  | A :: l, h => ∃ a b, Spl h a b ∧ A a ∧ sts l b
structure Glob where
  os : Os
  tape : Nat → Question → Nat
  output : Array (Nat × ByteArray)
  fr : Hp
def Fz (f : Hp) : As := fun h => h = f
/-- h is a part of the world's memory. -/
def Sub (h : Hp) (w : World) : Prop := ∀ k o, h k = some o → w.heap[k]? = some o
/-- The world is made of the pieces l, beside what is frozen. -/
structure Sat (g : Glob) (w : World) (l : List As) : Prop where
  os : w.os = g.os
  tape : w.tape = g.tape
  output : w.output = g.output
  ex : ∃ h, Sub h w ∧ sts (Fz g.fr :: l) h
theorem Spl.comm {h a b : Hp} (x : Spl h a b) : Spl h b a := fun k => by
  rcases x k with h | h
  · exact .inr ⟨h.2, h.1⟩
  · exact .inl ⟨h.2, h.1⟩
theorem Spl.swap {h a b c d : Hp} (x : Spl h b c) (y : Spl c a d) : ∃ e, Spl h a e ∧ Spl e b d := by
  refine ⟨fun k => match b k with
    | some o => some o
    | none => d k, fun k => ?_, fun k => ?_⟩
  · rcases x k with ⟨h1, h2⟩ | ⟨h1, h2⟩ <;> rcases y k with ⟨h3, h4⟩ | ⟨h3, h4⟩
    · right; rw [h2] at h3; refine ⟨h3, ?_⟩
      cases hb : b k with
      | some o => simp only [hb]; rw [← h1, hb]
      | none => simp only [hb]; rw [h4, ← h1, hb]
    · right; rw [h2] at h4; refine ⟨h3, ?_⟩
      cases hb : b k with
      | some o => simp only [hb]; rw [← h1, hb]
      | none => simp only [hb]; rw [h4, ← h1, hb]
    · left; refine ⟨h3.trans h2, ?_⟩; simp only [h1]; exact h4
    · right; refine ⟨h3, ?_⟩; simp only [h1]; exact h4.trans h2
  · rcases x k with ⟨h1, h2⟩ | ⟨h1, h2⟩ <;> rcases y k with ⟨h3, h4⟩ | ⟨h3, h4⟩
    · left; refine ⟨?_, h4⟩
      cases hb : b k with
      | some o => simp only [hb]
      | none => simp only [hb]; rw [h4]
    · rw [h2] at h4; left; refine ⟨?_, h4⟩
      cases hb : b k with
      | some o => simp only [hb]
      | none => simp only [hb]; rw [h4]
    · left; refine ⟨?_, h4⟩; simp only [h1]; exact h4.symm
    · right; refine ⟨h1, ?_⟩; simp only [h1]
theorem sts_mid : ∀ {l : List As} {j : Nat} {A : As} {h : Hp}, l[j]? = some A → (sts l h ↔ ∃ a b, Spl h a b ∧ A a ∧ sts (l.eraseIdx j) b) := by
  intro l
  induction l with
  | nil => intro j A h hj; simp at hj
  | cons B r ih =>
    intro j A h hj
    cases j with
    | zero => obtain rfl := Option.some.inj hj; exact Iff.rfl
    | succ j =>
      have hj : r[j]? = some A := by simpa using hj
      simp only [List.eraseIdx_cons_succ, sts]
      constructor
      · rintro ⟨b, c, h1, h2, h3⟩
        obtain ⟨a, d, h4, h5, h6⟩ := (ih hj).1 h3
        obtain ⟨e, h7, h8⟩ := h1.swap h4
        exact ⟨a, e, h7, h5, b, d, h8, h2, h6⟩
      · rintro ⟨a, e, h7, h5, b, d, h8, h2, h6⟩
        obtain ⟨c, h9, h10⟩ := h7.swap h8
        exact ⟨b, c, h9, h2, (ih hj).2 ⟨a, d, h10, h5, h6⟩⟩
theorem Spl.sub {h a b : Hp} {w : World} (x : Spl h a b) (s : Sub h w) : Sub a w ∧ Sub b w := by
  refine ⟨fun k o ho => ?_, fun k o ho => ?_⟩
  · rcases x k with ⟨h1, _⟩ | ⟨h1, _⟩
    · exact s k o (h1 ▸ ho)
    · rw [h1] at ho; cases ho
  · rcases x k with ⟨_, h1⟩ | ⟨_, h1⟩
    · rw [h1] at ho; cases ho
    · exact s k o (h1 ▸ ho)
section
variable {P : Program} {g : Glob} {w w' : World} {l : List As} {A A' : As} {j : Nat}
/-- What a piece alone tells. -/
theorem Sat.part (H : Sat g w l) (hj : l[j]? = some A) : ∃ a, A a ∧ Sub a w := by
  obtain ⟨h, hs, hx⟩ := H.ex
  have hj' : (Fz g.fr :: l)[j + 1]? = some A := by simpa using hj
  obtain ⟨a, b, h1, h2, _⟩ := (sts_mid hj').1 hx
  exact ⟨a, h2, (h1.sub hs).1⟩
theorem Sat.frz (H : Sat g w l) : Sub g.fr w := by
  obtain ⟨h, hs, a, b, h1, h2, _⟩ := H.ex
  have := (h1.sub hs).1
  rw [show a = g.fr from h2] at this; exact this
/-- One piece becomes another. -/
theorem Sat.step (H : Sat g w l) (hj : l[j]? = some A) (hos : w'.os = w.os) (ht : w'.tape = w.tape) (ho : w'.output = w.output)
    (st : ∀ a, A a → Sub a w → ∃ a', A' a' ∧ Sub a' w' ∧ ∀ k, k < w.heap.size → a k = none → a' k = none ∧ w'.heap[k]? = w.heap[k]?) : Sat g w' (l.set j A') := by
  obtain ⟨h, hs, hx⟩ := H.ex
  have hj' : (Fz g.fr :: l)[j + 1]? = some A := by simpa using hj
  obtain ⟨a, b, h1, h2, h3⟩ := (sts_mid hj').1 hx
  obtain ⟨sa, sb⟩ := h1.sub hs
  obtain ⟨a', k1, k2, k3⟩ := st a h2 sa
  have hlt : ∀ k o, b k = some o → k < w.heap.size ∧ a k = none := fun k o hb => by
    refine ⟨(Array.getElem?_eq_some_iff.1 (sb k o hb)).1, ?_⟩
    rcases h1 k with ⟨_, h⟩ | ⟨h, _⟩
    · rw [h] at hb; cases hb
    · exact h
  have hjl : j < l.length := (List.getElem?_eq_some_iff.1 hj).1
  refine ⟨hos.trans H.os, ht.trans H.tape, ho.trans H.output, fun k => match b k with
    | some o => some o
    | none => a' k, fun k o hk => ?_, ?_⟩
  · cases hb : b k with
    | none => simp only [hb] at hk; exact k2 k o hk
    | some o' =>
      simp only [hb] at hk
      obtain rfl := Option.some.inj hk
      obtain ⟨hl, hn⟩ := hlt k _ hb
      rw [(k3 k hl hn).2]; exact sb k _ hb
  · have hj2 : (Fz g.fr :: l.set j A')[j + 1]? = some A' := by simp [hjl]
    refine (sts_mid hj2).2 ⟨a', b, fun k => ?_, k1, ?_⟩
    · cases hb : b k with
      | none => exact .inl ⟨by simp only [hb], rfl⟩
      | some o =>
        obtain ⟨hl, hn⟩ := hlt k _ hb
        exact .inr ⟨(k3 k hl hn).1, by simp only [hb]⟩
    · have : (Fz g.fr :: l.set j A').eraseIdx (j + 1) = (Fz g.fr :: l).eraseIdx (j + 1) := by
        simp only [List.eraseIdx_cons_succ]
        congr 1
        apply List.ext_getElem?
        intro i
        simp only [List.getElem?_eraseIdx, List.getElem?_set]
        by_cases hi : i < j
        · rw [if_pos hi, if_pos hi, if_neg (by omega)]
        · rw [if_neg hi, if_neg hi, if_neg (by omega)]
      rw [this]; exact h3
theorem Sat.emp (H : Sat g w l) : Sat g w ((fun h => ∀ k, h k = none) :: l) := by
  obtain ⟨h, hs, a, b, h1, h2, h3⟩ := H.ex
  exact ⟨H.os, H.tape, H.output, h, hs, a, b, h1, h2, fun _ => none, b, fun k => .inr ⟨rfl, rfl⟩, fun _ => rfl, h3⟩
/-- The world goes on, and leaves what was there. -/
theorem Sat.below (H : Sat g w l) (b : Below w.heap.size w w') : Sat g w' l := by
  obtain ⟨h, hs, hx⟩ := H.ex
  exact ⟨b.os.trans H.os, b.tape.trans H.tape, b.output.trans H.output, h, fun k o hk => by
    have := hs k o hk
    rw [b.block k (Array.getElem?_eq_some_iff.1 this).1]; exact this, hx⟩
theorem Sat.still (H : Sat g w l) (s : Still w w') : Sat g w' l := H.below (s.below _)
/-- A piece more. -/
theorem Sat.more (H : Sat g w l) (b : Below w.heap.size w w') {a : Hp} (ha : A a) (hs : Sub a w') (hn : ∀ k, k < w.heap.size → a k = none) : Sat g w' (A :: l) :=
  H.emp.step (j := 0) (A' := A) rfl b.os b.tape b.output fun _ _ _ => ⟨a, ha, hs, fun k hk _ => ⟨hn k hk, b.block k hk⟩⟩
/-! ## Lists computed as the walk goes -/
def nthA (l : List As) : Nat → (As → Prop) → Prop :=
  List.rec (motive := fun _ => Nat → (As → Prop) → Prop) (fun _ _ => False) (fun v _ ih n k => Nat.rec (motive := fun _ => Prop) (k v) (fun m _ => ih m k) n) l
def setA (l : List As) : Nat → As → (List As → Prop) → Prop :=
  List.rec (motive := fun _ => Nat → As → (List As → Prop) → Prop) (fun _ _ k => k []) (fun x r ih n v k => Nat.rec (motive := fun _ => Prop) (k (v :: r)) (fun m _ => ih m v (fun r' => k (x :: r'))) n) l
def delA (l : List As) : Nat → (List As → Prop) → Prop :=
  List.rec (motive := fun _ => Nat → (List As → Prop) → Prop) (fun _ k => k []) (fun x r ih n k => Nat.rec (motive := fun _ => Prop) (k r) (fun m _ => ih m (fun r' => k (x :: r'))) n) l
def catA (l : List As) : List As → (List As → Prop) → Prop :=
  List.rec (motive := fun _ => List As → (List As → Prop) → Prop) (fun ys k => k ys) (fun x _ ih ys k => ih ys fun zs => k (x :: zs)) l
theorem nthA_eq {l : List As} {n : Nat} {k : As → Prop} (h : nthA l n k) : ∃ v, l[n]? = some v ∧ k v := by
  induction l generalizing n with
  | nil => exact h.elim
  | cons x r ih => cases n with
    | zero => exact ⟨x, rfl, h⟩
    | succ n => simpa using ih (n := n) h
theorem setA_eq (l : List As) (n : Nat) (v : As) (k : List As → Prop) : setA l n v k = k (l.set n v) := by
  induction l generalizing n k with
  | nil => cases n <;> rfl
  | cons x r ih => cases n with
    | zero => rfl
    | succ n => exact ih n _
theorem delA_eq (l : List As) (n : Nat) (k : List As → Prop) : delA l n k = k (l.eraseIdx n) := by
  induction l generalizing n k with
  | nil => cases n <;> rfl
  | cons x r ih => cases n with
    | zero => rfl
    | succ n => exact ih n _
theorem catA_eq (xs ys : List As) (k : List As → Prop) : catA xs ys k = k (xs ++ ys) := by
  induction xs generalizing k with
  | nil => rfl
  | cons x xs ih => exact ih _
/-- A piece comes to the front. -/
theorem Sat.front (H : Sat g w l) (hj : l[j]? = some A) : Sat g w (A :: l.eraseIdx j) := by
  obtain ⟨h, hs, hx⟩ := H.ex
  refine ⟨H.os, H.tape, H.output, h, hs, ?_⟩
  have hj' : (Fz g.fr :: l)[j + 1]? = some A := by simpa using hj
  obtain ⟨a, b, h1, h2, h3⟩ := (sts_mid hj').1 hx
  exact (sts_mid (l := Fz g.fr :: A :: l.eraseIdx j) (j := 1) rfl).2 ⟨a, b, h1, h2, h3⟩
theorem Sat.del (H : Sat g w l) (j : Nat) : Sat g w (l.eraseIdx j) := by
  cases hj : l[j]? with
  | none => rw [List.eraseIdx_of_length_le (by simpa using hj)]; exact H
  | some A =>
    obtain ⟨h, hs, hx⟩ := H.ex
    have hj' : (Fz g.fr :: l)[j + 1]? = some A := by simpa using hj
    obtain ⟨a, b, h1, h2, h3⟩ := (sts_mid hj').1 hx
    exact ⟨H.os, H.tape, H.output, b, (h1.sub hs).2, h3⟩
def frontsA (is : List Nat) : List As → (List As → Prop) → Prop :=
  List.rec (motive := fun _ => List As → (List As → Prop) → Prop) (fun l k => k l) (fun i _ ih l k => nthA l i fun A => delA l i fun r => ih (A :: r) k) is
def delsA (is : List Nat) : List As → (List As → Prop) → Prop :=
  List.rec (motive := fun _ => List As → (List As → Prop) → Prop) (fun l k => k l) (fun i _ ih l k => delA l i fun r => ih r k) is
theorem Sat.fronts {G : Prop} (H : Sat g w l) (is : List Nat) (k : frontsA is l fun l' => Sat g w l' → G) : G := by
  induction is generalizing l with
  | nil => exact k H
  | cons i is ih =>
    obtain ⟨A, hA, k⟩ := nthA_eq (show nthA l i _ from k)
    rw [delA_eq] at k
    exact ih (H.front hA) k
theorem Sat.drop {G : Prop} (H : Sat g w l) (j : Nat) (k : delA l j fun l' => Sat g w l' → G) : G := by
  rw [delA_eq] at k; exact k (H.del j)
/-! ## All that was there is frozen -/
def froz (w : World) : Glob := ⟨w.os, w.tape, w.output, fun k => w.heap[k]?⟩
theorem Sat.start (w : World) : Sat (froz w) w [] :=
  ⟨rfl, rfl, rfl, fun k => w.heap[k]?, fun _ _ h => h, fun k => w.heap[k]?, fun _ => none, fun k => .inl ⟨rfl, rfl⟩, rfl, trivial⟩
theorem Sat.finish {w0 : World} (H : Sat (froz w0) w l) : Below w0.heap.size w0 w := by
  have hf := H.frz
  have hb : ∀ k, k < w0.heap.size → w.heap[k]? = w0.heap[k]? := fun k hk => by
    have e : w0.heap[k]? = some w0.heap[k] := Array.getElem?_eq_getElem hk
    rw [e]; exact hf k _ e
  refine ⟨H.os, H.tape, H.output, ?_, hb⟩
  rcases Nat.eq_zero_or_pos w0.heap.size with h | h
  · omega
  · have h1 := hb (w0.heap.size - 1) (by omega)
    rw [Array.getElem?_eq_getElem (show w0.heap.size - 1 < w0.heap.size by omega)] at h1
    have := (Array.getElem?_eq_some_iff.1 h1).1
    omega
theorem sts_cat : ∀ {l1 l2 : List As} {h a b : Hp}, Spl h a b → sts l1 a → sts l2 b → sts (l1 ++ l2) h := by
  intro l1
  induction l1 with
  | nil =>
    intro l2 h a b hs _ h2
    -- what lies beyond may be forgotten
    have key : ∀ {l : List As} {h b : Hp}, (∀ k o, b k = some o → h k = some o) → sts l b → (∃ c, sts l c) := fun _ h => ⟨_, h⟩
    clear key
    revert h2
    cases l2 with
    | nil => exact fun _ => trivial
    | cons B r =>
      rintro ⟨c, d, h3, h4, h5⟩
      -- d may be anything that holds r; the piece c stays
      obtain ⟨e, h6, h7⟩ := hs.swap h3
      refine ⟨c, e, h6, h4, ?_⟩
      have : ∀ {l : List As} {x y z : Hp}, Spl x y z → sts l z → sts l x := by
        intro l
        induction l with
        | nil => exact fun _ _ => trivial
        | cons C l ih =>
          rintro x y z k1 ⟨u, v, k2, k3, k4⟩
          obtain ⟨t, k5, k6⟩ := k1.swap k2
          exact ⟨u, t, k5, k3, ih k6 k4⟩
      exact this h7 h5
  | cons A l1 ih =>
    rintro l2 h a b hs ⟨c, d, h3, h4, h5⟩ h2
    obtain ⟨e, h6, h7⟩ := hs.comm.swap h3
    exact ⟨c, e, h6, h4, ih h7.comm h5 h2⟩
/-- A call that left all that was there: what it made, beside what we had. -/
theorem Sat.merge {l' : List As} (H : Sat g w l) (H' : Sat (froz w) w' l') : Sat g w' (l' ++ l) := by
  obtain ⟨h, hs, hx⟩ := H.ex
  obtain ⟨h', hs', a, b, h1, h2, h3⟩ := H'.ex
  obtain rfl : a = fun k => w.heap[k]? := h2
  -- b lies outside of w
  have hd : ∀ k o, b k = some o → w.heap[k]? = none := fun k o hb => by
    rcases h1 k with ⟨_, h⟩ | ⟨h, _⟩
    · rw [h] at hb; cases hb
    · exact h
  obtain ⟨_, sb⟩ := h1.sub hs'
  have bel := H'.finish
  refine ⟨H'.os.trans H.os, H'.tape.trans H.tape, H'.output.trans H.output, fun k => match b k with
    | some o => some o
    | none => h k, fun k o hk => ?_, ?_⟩
  · cases hb : b k with
    | some o' => simp only [hb] at hk; obtain rfl := Option.some.inj hk; exact sb k _ hb
    | none =>
      simp only [hb] at hk
      have := hs k o hk
      rw [bel.block k (Array.getElem?_eq_some_iff.1 this).1]; exact this
  · have hsp : Spl (fun k => match b k with
      | some o => some o
      | none => h k) b h := fun k => by
      cases hb : b k with
      | none => exact .inr ⟨rfl, by simp only [hb]⟩
      | some o =>
        refine .inl ⟨by simp only [hb], ?_⟩
        cases hh : h k with
        | none => rfl
        | some o' => have := hs k o' hh; rw [hd k o hb] at this; cases this
    obtain ⟨a2, b2, k1, k2, k3⟩ := hx
    obtain ⟨e, k4, k5⟩ := hsp.swap k1
    exact ⟨a2, e, k4, k2, sts_cat k5 h3 k3⟩
theorem Sat.mergeK {G : Prop} {l' : List As} (H : Sat g w l) (H' : Sat (froz w) w' l') (k : catA l' l fun l'' => Sat g w' l'' → G) : G := by
  rw [catA_eq] at k; exact k (H.merge H')
end
/-! ## Frozen memory -/
def Gh (g : Glob) : Hv := fun b o => g.fr b = some o
/-- At a frozen place lie these cells. -/
abbrev FAt (g : Glob) (b o : Nat) (vs : List Value) : Prop := AtH (Gh g) b o vs
/-- A frozen slice that reads as xs. -/
abbrev FSl {α : Type} (g : Glob) (en : α → List Value) (ok : α → Prop) (s : Nat) (v : Value) (xs : List α) : Prop := SlR (RE en ok) s (Gh g) v xs
section
variable {P : Program} {g : Glob} {w w' : World} {l : List As} {K : Value → World → Prop} {α : Type} {en : α → List Value} {ok : α → Prop} {s : Nat} {v : Value} {xs : List α} {b o j : Nat} {e : TypeId}
theorem Sat.hle (H : Sat g w l) : Hle (Gh g) (Rg w 0 w.heap.size) := fun b o h => ⟨Nat.zero_le _, (Array.getElem?_eq_some_iff.1 (H.frz b o h)).1, H.frz b o h⟩
theorem Sat.rd (H : Sat g w l) (h : FSl g en ok s v xs) : Rd en ok s w v xs := h.mono (RE.mono' en ok) H.hle
theorem Sat.fat {vs : List Value} (H : Sat g w l) (h : FAt g b o vs) : At w b o vs := (h.mono H.hle).at
theorem Rd.fz {w : World} (h : Rd en ok s w v xs) : FSl (froz w) en ok s v xs := h.mono (RE.mono' en ok) fun b o ⟨_, _, h⟩ => h
theorem FSl.len (h : FSl g en ok s v xs) : xs.length ≤ 9223372036854775807 := SlR.len h
theorem rIxF {t : TypeId} {ki : IntKind} {i : Int} (h : FSl g en ok s v xs) (j : Nat) (x : α) (hj : i = j) (hx : xs[j]? = some x) (ht : P.underlying t = some (.slice e)) (hs : (P.info? e).map (fun i => i.size) = some s)
    (k : ∀ b o, FAt g b o (en x) → ok x → K (.pointer (some ⟨b, o, none⟩)) w) : RunP P (Instr.indexAt t v (.int ki i)) w K := by
  obtain ⟨a, cap, rfl, h2, h3, h4⟩ := h
  subst hj
  have hl := (List.getElem?_eq_some_iff.1 hx).1
  obtain ⟨b, o, news, rfl, k1, k2⟩ := h4 (by intro e; subst e; simp at hl)
  obtain ⟨hr, hok⟩ := k2.2 j x hx
  refine ⟨_, w, ?_, k b (o + j * s) ?_ hok⟩
  · cases hi' : P.info? e with
    | none => simp [hi'] at hs
    | some i' =>
      simp only [hi', Option.map_some, Option.some.injEq] at hs
      simp [Instr.indexAt, asIntOf, run_underlying ht, sizeOf, typeInfo, hi', hs, Addr.add_lit, hl]
  · rw [← hr]
    obtain ⟨cs, e', fz, h5, h6⟩ := k1
    refine ⟨cs, e', fz, h5, fun i v hv => ?_⟩
    rw [List.getElem?_take] at hv
    split at hv
    · rw [List.getElem?_drop] at hv; rw [Nat.add_assoc]; exact h6 _ _ hv
    · cases hv
end
/-! ## Blocks -/
def Pt (p : Nat) (cs : List Value) (e : TypeId) : As := fun h => h p = some (.cells cs.toArray e (0, 0))
section
variable {P : Program} {g : Glob} {w w' : World} {l : List As} {K : Value → World → Prop} {p j o : Nat} {cs : List Value} {e t : TypeId} {v : Value}
theorem Sat.pt (H : Sat g w l) (hj : l[j]? = some (Pt p cs e)) : Blk w p cs e := by
  obtain ⟨a, h1, h2⟩ := H.part hj; exact h2 p _ h1
theorem Sat.at (H : Sat g w l) (j : Nat) (hj : l[j]? = some (Pt p cs e)) : At w p 0 cs := (H.pt hj).at
theorem Sat.new (H : Sat g w l) (n : New w w' cs e) : Sat g w' (Pt w.heap.size cs e :: l) :=
  H.more n.below (a := fun k => if k = w.heap.size then some (.cells cs.toArray e (0, 0)) else none) (by simp [Pt]) (fun k o hk => by
    dsimp only at hk
    split at hk
    · rename_i h; subst h; obtain rfl := Option.some.inj hk; exact n.blk
    · cases hk) fun k hk => by rw [if_neg (by omega)]
theorem Sat.upd {cs' : List Value} (H : Sat g w l) (hj : l[j]? = some (Pt p cs e)) (u : Upd w w' p) (hb : Blk w' p cs' e) : Sat g w' (l.set j (Pt p cs' e)) :=
  H.step hj u.os u.tape u.output fun a ha _ => ⟨fun k => if k = p then some (.cells cs'.toArray e (0, 0)) else none, by simp [Pt], (fun k o hk => by
    dsimp only at hk
    split at hk
    · rename_i h; subst h; obtain rfl := Option.some.inj hk; exact hb
    · cases hk), fun k _ hn => by
    have hne : k ≠ p := fun e => by subst e; rw [show a k = _ from ha] at hn; cases hn
    exact ⟨if_neg hne, u.block k hne⟩⟩
theorem rBoxS (H : Sat g w l) (k : cellsK v fun cs => ∀ p w', Sat g w' (Pt p cs t :: l) → K (.pointer (some ⟨p, 0, none⟩)) w') : RunP P (Instr.box t v) w K :=
  rBox (by rw [cellsK_eq] at k ⊢; exact fun w' n => k _ w' (H.new n))
theorem rAllocS {z : Value} (H : Sat g w l) (hz : (P.info? t).bind (fun i => i.zero) = some z) (k : cellsK z fun cs => ∀ p w', Sat g w' (Pt p cs t :: l) → K (.pointer (some ⟨p, 0, none⟩)) w') : RunP P (Instr.alloc t true (.tuple #[])) w K :=
  rAlloc hz (by rw [cellsK_eq] at k ⊢; exact fun w' n => k _ w' (H.new n))
theorem rBuildSliceS {n sz : Nat} {z : Value} {ps : Array (Nat × Value)} (H : Sat g w l) (hu : P.underlying t = some (.slice e)) (hz : (P.info? e).map (fun i => (i.size, i.zero)) = some (sz, some z))
    (hsz : z.cells.size = sz) (hn : Nat.ble (n * sz) 16777216 = true)
    (h : zerosK n z.cells.toList fun zs => fillK (fun i => some (i * sz, sz)) ps.toList zs fun cs => ∀ p w', Sat g w' (Pt p cs e :: l) → K (.slice (some ⟨p, 0, none⟩) n n) w') :
    RunP P (Instr.buildSlice t n ps) w K :=
  rBuildSlice hu hz hsz (Nat.le_of_ble_eq_true hn) (by rw [zerosK_eq] at h ⊢; exact fillK_imp _ h fun cs h w' n => h _ w' (H.new n))
theorem rStS {K : World → Prop} (H : Sat g w l) (j : Nat) (hj : l[j]? = some (Pt p cs e)) (ho : Nat.ble (o + 1) cs.length = true) (hs : (P.info? t).map (·.size) = some 1) (hv : v.oneCell' = true)
    (k : stK cs o v fun cs' => setA l j (Pt p cs' e) fun l' => ∀ w', Sat g w' l' → K w') : DoP P (Instr.storeAt t (.pointer (some ⟨p, o, none⟩)) v) w K := by
  rw [stK_eq, setA_eq] at k
  exact rStoreL (H.pt hj) (Nat.le_of_ble_eq_true ho) hs hv fun w' u hb => k w' (H.upd hj u hb)
theorem rStAS {K : World → Prop} {vs : List Value} (H : Sat g w l) (j : Nat) (hj : l[j]? = some (Pt p cs e)) (hs : (P.info? t).map (·.size) = some vs.length) (ho : Nat.ble (o + vs.length) cs.length = true) (hv : vs.all (·.oneCell') = true)
    (k : setsK cs o vs fun cs' => setA l j (Pt p cs' e) fun l' => ∀ w', Sat g w' l' → K w') : DoP P (Instr.storeAt t (.pointer (some ⟨p, o, none⟩)) (.agg vs.toArray)) w K := by
  rw [setsK_eq, setA_eq] at k
  exact rStoreAL (H.pt hj) hs (Nat.le_of_ble_eq_true ho) hv fun w' u hb => k w' (H.upd hj u hb)
/-- A region that draws: what is held is the memory as it is, but for the pieces ds. -/
theorem drawzS {id : Nat} {ops : Array Oper} {K : List Value → World → Prop} {ρ : List Value} (H : Sat g w l) (ds : List Nat) (plan : List (Nat × Kd)) (hm : P.follows .mixedOrders = true) (hc : fastOk ops (pl2 plan) = true) (hz : zOk ops (heldOf plan) (freeOf plan) = true)
    (h : delsA ds l fun l' => ∀ w1, Sat g w1 l → planW P ops.toList (fun wx => Sat g wx l') K plan true ρ w1) : DrawP P id ops K ρ w := by
  have key : ∃ l', (∀ wx, Sat g wx l → Sat g wx l') ∧ ∀ w1, Sat g w1 l → planW P ops.toList (fun wx => Sat g wx l') K plan true ρ w1 := by
    have : ∀ (ds : List Nat) (l0 : List As), (∀ wx, Sat g wx l → Sat g wx l0) → (delsA ds l0 fun l' => ∀ w1, Sat g w1 l → planW P ops.toList (fun wx => Sat g wx l') K plan true ρ w1) →
        ∃ l', (∀ wx, Sat g wx l → Sat g wx l') ∧ ∀ w1, Sat g w1 l → planW P ops.toList (fun wx => Sat g wx l') K plan true ρ w1 := by
      intro ds
      induction ds with
      | nil => exact fun l0 h0 h => ⟨l0, h0, h⟩
      | cons i ds ih =>
        intro l0 h0 h
        have h : delA l0 i fun r => delsA ds r _ := h
        rw [delA_eq] at h
        exact ih _ (fun wx hx => (h0 wx hx).del i) h
    exact this ds l (fun _ h => h) h
  obtain ⟨l', h1, h2⟩ := key
  refine drawz (fun wx => Sat g wx l') plan hm hc hz fun w1 e => ?_
  have H1 : Sat g w1 l := H.still (by rw [e]; exact Still.drew _)
  exact ⟨h1 _ H1, h2 _ H1⟩
end
end Go.Proofs.YtcpniokopahakaaDoor.Eng
