/- Texts of this claim, one behind the other. -/
import Derived.Test.YtbbdfhgcmkljeaaGreatDoorP4
import Derived.Test.YtbbdfhgcmkljeaaGreatDoorP2
import Derived.Test.YtbbdfhgcmkljeaaGreatDoorP3
/- What is read as a module can be told: written it has no more bytes. -/
set_option maxRecDepth 100000
set_option maxHeartbeats 4000000
set_option linter.unusedVariables false
set_option linter.unusedSimpArgs false
namespace Go.Proofs.YtbbdfhgcmkljeaaGreatDoor.Brd
open Go Go.Proofs.YtbbdfhgcmkljeaaGreatDoor.Eng Go.RowKit
open Ins Nest Leb Txt
open Bin (SigD FunD ModD kindE indexE sigE impE funE gloE elE datE startE placeE geE leE pagE manyE allE eachE eachE_0 allE_0 fst_eq0 numT kindsT nameT sigT impT expT gloT elT datT rle codeT secT headT tabT memT staT modT mutB opB kindsT_is OkM OkF unrle unrle_rle)
/-! ## Nothing goes on behind a fault -/
theorem Strict.throw (c : Prop) [Decidable c] (e : Int) : Strict (throwR c e) := by
  unfold throwR; split
  · exact .fail e
  · exact .ret ()
theorem Strict.fixed (b e : Int) : Strict (fixedR b e) := Strict.octet.bind fun _ => Strict.throw _ _
theorem Strict.kind : Strict kindR := Strict.octet.bind fun _ => (Strict.throw _ _).bind fun _ => .ret _
theorem Strict.name : Strict nameR := fun s r h => by unfold nameR; rw [if_pos h]
theorem Strict.body : Strict bodyR := fun s r h => by unfold bodyR; rw [if_pos h]
theorem Strict.sub {α : Type} (p : Rdr α) (n : Int) : Strict (subR p n) := fun s r h => by unfold subR; rw [if_pos h]
theorem Strict.piece {α : Type} (p : Rdr α) : Strict (pieceR p) := Strict.plain.bind fun _ => Strict.sub _ _
theorem Strict.sig : Strict sigR := (Strict.fixed _ _).bind fun _ => (Strict.list _ Strict.kind).bind fun _ => (Strict.list _ Strict.kind).bind fun _ => .ret _
theorem Strict.imp : Strict impR := Strict.name.bind fun _ => (Strict.throw _ _).bind fun _ => Strict.name.bind fun _ => (Strict.fixed _ _).bind fun _ => Strict.plain.bind fun _ => .ret _
theorem Strict.exp : Strict expR := Strict.name.bind fun _ => (Strict.fixed _ _).bind fun _ => Strict.plain.bind fun _ => .ret _
theorem Strict.glo : Strict gloR := Strict.kind.bind fun _ => Strict.octet.bind fun _ => (Strict.throw _ _).bind fun _ => Strict.octet.bind fun _ => (Strict.throw _ _).bind fun _ => (Strict.throw _ _).bind fun _ => (Strict.signed _).bind fun _ => (Strict.fixed _ _).bind fun _ => .ret _
theorem Strict.place : Strict placeR := (Strict.fixed _ _).bind fun _ => (Strict.fixed _ _).bind fun _ => (Strict.signed _).bind fun _ => (Strict.fixed _ _).bind fun _ => .ret _
theorem Strict.el : Strict elR := Strict.place.bind fun _ => (Strict.list _ .plain).bind fun _ => .ret _
theorem Strict.dat : Strict datR := Strict.place.bind fun _ => (Strict.count _).bind fun _ => (Strict.take _).bind fun _ => .ret _
theorem Strict.loc : ∀ (n : Nat) (acc : List Int), Strict (locR n acc)
  | 0, _ => .ret _
  | n + 1, _ => Strict.plain.bind fun _ => Strict.kind.bind fun _ => (Strict.throw _ _).bind fun _ => Strict.loc n _
theorem Strict.code : Strict codeR := Strict.piece _
theorem Strict.tab : Strict oneTab := (Strict.fixed _ _).bind fun _ => (Strict.fixed _ _).bind fun _ => .count _
theorem Strict.mem : Strict oneMem := (Strict.fixed _ _).bind fun _ => Strict.plain.bind fun _ => Strict.plain.bind fun _ => (Strict.throw _ _).bind fun _ => (Strict.throw _ _).bind fun _ => .ret _
theorem Strict.secs : ∀ (f : Nat) (last : Int) (m : ModD) (c : Nat), Strict (secsR f last m c)
  | 0, _, _, _ => .ret _
  | f + 1, last, m, c => fun s r h => by rw [secsR]; simp only; rw [if_pos (.inl h)]
theorem Strict.head : ∀ l, Strict (headR l)
  | [] => .ret _
  | _ :: r => (Strict.fixed _ _).bind fun _ => Strict.head r
/-! ## What was read -/
theorem Gt.throw {c : Prop} [Decidable c] {e : Int} (he : e ≠ 0) : Gt (throwR c e) (fun _ n => n = 0 ∧ ¬ c) := by
  unfold throwR; split
  · exact Gt.fail he _
  · rename_i h; exact (Gt.ret ()).imp fun _ _ h' => ⟨h'.2, h⟩
theorem Gt.fixed (b : Int) {e : Int} (he : e ≠ 0) : Gt (fixedR b e) (fun _ n => n = 1) := by
  refine (Gt.octet.bind (fun v n _ => Gt.throw he) fun _ => Strict.throw _ _).imp ?_
  rintro u n ⟨v, m, m', ⟨_, _, rfl⟩, ⟨rfl, _⟩, rfl⟩; rfl
theorem Gt.kind : Gt kindR (fun k n => kindE k = 0 ∧ n = 1) := by
  refine (Gt.octet.bind (fun v n _ => (Gt.throw (by decide)).bind (fun _ _ _ => Gt.ret v) fun _ => .ret _) fun _ => (Strict.throw _ _).bind fun _ => .ret _).imp ?_
  rintro u n ⟨v, m, m', ⟨_, _, rfl⟩, ⟨_, a, b, ⟨rfl, h⟩, ⟨rfl, rfl⟩, rfl⟩, rfl⟩
  exact ⟨Decidable.not_not.1 h, rfl⟩
theorem Gt.plainN : Gt plainR (fun v n => (0 ≤ v ∧ v ≤ 4294967295) ∧ (numT v).length ≤ n) := by
  refine Gt.plain.imp ?_
  rintro v n ⟨m, rfl, h1, h2⟩
  exact ⟨⟨by omega, by omega⟩, by unfold numT; rw [Int.toNat_natCast]; exact h2⟩
theorem Gt.name : Gt nameR (fun v n => nameE v = 0 ∧ (nameT v).length ≤ n) := fun s k hk h0 => by
  unfold nameR at *
  rw [if_neg (by simp)] at *
  simp only at h0 ⊢
  have hb := rdU_bd 32 (s.drop k) 0 0 (by decide) (.inl rfl) (by decide)
  rcases hr : rdU 32 (s.drop k) 0 0 with ⟨n, m, e⟩
  rw [hr] at hb
  simp only at hb
  unfold rdName at h0 ⊢
  rw [hr] at h0 ⊢
  simp only at h0 ⊢
  by_cases he : e ≠ 0
  · rw [if_pos he] at h0; simp only at h0; exact absurd h0 (by omega)
  rw [if_neg he] at h0 ⊢
  obtain rfl := Decidable.not_not.1 he
  obtain ⟨h1, h2, h3⟩ := rdU_short 32 (s.drop k) 0 0 n m (by decide) hr
  by_cases h16 : 16 < n
  · rw [if_pos h16] at h0; exact absurd h0 (by decide)
  rw [if_neg h16] at h0 ⊢
  by_cases hs : (s.drop k).length - m < n
  · rw [if_pos hs] at h0; simp at h0
  rw [if_neg hs] at h0 ⊢
  by_cases hv : Lib.validD (((s.drop k).drop m).take n) = true
  · rw [if_pos hv]
    rw [List.length_drop] at h3 hs
    have hl : (((s.drop k).drop m).take n).length = n := by rw [List.length_take, List.length_drop, List.length_drop]; omega
    refine ⟨by simp only; omega, m + n, rfl, ?_, ?_⟩
    · unfold nameE
      rw [if_neg (by simp only; omega), if_pos hv]
    · unfold nameT
      simp only
      rw [List.length_append, hl]
      have := uleb_short h1 h2
      omega
  · rw [if_neg hv] at h0; exact absurd h0 (by decide)
theorem Gt.body : Gt bodyR (fun l n => chkB l = 0 ∧ opsOk l ∧ (txtL l).length ≤ n) := fun s k hk h0 => by
  unfold bodyR at *
  rw [if_neg (by simp)] at *
  simp only at h0 ⊢
  rcases hr : rdB (s.drop k) with ⟨l, n, e⟩
  rw [hr] at h0
  simp only at h0 ⊢
  subst h0
  obtain ⟨a1, a2, a3, a4⟩ := rdB_told hr
  rw [List.length_drop] at a3
  exact ⟨by omega, n, rfl, a1, a4, a2⟩
theorem Gt.sub {α : Type} {p : Rdr α} {Q : α → Nat → Prop} (hp : Gt p Q) {z : Int} (hz : 0 ≤ z) : Gt (subR p z) (fun v n => Q v n ∧ n = z.toNat) := fun s k hk h0 => by
  unfold subR at *
  rw [if_neg (by simp)] at *
  simp only at h0 ⊢
  by_cases hs : ((s.length - k : Nat) : Int) < z
  · rw [if_pos hs] at h0; simp at h0
  rw [if_neg hs] at h0 ⊢
  simp only at h0 ⊢
  have hl : ((s.drop k).take z.toNat).length = z.toNat := by rw [List.length_take, List.length_drop]; omega
  have hg := hp ((s.drop k).take z.toNat) 0 (Nat.zero_le _)
  by_cases hb : (p ((s.drop k).take z.toNat) ⟨0, 0⟩).2.bad ≠ 0
  · rw [if_pos hb] at h0; exact absurd h0 hb
  rw [if_neg hb] at h0
  by_cases ha : (p ((s.drop k).take z.toNat) ⟨0, 0⟩).2.at_ < z.toNat
  · rw [if_pos ha] at h0; simp at h0
  obtain ⟨h1, n, h2, h3⟩ := hg (Decidable.not_not.1 hb)
  have hn : n = z.toNat := by omega
  subst hn
  exact ⟨by omega, _, rfl, h3, rfl⟩
theorem uleb_le : ∀ (b a : Nat), a ≤ b → (uleb a).length ≤ (uleb b).length := by
  intro b
  induction b using Nat.strongRecOn with
  | _ b ih =>
    intro a h
    by_cases hb : b < 128
    · rw [uleb_lt hb, uleb_lt (by omega)]; exact Nat.le_refl _
    · rw [uleb_ge (by omega : 128 ≤ b)]
      by_cases ha : a < 128
      · rw [uleb_lt ha]; simp
      · rw [uleb_ge (by omega : 128 ≤ a)]
        simp only [List.length_cons]
        have := ih (b / 128) (by omega) (a / 128) (by omega)
        omega
theorem Gt.piece {α : Type} {p : Rdr α} {Q : α → Nat → Prop} (hp : Gt p Q) : Gt (pieceR p) (fun v n => ∃ N m, Q v N ∧ N ≤ 4294967295 ∧ (uleb N).length ≤ m ∧ n = m + N) := by
  refine (Gt.plain.bind (Q' := fun (z : Int) v n => Q v n ∧ n = z.toNat) (fun z n hz => ?_) fun _ => Strict.sub _ _).imp ?_
  · obtain ⟨m, rfl, _⟩ := hz
    exact Gt.sub hp (by omega)
  · rintro v n ⟨z, m, m', ⟨q, rfl, h1, h2⟩, ⟨h3, h4⟩, rfl⟩
    obtain rfl : m' = q := by omega
    exact ⟨m', m, h3, by omega, h2, rfl⟩
/-- A piece that is read as something with a text of no more bytes. -/
theorem piece_len {A : List UInt8} {N m : Nat} (h : A.length ≤ N) (hm : (uleb N).length ≤ m) : (uleb A.length ++ A).length ≤ m + N := by
  have := uleb_le N A.length h
  rw [List.length_append]; omega
theorem Gt.count (m : Nat) : Gt (countR m) (fun v n => v ≤ m ∧ (uleb v).length ≤ n) := fun s k hk h0 => by
  have hp := Gt.plain s k hk
  unfold countR at *
  by_cases hb : (plainR s ⟨k, 0⟩).2.bad ≠ 0
  · rw [if_pos hb] at h0; exact absurd h0 hb
  rw [if_neg hb] at h0 ⊢
  by_cases hm : (m : Int) < (plainR s ⟨k, 0⟩).1
  · rw [if_pos hm] at h0; simp at h0
  rw [if_neg hm] at h0 ⊢
  obtain ⟨h1, n, h2, q, h3, h4, h5⟩ := hp h0
  refine ⟨h1, n, h2, ?_⟩
  simp only
  rw [h3] at hm ⊢
  rw [Int.toNat_natCast]
  exact ⟨by omega, h5⟩
theorem Gt.rep {α : Type} {p : Rdr α} {P : α → Prop} {f : α → List UInt8} (hs : Strict p) (hp : Gt p fun x n => P x ∧ (f x).length ≤ n) : ∀ n, Gt (repR p n) fun l m => l.length = n ∧ (∀ x ∈ l, P x) ∧ (l.flatMap f).length ≤ m
  | 0 => (Gt.ret _).imp fun v n ⟨h1, h2⟩ => by subst h1; exact ⟨rfl, nofun, Nat.zero_le _⟩
  | n + 1 => by
    refine (hp.bind (fun v m hv => (Gt.rep hs hp n).bind (fun l m hl => Gt.ret (v :: l)) fun _ => Strict.ret _) fun _ => (Strict.rep hs _).bind fun _ => Strict.ret _).imp ?_
    rintro u k ⟨v, m, m', ⟨h1, h2⟩, ⟨l, m1, m2, ⟨g1, g2, g3⟩, ⟨rfl, rfl⟩, rfl⟩, rfl⟩
    refine ⟨by simp [g1], fun x hx => ?_, ?_⟩
    · rcases List.mem_cons.1 hx with rfl | hx
      · exact h1
      · exact g2 x hx
    · rw [List.flatMap_cons, List.length_append]; omega
theorem Gt.list {α : Type} {p : Rdr α} {P : α → Prop} {f : α → List UInt8} (m : Nat) (hs : Strict p) (hp : Gt p fun x n => P x ∧ (f x).length ≤ n) : Gt (listR m p) fun l n => l.length ≤ m ∧ (∀ x ∈ l, P x) ∧ (uleb l.length ++ l.flatMap f).length ≤ n := by
  refine ((Gt.count m).bind (fun v n _ => Gt.rep hs hp v) fun _ => .rep hs _).imp ?_
  rintro l n ⟨v, a, b, ⟨h1, h2⟩, ⟨rfl, h4, h5⟩, rfl⟩
  exact ⟨h1, h4, by rw [List.length_append]; omega⟩
theorem Gt.sig : Gt sigR (fun x n => sigE x = 0 ∧ (sigT x).length ≤ n) := by
  have hk : ∀ m : Nat, Gt (listR m kindR) fun l n => l.length ≤ m ∧ (∀ x ∈ l, kindE x = 0) ∧ (uleb l.length ++ l.flatMap fun k => [byt k]).length ≤ n := fun m => Gt.list m Strict.kind (Gt.kind.imp fun k n ⟨h1, h2⟩ => ⟨h1, by rw [h2]; simp⟩)
  refine ((Gt.fixed 96 (by decide)).bind (fun _ _ _ => (hk 4).bind (fun a _ _ => (hk 1).bind (fun b _ _ => Gt.ret (⟨a, b⟩ : SigD)) fun _ => .ret _) fun _ => (Strict.list _ Strict.kind).bind fun _ => .ret _) fun _ => (Strict.list _ Strict.kind).bind fun _ => (Strict.list _ Strict.kind).bind fun _ => .ret _).imp ?_
  rintro x n ⟨_, m1, m2, rfl, ⟨a, m3, m4, ⟨a1, a2, a3⟩, ⟨b, m5, m6, ⟨b1, b2, b3⟩, ⟨rfl, rfl⟩, rfl⟩, rfl⟩, rfl⟩
  refine ⟨fst_eq0.2 ⟨eachE_0.2 ⟨by simp only; omega, a2⟩, eachE_0.2 ⟨by simp only; omega, b2⟩⟩, ?_⟩
  unfold sigT
  rw [kindsT_is, kindsT_is]
  simp only [List.length_append, List.length_singleton] at a3 b3 ⊢
  omega
theorem host_len : (nameT hostB).length = 5 := by unfold nameT; rw [uleb_lt (by decide)]; rfl
theorem idx_0 {v : Int} (h : 0 ≤ v ∧ v ≤ 4294967295) : indexE v = 0 := by unfold indexE; rw [if_pos h]
theorem Gt.exp : Gt expR (fun x n => impE x = 0 ∧ (expT x).length ≤ n) := by
  refine (Gt.name.bind (fun a _ _ => (Gt.fixed 0 (by decide)).bind (fun _ _ _ => Gt.plainN.bind (fun t _ _ => Gt.ret (a, t)) fun _ => .ret _) fun _ => Strict.plain.bind fun _ => .ret _) fun _ => (Strict.fixed _ _).bind fun _ => Strict.plain.bind fun _ => .ret _).imp ?_
  rintro x n ⟨a, m1, m2, ⟨h1, h2⟩, ⟨_, m3, m4, rfl, ⟨t, m5, m6, ⟨h3, h4⟩, ⟨rfl, rfl⟩, rfl⟩, rfl⟩, rfl⟩
  refine ⟨fst_eq0.2 ⟨h1, idx_0 h3⟩, ?_⟩
  unfold expT
  simp only [List.length_append, List.length_singleton]
  omega
theorem Gt.imp' : Gt impR (fun x n => impE x = 0 ∧ (impT x).length ≤ n) := by
  refine (Gt.name.bind (fun h _ _ => (Gt.throw (by decide)).bind (fun _ _ _ => Gt.exp) fun _ => Strict.exp) fun _ => (Strict.throw _ _).bind fun _ => Strict.exp).imp ?_
  rintro x n ⟨a, m1, m2, ⟨h1, h2⟩, ⟨_, m3, m4, ⟨rfl, h3⟩, ⟨h4, h5⟩, rfl⟩, rfl⟩
  obtain rfl := Decidable.not_not.1 h3
  rw [host_len] at h2
  refine ⟨h4, ?_⟩
  unfold impT
  unfold expT at h5
  simp only [List.length_append, List.length_singleton, List.length_cons, List.length_nil] at h5 ⊢
  omega
theorem Gt.sgn (k : Int) : Gt (signedR (bitsOf k)) (fun z n => startE k z = 0 ∧ I64 z ∧ (sleb z).length ≤ n) := by
  unfold bitsOf
  split
  · refine (Gt.signed 32 (.inl rfl)).imp ?_
    rintro z n ⟨h1, h2, h3⟩
    simp at h1 h2
    refine ⟨?_, ⟨by omega, by omega⟩, h3⟩
    unfold startE; rw [if_pos (.inr ⟨by omega, by omega⟩)]
  · rename_i hk
    refine (Gt.signed 64 (.inr rfl)).imp ?_
    rintro z n ⟨h1, h2, h3⟩
    simp at h1 h2
    refine ⟨?_, ⟨by omega, by omega⟩, h3⟩
    unfold startE; rw [if_pos (.inl hk)]
theorem Gt.glo : Gt gloR (fun x n => (gloE x = 0 ∧ I64 x.2.2) ∧ (gloT x).length ≤ n) := by
  refine (Gt.kind.bind (fun k _ _ => Gt.octet.bind (fun u _ _ => (Gt.throw (by decide)).bind (fun _ _ _ => Gt.octet.bind (fun o _ _ => (Gt.throw (by decide)).bind (fun _ _ _ => (Gt.throw (by decide)).bind (fun _ _ _ => (Gt.sgn k).bind (fun z _ _ => (Gt.fixed 11 (by decide)).bind (fun _ _ _ => Gt.ret (k, decide (u = 1), z))
    fun _ => .ret _) fun _ => (Strict.fixed _ _).bind fun _ => .ret _) fun _ => (Strict.signed _).bind fun _ => (Strict.fixed _ _).bind fun _ => .ret _) fun _ => (Strict.throw _ _).bind fun _ => (Strict.signed _).bind fun _ => (Strict.fixed _ _).bind fun _ => .ret _)
    fun _ => (Strict.throw _ _).bind fun _ => (Strict.throw _ _).bind fun _ => (Strict.signed _).bind fun _ => (Strict.fixed _ _).bind fun _ => .ret _) fun _ => Strict.octet.bind fun _ => (Strict.throw _ _).bind fun _ => (Strict.throw _ _).bind fun _ => (Strict.signed _).bind fun _ => (Strict.fixed _ _).bind fun _ => .ret _)
    fun _ => (Strict.throw _ _).bind fun _ => Strict.octet.bind fun _ => (Strict.throw _ _).bind fun _ => (Strict.throw _ _).bind fun _ => (Strict.signed _).bind fun _ => (Strict.fixed _ _).bind fun _ => .ret _)
    fun _ => Strict.octet.bind fun _ => (Strict.throw _ _).bind fun _ => Strict.octet.bind fun _ => (Strict.throw _ _).bind fun _ => (Strict.throw _ _).bind fun _ => (Strict.signed _).bind fun _ => (Strict.fixed _ _).bind fun _ => .ret _).imp ?_
  rintro x n ⟨k, m1, n1, ⟨hk, rfl⟩, ⟨u, m2, n2, ⟨_, _, rfl⟩, ⟨_, m3, n3, ⟨rfl, _⟩, ⟨o, m4, n4, ⟨_, _, rfl⟩, ⟨_, m5, n5, ⟨rfl, _⟩, ⟨_, m6, n6, ⟨rfl, _⟩, ⟨z, m7, n7, ⟨h1, h2, h3⟩, ⟨_, m8, n8, rfl, ⟨rfl, rfl⟩, rfl⟩, rfl⟩, rfl⟩, rfl⟩, rfl⟩, rfl⟩, rfl⟩, rfl⟩
  refine ⟨⟨fst_eq0.2 ⟨hk, h1⟩, h2⟩, ?_⟩
  unfold gloT
  simp only [List.length_append, List.length_cons, List.length_nil]
  omega
theorem Gt.place : Gt placeR (fun a n => placeE a = 0 ∧ (sleb a).length + 3 ≤ n) := by
  refine ((Gt.fixed 0 (by decide)).bind (fun _ _ _ => (Gt.fixed 65 (by decide)).bind (fun _ _ _ => (Gt.signed 32 (.inl rfl)).bind (fun a _ _ => (Gt.fixed 11 (by decide)).bind (fun _ _ _ => Gt.ret a) fun _ => .ret _) fun _ => (Strict.fixed _ _).bind fun _ => .ret _) fun _ => (Strict.signed _).bind fun _ => (Strict.fixed _ _).bind fun _ => .ret _) fun _ => (Strict.fixed _ _).bind fun _ => (Strict.signed _).bind fun _ => (Strict.fixed _ _).bind fun _ => .ret _).imp ?_
  rintro x n ⟨_, m1, n1, rfl, ⟨_, m2, n2, rfl, ⟨a, m3, n3, ⟨h1, h2, h3⟩, ⟨_, m4, n4, rfl, ⟨rfl, rfl⟩, rfl⟩, rfl⟩, rfl⟩, rfl⟩
  simp at h1 h2
  refine ⟨?_, by omega⟩
  unfold placeE; rw [if_pos ⟨by omega, by omega⟩]
theorem Gt.el : Gt elR (fun x n => elE x = 0 ∧ (elT x).length ≤ n) := by
  refine (Gt.place.bind (fun a _ _ => (Gt.list 16 .plain (f := numT) Gt.plainN).bind (fun l _ _ => Gt.ret (a, l)) fun _ => .ret _) fun _ => (Strict.list _ .plain).bind fun _ => .ret _).imp ?_
  rintro x n ⟨a, m1, n1, ⟨h1, h2⟩, ⟨l, m2, n2, ⟨h3, h4, h5⟩, ⟨rfl, rfl⟩, rfl⟩, rfl⟩
  refine ⟨fst_eq0.2 ⟨h1, eachE_0.2 ⟨by simp only; omega, fun y hy => idx_0 (h4 y hy)⟩⟩, ?_⟩
  unfold elT
  simp only [List.length_append, List.length_cons, List.length_nil] at h5 ⊢
  omega
theorem Gt.take (n : Nat) : Gt (takeR n) (fun v k => v.length = n ∧ k = n) := fun s k hk h0 => by
  unfold takeR at *
  rw [if_neg (by simp)] at *
  simp only at h0 ⊢
  by_cases hs : s.length - k < n
  · rw [if_pos hs] at h0; simp at h0
  rw [if_neg hs]
  refine ⟨by simp only; omega, n, rfl, ?_, rfl⟩
  simp only [List.length_take, List.length_drop]; omega
theorem Gt.dat : Gt datR (fun x n => datE x = 0 ∧ (datT x).length ≤ n) := by
  refine (Gt.place.bind (fun a _ _ => (Gt.count 64).bind (fun c _ _ => (Gt.take c).bind (fun l _ _ => Gt.ret (a, l)) fun _ => .ret _) fun _ => (Strict.take _).bind fun _ => .ret _) fun _ => (Strict.count _).bind fun _ => (Strict.take _).bind fun _ => .ret _).imp ?_
  rintro x n ⟨a, m1, n1, ⟨h1, h2⟩, ⟨c, m2, n2, ⟨h3, h4⟩, ⟨l, m3, n3, ⟨rfl, rfl⟩, ⟨rfl, rfl⟩, rfl⟩, rfl⟩, rfl⟩
  refine ⟨fst_eq0.2 ⟨h1, by unfold manyE; simp only; rw [if_pos (by omega)]⟩, ?_⟩
  unfold datT
  simp only [List.length_append, List.length_cons, List.length_nil]
  omega
theorem rle_app_len (l : List Int) (k : Int) (n : Nat) : (rle (List.replicate n k ++ l)).length ≤ (rle l).length + 1 := by
  induction n with
  | zero => rw [List.replicate_zero, List.nil_append]; omega
  | succ n ih =>
    rw [List.replicate_succ, List.cons_append, rle]
    cases n with
    | zero =>
      rw [List.replicate_zero, List.nil_append]
      split
      · simp
      · rename_i a y q h
        rw [h]
        split <;> simp
    | succ n =>
      split
      · simp
      · rename_i a y q h
        rw [h] at ih
        have hy := Bin.rle_head h
        rw [List.replicate_succ, List.cons_append, List.head?_cons] at hy
        rw [if_pos (by injection hy)]
        simpa using ih
/-- Locals read in c groups: as many runs, at most. -/
theorem Gt.loc : ∀ (c : Nat) (acc : List Int), (acc.length ≤ 16 ∧ ∀ x ∈ acc, kindE x = 0) → Gt (locR c acc) fun l n => (l.length ≤ 16 ∧ ∀ x ∈ l, kindE x = 0) ∧ 2 * c ≤ n ∧ ∃ gs : List (Nat × Int), gs.length = c ∧ l = acc ++ unrle gs
  | 0, acc, ha => (Gt.ret acc).imp fun v n ⟨h1, h2⟩ => by subst h1; exact ⟨ha, by omega, [], rfl, by simp [unrle]⟩
  | c + 1, acc, ha => by
    refine (Gt.plain.bind (Q' := fun (z : Int) (l : List Int) n => (l.length ≤ 16 ∧ ∀ x ∈ l, kindE x = 0) ∧ 2 * c + 1 ≤ n ∧ ∃ k, ∃ gs : List (Nat × Int), gs.length = c ∧ l = (acc ++ List.replicate z.toNat k) ++ unrle gs) (fun z _ hz => ?_) fun _ => Strict.kind.bind fun _ => (Strict.throw _ _).bind fun _ => Strict.loc _ _).imp ?_
    · obtain ⟨q, rfl, _⟩ := hz
      refine (Gt.kind.bind (Q' := fun (k : Int) (l : List Int) n => (l.length ≤ 16 ∧ ∀ x ∈ l, kindE x = 0) ∧ 2 * c ≤ n ∧ ∃ gs : List (Nat × Int), gs.length = c ∧ l = (acc ++ List.replicate (q : Int).toNat k) ++ unrle gs) (fun k _ hk => ?_) fun _ => (Strict.throw _ _).bind fun _ => Strict.loc _ _).imp ?_
      · refine (Gt.bind (Q := fun _ n => n = 0 ∧ ¬ ((16 : Int) - acc.length < (q : Int))) (Gt.throw (by decide)) (fun _ _ ht => Gt.loc c (acc ++ List.replicate (q : Int).toNat k) ⟨?_, ?_⟩) fun _ => Strict.loc _ _).imp ?_
        · rw [List.length_append, List.length_replicate]; omega
        · intro x hx
          rcases List.mem_append.1 hx with h | h
          · exact ha.2 x h
          · obtain ⟨_, rfl⟩ := List.mem_replicate.1 h; exact hk.1
        · rintro l n ⟨_, m, m', ⟨rfl, _⟩, h, rfl⟩
          rw [Nat.zero_add]; exact h
      · rintro l n ⟨k, m, m', ⟨_, rfl⟩, ⟨h1, h2, h3⟩, rfl⟩
        exact ⟨h1, by omega, k, h3⟩
    · rintro l n ⟨z, m, m', ⟨q, rfl, _, hq⟩, ⟨h1, h2, k, gs, h3, h4⟩, rfl⟩
      have := uleb_pos q
      refine ⟨h1, by omega, ((q : Int).toNat, k) :: gs, by rw [List.length_cons, h3], ?_⟩
      rw [h4, List.append_assoc]; rfl
theorem rle_groups : ∀ gs : List (Nat × Int), (rle (unrle gs)).length ≤ gs.length
  | [] => Nat.le_refl _
  | (n, k) :: r => by
    have h1 := rle_groups r
    have h2 := rle_app_len (unrle r) k n
    show (rle (List.replicate n k ++ unrle r)).length ≤ _
    rw [List.length_cons]; omega
theorem runs_len : ∀ l : List (Nat × Int), (∀ x ∈ l, x.1 < 128) → (l.flatMap Bin.runT).length = 2 * l.length
  | [], _ => rfl
  | x :: r, h => by
    have h1 := runs_len r fun y hy => h y (List.mem_cons_of_mem _ hy)
    have h2 := h x (List.mem_cons_self ..)
    rw [List.flatMap_cons, List.length_append, h1]
    unfold Bin.runT
    rw [uleb_lt h2]
    simp only [List.length_append, List.length_singleton, List.length_cons, List.length_nil]; omega
theorem Gt.code : Gt codeR (fun x n => (eachE 16 kindE x.1 = 0 ∧ chkB x.2 = 0 ∧ opsOk x.2) ∧ (codeT ⟨0, x.1, x.2⟩).length ≤ n) := by
  refine (Gt.piece (Q := fun x n => (eachE 16 kindE x.1 = 0 ∧ chkB x.2 = 0 ∧ opsOk x.2) ∧ (Bin.allT ⟨0, x.1, x.2⟩).length ≤ n) ?_).imp ?_
  · refine ((Gt.count 16).bind (fun c _ _ => (Gt.loc c [] ⟨Nat.zero_le _, nofun⟩).bind (fun l _ _ => Gt.body.bind (fun b _ _ => Gt.ret (l, b)) fun _ => .ret _) fun _ => Strict.body.bind fun _ => .ret _) fun _ => (Strict.loc _ _).bind fun _ => Strict.body.bind fun _ => .ret _).imp ?_
    rintro x n ⟨c, m1, n1, ⟨h1, h2⟩, ⟨l, m2, n2, ⟨⟨h3, h4⟩, h5, gs, h6, rfl⟩, ⟨b, m3, n3, ⟨h7, h8, h9⟩, ⟨rfl, rfl⟩, rfl⟩, rfl⟩, rfl⟩
    rw [List.nil_append] at h3 h4
    simp only [List.nil_append]
    refine ⟨⟨eachE_0.2 ⟨by omega, h4⟩, h7, h8⟩, ?_⟩
    have r1 := rle_groups gs
    have r2 := runs_len (rle (unrle gs)) (fun x hx => by
      have := (Bin.rle_mem (unrle gs) x hx).1
      omega)
    have r3 := uleb_le c (rle (unrle gs)).length (by omega)
    unfold Bin.allT
    simp only [List.length_append]
    rw [r2]
    omega
  · rintro x n ⟨N, m, ⟨h1, h2⟩, _, h4, rfl⟩
    exact ⟨h1, piece_len h2 h4⟩
end Go.Proofs.YtbbdfhgcmkljeaaGreatDoor.Brd
/- What bin.Read reads: the sections, and the whole. -/
set_option maxRecDepth 100000
set_option maxHeartbeats 4000000
set_option linter.unusedVariables false
set_option linter.unusedSimpArgs false
namespace Go.Proofs.YtbbdfhgcmkljeaaGreatDoor.Brd
open Go Go.Proofs.YtbbdfhgcmkljeaaGreatDoor.Eng Go.RowKit
open Ins Nest Leb Txt
open Bin (SigD FunD ModD kindE indexE sigE impE funE gloE elE datE startE placeE geE leE pagE manyE allE eachE eachE_0 allE_0 fst_eq0 numT kindsT nameT sigT impT expT gloT elT datT rle codeT secT headT tabT memT staT modT mutB opB kindsT_is OkM OkF unrle unrle_rle)
def codL (m : ModD) (c : Nat) : Nat := if c = m.funcs.length then (secT 10 (Bin.listT codeT m.funcs)).length else 0
def lenM (m : ModD) (c : Nat) : Nat := 8 + (secT 1 (Bin.listT sigT m.types)).length + (secT 2 (Bin.listT impT m.imps)).length + (secT 3 (Bin.listT (fun f => numT f.ty) m.funcs)).length + (secT 4 (tabT m.table)).length + (secT 5 (memT m.pages m.most)).length
  + (secT 6 (Bin.listT gloT m.globals)).length + (secT 7 (Bin.listT expT m.exps)).length + (secT 8 (staT m.start)).length + (secT 9 (Bin.listT elT m.elems)).length + codL m c + (secT 11 (Bin.listT datT m.data)).length
/-- What is read so far, behind the section 'last'. -/
structure Inv (last : Int) (m : ModD) (c : Nat) (k : Nat) : Prop where
  z1 : last < 1 → m.types = []
  z2 : last < 2 → m.imps = []
  z3 : last < 3 → m.funcs = []
  z4 : last < 4 → m.table = 0
  z5 : last < 5 → m.pages = 0 ∧ m.most = 0
  z6 : last < 6 → m.globals = []
  z7 : last < 7 → m.exps = []
  z8 : last < 8 → m.start = 0
  z9 : last < 9 → m.elems = []
  z10 : last < 10 → c = 0
  z11 : last < 11 → m.data = []
  o1 : eachE 16 sigE m.types = 0
  o2 : eachE 16 impE m.imps = 0
  o3 : m.funcs.length ≤ 16 ∧ ∀ f ∈ m.funcs, indexE f.ty = 0
  o4 : 0 ≤ m.table ∧ m.table ≤ 16
  o5 : (0 ≤ m.pages ∧ m.pages ≤ m.most) ∧ m.most ≤ 8
  o6 : eachE 8 gloE m.globals = 0 ∧ ∀ x ∈ m.globals, I64 x.2.2
  o7 : eachE 8 impE m.exps = 0
  o8 : 0 ≤ m.start ∧ m.start ≤ 4294967295
  o9 : eachE 4 elE m.elems = 0
  o10 : c = m.funcs.length → ∀ f ∈ m.funcs, eachE 16 kindE f.loc = 0 ∧ chkB f.body = 0 ∧ opsOk f.body
  o11 : eachE 4 datE m.data = 0
  len : lenM m c ≤ k
theorem sec_le {b : UInt8} {C : List UInt8} {N mm : Nat} (h : C.length ≤ N) (hm : (uleb N).length ≤ mm) : (secT b C).length ≤ 1 + mm + N := by
  unfold secT
  split
  · simp
  · have := uleb_le N C.length h
    simp only [List.length_append, List.length_singleton]; omega
theorem list_le {α : Type} {f : α → List UInt8} {l : List α} {N : Nat} (h : (uleb l.length ++ l.flatMap f).length ≤ N) : (Bin.listT f l).length ≤ N := by
  unfold Bin.listT
  split
  · exact Nat.zero_le _
  · exact h
theorem sec_nil (b : UInt8) : (secT b []).length = 0 := by unfold secT; rw [if_pos rfl]; rfl
theorem lst_nil {α : Type} (f : α → List UInt8) (b : UInt8) : (secT b (Bin.listT f [])).length = 0 := by unfold Bin.listT; rw [if_pos rfl]; exact sec_nil b
theorem codL_0 (m : ModD) : codL m 0 = 0 := by
  unfold codL
  split
  · rename_i h
    rw [List.eq_nil_of_length_eq_zero h.symm]
    exact lst_nil _ _
  · rfl
/-- A section that is read as it should be. -/
def SecP (i : Int) (m : ModD) (q : ModD × Nat) (N : Nat) : Prop := ∀ last c k mm, Inv last m c k → last < i → (uleb N).length ≤ mm → Inv i q.1 (c + q.2) (k + (1 + mm + N))
theorem setC_len : ∀ (l : List FunD) (q : List (List Int × List InsD)), (setC l q).length = l.length
  | [], _ => by cases ‹List (List Int × List InsD)› <;> rfl
  | _ :: _, [] => rfl
  | f :: r, c :: q => by show (_ :: setC r q).length = _; rw [List.length_cons, setC_len r q, List.length_cons]
theorem setC_ty : ∀ (l : List FunD) (q : List (List Int × List InsD)), (setC l q).map (fun f => f.ty) = l.map fun f => f.ty
  | [], _ => by cases ‹List (List Int × List InsD)› <;> rfl
  | _ :: _, [] => rfl
  | f :: r, c :: q => by show (_ :: (setC r q).map _) = _; rw [setC_ty r q]; rfl
theorem setC_same : ∀ (l : List FunD) (q : List (List Int × List InsD)), q.length = l.length → (setC l q).map (fun f => (f.loc, f.body)) = q
  | [], [], _ => rfl
  | [], _ :: _, h => by simp at h
  | _ :: _, [], h => by simp at h
  | f :: r, c :: q, h => by show (_ :: (setC r q).map _) = _; rw [setC_same r q (by simpa using h)]
theorem listT_of {α β : Type} {f : α → List UInt8} {g : β → List UInt8} {d : α → β} (l : List α) (h : ∀ x, f x = g (d x)) : Bin.listT f l = Bin.listT g (l.map d) := by
  unfold Bin.listT
  rw [List.length_map, List.flatMap_map]
  simp only [List.map_eq_nil_iff, ← h]
theorem sec1_gt (m : ModD) : Gt (secR 1 m) (SecP 1 m) := by
  rw [sec1]
  refine ((Gt.list 16 Strict.sig (f := sigT) Gt.sig).bind (fun l n hl => Gt.ret _) fun _ => .ret _).imp ?_
  rintro q n ⟨l, a, b, ⟨h1, h2, h3⟩, ⟨rfl, hb⟩, hn⟩ last c k mm I hi hm
  have e := I.z1 (by omega)
  have hc := sec_le (b := 1) (Nat.le_trans (list_le h3) (show _ ≤ n by omega)) hm
  simp only [e, List.nil_append, Nat.add_zero] at hc ⊢
  refine { I with z1 := fun h => absurd h (by omega), z2 := fun h => I.z2 (by omega), z3 := fun h => I.z3 (by omega), z4 := fun h => I.z4 (by omega), z5 := fun h => I.z5 (by omega), z6 := fun h => I.z6 (by omega), z7 := fun h => I.z7 (by omega), z8 := fun h => I.z8 (by omega), z9 := fun h => I.z9 (by omega), z10 := fun h => I.z10 (by omega), z11 := fun h => I.z11 (by omega), o1 := eachE_0.2 ⟨by simp only; omega, h2⟩, len := ?_ }
  have h0 := I.len
  unfold lenM codL at h0 ⊢
  rw [e, lst_nil] at h0
  simp only at h0 ⊢
  omega
theorem sec2_gt (m : ModD) : Gt (secR 2 m) (SecP 2 m) := by
  rw [sec2]
  refine ((Gt.list 16 Strict.imp (f := impT) Gt.imp').bind (fun l n hl => Gt.ret _) fun _ => .ret _).imp ?_
  rintro q n ⟨l, a, b, ⟨h1, h2, h3⟩, ⟨rfl, hb⟩, hn⟩ last c k mm I hi hm
  have e := I.z2 (by omega)
  have hc := sec_le (b := 2) (Nat.le_trans (list_le h3) (show _ ≤ n by omega)) hm
  simp only [e, List.nil_append, Nat.add_zero] at hc ⊢
  refine { I with z1 := fun h => absurd h (by omega), z2 := fun h => absurd h (by omega), z3 := fun h => I.z3 (by omega), z4 := fun h => I.z4 (by omega), z5 := fun h => I.z5 (by omega), z6 := fun h => I.z6 (by omega), z7 := fun h => I.z7 (by omega), z8 := fun h => I.z8 (by omega), z9 := fun h => I.z9 (by omega), z10 := fun h => I.z10 (by omega), z11 := fun h => I.z11 (by omega), o2 := eachE_0.2 ⟨by simp only; omega, h2⟩, len := ?_ }
  have h0 := I.len
  unfold lenM codL at h0 ⊢
  rw [e, lst_nil] at h0
  simp only at h0 ⊢
  omega
theorem sec3_gt (m : ModD) : Gt (secR 3 m) (SecP 3 m) := by
  rw [sec3]
  refine ((Gt.list 16 .plain (f := numT) Gt.plainN).bind (fun l n hl => Gt.ret _) fun _ => .ret _).imp ?_
  rintro q n ⟨l, a, b, ⟨h1, h2, h3⟩, ⟨rfl, hb⟩, hn⟩ last c k mm I hi hm
  have e := I.z3 (by omega)
  obtain rfl := I.z10 (by omega)
  have ht : Bin.listT (fun f : FunD => numT f.ty) (l.map fun t => ⟨t, [], []⟩) = Bin.listT numT l := by
    rw [listT_of (g := numT) (d := fun f : FunD => f.ty) _ fun _ => rfl, List.map_map]
    congr 1
    exact List.map_id' l
  have hc := sec_le (b := 3) (Nat.le_trans (list_le h3) (show _ ≤ n by omega)) hm
  simp only [e, List.nil_append, Nat.add_zero] at hc ⊢
  refine { I with z1 := fun h => absurd h (by omega), z2 := fun h => absurd h (by omega), z3 := fun h => absurd h (by omega), z4 := fun h => I.z4 (by omega), z5 := fun h => I.z5 (by omega), z6 := fun h => I.z6 (by omega), z7 := fun h => I.z7 (by omega), z8 := fun h => I.z8 (by omega), z9 := fun h => I.z9 (by omega), z10 := fun h => I.z10 (by omega), z11 := fun h => I.z11 (by omega), o3 := ⟨by rw [List.length_map]; exact h1, fun f hf => ?_⟩, o10 := fun h f hf => ?_, len := ?_ }
  · obtain ⟨t, ht, rfl⟩ := List.mem_map.1 hf
    exact idx_0 (h2 t ht)
  · rw [List.length_map] at h
    rw [List.eq_nil_of_length_eq_zero h.symm] at hf
    cases hf
  · have h0 := I.len
    unfold lenM at h0 ⊢
    rw [codL_0] at h0 ⊢
    rw [e, lst_nil] at h0
    simp only [ht] at h0 ⊢
    omega
theorem Gt.tab : Gt oneTab (fun v n => v ≤ 16 ∧ ([112, 0] ++ uleb v).length ≤ n) := by
  refine ((Gt.fixed 112 (by decide)).bind (fun _ _ _ => (Gt.fixed 0 (by decide)).bind (fun _ _ _ => Gt.count 16) fun _ => .count _) fun _ => (Strict.fixed _ _).bind fun _ => .count _).imp ?_
  rintro v n ⟨_, m1, n1, rfl, ⟨_, m2, n2, rfl, ⟨h1, h2⟩, rfl⟩, rfl⟩
  exact ⟨h1, by simp only [List.length_append, List.length_cons, List.length_nil]; omega⟩
theorem Gt.mem : Gt oneMem (fun x n => ((0 ≤ x.1 ∧ x.1 ≤ x.2) ∧ x.2 ≤ 8) ∧ ([1] ++ numT x.1 ++ numT x.2).length ≤ n) := by
  refine ((Gt.fixed 1 (by decide)).bind (fun _ _ _ => Gt.plainN.bind (fun p _ _ => Gt.plainN.bind (fun q _ _ => (Gt.throw (by decide)).bind (fun _ _ _ => (Gt.throw (by decide)).bind (fun _ _ _ => Gt.ret (p, q)) fun _ => .ret _) fun _ => (Strict.throw _ _).bind fun _ => .ret _) fun _ => (Strict.throw _ _).bind fun _ => (Strict.throw _ _).bind fun _ => .ret _) fun _ => Strict.plain.bind fun _ => (Strict.throw _ _).bind fun _ => (Strict.throw _ _).bind fun _ => .ret _) fun _ => Strict.plain.bind fun _ => Strict.plain.bind fun _ => (Strict.throw _ _).bind fun _ => (Strict.throw _ _).bind fun _ => .ret _).imp ?_
  rintro v n ⟨_, m1, n1, rfl, ⟨p, m2, n2, ⟨h1, h2⟩, ⟨q, m3, n3, ⟨h3, h4⟩, ⟨_, m4, n4, ⟨rfl, h5⟩, ⟨_, m5, n5, ⟨rfl, h6⟩, ⟨rfl, rfl⟩, rfl⟩, rfl⟩, rfl⟩, rfl⟩, rfl⟩
  exact ⟨⟨⟨h1.1, by omega⟩, by omega⟩, by simp only [List.length_append, List.length_cons, List.length_nil]; omega⟩
theorem one_or {α : Type} {l : List α} (h : l.length ≤ 1) : l = [] ∨ ∃ x, l = [x] := by
  cases l with
  | nil => exact .inl rfl
  | cons x r => cases r with
    | nil => exact .inr ⟨x, rfl⟩
    | cons y q => simp at h
theorem sec4_gt (m : ModD) : Gt (secR 4 m) (SecP 4 m) := by
  rw [sec4]
  refine ((Gt.list 1 Strict.tab (f := fun v => [112, 0] ++ uleb v) Gt.tab).bind (fun l n hl => Gt.ret _) fun _ => .ret _).imp ?_
  rintro q n ⟨l, a, b, ⟨h1, h2, h3⟩, ⟨rfl, hb⟩, hn⟩ last c k mm I hi hm
  have e := I.z4 (by omega)
  have h0 := I.len
  rcases one_or h1 with rfl | ⟨x, rfl⟩
  · exact { I with z1 := fun h => absurd h (by omega), z2 := fun h => absurd h (by omega), z3 := fun h => absurd h (by omega), z4 := fun h => absurd h (by omega), z5 := fun h => I.z5 (by omega), z6 := fun h => I.z6 (by omega), z7 := fun h => I.z7 (by omega), z8 := fun h => I.z8 (by omega), z9 := fun h => I.z9 (by omega), z10 := fun h => I.z10 (by omega), z11 := fun h => I.z11 (by omega), len := Nat.le_trans h0 (Nat.le_add_right _ _) }
  · have hx := h2 x (List.mem_singleton.2 rfl)
    simp only [tab1, Nat.add_zero] at hm ⊢
    have ht : (tabT (x : Int)).length ≤ n := by
      have u1 := uleb_pos x
      rw [List.length_append] at h3
      have : (uleb [x].length).length = 1 := by rw [List.length_singleton, uleb_lt (by decide)]; rfl
      simp only [List.flatMap_cons, List.flatMap_nil, List.length_append, List.length_cons, List.length_nil, List.append_nil] at h3 this
      unfold tabT numT
      split
      · rw [Int.toNat_natCast]
        simp only [List.length_append, List.length_cons, List.length_nil]; omega
      · exact Nat.zero_le _
    have hc := sec_le (b := 4) ht hm
    refine { I with z1 := fun h => absurd h (by omega), z2 := fun h => absurd h (by omega), z3 := fun h => absurd h (by omega), z4 := fun h => absurd h (by omega), z5 := fun h => I.z5 (by omega), z6 := fun h => I.z6 (by omega), z7 := fun h => I.z7 (by omega), z8 := fun h => I.z8 (by omega), z9 := fun h => I.z9 (by omega), z10 := fun h => I.z10 (by omega), z11 := fun h => I.z11 (by omega), o4 := ⟨by simp only; omega, by simp only; omega⟩, len := ?_ }
    unfold lenM codL at h0 ⊢
    have e2 : (secT 4 (tabT 0)).length = 0 := sec_nil 4
    rw [e, e2] at h0
    simp only at h0 ⊢
    omega
theorem sec5_gt (m : ModD) : Gt (secR 5 m) (SecP 5 m) := by
  rw [sec5]
  refine ((Gt.list 1 Strict.mem (f := fun x => [1] ++ numT x.1 ++ numT x.2) Gt.mem).bind (fun l n hl => Gt.ret _) fun _ => .ret _).imp ?_
  rintro q n ⟨l, a, b, ⟨h1, h2, h3⟩, ⟨rfl, hb⟩, hn⟩ last c k mm I hi hm
  obtain ⟨e, e'⟩ := I.z5 (by omega)
  have h0 := I.len
  rcases one_or h1 with rfl | ⟨x, rfl⟩
  · exact { I with z1 := fun h => absurd h (by omega), z2 := fun h => absurd h (by omega), z3 := fun h => absurd h (by omega), z4 := fun h => absurd h (by omega), z5 := fun h => absurd h (by omega), z6 := fun h => I.z6 (by omega), z7 := fun h => I.z7 (by omega), z8 := fun h => I.z8 (by omega), z9 := fun h => I.z9 (by omega), z10 := fun h => I.z10 (by omega), z11 := fun h => I.z11 (by omega), len := Nat.le_trans h0 (Nat.le_add_right _ _) }
  · have hx := h2 x (List.mem_singleton.2 rfl)
    simp only [pag1, mos1, Nat.add_zero] at hm ⊢
    have ht : (memT x.1 x.2).length ≤ n := by
      rw [List.length_append] at h3
      have : (uleb [x].length).length = 1 := by rw [List.length_singleton, uleb_lt (by decide)]; rfl
      simp only [List.flatMap_cons, List.flatMap_nil, List.length_append, List.length_cons, List.length_nil, List.append_nil] at h3 this
      unfold memT
      split
      · simp only [List.length_append, List.length_cons, List.length_nil]; omega
      · exact Nat.zero_le _
    have hc := sec_le (b := 5) ht hm
    refine { I with z1 := fun h => absurd h (by omega), z2 := fun h => absurd h (by omega), z3 := fun h => absurd h (by omega), z4 := fun h => absurd h (by omega), z5 := fun h => absurd h (by omega), z6 := fun h => I.z6 (by omega), z7 := fun h => I.z7 (by omega), z8 := fun h => I.z8 (by omega), z9 := fun h => I.z9 (by omega), z10 := fun h => I.z10 (by omega), z11 := fun h => I.z11 (by omega), o5 := hx, len := ?_ }
    unfold lenM codL at h0 ⊢
    have e2 : (secT 5 (memT 0 0)).length = 0 := sec_nil 5
    rw [e, e', e2] at h0
    simp only at h0 ⊢
    omega
theorem sec6_gt (m : ModD) : Gt (secR 6 m) (SecP 6 m) := by
  rw [sec6]
  refine ((Gt.list 8 Strict.glo (f := gloT) Gt.glo).bind (fun l n hl => Gt.ret _) fun _ => .ret _).imp ?_
  rintro q n ⟨l, a, b, ⟨h1, h2, h3⟩, ⟨rfl, hb⟩, hn⟩ last c k mm I hi hm
  have e := I.z6 (by omega)
  have hc := sec_le (b := 6) (Nat.le_trans (list_le h3) (show _ ≤ n by omega)) hm
  simp only [e, List.nil_append, Nat.add_zero] at hc ⊢
  refine { I with z1 := fun h => absurd h (by omega), z2 := fun h => absurd h (by omega), z3 := fun h => absurd h (by omega), z4 := fun h => absurd h (by omega), z5 := fun h => absurd h (by omega), z6 := fun h => absurd h (by omega), z7 := fun h => I.z7 (by omega), z8 := fun h => I.z8 (by omega), z9 := fun h => I.z9 (by omega), z10 := fun h => I.z10 (by omega), z11 := fun h => I.z11 (by omega), o6 := ⟨eachE_0.2 ⟨by simp only; omega, fun x hx => (h2 x hx).1⟩, fun x hx => (h2 x hx).2⟩, len := ?_ }
  have h0 := I.len
  unfold lenM codL at h0 ⊢
  rw [e, lst_nil] at h0
  simp only at h0 ⊢
  omega
theorem sec7_gt (m : ModD) : Gt (secR 7 m) (SecP 7 m) := by
  rw [sec7]
  refine ((Gt.list 8 Strict.exp (f := expT) Gt.exp).bind (fun l n hl => Gt.ret _) fun _ => .ret _).imp ?_
  rintro q n ⟨l, a, b, ⟨h1, h2, h3⟩, ⟨rfl, hb⟩, hn⟩ last c k mm I hi hm
  have e := I.z7 (by omega)
  have hc := sec_le (b := 7) (Nat.le_trans (list_le h3) (show _ ≤ n by omega)) hm
  simp only [e, List.nil_append, Nat.add_zero] at hc ⊢
  refine { I with z1 := fun h => absurd h (by omega), z2 := fun h => absurd h (by omega), z3 := fun h => absurd h (by omega), z4 := fun h => absurd h (by omega), z5 := fun h => absurd h (by omega), z6 := fun h => absurd h (by omega), z7 := fun h => absurd h (by omega), z8 := fun h => I.z8 (by omega), z9 := fun h => I.z9 (by omega), z10 := fun h => I.z10 (by omega), z11 := fun h => I.z11 (by omega), o7 := eachE_0.2 ⟨by simp only; omega, h2⟩, len := ?_ }
  have h0 := I.len
  unfold lenM codL at h0 ⊢
  rw [e, lst_nil] at h0
  simp only at h0 ⊢
  omega
theorem sec8_gt (m : ModD) : Gt (secR 8 m) (SecP 8 m) := by
  rw [sec8]
  refine (Gt.plainN.bind (fun z n _ => (Gt.throw (by decide)).bind (fun _ _ _ => Gt.ret _) fun _ => .ret _) fun _ => (Strict.throw _ _).bind fun _ => .ret _).imp ?_
  rintro q n ⟨z, a, b, ⟨h1, h2⟩, ⟨_, a2, b2, ⟨hb, h3⟩, ⟨rfl, hc⟩, hd⟩, hn⟩ last c k mm I hi hm
  have e := I.z8 (by omega)
  have h0 := I.len
  simp only [Nat.add_zero] at hm ⊢
  have ht : (staT (z + 1)).length ≤ n := by
    unfold staT
    rw [if_pos (by omega), show z + 1 - 1 = z by omega]
    omega
  have hc := sec_le (b := 8) ht hm
  refine { I with z1 := fun h => absurd h (by omega), z2 := fun h => absurd h (by omega), z3 := fun h => absurd h (by omega), z4 := fun h => absurd h (by omega), z5 := fun h => absurd h (by omega), z6 := fun h => absurd h (by omega), z7 := fun h => absurd h (by omega), z8 := fun h => absurd h (by omega), z9 := fun h => I.z9 (by omega), z10 := fun h => I.z10 (by omega), z11 := fun h => I.z11 (by omega), o8 := ⟨by simp only; omega, by simp only; omega⟩, len := ?_ }
  unfold lenM codL at h0 ⊢
  have e2 : (secT 8 (staT 0)).length = 0 := sec_nil 8
  rw [e, e2] at h0
  simp only at h0 ⊢
  omega
theorem sec9_gt (m : ModD) : Gt (secR 9 m) (SecP 9 m) := by
  rw [sec9]
  refine ((Gt.list 4 Strict.el (f := elT) Gt.el).bind (fun l n hl => Gt.ret _) fun _ => .ret _).imp ?_
  rintro q n ⟨l, a, b, ⟨h1, h2, h3⟩, ⟨rfl, hb⟩, hn⟩ last c k mm I hi hm
  have e := I.z9 (by omega)
  have hc := sec_le (b := 9) (Nat.le_trans (list_le h3) (show _ ≤ n by omega)) hm
  simp only [e, List.nil_append, Nat.add_zero] at hc ⊢
  refine { I with z1 := fun h => absurd h (by omega), z2 := fun h => absurd h (by omega), z3 := fun h => absurd h (by omega), z4 := fun h => absurd h (by omega), z5 := fun h => absurd h (by omega), z6 := fun h => absurd h (by omega), z7 := fun h => absurd h (by omega), z8 := fun h => absurd h (by omega), z9 := fun h => absurd h (by omega), z10 := fun h => I.z10 (by omega), z11 := fun h => I.z11 (by omega), o9 := eachE_0.2 ⟨by simp only; omega, h2⟩, len := ?_ }
  have h0 := I.len
  unfold lenM codL at h0 ⊢
  rw [e, lst_nil] at h0
  simp only at h0 ⊢
  omega
theorem sec10_gt (m : ModD) : Gt (secR 10 m) (SecP 10 m) := by
  rw [sec10]
  refine ((Gt.list 16 Strict.code (f := fun x => codeT ⟨0, x.1, x.2⟩) Gt.code).bind (fun l n hl => Gt.ret _) fun _ => .ret _).imp ?_
  rintro q n ⟨l, a, b, ⟨h1, h2, h3⟩, ⟨rfl, hb⟩, hn⟩ last c k mm I hi hm
  obtain rfl := I.z10 (by omega)
  have h0 := I.len
  have hc := sec_le (b := 10) (Nat.le_trans (list_le h3) (show _ ≤ n by omega)) hm
  simp only [Nat.add_zero, Nat.zero_add] at hm hc ⊢
  have ht : Bin.listT (fun f : FunD => numT f.ty) (setC m.funcs l) = Bin.listT (fun f : FunD => numT f.ty) m.funcs := by
    rw [listT_of (g := numT) (d := fun f : FunD => f.ty) _ fun _ => rfl, setC_ty, ← listT_of (g := numT) (d := fun f : FunD => f.ty) _ fun _ => rfl]
  have hs : l.length = m.funcs.length → Bin.listT codeT (setC m.funcs l) = Bin.listT (fun x : List Int × List InsD => codeT ⟨0, x.1, x.2⟩) l := fun h => by
    rw [listT_of (f := codeT) (g := fun x : List Int × List InsD => codeT ⟨0, x.1, x.2⟩) (d := fun f : FunD => (f.loc, f.body)) _ fun _ => rfl, setC_same _ _ h]
  refine { I with z1 := fun h => absurd h (by omega), z2 := fun h => absurd h (by omega), z3 := fun h => absurd h (by omega), z4 := fun h => absurd h (by omega), z5 := fun h => absurd h (by omega), z6 := fun h => absurd h (by omega), z7 := fun h => absurd h (by omega), z8 := fun h => absurd h (by omega), z9 := fun h => absurd h (by omega), z10 := fun h => absurd h (by omega), z11 := fun h => I.z11 (by omega), o3 := ⟨by rw [setC_len]; exact I.o3.1, fun f hf => ?_⟩, o10 := fun h f hf => ?_, len := ?_ }
  · have : f.ty ∈ (setC m.funcs l).map (fun f => f.ty) := List.mem_map.2 ⟨f, hf, rfl⟩
    rw [setC_ty] at this
    obtain ⟨y, hy, e⟩ := List.mem_map.1 this
    rw [← e]; exact I.o3.2 y hy
  · simp only at h hf
    rw [setC_len] at h
    have : (f.loc, f.body) ∈ (setC m.funcs l).map (fun f => (f.loc, f.body)) := List.mem_map.2 ⟨f, hf, rfl⟩
    rw [setC_same _ _ h] at this
    exact h2 _ this
  · unfold lenM at h0 ⊢
    rw [codL_0] at h0
    have hl : codL ({ m with funcs := setC m.funcs l } : ModD) l.length ≤ 1 + mm + n := by
      unfold codL
      simp only
      rw [setC_len]
      split
      · rename_i h; rw [hs h]; exact hc
      · exact Nat.zero_le _
    simp only [ht] at h0 ⊢
    omega
theorem sec11_gt (m : ModD) : Gt (secR 11 m) (SecP 11 m) := by
  rw [sec11]
  refine ((Gt.list 4 Strict.dat (f := datT) Gt.dat).bind (fun l n hl => Gt.ret _) fun _ => .ret _).imp ?_
  rintro q n ⟨l, a, b, ⟨h1, h2, h3⟩, ⟨rfl, hb⟩, hn⟩ last c k mm I hi hm
  have e := I.z11 (by omega)
  have hc := sec_le (b := 11) (Nat.le_trans (list_le h3) (show _ ≤ n by omega)) hm
  simp only [e, List.nil_append, Nat.add_zero] at hc ⊢
  refine { I with z1 := fun h => absurd h (by omega), z2 := fun h => absurd h (by omega), z3 := fun h => absurd h (by omega), z4 := fun h => absurd h (by omega), z5 := fun h => absurd h (by omega), z6 := fun h => absurd h (by omega), z7 := fun h => absurd h (by omega), z8 := fun h => absurd h (by omega), z9 := fun h => absurd h (by omega), z10 := fun h => absurd h (by omega), z11 := fun h => absurd h (by omega), o11 := eachE_0.2 ⟨by simp only; omega, h2⟩, len := ?_ }
  have h0 := I.len
  unfold lenM codL at h0 ⊢
  rw [e, lst_nil] at h0
  simp only at h0 ⊢
  omega
theorem sec_gt {i : Int} (h1 : 1 ≤ i) (h2 : i ≤ 11) (m : ModD) : Gt (secR i m) (SecP i m) := by
  obtain rfl | rfl | rfl | rfl | rfl | rfl | rfl | rfl | rfl | rfl | rfl : i = 1 ∨ i = 2 ∨ i = 3 ∨ i = 4 ∨ i = 5 ∨ i = 6 ∨ i = 7 ∨ i = 8 ∨ i = 9 ∨ i = 10 ∨ i = 11 := by omega
  · exact sec1_gt m
  · exact sec2_gt m
  · exact sec3_gt m
  · exact sec4_gt m
  · exact sec5_gt m
  · exact sec6_gt m
  · exact sec7_gt m
  · exact sec8_gt m
  · exact sec9_gt m
  · exact sec10_gt m
  · exact sec11_gt m
theorem sc_ite {α : Type} {c : Prop} [Decidable c] {p q : Rdr α} (hp : Strict p) (hq : Strict q) : Strict (if c then p else q) := by
  by_cases h : c
  · rw [if_pos h]; exact hp
  · rw [if_neg h]; exact hq
theorem Strict.sec (i : Int) (m : ModD) : Strict (secR i m) := by
  unfold secR
  exact sc_ite ((Strict.list _ Strict.sig).bind fun _ => .ret _) (sc_ite ((Strict.list _ Strict.imp).bind fun _ => .ret _) (sc_ite ((Strict.list _ .plain).bind fun _ => .ret _) (sc_ite ((Strict.list _ Strict.tab).bind fun _ => .ret _) (sc_ite ((Strict.list _ Strict.mem).bind fun _ => .ret _) (sc_ite ((Strict.list _ Strict.glo).bind fun _ => .ret _) (sc_ite ((Strict.list _ Strict.exp).bind fun _ => .ret _) (sc_ite (Strict.plain.bind fun _ => (Strict.throw _ _).bind fun _ => .ret _) (sc_ite ((Strict.list _ Strict.el).bind fun _ => .ret _) (sc_ite ((Strict.list _ Strict.code).bind fun _ => .ret _) (sc_ite ((Strict.list _ Strict.dat).bind fun _ => .ret _) (.ret _)))))))))))
theorem secs_gt : ∀ (f : Nat) (last : Int) (m : ModD) (c : Nat), Gt (secsR f last m c) (fun q n => ∀ k, Inv last m c k → ∃ last', Inv last' q.1 q.2 (k + n))
  | 0, last, m, c => (Gt.ret (m, c)).imp fun q n ⟨h1, h2⟩ k I => by subst h1; subst h2; exact ⟨last, I⟩
  | f + 1, last, m, c => fun s k hk h0 => by
    have G : Gt (bindR octetR fun id => bindR (throwR (id < 1 ∨ 11 < id) 6) fun _ => bindR (throwR (id ≤ last) 4) fun _ => bindR (pieceR (secR id m)) fun q => secsR f id q.1 (c + q.2)) (fun q n => ∀ k, Inv last m c k → ∃ last', Inv last' q.1 q.2 (k + n)) := by
      refine (Gt.octet.bind (Q' := fun (id : Int) q n => ∀ k, Inv last m c k → ∃ last', Inv last' q.1 q.2 (k + (1 + n))) (fun id _ _ => ?_) fun _ => (Strict.throw _ _).bind fun _ => (Strict.throw _ _).bind fun _ => (Strict.piece _).bind fun _ => Strict.secs _ _ _ _).imp ?_
      · refine (Gt.bind (Q := fun _ n => n = 0 ∧ ¬ (id < 1 ∨ 11 < id)) (Gt.throw (by decide)) (Q' := fun _ q n => ∀ k, Inv last m c k → ∃ last', Inv last' q.1 q.2 (k + (1 + n))) (fun _ _ h1 => ?_) fun _ => (Strict.throw _ _).bind fun _ => (Strict.piece _).bind fun _ => Strict.secs _ _ _ _).imp ?_
        · refine (Gt.bind (Q := fun _ n => n = 0 ∧ ¬ (id ≤ last)) (Gt.throw (by decide)) (Q' := fun _ q n => ∀ k, Inv last m c k → ∃ last', Inv last' q.1 q.2 (k + (1 + n))) (fun _ _ h2 => ?_) fun _ => (Strict.piece _).bind fun _ => Strict.secs _ _ _ _).imp ?_
          · refine ((Gt.piece (sec_gt (by omega) (by omega) m)).bind (fun q _ _ => secs_gt f id q.1 (c + q.2)) fun _ => Strict.secs _ _ _ _).imp ?_
            rintro q n ⟨q1, a, b, ⟨N, mm, h3, _, h4, rfl⟩, h5, rfl⟩ k I
            obtain ⟨l', I'⟩ := h5 _ (h3 last c k mm I (by omega) h4)
            exact ⟨l', by rw [show k + (1 + (mm + N + b)) = k + (1 + mm + N) + b by omega]; exact I'⟩
          · rintro q n ⟨_, a, b, ⟨rfl, _⟩, h, rfl⟩
            rw [Nat.zero_add]; exact h
        · rintro q n ⟨_, a, b, ⟨rfl, _⟩, h, rfl⟩
          rw [Nat.zero_add]; exact h
      · rintro q n ⟨_, a, b, ⟨_, _, rfl⟩, h, rfl⟩
        exact h
    rw [secsR] at h0 ⊢
    simp only at h0 ⊢
    by_cases hl : s.length ≤ k
    · rw [if_pos (.inr hl)]
      exact ⟨hk, 0, rfl, fun k I => ⟨last, I⟩⟩
    · rw [if_neg (by simp; omega)] at h0 ⊢
      exact G s k hk h0
theorem Gt.head : ∀ l : List UInt8, Gt (headR l) fun _ n => n = l.length
  | [] => (Gt.ret ()).imp fun _ _ h => h.2
  | b :: r => by
    refine ((Gt.fixed b.toNat (by decide)).bind (fun _ _ _ => Gt.head r) fun _ => Strict.head _).imp ?_
    rintro u n ⟨_, a, c, rfl, rfl, rfl⟩
    rw [List.length_cons]; omega
theorem inv_0 : Inv 0 m0 0 8 where
  z1 := fun _ => rfl
  z2 := fun _ => rfl
  z3 := fun _ => rfl
  z4 := fun _ => rfl
  z5 := fun _ => ⟨rfl, rfl⟩
  z6 := fun _ => rfl
  z7 := fun _ => rfl
  z8 := fun _ => rfl
  z9 := fun _ => rfl
  z10 := fun _ => rfl
  z11 := fun _ => rfl
  o1 := rfl
  o2 := rfl
  o3 := ⟨by decide, nofun⟩
  o4 := by decide
  o5 := by decide
  o6 := ⟨rfl, nofun⟩
  o7 := rfl
  o8 := by decide
  o9 := rfl
  o10 := fun _ => nofun
  o11 := rfl
  len := by
    unfold lenM
    rw [codL_0]
    simp only [m0, lst_nil]
    have e1 : (secT 4 (tabT 0)).length = 0 := sec_nil 4
    have e2 : (secT 5 (memT 0 0)).length = 0 := sec_nil 5
    have e3 : (secT 8 (staT 0)).length = 0 := sec_nil 8
    omega
/-- What is read as a module can be told, with no more bytes. -/
theorem read_told {s : List UInt8} {m : ModD} (h : rdM s = (m, 0)) : Bin.OkM m ∧ (modT m).length ≤ s.length ∧ s.length ≤ 4096 := by
  unfold rdM at h
  split at h
  · exact absurd (congrArg Prod.snd h) (show (2 : Int) ≠ 0 by decide)
  rename_i hl
  split at h
  rotate_left
  · rename_i h0
    exact absurd (congrArg Prod.snd h) h0
  rename_i h0
  have hm := congrArg Prod.fst h
  simp only at hm
  have G : Gt readR (fun m n => ∃ last' c, c = m.funcs.length ∧ Inv last' m c n) := by
    refine ((Gt.head headT).bind (fun _ _ _ => (secs_gt 12 0 m0 0).bind (fun q _ _ => (Gt.throw (by decide)).bind (fun _ _ _ => Gt.ret q.1) fun _ => .ret _) fun _ => (Strict.throw _ _).bind fun _ => .ret _) fun _ => (Strict.secs _ _ _ _).bind fun _ => (Strict.throw _ _).bind fun _ => .ret _).imp ?_
    rintro m n ⟨_, a, b, rfl, ⟨q, a2, b2, h1, ⟨_, a3, b3, ⟨rfl, h2⟩, ⟨rfl, rfl⟩, rfl⟩, rfl⟩, rfl⟩
    obtain ⟨l', I⟩ := h1 8 inv_0
    exact ⟨l', q.2, Decidable.not_not.1 h2, I⟩
  obtain ⟨h1, n, h2, l', c, hc, I⟩ := G s 0 (Nat.zero_le _) h0
  rw [hm] at hc I
  subst hc
  have hlen : (modT m).length ≤ n := by
    have := I.len
    unfold lenM codL at this
    rw [if_pos rfl] at this
    unfold modT
    simp only [List.length_append]
    have e : headT.length = 8 := rfl
    omega
  have o5 := I.o5
  have o4 := I.o4
  refine ⟨⟨?_, fun f hf => (I.o10 rfl f hf).2.2, I.o6.2, by omega⟩, by omega, by omega⟩
  unfold Bin.chkM
  simp only [fst_eq0]
  refine ⟨I.o1, I.o2, eachE_0.2 ⟨by have := I.o3.1; omega, fun f hf => fst_eq0.2 ⟨I.o3.2 f hf, fst_eq0.2 ⟨(I.o10 rfl f hf).1, (I.o10 rfl f hf).2.1⟩⟩⟩, ?_, ?_, ?_, ?_, I.o6.1, I.o7, idx_0 I.o8, I.o9, I.o11⟩
  · unfold geE; rw [if_pos o4.1]
  · unfold leE; rw [if_pos o4.2]
  · unfold pagE; rw [if_pos o5.1]
  · unfold leE; rw [if_pos o5.2]
end Go.Proofs.YtbbdfhgcmkljeaaGreatDoor.Brd
/- Readers that throw: what is owed where one panics. -/
set_option maxRecDepth 100000
set_option linter.unusedVariables false
set_option linter.unusedSimpArgs false
namespace Go.Proofs.YtbbdfhgcmkljeaaGreatDoor.Brd
open Go Go.Proofs.YtbbdfhgcmkljeaaGreatDoor.Eng Go.RowKit
open Txt
section
variable {g g' : Glob} {w : World} {l l' : List As} {e : Int} {pq : List PanicEntry → World → Prop}
/-- What has the pieces l' has the pieces l. -/
def Lw (l l' : List As) : Prop := ∀ {h : Hp}, sts l' h → ∃ a : Hp, (∀ k o, a k = some o → h k = some o) ∧ sts l a
theorem Lw.skip {p : As} (hl : Lw l l') : Lw l (p :: l') := by
  rintro h ⟨a, b, hs, _, hb⟩
  obtain ⟨c, h1, h2⟩ := hl hb
  refine ⟨c, fun k o hk => ?_, h2⟩
  rcases hs k with ⟨_, h4⟩ | ⟨_, h4⟩
  · rw [h1 k o hk] at h4; cases h4
  · rw [← h4]; exact h1 k o hk
theorem Lw.both {p q : As} (hp : ∀ h, p h → q h) (hl : Lw l l') : Lw (q :: l) (p :: l') := by
  rintro h ⟨a, b, hs, ha, hb⟩
  obtain ⟨c, h1, h2⟩ := hl hb
  refine ⟨fun k => match a k with
    | some o => some o
    | none => c k, fun k o hk => ?_, a, c, fun k => ?_, hp a ha, h2⟩
  · rcases hs k with ⟨h3, h4⟩ | ⟨h3, h4⟩
    · cases hak : a k with
      | some u => simp only [hak] at hk; rw [← h3, hak]; exact hk
      | none => simp only [hak] at hk; rw [h1 k o hk] at h4; cases h4
    · simp only [h3] at hk; rw [← h4]; exact h1 k o hk
  · cases hak : a k with
    | some u =>
      refine .inl ⟨by simp only [hak], ?_⟩
      rcases hs k with ⟨_, h4⟩ | ⟨h3, _⟩
      · cases hc : c k with
        | none => rfl
        | some o => rw [h1 k o hc] at h4; cases h4
      · rw [hak] at h3; cases h3
    | none => exact .inr ⟨rfl, by simp only [hak]⟩
theorem sat_sub (H : Sat g w l') (hl : Lw l l') : Sat g w l := by
  obtain ⟨h1, h2, h3, h, hs, hst⟩ := H
  obtain ⟨a, ha, hst⟩ := (Lw.both (fun _ h => h) hl) hst
  exact ⟨h1, h2, h3, a, fun k o hk => hs k o (ha k o hk), hst⟩
/-- l is in l', in its order. -/
class Lt (l l' : List As) : Prop where
  h : Lw l l'
instance Lt.refl (l : List As) : Lt l l := ⟨fun h => ⟨_, fun _ _ h => h, h⟩⟩
instance (priority := low) Lt.skip (p : As) (l l' : List As) [i : Lt l l'] : Lt l (p :: l') := ⟨Lw.skip i.h⟩
instance Lt.both (p : As) (l l' : List As) [i : Lt l l'] : Lt (p :: l) (p :: l') := ⟨Lw.both (fun _ h => h) i.h⟩
/-- A module, whatever is in its cells. -/
def Pm (p : Nat) : As := fun h => ∃ cs : List Value, cs.length = 11 ∧ sts [Pt p cs 30] h
theorem pm_of {p : Nat} {cs : List Value} (hc : cs.length = 11) (h : Hp) (hp : Pt p cs 30 h) : Pm p h :=
  ⟨cs, hc, h, fun _ => none, fun k => .inl ⟨rfl, rfl⟩, hp, trivial⟩
class Cs11 (cs : List Value) : Prop where
  h : cs.length = 11
instance (a b c d e f g h i j k : Value) : Cs11 [a, b, c, d, e, f, g, h, i, j, k] := ⟨rfl⟩
instance (m : Bin.ModV) : Cs11 (Bin.enMd m) := ⟨rfl⟩
instance Lt.pm (p : Nat) (cs : List Value) (l l' : List As) [i : Cs11 cs] [j : Lt l l'] : Lt (Pm p :: l) (Pt p cs 30 :: l') := ⟨Lw.both (pm_of i.h) j.h⟩
/-- What is thrown. -/
abbrev wrong (e : Int) : List PanicEntry := [{ v := .iface 104 (.agg #[.int .i64 e]), recovered := false }]
/-- e may be thrown where the pieces l lie. -/
def Esc (pq : List PanicEntry → World → Prop) (g : Glob) (e : Int) (l : List As) : Prop := ∀ g' w', Ext g g' → Sat g' w' l → pq (wrong e) w'
theorem Esc.ext (h : Esc pq g e l) (E : Ext g g') : Esc pq g' e l := fun g2 w2 E2 H => h g2 w2 (E.trans E2) H
theorem Esc.up [i : Lt l l'] (h : Esc pq g e l) : Esc pq g e l' := fun g' w' E H => h g' w' E (sat_sub H i.h)
theorem Esc.go (h : Esc pq g e l) (H : Sat g w l) : pq (wrong e) w := h g w (Ext.refl g) H
/-- Where a reader fails, its fault may be thrown. -/
def Rq {α : Type} (pq : List PanicEntry → World → Prop) (g : Glob) (l : List As) (p : Rdr α) (s : List UInt8) (k : Nat) : Prop := (p s ⟨k, 0⟩).2.bad ≠ 0 → Esc pq g (p s ⟨k, 0⟩).2.bad l
theorem Rq.ext {α : Type} {p : Rdr α} {s : List UInt8} {k : Nat} (h : Rq pq g l p s k) (E : Ext g g') : Rq pq g' l p s k := fun hb => (h hb).ext E
/-- A reading that came to W, of which q is left. -/
structure Rn {α : Type} (pq : List PanicEntry → World → Prop) (g : Glob) (l : List As) (W : α × RS) (q : Rdr α) (s : List UInt8) (k : Nat) : Prop where
  e : W = q s ⟨k, 0⟩
  q : W.2.bad ≠ 0 → Esc pq g W.2.bad l
class Sc {α : Type} (p : Rdr α) : Prop where
  h : Strict p
end
section
variable {α β : Type} {g g' : Glob} {w : World} {l l' : List As} {e : Int} {pq : List PanicEntry → World → Prop} {s : List UInt8} {k k' : Nat}
instance (v : α) : Sc (retR v) := ⟨.ret v⟩
instance : Sc octetR := ⟨.octet⟩
instance : Sc plainR := ⟨.plain⟩
instance (b : Nat) : Sc (signedR b) := ⟨.signed b⟩
instance (c : Prop) [Decidable c] (e : Int) : Sc (throwR c e) := ⟨Strict.throw c e⟩
instance (b e : Int) : Sc (fixedR b e) := ⟨Strict.fixed b e⟩
instance : Sc kindR := ⟨Strict.kind⟩
instance : Sc nameR := ⟨Strict.name⟩
instance : Sc bodyR := ⟨Strict.body⟩
instance (m : Nat) : Sc (countR m) := ⟨.count m⟩
instance (n : Nat) : Sc (takeR n) := ⟨.take n⟩
instance (p : Rdr α) (n : Int) : Sc (subR p n) := ⟨Strict.sub p n⟩
instance (p : Rdr α) : Sc (pieceR p) := ⟨Strict.piece p⟩
instance : Sc sigR := ⟨Strict.sig⟩
instance : Sc impR := ⟨Strict.imp⟩
instance : Sc expR := ⟨Strict.exp⟩
instance : Sc gloR := ⟨Strict.glo⟩
instance : Sc placeR := ⟨Strict.place⟩
instance : Sc elR := ⟨Strict.el⟩
instance : Sc datR := ⟨Strict.dat⟩
instance (n : Nat) (acc : List Int) : Sc (locR n acc) := ⟨Strict.loc n acc⟩
instance : Sc codeR := ⟨Strict.code⟩
instance : Sc oneTab := ⟨Strict.tab⟩
instance : Sc oneMem := ⟨Strict.mem⟩
instance (i : Int) (m : Bin.ModD) : Sc (secR i m) := ⟨Strict.sec i m⟩
instance (f : Nat) (last : Int) (m : Bin.ModD) (c : Nat) : Sc (secsR f last m c) := ⟨Strict.secs f last m c⟩
instance (l : List UInt8) : Sc (headR l) := ⟨Strict.head l⟩
instance (p : Rdr α) (f : α → Rdr β) [i : Sc p] [j : ∀ v, Sc (f v)] : Sc (bindR p f) := ⟨i.h.bind fun v => (j v).h⟩
instance (p : Rdr α) (n : Nat) [i : Sc p] : Sc (repR p n) := ⟨.rep i.h n⟩
instance (p : Rdr α) (m : Nat) [i : Sc p] : Sc (listR m p) := ⟨.list m i.h⟩
theorem Rn.start {p : Rdr α} (h : Rq pq g l p s k) : Rn pq g l (p s ⟨k, 0⟩) p s k := ⟨rfl, h⟩
theorem Rn.ext {W : α × RS} {q : Rdr α} (h : Rn pq g l W q s k) (E : Ext g g') : Rn pq g' l W q s k := ⟨h.e, fun hb => (h.q hb).ext E⟩
theorem bind_bad {p : Rdr α} {f : α → Rdr β} [j : ∀ v, Sc (f v)] {r : RS} (h : (p s r).2.bad ≠ 0) : (bindR p f s r).2 = (p s r).2 := (j _).h s _ h
theorem Rn.last {W : α × RS} {q : Rdr α} [i : Lt l l'] (h : Rn pq g l W q s k) : Rq pq g l' q s k := fun hb => by
  have := h.q
  rw [h.e] at this
  exact (this hb).up
theorem Rn.fst {W : β × RS} {p : Rdr α} {f : α → Rdr β} [i : Lt l l'] [j : ∀ v, Sc (f v)] (h : Rn pq g l W (bindR p f) s k) : Rq pq g l' p s k := fun hb => by
  have := h.q
  rw [h.e, bind_bad hb] at this
  exact (this hb).up
theorem Rn.snd {W : β × RS} {p : Rdr α} {f : α → Rdr β} {v : α} (h : Rn pq g l W (bindR p f) s k) (e : p s ⟨k, 0⟩ = (v, ⟨k', 0⟩)) : Rn pq g l W (f v) s k' := ⟨by rw [h.e]; unfold bindR; rw [e], h.q⟩
theorem Rn.thr {W : β × RS} {c : Prop} [Decidable c] {f : Unit → Rdr β} [i : Lt l l'] [j : ∀ v, Sc (f v)] (h : Rn pq g l W (bindR (throwR c e) f) s k) (he : e ≠ 0) (hc : c) : Esc pq g e l' := by
  have : (throwR c e s ⟨k, 0⟩) = ((), ⟨k, e⟩) := by unfold throwR; rw [if_pos hc]; rfl
  have h1 := h.fst (l' := l')
  unfold Rq at h1
  rw [this] at h1
  exact h1 he
theorem Rn.thrL {W : Unit × RS} {c : Prop} [Decidable c] [i : Lt l l'] (h : Rn pq g l W (throwR c e) s k) (he : e ≠ 0) (hc : c) : Esc pq g e l' := by
  have : (throwR c e s ⟨k, 0⟩) = ((), ⟨k, e⟩) := by unfold throwR; rw [if_pos hc]; rfl
  have h1 := h.last (l' := l')
  unfold Rq at h1
  rw [this] at h1
  exact h1 he
theorem throw_no {c : Prop} [Decidable c] (hc : ¬ c) : throwR c e s ⟨k, 0⟩ = ((), ⟨k, 0⟩) := by unfold throwR; rw [if_neg hc]; rfl
theorem Rn.nxt {W : β × RS} {c : Prop} [Decidable c] {f : Unit → Rdr β} (h : Rn pq g l W (bindR (throwR c e) f) s k) (hc : ¬ c) : Rn pq g l W (f ()) s k := h.snd (throw_no hc)
theorem Rn.nxtL {W : Unit × RS} {c : Prop} [Decidable c] (h : Rn pq g l W (throwR c e) s k) (hc : ¬ c) : W = ((), ⟨k, 0⟩) := h.e.trans (throw_no hc)
end
end Go.Proofs.YtbbdfhgcmkljeaaGreatDoor.Brd
/- Package bin: the reader that throws. -/
set_option maxRecDepth 100000
set_option maxHeartbeats 4000000
set_option linter.unusedVariables false
set_option linter.unusedSimpArgs false
namespace Go.Proofs.YtbbdfhgcmkljeaaGreatDoor.Brd
open Go Go.Proofs.YtbbdfhgcmkljeaaGreatDoor.Eng Go.RowKit
open Ins Nest Leb Txt
section
variable {g : Glob} {w : World} {l : List As} {r k : Nat} {s : List UInt8} {pq : List PanicEntry → World → Prop}
abbrev rC (s : List UInt8) (k : Nat) : List Value := [.string (bs s), .int .i64 k]
theorem throw (H : Sat g w l) (b : Bool) (e : Int) (hq : b = true → Esc pq g e l) : Fc ⟨Tryz.prog, pq⟩ 54 #[.pointer (some ⟨r, 0, none⟩), .bool b, .int .i64 e] w (fun _ w' => b = false ∧ Sat g w' l) := by
  refine Fc.of Tryz.func54 rfl (by kernel_rfl) ?_
  refine cI (fun c1 => ?_) (fun c1 => ?_)
  · refine rBuild rfl rfl rfl ?_
    refine rIface rfl rfl ?_
    refine PanP.mk _ rfl ?_
    exact (hq (by assumption)).go H
  refine Done.mk ?_
  refine ⟨?_, ?_⟩
  · assumption
  exact H
theorem oct_no (hq : Rq pq g l octetR s k) (h : s.length ≤ k) : Esc pq g 3 l := by
  unfold Rq at hq
  rw [octetR_end h] at hq
  exact hq (show (3 : Int) ≠ 0 by decide)
theorem octet (H : Sat g w (Pt r (rC s k) 108 :: l)) (hk : k ≤ s.length) (hs : s.length ≤ 4096) (hq : Rq pq g l octetR s k) : Fc ⟨Tryz.prog, pq⟩ 53 #[.pointer (some ⟨r, 0, none⟩)] w
    (fun v w' => ∃ (c : UInt8) (k' : Nat), v = .int .u8 (c.toNat : Int) ∧ octetR s ⟨k, 0⟩ = ((c.toNat : Int), ⟨k', 0⟩) ∧ k' ≤ s.length ∧ Sat g w' (Pt r (rC s k') 108 :: l)) := by
  refine Fc.of Tryz.func53 rfl (by kernel_rfl) ?_
  refine drawzS H [] [(0, .pure), (1, .pure), (2, .pure), (3, .pure), (4, .held), (5, .pure), (6, .pure), (7, .pure), (8, .held), (9, .pure), (10, .pure), (11, .free)] mixed (by kernel_rfl) (by kernel_rfl) ?_
  clear H
  intro w1 H
  refine tk (fun wx HS => rFieldAt rfl ⟨rfl, rfl⟩) ?_
  refine tk (fun wx HS => rLd (HS.at 0 rfl) 1 rfl rfl rfl ⟨rfl, rfl⟩) ?_
  refine tk (fun wx HS => rFieldAt rfl ⟨rfl, rfl⟩) ?_
  refine tk (fun wx HS => rLd (HS.at 0 rfl) 0 rfl rfl rfl ⟨rfl, rfl⟩) ?_
  refine tk (fun wx HS => rLenStr rfl ⟨rfl, rfl⟩) ?_
  refine CallP.mk (Fc.imp (Go.Proofs.YtbbdfhgcmkljeaaGreatDoor.Brd.throw H _ _ ?_) ?_)
  · exact fun h => (oct_no hq (by have := vLe_t h; omega)).up
  clear H
  rintro v' w2 ⟨h1, H⟩
  have hlt := vLe_f (by assumption)
  refine rFieldAt rfl ?_
  refine rLd (H.at 0 rfl) 1 rfl rfl rfl ?_
  refine eqI64 (by omega) ?_
  refine rFieldAt rfl ?_
  refine rStS H 0 rfl rfl rfl rfl ?_
  clear H
  intro w3 H
  clear w2
  refine drawzS H [] [(0, .pure), (1, .pure), (2, .pure), (3, .held), (4, .pure), (5, .pure), (6, .pure), (7, .held), (8, .pure), (9, .pure), (10, .pure)] mixed (by kernel_rfl) (by kernel_rfl) ?_
  clear H
  intro w2 H
  clear w3
  refine tk (fun wx HS => rFieldAt rfl ⟨rfl, rfl⟩) ?_
  refine tk (fun wx HS => rLd (HS.at 0 rfl) 0 rfl rfl rfl ⟨rfl, rfl⟩) ?_
  refine tk (fun wx HS => rFieldAt rfl ⟨rfl, rfl⟩) ?_
  refine tk (fun wx HS => rLd (HS.at 0 rfl) 1 rfl rfl rfl ⟨rfl, rfl⟩) ?_
  refine eqI64 (by omega) ?_
  obtain ⟨x1, hx1⟩ : ∃ x, (s)[(((k) + 1) - 1)]? = some x := ⟨_, List.getElem?_eq_getElem (by omega)⟩
  have hb1 := byteLt hx1
  refine tk (fun wx HS => rIdxStrX rfl (((k) + 1) - 1) hx1 (by omega) ⟨rfl, rfl⟩) ?_
  refine Done.mk ?_
  refine ⟨x1, k + 1, ?_⟩
  refine ⟨?_, ?_⟩
  · refine int_eq ?_
    omega
  refine ⟨?_, ?_⟩
  · exact octetR_get hx1
  refine ⟨?_, ?_⟩
  · omega
  exact H
theorem fixed (H : Sat g w (Pt r (rC s k) 108 :: l)) (hk : k ≤ s.length) (hs : s.length ≤ 4096) (b e : Int) (he : e ≠ 0) (hq : Rq pq g l (fixedR b e) s k) : Fc ⟨Tryz.prog, pq⟩ 52 #[.pointer (some ⟨r, 0, none⟩), .int .u8 b, .int .i64 e] w
    (fun _ w' => ∃ (k' : Nat), fixedR b e s ⟨k, 0⟩ = ((), ⟨k', 0⟩) ∧ k' ≤ s.length ∧ Sat g w' (Pt r (rC s k') 108 :: l)) := by
  refine Fc.of Tryz.func52 rfl (by kernel_rfl) ?_
  have hR := Rn.start hq
  refine CallP.mk (Fc.imp (Go.Proofs.YtbbdfhgcmkljeaaGreatDoor.Brd.octet H ?_ ?_ ?_) ?_)
  · assumption
  · assumption
  · exact hR.fst
  clear H
  rintro _ w1 ⟨c1, ⟨k'1, ⟨rfl, ⟨h1, ⟨h2, H⟩⟩⟩⟩⟩
  replace hR := hR.snd (by assumption)
  refine CallP.mk (Fc.imp (Go.Proofs.YtbbdfhgcmkljeaaGreatDoor.Brd.throw H _ _ ?_) ?_)
  · exact fun h => hR.thrL he (vNe_t h)
  clear H
  rintro v' w2 ⟨h3, H⟩
  refine Done.mk ?_
  refine ⟨k'1, ?_⟩
  refine ⟨?_, ?_⟩
  · exact hR.nxtL (not_not_intro (vNe_f (by assumption)))
  refine ⟨?_, ?_⟩
  · assumption
  exact H
theorem plain_no {n m e : Nat} (h : rdU 32 (s.drop k) 0 0 = (n, m, e)) (hq : Rq pq g l plainR s k) (hb : vNe (e : Int) 0 = true) : Esc pq g e l := by
  unfold Rq at hq
  rw [plainR_get h] at hq
  exact hq (vNe_t hb)
theorem plain_ok {n m e : Nat} (h : rdU 32 (s.drop k) 0 0 = (n, m, e)) (hb : vNe (e : Int) 0 = false) : plainR s ⟨k, 0⟩ = ((n : Int), ⟨k + m, 0⟩) := by
  rw [plainR_get h, vNe_f hb]
theorem number (H : Sat g w (Pt r (rC s k) 108 :: l)) (hk : k ≤ s.length) (hs : s.length ≤ 4096) (hq : Rq pq g l plainR s k) : Fc ⟨Tryz.prog, pq⟩ 84 #[.pointer (some ⟨r, 0, none⟩)] w
    (fun v w' => ∃ (n k' : Nat), v = .int .i64 n ∧ plainR s ⟨k, 0⟩ = ((n : Int), ⟨k', 0⟩) ∧ n < 4294967296 ∧ k' ≤ s.length ∧ Sat g w' (Pt r (rC s k') 108 :: l)) := by
  refine Fc.of Tryz.func84 rfl (by kernel_rfl) ?_
  refine drawzS H [] [(0, .pure), (1, .pure), (2, .pure), (3, .held), (4, .pure), (5, .pure), (6, .pure), (7, .held), (8, .pure), (9, .free), (10, .pure), (11, .pure), (12, .pure), (13, .pure), (14, .pure), (15, .pure), (16, .pure)] mixed (by kernel_rfl) (by kernel_rfl) ?_
  clear H
  intro w1 H
  refine tk (fun wx HS => rFieldAt rfl ⟨rfl, rfl⟩) ?_
  refine tk (fun wx HS => rLd (HS.at 0 rfl) 0 rfl rfl rfl ⟨rfl, rfl⟩) ?_
  refine tk (fun wx HS => rFieldAt rfl ⟨rfl, rfl⟩) ?_
  refine tk (fun wx HS => rLd (HS.at 0 rfl) 1 rfl rfl rfl ⟨rfl, rfl⟩) ?_
  refine tk (fun wx HS => rSubL rfl (k) (by omega) (by omega) ⟨rfl, rfl⟩) ?_
  refine CallP.mk (Fc.imp (Fc.lift (Go.Proofs.YtbbdfhgcmkljeaaGreatDoor.Leb.readU _ _ (32) ?_ _ ?_ ?_)) ?_)
  · omega
  · omega
  · (simp; omega)
  rintro _ w2 ⟨n1, ⟨k1, ⟨e1, ⟨rfl, ⟨h1, H'⟩⟩⟩⟩⟩
  refine H.mergeK H' ?_
  clear H H'
  intro H
  obtain ⟨hf1, hf2, hf3⟩ := rdU_facts (.inl rfl) (by assumption)
  rw [List.length_drop] at hf1
  refine CallP.mk (Fc.imp (Go.Proofs.YtbbdfhgcmkljeaaGreatDoor.Brd.throw H _ _ ?_) ?_)
  · exact fun h => (plain_no (by assumption) hq h).up
  clear H
  rintro v' w3 ⟨h2, H⟩
  refine rFieldAt rfl ?_
  refine rLd (H.at 0 rfl) 1 rfl rfl rfl ?_
  refine eqI64 (by omega) ?_
  refine rFieldAt rfl ?_
  refine rStS H 0 rfl rfl rfl rfl ?_
  clear H
  intro w4 H
  clear w3
  refine rConvI64 (by omega) rfl rfl ?_
  refine Done.mk ?_
  refine ⟨n1, k + k1, ?_⟩
  refine ⟨?_, ?_⟩
  · refine int_eq ?_
    omega
  refine ⟨?_, ?_⟩
  · exact plain_ok (by assumption) (by assumption)
  refine ⟨?_, ?_⟩
  · assumption
  refine ⟨?_, ?_⟩
  · omega
  exact H
end
end Go.Proofs.YtbbdfhgcmkljeaaGreatDoor.Brd
/- Package bin: the reader that throws: numbers, names, kinds, pieces. -/
set_option maxRecDepth 100000
set_option maxHeartbeats 4000000
set_option linter.unusedVariables false
set_option linter.unusedSimpArgs false
namespace Go.Proofs.YtbbdfhgcmkljeaaGreatDoor.Brd
open Go Go.Proofs.YtbbdfhgcmkljeaaGreatDoor.Eng Go.RowKit
open Ins Nest Leb Txt
open Bin (kindE)
section
variable {g : Glob} {w : World} {l : List As} {r k : Nat} {s : List UInt8} {pq : List PanicEntry → World → Prop}
theorem numI (H : Sat g w (Pt r (rC s k) 108 :: l)) (hk : k ≤ s.length) (hs : s.length ≤ 4096) (hq : Rq pq g l plainR s k) : Fc ⟨Tryz.prog, pq⟩ 84 #[.pointer (some ⟨r, 0, none⟩)] w
    (fun v w' => ∃ (n : Int) (k' : Nat), v = .int .i64 n ∧ plainR s ⟨k, 0⟩ = (n, ⟨k', 0⟩) ∧ (0 ≤ n ∧ n < 4294967296) ∧ k' ≤ s.length ∧ Sat g w' (Pt r (rC s k') 108 :: l)) := by
  refine Fc.imp (number H hk hs hq) ?_
  rintro _ w2 ⟨n, k', rfl, h1, h2, h3, H⟩
  exact ⟨n, k', rfl, h1, ⟨by omega, by omega⟩, h3, H⟩
theorem sgn_no {bits : Nat} {n : Int} {m e : Nat} (h : rdS bits (s.drop k) 0 0 = (n, m, e)) (hq : Rq pq g l (signedR bits) s k) (hb : vNe (e : Int) 0 = true) : Esc pq g e l := by
  unfold Rq at hq
  rw [signedR_get h] at hq
  exact hq (vNe_t hb)
theorem sgn_ok {bits : Nat} {n : Int} {m e : Nat} (h : rdS bits (s.drop k) 0 0 = (n, m, e)) (hb : vNe (e : Int) 0 = false) : signedR bits s ⟨k, 0⟩ = (n, ⟨k + m, 0⟩) := by
  rw [signedR_get h, vNe_f hb]
theorem signed (H : Sat g w (Pt r (rC s k) 108 :: l)) (hk : k ≤ s.length) (hs : s.length ≤ 4096) (z : Int) (bits : Nat) (hz : z = (bits : Int)) (hbits : bits = 32 ∨ bits = 64) (hq : Rq pq g l (signedR bits) s k) : Fc ⟨Tryz.prog, pq⟩ 101 #[.pointer (some ⟨r, 0, none⟩), .int .i64 z] w
    (fun v w' => ∃ (n : Int) (k' : Nat), v = .int .i64 n ∧ signedR bits s ⟨k, 0⟩ = (n, ⟨k', 0⟩) ∧ I64 n ∧ k' ≤ s.length ∧ Sat g w' (Pt r (rC s k') 108 :: l)) := by
  subst hz
  refine Fc.of Tryz.func101 rfl (by kernel_rfl) ?_
  refine drawzS H [] [(0, .pure), (1, .pure), (2, .pure), (3, .held), (4, .pure), (5, .pure), (6, .pure), (7, .held), (8, .pure), (9, .pure), (10, .free), (11, .pure), (12, .pure), (13, .pure), (14, .pure), (15, .pure), (16, .pure), (17, .pure)] mixed (by kernel_rfl) (by kernel_rfl) ?_
  clear H
  intro w1 H
  refine tk (fun wx HS => rFieldAt rfl ⟨rfl, rfl⟩) ?_
  refine tk (fun wx HS => rLd (HS.at 0 rfl) 0 rfl rfl rfl ⟨rfl, rfl⟩) ?_
  refine tk (fun wx HS => rFieldAt rfl ⟨rfl, rfl⟩) ?_
  refine tk (fun wx HS => rLd (HS.at 0 rfl) 1 rfl rfl rfl ⟨rfl, rfl⟩) ?_
  refine tk (fun wx HS => rSubL rfl (k) (by omega) (by omega) ⟨rfl, rfl⟩) ?_
  refine CallP.mk (Fc.imp (Fc.lift (Go.Proofs.YtbbdfhgcmkljeaaGreatDoor.Leb.readS _ _ (bits) ?_ _ ?_ ?_)) ?_)
  · omega
  · assumption
  · (simp; omega)
  rintro _ w2 ⟨n1, ⟨k1, ⟨e1, ⟨rfl, ⟨h1, H'⟩⟩⟩⟩⟩
  refine H.mergeK H' ?_
  clear H H'
  intro H
  obtain ⟨hf1, hf2, hf3⟩ := rdS_facts hbits (by assumption)
  rw [List.length_drop] at hf1
  refine CallP.mk (Fc.imp (Go.Proofs.YtbbdfhgcmkljeaaGreatDoor.Brd.throw H _ _ ?_) ?_)
  · exact fun h => (sgn_no (by assumption) hq h).up
  clear H
  rintro v' w3 ⟨h2, H⟩
  refine rFieldAt rfl ?_
  refine rLd (H.at 0 rfl) 1 rfl rfl rfl ?_
  refine eqI64 (by omega) ?_
  refine rFieldAt rfl ?_
  refine rStS H 0 rfl rfl rfl rfl ?_
  clear H
  intro w4 H
  clear w3
  refine Done.mk ?_
  refine ⟨n1, k + k1, ?_⟩
  refine ⟨?_, ?_⟩
  · refine int_eq ?_
    omega
  refine ⟨?_, ?_⟩
  · exact sgn_ok (by assumption) (by assumption)
  refine ⟨?_, ?_⟩
  · assumption
  refine ⟨?_, ?_⟩
  · omega
  exact H
theorem count (H : Sat g w (Pt r (rC s k) 108 :: l)) (hk : k ≤ s.length) (hs : s.length ≤ 4096) (z : Int) (m : Nat) (hz : z = (m : Int)) (hq : Rq pq g l (countR m) s k) : Fc ⟨Tryz.prog, pq⟩ 85 #[.pointer (some ⟨r, 0, none⟩), .int .i64 z] w
    (fun v w' => ∃ (n k' : Nat), v = .int .i64 n ∧ countR m s ⟨k, 0⟩ = (n, ⟨k', 0⟩) ∧ n ≤ m ∧ k' ≤ s.length ∧ Sat g w' (Pt r (rC s k') 108 :: l)) := by
  subst hz
  have hp : Rq pq g l plainR s k := fun hb => by
    have : countR m s ⟨k, 0⟩ = (0, (plainR s ⟨k, 0⟩).2) := by unfold countR; rw [if_pos hb]
    unfold Rq at hq
    rw [this] at hq
    exact hq hb
  have hl : ∀ (n k' : Nat), plainR s ⟨k, 0⟩ = ((n : Int), ⟨k', 0⟩) → m < n → Esc pq g 2 l := fun n k' h hn => by
    unfold Rq at hq
    rw [countR_big h rfl (by omega)] at hq
    exact hq (show (2 : Int) ≠ 0 by decide)
  refine Fc.of Tryz.func85 rfl (by kernel_rfl) ?_
  refine CallP.mk (Fc.imp (Go.Proofs.YtbbdfhgcmkljeaaGreatDoor.Brd.number H ?_ ?_ hp) ?_)
  · assumption
  · assumption
  clear H
  rintro _ w1 ⟨n1, ⟨k'1, ⟨rfl, ⟨h1, ⟨h2, ⟨h3, H⟩⟩⟩⟩⟩⟩
  refine CallP.mk (Fc.imp (Go.Proofs.YtbbdfhgcmkljeaaGreatDoor.Brd.throw H _ _ ?_) ?_)
  · exact fun h => (hl _ _ (by assumption) (by have := vLt_t h; omega)).up
  clear H
  rintro v' w2 ⟨h4, H⟩
  have hm := vLt_f (by assumption)
  refine Done.mk ?_
  refine ⟨n1, k'1, ?_⟩
  refine ⟨?_, ?_⟩
  · refine int_eq ?_
    omega
  refine ⟨?_, ?_⟩
  · exact countR_get (by assumption) rfl (by omega)
  refine ⟨?_, ?_⟩
  · omega
  refine ⟨?_, ?_⟩
  · assumption
  exact H
theorem kind_no {c : Int} {b : Bool} (h : b = true ↔ c = 127 ∨ c = 126) (hb : (!b) = true) : kindE c ≠ 0 := by
  unfold kindE
  rw [if_neg fun h' => by rw [h.2 h'] at hb; cases hb]
  decide
theorem kind_yes {c : Int} {b : Bool} (h : b = true ↔ c = 127 ∨ c = 126) (hb : (!b) = false) : ¬ kindE c ≠ 0 := by
  unfold kindE
  rw [if_pos (h.1 (by cases b <;> simp_all))]
  decide
theorem kind (H : Sat g w (Pt r (rC s k) 108 :: l)) (hk : k ≤ s.length) (hs : s.length ≤ 4096) (hq : Rq pq g l kindR s k) : Fc ⟨Tryz.prog, pq⟩ 99 #[.pointer (some ⟨r, 0, none⟩)] w
    (fun v w' => ∃ (c : Int) (k' : Nat), v = .int .u8 c ∧ kindR s ⟨k, 0⟩ = (c, ⟨k', 0⟩) ∧ U8 c ∧ k' ≤ s.length ∧ Sat g w' (Pt r (rC s k') 108 :: l)) := by
  refine Fc.of Tryz.func99 rfl (by kernel_rfl) ?_
  have hR := Rn.start hq
  refine CallP.mk (Fc.imp (Go.Proofs.YtbbdfhgcmkljeaaGreatDoor.Brd.octet H ?_ ?_ ?_) ?_)
  · assumption
  · assumption
  · exact hR.fst
  clear H
  rintro _ w1 ⟨c1, ⟨k'1, ⟨rfl, ⟨h1, ⟨h2, H⟩⟩⟩⟩⟩
  replace hR := hR.snd (by assumption)
  refine CallP.mk (Fc.imp (Fc.lift (Go.Proofs.YtbbdfhgcmkljeaaGreatDoor.Bin.isKind _ _)) ?_)
  rintro _ w2 ⟨⟨r1, ⟨rfl, h3⟩⟩, H'⟩
  refine H.mergeK H' ?_
  clear H H'
  intro H
  refine CallP.mk (Fc.imp (Go.Proofs.YtbbdfhgcmkljeaaGreatDoor.Brd.throw H _ _ ?_) ?_)
  · exact fun h => hR.thr (by decide) (kind_no (by assumption) h)
  clear H
  rintro v' w3 ⟨h4, H⟩
  refine Done.mk ?_
  refine ⟨(↑c1.toNat : Int), k'1, ?_⟩
  refine ⟨?_, ?_⟩
  · refine int_eq ?_
    omega
  refine ⟨?_, ?_⟩
  · exact (hR.nxt (kind_yes (by assumption) (by assumption))).e
  refine ⟨?_, ?_⟩
  · refine ⟨?_, ?_⟩
    · exact (kind_U8 (Decidable.not_not.1 (kind_yes (by assumption) (by assumption)))).1
    exact (kind_U8 (Decidable.not_not.1 (kind_yes (by assumption) (by assumption)))).2
  refine ⟨?_, ?_⟩
  · assumption
  exact H
theorem done (H : Sat g w (Pt r (rC s k) 108 :: l)) (hk : k ≤ s.length) (hs : s.length ≤ 4096) (hq : k < s.length → Esc pq g 4 l) : Fc ⟨Tryz.prog, pq⟩ 57 #[.pointer (some ⟨r, 0, none⟩)] w
    (fun _ w' => ¬ k < s.length ∧ Sat g w' (Pt r (rC s k) 108 :: l)) := by
  refine Fc.of Tryz.func57 rfl (by kernel_rfl) ?_
  refine drawzS H [] [(0, .pure), (1, .pure), (2, .pure), (3, .pure), (4, .held), (5, .pure), (6, .pure), (7, .pure), (8, .held), (9, .pure), (10, .pure), (11, .free)] mixed (by kernel_rfl) (by kernel_rfl) ?_
  clear H
  intro w1 H
  refine tk (fun wx HS => rFieldAt rfl ⟨rfl, rfl⟩) ?_
  refine tk (fun wx HS => rLd (HS.at 0 rfl) 1 rfl rfl rfl ⟨rfl, rfl⟩) ?_
  refine tk (fun wx HS => rFieldAt rfl ⟨rfl, rfl⟩) ?_
  refine tk (fun wx HS => rLd (HS.at 0 rfl) 0 rfl rfl rfl ⟨rfl, rfl⟩) ?_
  refine tk (fun wx HS => rLenStr rfl ⟨rfl, rfl⟩) ?_
  refine CallP.mk (Fc.imp (Go.Proofs.YtbbdfhgcmkljeaaGreatDoor.Brd.throw H _ _ ?_) ?_)
  · exact fun h => (hq (by have := vLt_t h; omega)).up
  clear H
  rintro v' w2 ⟨h1, H⟩
  have hm := vLt_f (by assumption)
  refine Done.mk ?_
  refine ⟨?_, ?_⟩
  · intro x1
    omega
  exact H
theorem doneI {z : Int} (H : Sat g w (Pt r [.string (bs s), .int .i64 z] 108 :: l)) (k : Nat) (hz : z = (k : Int)) (hk : k ≤ s.length) (hs : s.length ≤ 4096) (hq : k < s.length → Esc pq g 4 l) : Fc ⟨Tryz.prog, pq⟩ 57 #[.pointer (some ⟨r, 0, none⟩)] w
    (fun _ w' => ¬ k < s.length ∧ Sat g w' (Pt r (rC s k) 108 :: l)) := by
  subst hz
  exact done H hk hs hq
theorem pc_eq {a n : Nat} : List.drop (a + n - n) (List.take (a + n) s) = List.take n (List.drop a s) := by rw [Nat.add_sub_cancel, List.drop_take, Nat.add_sub_cancel_left]
theorem piece (H : Sat g w (Pt r (rC s k) 108 :: l)) (hk : k ≤ s.length) (hs : s.length ≤ 4096) (hq : Rq pq g l plainR s k) (hq2 : ∀ (n k' : Nat), plainR s ⟨k, 0⟩ = ((n : Int), ⟨k', 0⟩) → s.length - k' < n → Esc pq g 3 l) : Fc ⟨Tryz.prog, pq⟩ 55 #[.pointer (some ⟨r, 0, none⟩)] w
    (fun v w' => ∃ (q n k' : Nat), v = .pointer (some ⟨q, 0, none⟩) ∧ plainR s ⟨k, 0⟩ = ((n : Int), ⟨k', 0⟩) ∧ k' + n ≤ s.length ∧ Sat g w' (Pt q (rC ((s.drop k').take n) 0) 108 :: Pt r (rC s (k' + n)) 108 :: l)) := by
  refine Fc.of Tryz.func55 rfl (by kernel_rfl) ?_
  refine CallP.mk (Fc.imp (Go.Proofs.YtbbdfhgcmkljeaaGreatDoor.Brd.number H ?_ ?_ hq) ?_)
  · assumption
  · assumption
  clear H
  rintro _ w1 ⟨n1, ⟨k'1, ⟨rfl, ⟨h1, ⟨h2, ⟨h3, H⟩⟩⟩⟩⟩⟩
  refine drawzS H [] [(0, .pure), (1, .pure), (2, .pure), (3, .pure), (4, .pure), (5, .held), (6, .pure), (7, .pure), (8, .pure), (9, .pure), (10, .held), (11, .pure), (12, .pure), (13, .free)] mixed (by kernel_rfl) (by kernel_rfl) ?_
  clear H
  intro w2 H
  clear w1
  refine tk (fun wx HS => rFieldAt rfl ⟨rfl, rfl⟩) ?_
  refine tk (fun wx HS => rLd (HS.at 0 rfl) 0 rfl rfl rfl ⟨rfl, rfl⟩) ?_
  refine tk (fun wx HS => rLenStr rfl ⟨rfl, rfl⟩) ?_
  refine tk (fun wx HS => rFieldAt rfl ⟨rfl, rfl⟩) ?_
  refine tk (fun wx HS => rLd (HS.at 0 rfl) 1 rfl rfl rfl ⟨rfl, rfl⟩) ?_
  refine eqI64 (by omega) ?_
  refine CallP.mk (Fc.imp (Go.Proofs.YtbbdfhgcmkljeaaGreatDoor.Brd.throw H _ _ ?_) ?_)
  · exact fun h => (hq2 _ _ (by assumption) (by have := vLt_t h; omega)).up
  clear H
  rintro v' w1 ⟨h4, H⟩
  have hm := vLt_f (by assumption)
  refine rFieldAt rfl ?_
  refine rLd (H.at 0 rfl) 1 rfl rfl rfl ?_
  refine eqI64 (by omega) ?_
  refine rFieldAt rfl ?_
  refine rStS H 0 rfl rfl rfl rfl ?_
  clear H
  intro w3 H
  clear w1
  refine drawzS H [] [(0, .pure), (1, .pure), (2, .pure), (3, .held), (4, .pure), (5, .pure), (6, .pure), (7, .held), (8, .pure), (9, .pure), (10, .pure), (11, .pure), (12, .pure), (13, .held), (14, .pure), (15, .pure), (16, .free), (17, .pure)] mixed (by kernel_rfl) (by kernel_rfl) ?_
  clear H
  intro w1 H
  clear w3
  refine tk (fun wx HS => rFieldAt rfl ⟨rfl, rfl⟩) ?_
  refine tk (fun wx HS => rLd (HS.at 0 rfl) 0 rfl rfl rfl ⟨rfl, rfl⟩) ?_
  refine tk (fun wx HS => rFieldAt rfl ⟨rfl, rfl⟩) ?_
  refine tk (fun wx HS => rLd (HS.at 0 rfl) 1 rfl rfl rfl ⟨rfl, rfl⟩) ?_
  refine eqI64 (by omega) ?_
  refine tk (fun wx HS => rFieldAt rfl ⟨rfl, rfl⟩) ?_
  refine tk (fun wx HS => rLd (HS.at 0 rfl) 1 rfl rfl rfl ⟨rfl, rfl⟩) ?_
  refine tk (fun wx HS => rSub rfl (((k'1) + (n1)) - (n1)) ((k'1) + (n1)) (by omega) (by omega) (by omega) (by omega) ⟨rfl, rfl⟩) ?_
  refine tk (fun wx HS => rBuild rfl rfl rfl ⟨rfl, rfl⟩) ?_
  refine rBoxS H ?_
  clear H
  intro p1 w3 H
  clear w1
  refine Done.mk ?_
  refine ⟨p1, n1, k'1, ?_⟩
  refine ⟨?_, ?_⟩
  · rfl
  refine ⟨?_, ?_⟩
  · assumption
  refine ⟨?_, ?_⟩
  · omega
  refine H.cg (cgC (cgPt ?_) (cgC (cgPt ?_) (rfl)))
  · exact congrArg (fun t => [Value.string (bs t), .int .i64 0]) pc_eq
  rfl
theorem place (H : Sat g w (Pt r (rC s k) 108 :: l)) (hk : k ≤ s.length) (hs : s.length ≤ 4096) (hq : Rq pq g l placeR s k) : Fc ⟨Tryz.prog, pq⟩ 103 #[.pointer (some ⟨r, 0, none⟩)] w
    (fun v w' => ∃ (n : Int) (k' : Nat), v = .int .i64 n ∧ placeR s ⟨k, 0⟩ = (n, ⟨k', 0⟩) ∧ I64 n ∧ k' ≤ s.length ∧ Sat g w' (Pt r (rC s k') 108 :: l)) := by
  refine Fc.of Tryz.func103 rfl (by kernel_rfl) ?_
  have hR := Rn.start hq
  refine CallP.mk (Fc.imp (Go.Proofs.YtbbdfhgcmkljeaaGreatDoor.Brd.fixed H ?_ ?_ _ _ ?_ ?_) ?_)
  · assumption
  · assumption
  · omega
  · exact hR.fst
  clear H
  rintro v' w1 ⟨k'1, ⟨h1, ⟨h2, H⟩⟩⟩
  replace hR := hR.snd (by assumption)
  refine CallP.mk (Fc.imp (Go.Proofs.YtbbdfhgcmkljeaaGreatDoor.Brd.fixed H ?_ ?_ _ _ ?_ ?_) ?_)
  · assumption
  · assumption
  · omega
  · exact hR.fst
  clear H
  rintro va' w2 ⟨k'2, ⟨h3, ⟨h4, H⟩⟩⟩
  replace hR := hR.snd (by assumption)
  refine CallP.mk (Fc.imp (Go.Proofs.YtbbdfhgcmkljeaaGreatDoor.Brd.signed H ?_ ?_ _ (32) ?_ ?_ ?_) ?_)
  · assumption
  · assumption
  · omega
  · omega
  · exact hR.fst
  clear H
  rintro _ w3 ⟨n1, ⟨k'3, ⟨rfl, ⟨h5, ⟨h6, ⟨h7, H⟩⟩⟩⟩⟩⟩
  replace hR := hR.snd (by assumption)
  refine CallP.mk (Fc.imp (Go.Proofs.YtbbdfhgcmkljeaaGreatDoor.Brd.fixed H ?_ ?_ _ _ ?_ ?_) ?_)
  · assumption
  · assumption
  · omega
  · exact hR.fst
  clear H
  rintro vb' w4 ⟨k'4, ⟨h8, ⟨h9, H⟩⟩⟩
  replace hR := hR.snd (by assumption)
  refine Done.mk ?_
  refine ⟨n1, k'4, ?_⟩
  refine ⟨?_, ?_⟩
  · refine int_eq ?_
    omega
  refine ⟨?_, ?_⟩
  · exact hR.e
  refine ⟨?_, ?_⟩
  · assumption
  refine ⟨?_, ?_⟩
  · assumption
  exact H
end
end Go.Proofs.YtbbdfhgcmkljeaaGreatDoor.Brd
/- Readers that throw: lists, pieces. -/
set_option maxRecDepth 100000
set_option linter.unusedVariables false
set_option linter.unusedSimpArgs false
namespace Go.Proofs.YtbbdfhgcmkljeaaGreatDoor.Brd
open Go Go.Proofs.YtbbdfhgcmkljeaaGreatDoor.Eng Go.RowKit
open Txt
section
variable {α β γ : Type} {g g' : Glob} {w : World} {l l' : List As} {e : Int} {pq : List PanicEntry → World → Prop} {s : List UInt8} {k k' : Nat} {W : γ × RS}
theorem Rn.assoc {p : Rdr α} {q : α → Rdr β} {f : β → Rdr γ} (h : Rn pq g l W (bindR (bindR p q) f) s k) : Rn pq g l W (bindR p fun v => bindR (q v) f) s k := h
theorem Rn.list {p : Rdr α} {m : Nat} {f : List α → Rdr γ} (h : Rn pq g l W (bindR (listR m p) f) s k) : Rn pq g l W (bindR (countR m) fun n => bindR (repR p n) f) s k := h
theorem rep_at {p : Rdr α} {n i : Nat} (hi : i < n) : repR p (n - i) = bindR p fun v => bindR (repR p (n - (i + 1))) fun q => retR (v :: q) := by
  obtain ⟨m, hm⟩ : ∃ m, n - i = m + 1 := ⟨n - i - 1, by omega⟩
  rw [hm, show n - (i + 1) = m by omega]; rfl
/-- So many are read: xs; the others are to come; then F. -/
def Rp {α γ : Type} (pq : List PanicEntry → World → Prop) (g : Glob) (l : List As) (W : γ × RS) (p : Rdr α) (n i : Nat) (xs : List α) (F : List α → Rdr γ) (s : List UInt8) (k : Nat) : Prop := Rn pq g l W (bindR (repR p (n - i)) fun q => F (xs ++ q)) s k
theorem Rn.rep0 {p : Rdr α} {n : Nat} {f : List α → Rdr γ} (h : Rn pq g l W (bindR (repR p n) f) s k) : Rp pq g l W p n 0 [] f s k := h
theorem Rp.ext {p : Rdr α} {n i : Nat} {xs : List α} {f : List α → Rdr γ} (h : Rp pq g l W p n i xs f s k) (E : Ext g g') : Rp pq g' l W p n i xs f s k := Rn.ext h E
theorem Rp.fst {p : Rdr α} {n i : Nat} {xs : List α} {f : List α → Rdr γ} [Sc p] [∀ v, Sc (f v)] [Lt l l'] (h : Rp pq g l W p n i xs f s k) (hi : i < n) : Rq pq g l' p s k := by
  unfold Rp at h
  rw [rep_at hi] at h
  exact h.assoc.fst
/-- The next one, by its own parts. -/
theorem Rp.nx {p : Rdr α} {n i : Nat} {xs : List α} {f : List α → Rdr γ} (h : Rp pq g l W p n i xs f s k) (hi : i < n) : Rn pq g l W (bindR p fun v => bindR (repR p (n - (i + 1))) fun q => f ((xs ++ [v]) ++ q)) s k := by
  unfold Rp at h
  rw [rep_at hi] at h
  simp only [List.append_assoc, List.singleton_append]
  exact h.assoc
theorem Rp.snd {p : Rdr α} {n i : Nat} {xs : List α} {f : List α → Rdr γ} {v : α} (h : Rp pq g l W p n i xs f s k) (hi : i < n) (e : p s ⟨k, 0⟩ = (v, ⟨k', 0⟩)) : Rp pq g l W p n (i + 1) (xs ++ [v]) f s k' := (h.nx hi).snd e
theorem Rp.fin {p : Rdr α} {n i : Nat} {xs : List α} {f : List α → Rdr γ} (h : Rp pq g l W p n i xs f s k) (hi : n ≤ i) : Rn pq g l W (f xs) s k := by
  unfold Rp at h
  rw [show n - i = 0 by omega] at h
  have h2 : Rn pq g l W (f (xs ++ [])) s k := h
  rwa [List.append_nil] at h2
/-- A piece: its number, its bytes, and what is behind them. -/
theorem Rn.pieceN {p : Rdr α} {f : α → Rdr γ} [∀ v, Sc (f v)] [Lt l l'] (h : Rn pq g l W (bindR (pieceR p) f) s k) : Rq pq g l' plainR s k := h.assoc.fst
theorem sub_short {p : Rdr α} {n : Nat} (h : s.length - k < n) : (subR p n s ⟨k, 0⟩).2 = ⟨k, 3⟩ := by
  unfold subR
  rw [if_neg (by simp), if_pos (by simp only; omega)]
theorem Rn.pieceS {p : Rdr α} {f : α → Rdr γ} [∀ v, Sc (f v)] [Lt l l'] (h : Rn pq g l W (bindR (pieceR p) f) s k) (n k' : Nat) (e : plainR s ⟨k, 0⟩ = ((n : Int), ⟨k', 0⟩)) (hn : s.length - k' < n) : Esc pq g 3 l' := by
  have h1 : Rq pq g l' (subR p n) s k' := (h.assoc.snd e).fst
  unfold Rq at h1
  rw [sub_short hn] at h1
  exact h1 (show (3 : Int) ≠ 0 by decide)
theorem sub_is {p : Rdr α} {n : Nat} (h : k + n ≤ s.length) : subR p n s ⟨k, 0⟩ = ((p ((s.drop k).take n) ⟨0, 0⟩).1, ⟨k + n, if (p ((s.drop k).take n) ⟨0, 0⟩).2.bad ≠ 0 then (p ((s.drop k).take n) ⟨0, 0⟩).2.bad else if (p ((s.drop k).take n) ⟨0, 0⟩).2.at_ < n then 4 else 0⟩) := by
  unfold subR
  rw [if_neg (by simp), if_neg (by simp only; omega)]
  rfl
theorem Rn.pieceI {p : Rdr α} {f : α → Rdr γ} [∀ v, Sc (f v)] [Lt l l'] {n k' : Nat} (h : Rn pq g l W (bindR (pieceR p) f) s k) (e : plainR s ⟨k, 0⟩ = ((n : Int), ⟨k', 0⟩)) (hn : k' + n ≤ s.length) : Rq pq g l' p ((s.drop k').take n) 0 := fun hb => by
  have h1 : Rq pq g l' (subR p n) s k' := (h.assoc.snd e).fst
  unfold Rq at h1
  rw [sub_is hn] at h1
  simp only [if_pos hb] at h1
  exact h1 hb
/-- What a piece is read as, all of it. -/
theorem Rn.pieceD {p : Rdr α} {f : α → Rdr γ} [∀ v, Sc (f v)] [Lt l l'] {n k' j : Nat} {v : α} (h : Rn pq g l W (bindR (pieceR p) f) s k) (e : plainR s ⟨k, 0⟩ = ((n : Int), ⟨k', 0⟩)) (hn : k' + n ≤ s.length) (ev : p ((s.drop k').take n) ⟨0, 0⟩ = (v, ⟨j, 0⟩)) (hj : j < n) : Esc pq g 4 l' := by
  have h1 : Rq pq g l' (subR p n) s k' := (h.assoc.snd e).fst
  unfold Rq at h1
  rw [sub_is hn, ev] at h1
  simp only [ne_eq, not_true, if_false, if_pos hj] at h1
  exact h1 (show ¬ (4 : Int) = 0 by decide)
theorem Rn.pieceE {p : Rdr α} {f : α → Rdr γ} {n k' j : Nat} {v : α} (h : Rn pq g l W (bindR (pieceR p) f) s k) (e : plainR s ⟨k, 0⟩ = ((n : Int), ⟨k', 0⟩)) (hn : k' + n ≤ s.length) (ev : p ((s.drop k').take n) ⟨0, 0⟩ = (v, ⟨j, 0⟩)) (hj : ¬ j < n) : Rn pq g l W (f v) s (k' + n) := by
  refine (h.assoc.snd e).snd ?_
  rw [sub_is hn, ev]
  simp only [ne_eq, not_true, if_false, if_neg hj]
end
end Go.Proofs.YtbbdfhgcmkljeaaGreatDoor.Brd
/- Package bin: the reader that throws: signatures. -/
set_option maxRecDepth 100000
set_option maxHeartbeats 4000000
set_option linter.unusedVariables false
set_option linter.unusedSimpArgs false
namespace Go.Proofs.YtbbdfhgcmkljeaaGreatDoor.Brd
open Go Go.Proofs.YtbbdfhgcmkljeaaGreatDoor.Eng Go.RowKit
open Ins Nest Leb Txt
open Bin (kindE SigV SigD okSg enSg)
section
variable {g : Glob} {w : World} {l : List As} {r k : Nat} {s : List UInt8} {pq : List PanicEntry → World → Prop}
theorem sig (H : Sat g w (Pt r (rC s k) 108 :: l)) (hk : k ≤ s.length) (hs : s.length ≤ 4096) (hq : Rq pq g l sigR s k) : Fc ⟨Tryz.prog, pq⟩ 86 #[.pointer (some ⟨r, 0, none⟩)] w
    (fun v w' => ∃ (g' : Glob) (x : SigV) (k' : Nat), v = .agg #[x.vi, x.vo] ∧ sigR s ⟨k, 0⟩ = (x.d, ⟨k', 0⟩) ∧ k' ≤ s.length ∧ Ext g g' ∧ okSg g' x ∧ Sat g' w' (Pt r (rC s k') 108 :: l)) := by
  refine Fc.of Tryz.func86 rfl (by kernel_rfl) ?_
  have hR := Rn.start hq
  replace H := H.sl0 (en := enK) (s := 1) 64 (fun _ => rfl)
  replace H := H.sl0 (en := enK) (s := 1) 64 (fun _ => rfl)
  refine rAllocS H rfl ?_
  clear H
  intro p1 w1 H
  refine rAllocS H rfl ?_
  clear H
  intro p2 w2 H
  clear w1
  refine H.fronts [4] ?_
  clear H
  intro H
  refine CallP.mk (Fc.imp (Go.Proofs.YtbbdfhgcmkljeaaGreatDoor.Brd.fixed H ?_ ?_ _ _ ?_ ?_) ?_)
  · assumption
  · assumption
  · omega
  · exact hR.fst
  clear H
  rintro v' w1 ⟨k'1, ⟨h1, ⟨h2, H⟩⟩⟩
  replace hR := hR.snd (by assumption)
  refine CallP.mk (Fc.imp (Go.Proofs.YtbbdfhgcmkljeaaGreatDoor.Brd.count H ?_ ?_ _ (4) ?_ ?_) ?_)
  · assumption
  · assumption
  · omega
  · exact hR.list.fst
  clear H
  rintro _ w3 ⟨n1, ⟨k'2, ⟨rfl, ⟨h3, ⟨h4, ⟨h5, H⟩⟩⟩⟩⟩⟩
  replace hR := hR.list.snd (by assumption)
  refine LoopP.rule (α := Nat × Nat × Value × List Int) (0, k'2, .slice none 0 0, []) (fun x_ => [(8, .int .i64 x_.1)]) (fun x_ w_ => (x_.1 ≤ n1) ∧ (x_.2.1 ≤ s.length) ∧ (∀ x ∈ x_.2.2.2, U8 x) ∧ (x_.2.2.2.length = x_.1) ∧ (Rp pq g l (sigR s ⟨k, 0⟩) kindR n1 x_.1 x_.2.2.2 (fun a => bindR (listR 1 kindR) fun b => retR ⟨a, b⟩) s x_.2.1) ∧ Sat g w_ ((Pt p2 [x_.2.2.1, .slice none 0 0] 49 :: Pt r (rC s x_.2.1) 108 :: Sl 64 1 enK x_.2.2.1 x_.2.2.2 :: Sl 64 1 enK (.slice none 0 0) [] :: Pt p1 [.slice none 0 0, .slice none 0 0] 49 :: l))) (fun x_ => n1 - x_.1) ?_ ?_ ?_
  · repeat first | exact mt_nil | refine mt_cons rfl ?_ | refine mt_i rfl (by first | omega | (simp only; omega) | (simp; omega) | (simp; done)) ?_
  · try simp only
    refine ⟨?_, ?_⟩
    · omega
    refine ⟨?_, ?_⟩
    · assumption
    refine ⟨?_, ?_⟩
    · nofun
    refine ⟨?_, ?_⟩
    · rfl
    refine ⟨?_, ?_⟩
    · exact hR.rep0
    refine H.fronts [2, 4, 4, 3, 4] ?_
    clear H
    intro H
    exact H
  clear H
  rintro ⟨i, kk, vi, xs⟩ f_ w_ ⟨hi, hkk, hxs, hxl, hR, H⟩
  try simp only at hi hkk hxs hxl hR H ⊢
  rcases Nat.lt_or_ge i n1 with hlt | hge
  · refine cT (vLt_T (by omega)) ?_
    refine bk ?_
    refine drawzS H [1] [(0, .pure), (1, .held), (2, .pure), (3, .forced), (4, .forced), (5, .free), (6, .pure), (7, .free)] mixed (by kernel_rfl) (by kernel_rfl) ?_
    clear H
    intro w4 H
    clear w_
    refine tk (fun wx HS => rFieldAt rfl ⟨rfl, rfl⟩) ?_
    refine tk (fun wx HS => rLd (HS.at 0 rfl) 0 rfl rfl rfl ⟨rfl, rfl⟩) ?_
    refine H.fronts [1] ?_
    clear H
    intro H
    refine CallP.mk (Fc.imp (Go.Proofs.YtbbdfhgcmkljeaaGreatDoor.Brd.kind H ?_ ?_ ?_) ?_)
    · assumption
    · assumption
    · exact hR.fst hlt
    clear H
    rintro _ w5 ⟨c1, ⟨k'3, ⟨rfl, ⟨h6, ⟨h7, ⟨h8, H⟩⟩⟩⟩⟩⟩
    refine KeepP.mk (H.drop 0 (fun H => H)) ?_
    refine rBuildSliceS H rfl rfl rfl rfl ?_
    clear H
    intro p3 w6 H
    clear w5
    refine KeepP.mk (H.drop 1 (fun H => H.drop 0 (fun H => H))) ?_
    refine rApS (ys := [_]) 1 H 3 rfl (H.at 0 rfl) rfl (fun y _ => rfl) rfl rfl rfl (by omega) (by omega) ?_
    intro v1
    clear H
    intro w5 H
    clear w6
    refine tk (fun wx HS => rFieldAt rfl ⟨rfl, rfl⟩) ?_
    refine rStS H 2 rfl rfl rfl (H.one 3 rfl) ?_
    clear H
    intro w6 H
    clear w5
    refine eqI64 (by omega) ?_
    refine Nxt.mk ((i + 1, k'3, v1, xs ++ [c1])) (mt_i rfl (by first | omega | (simp only; omega) | (simp; omega)) (mt_nil)) ?_ ?_
    · refine ⟨?_, ?_⟩
      · assumption
      refine ⟨?_, ?_⟩
      · assumption
      refine ⟨?_, ?_⟩
      · exact all_snoc hxs ⟨by omega, by omega⟩
      refine ⟨?_, ?_⟩
      · (simp only [List.length_append, List.length_set, List.length_cons, List.length_nil]; omega)
      refine ⟨?_, ?_⟩
      · exact hR.snd hlt (by assumption)
      refine H.fronts [5, 5, 5, 4, 5] ?_
      clear H
      intro H
      refine H.drop 5 ?_
      clear H
      intro H
      exact H
    omega
  replace hR := hR.fin hge
  refine cF (vLt_F (by omega)) ?_
  refine H.fronts [1] ?_
  clear H
  intro H
  refine CallP.mk (Fc.imp (Go.Proofs.YtbbdfhgcmkljeaaGreatDoor.Brd.count H ?_ ?_ _ (1) ?_ ?_) ?_)
  · assumption
  · assumption
  · omega
  · exact hR.list.fst
  clear H
  rintro _ w4 ⟨n2, ⟨k'3, ⟨rfl, ⟨h6, ⟨h7, ⟨h8, H⟩⟩⟩⟩⟩⟩
  replace hR := hR.list.snd (by assumption)
  refine LoopP.rule (α := Nat × Nat × Value × List Int) (0, k'3, .slice none 0 0, []) (fun x_ => [(20, .int .i64 x_.1)]) (fun x_ w_ => (x_.1 ≤ n2) ∧ (x_.2.1 ≤ s.length) ∧ (∀ x ∈ x_.2.2.2, U8 x) ∧ (x_.2.2.2.length = x_.1) ∧ (Rp pq g l (sigR s ⟨k, 0⟩) kindR n2 x_.1 x_.2.2.2 (fun b => retR ⟨xs, b⟩) s x_.2.1) ∧ Sat g w_ ((Pt p2 [vi, x_.2.2.1] 49 :: Pt r (rC s x_.2.1) 108 :: Sl 64 1 enK vi xs :: Sl 64 1 enK x_.2.2.1 x_.2.2.2 :: Pt p1 [.slice none 0 0, .slice none 0 0] 49 :: l))) (fun x_ => n2 - x_.1) ?_ ?_ ?_
  · repeat first | exact mt_nil | refine mt_cons rfl ?_ | refine mt_i rfl (by first | omega | (simp only; omega) | (simp; omega) | (simp; done)) ?_
  · try simp only
    refine ⟨?_, ?_⟩
    · omega
    refine ⟨?_, ?_⟩
    · assumption
    refine ⟨?_, ?_⟩
    · nofun
    refine ⟨?_, ?_⟩
    · rfl
    refine ⟨?_, ?_⟩
    · exact hR.rep0
    refine H.fronts [4, 4, 4, 3, 4] ?_
    clear H
    intro H
    exact H
  clear H
  rintro ⟨i, kk, vo, ys⟩ f_ w_ ⟨hi, hkk, hys, hyl, hR, H⟩
  try simp only at hi hkk hys hyl hR H ⊢
  rcases Nat.lt_or_ge i n2 with hlt | hge
  · refine cT (vLt_T (by omega)) ?_
    refine bk ?_
    refine drawzS H [1] [(0, .pure), (1, .held), (2, .pure), (3, .forced), (4, .forced), (5, .free), (6, .pure), (7, .free)] mixed (by kernel_rfl) (by kernel_rfl) ?_
    clear H
    intro w5 H
    clear w_
    refine tk (fun wx HS => rFieldAt rfl ⟨rfl, rfl⟩) ?_
    refine tk (fun wx HS => rLd (HS.at 0 rfl) 1 rfl rfl rfl ⟨rfl, rfl⟩) ?_
    refine H.fronts [1] ?_
    clear H
    intro H
    refine CallP.mk (Fc.imp (Go.Proofs.YtbbdfhgcmkljeaaGreatDoor.Brd.kind H ?_ ?_ ?_) ?_)
    · assumption
    · assumption
    · exact hR.fst hlt
    clear H
    rintro _ w6 ⟨c1, ⟨k'4, ⟨rfl, ⟨h9, ⟨h10, ⟨h11, H⟩⟩⟩⟩⟩⟩
    refine KeepP.mk (H.drop 0 (fun H => H)) ?_
    refine rBuildSliceS H rfl rfl rfl rfl ?_
    clear H
    intro p3 w7 H
    clear w6
    refine KeepP.mk (H.drop 1 (fun H => H.drop 0 (fun H => H))) ?_
    refine rApS (ys := [_]) 1 H 4 rfl (H.at 0 rfl) rfl (fun y _ => rfl) rfl rfl rfl (by omega) (by omega) ?_
    intro v1
    clear H
    intro w6 H
    clear w7
    refine tk (fun wx HS => rFieldAt rfl ⟨rfl, rfl⟩) ?_
    refine rStS H 2 rfl rfl rfl (H.one 4 rfl) ?_
    clear H
    intro w7 H
    clear w6
    refine eqI64 (by omega) ?_
    refine Nxt.mk ((i + 1, k'4, v1, ys ++ [c1])) (mt_i rfl (by first | omega | (simp only; omega) | (simp; omega)) (mt_nil)) ?_ ?_
    · refine ⟨?_, ?_⟩
      · assumption
      refine ⟨?_, ?_⟩
      · assumption
      refine ⟨?_, ?_⟩
      · exact all_snoc hys ⟨by omega, by omega⟩
      refine ⟨?_, ?_⟩
      · (simp only [List.length_append, List.length_set, List.length_cons, List.length_nil]; omega)
      refine ⟨?_, ?_⟩
      · exact hR.snd hlt (by assumption)
      refine H.fronts [5, 5, 5, 4, 5] ?_
      clear H
      intro H
      refine H.drop 5 ?_
      clear H
      intro H
      exact H
    omega
  replace hR := hR.fin hge
  refine cF (vLt_F (by omega)) ?_
  refine rLdA (H.at 0 rfl) 0 rfl rfl rfl ?_
  refine rStAS H 4 rfl rfl rfl (by simp only [List.all_cons, List.all_nil, H.one 2 rfl, H.one 3 rfl]; rfl) ?_
  clear H
  intro w5 H
  clear w_
  refine rdAN (H.at 4 rfl) 0 rfl rfl rfl ?_
  refine H.frz1 2 U8 rfl hxs ?_
  intro g1 E1 h1 H
  refine H.frz1 2 U8 rfl hys ?_
  intro g2 E2 h2 H
  exact Done.mk ⟨g2, ⟨vi, xs, vo, ys⟩, kk, rfl, hR.e, hkk, E1.trans E2, ⟨FSl.ext h1 E2, h2⟩, sat_sub H Lt.h⟩
end
end Go.Proofs.YtbbdfhgcmkljeaaGreatDoor.Brd
/- A module that is being read: its pieces. -/
set_option maxRecDepth 100000
set_option linter.unusedVariables false
set_option linter.unusedSimpArgs false
namespace Go.Proofs.YtbbdfhgcmkljeaaGreatDoor.Brd
open Go Go.Proofs.YtbbdfhgcmkljeaaGreatDoor.Eng Go.RowKit
open Txt Ins Nest Leb
open Bin (SigV FunV ElV ModV SigD FunD ModD okSg okIm okFn okGl okEl okDt enSg enIm enFn enGl enEl enDt enMd)
structure okE (g : Glob) (m : ModV) (N : Nat) : Prop where
  types : ∀ x ∈ m.types, okSg g x
  imps : ∀ x ∈ m.imps, okIm x
  funcs : ∀ x ∈ m.funcs, okFn g x
  globals : ∀ x ∈ m.globals, okGl x
  exps : ∀ x ∈ m.exps, okIm x
  elems : ∀ x ∈ m.elems, okEl g x
  data : ∀ x ∈ m.data, okDt x
  table : I64 m.table
  pages : I64 m.pages
  most : I64 m.most
  start : I64 m.start
  lt : m.types.length ≤ N
  li : m.imps.length ≤ N
  lf : m.funcs.length ≤ N
  lg : m.globals.length ≤ N
  lx : m.exps.length ≤ N
  le : m.elems.length ≤ N
  ld : m.data.length ≤ N
theorem okSg_x {g g' : Glob} {x : SigV} (h : okSg g x) (E : Ext g g') : okSg g' x := ⟨FSl.ext h.inn E, FSl.ext h.out E⟩
theorem okFn_x {g g' : Glob} {x : FunV} (h : okFn g x) (E : Ext g g') : okFn g' x := ⟨h.ty, FSl.ext h.loc E, FSl.extN (ok := okV) (fun _ _ _ h E => okV.ext h E) h.body E⟩
theorem okEl_x {g g' : Glob} {x : ElV} (h : okEl g x) (E : Ext g g') : okEl g' x := ⟨h.pl, FSl.ext h.fs E⟩
theorem okE.ext {g g' : Glob} {m : ModV} {N : Nat} (h : okE g m N) (E : Ext g g') : okE g' m N :=
  { h with types := fun x hx => okSg_x (h.types x hx) E, funcs := fun x hx => okFn_x (h.funcs x hx) E, elems := fun x hx => okEl_x (h.elems x hx) E }
theorem okE.more {g : Glob} {m : ModV} {N N' : Nat} (h : okE g m N) (hN : N ≤ N') : okE g m N' :=
  { h with lt := by have := h.lt; omega, li := by have := h.li; omega, lf := by have := h.lf; omega, lg := by have := h.lg; omega, lx := by have := h.lx; omega, le := by have := h.le; omega, ld := by have := h.ld; omega }
/-- What a section leaves. -/
def SecQ (g : Glob) (l : List As) (r pm : Nat) (s : List UInt8) (k : Nat) (i : Int) (m : ModV) (N : Nat) (v : Value) (w' : World) : Prop :=
  ∃ (g' : Glob) (m' : ModV) (c k' : Nat), v = .int .i64 c ∧ secR i m.d s ⟨k, 0⟩ = ((m'.d, c), ⟨k', 0⟩) ∧ Ext g g' ∧ okE g' m' (N + 16) ∧ k' ≤ s.length ∧
    Sat g' w' (Pt r [.string (bs s), .int .i64 k'] 108 :: Pt pm (enMd m') 30 :: Sl 49 2 enSg m'.vt m'.types :: Sl 54 2 enIm m'.vm m'.imps :: Sl 61 3 enFn m'.vf m'.funcs :: Sl 66 3 enGl m'.vg m'.globals :: Sl 70 2 enIm m'.vx m'.exps :: Sl 75 2 enEl m'.ve m'.elems :: Sl 80 2 enDt m'.vd m'.data :: l)
section
variable {α β γ : Type} {g g' : Glob} {w : World} {l l' : List As} {e : Int} {pq : List PanicEntry → World → Prop} {s : List UInt8} {k k' : Nat} {W : γ × RS}
theorem Rp.dm0 {p : Rdr α} {n : Nat} {f : List α → Rdr γ} (d : β → α) (ts : List β) (h : Rn pq g l W (bindR (repR p n) f) s k) : Rp pq g l W p n 0 ((ts.drop ts.length).map d) f s k := by
  rw [List.drop_length]; exact h.rep0
theorem Rp.dm {p : Rdr α} {n i : Nat} {f : List α → Rdr γ} {d : β → α} {ts : List β} {n0 : Nat} {x : β} (h : Rp pq g l W p n i ((ts.drop n0).map d) f s k) (hle : n0 ≤ ts.length) (hi : i < n) (e : p s ⟨k, 0⟩ = (d x, ⟨k', 0⟩)) : Rp pq g l W p n (i + 1) (((ts ++ [x]).drop n0).map d) f s k' := by
  rw [List.drop_append_of_le_length hle, List.map_append]
  exact h.snd hi e
theorem Rp.dn0 {p : Rdr α} {n : Nat} {f : List α → Rdr γ} (ts : List α) (h : Rn pq g l W (bindR (repR p n) f) s k) : Rp pq g l W p n 0 (ts.drop ts.length) f s k := by
  rw [List.drop_length]; exact h.rep0
theorem Rp.dn {p : Rdr α} {n i : Nat} {f : List α → Rdr γ} {ts : List α} {n0 : Nat} {x : α} (h : Rp pq g l W p n i (ts.drop n0) f s k) (hle : n0 ≤ ts.length) (hi : i < n) (e : p s ⟨k, 0⟩ = (x, ⟨k', 0⟩)) : Rp pq g l W p n (i + 1) ((ts ++ [x]).drop n0) f s k' := by
  rw [List.drop_append_of_le_length hle]
  exact h.snd hi e
theorem take_app {ts us : List β} {x : β} {n0 : Nat} (h : ts.take n0 = us) (hle : n0 ≤ ts.length) : (ts ++ [x]).take n0 = us := by
  rw [List.take_append_of_le_length hle]; exact h
theorem snoc_all {p : β → Prop} {ts : List β} {x : β} (h : ∀ y ∈ ts, p y) (hx : p x) : ∀ y ∈ ts ++ [x], p y := fun y hy => by
  rcases List.mem_append.1 hy with h1 | h1
  · exact h y h1
  · rw [List.mem_singleton.1 h1]; exact hx
theorem both_map {ts us : List β} {d : β → α} (h : ts.take us.length = us) : us.map d ++ (ts.drop us.length).map d = ts.map d := by
  rw [← List.map_append]
  congr 1
  conv => lhs; lhs; rw [← h]
  exact List.take_append_drop ..
theorem both_is {ts us : List β} (h : ts.take us.length = us) : us ++ ts.drop us.length = ts := by
  conv => lhs; lhs; rw [← h]
  exact List.take_append_drop ..
end
end Go.Proofs.YtbbdfhgcmkljeaaGreatDoor.Brd
/- Package bin: the section of types. -/
set_option maxRecDepth 100000
set_option maxHeartbeats 4000000
set_option linter.unusedVariables false
set_option linter.unusedSimpArgs false
namespace Go.Proofs.YtbbdfhgcmkljeaaGreatDoor.Brd
open Go Go.Proofs.YtbbdfhgcmkljeaaGreatDoor.Eng Go.RowKit
open Ins Nest Leb Txt
open Bin (kindE SigV SigD FunV FunD ElV ModV ModD okSg okIm okFn okGl okEl okDt enSg enIm enFn enGl enEl enDt enMd)
section
variable {g : Glob} {w : World} {l : List As} {r pm k N : Nat} {s : List UInt8} {pq : List PanicEntry → World → Prop} {m : ModV}
theorem sec1_ (H : Sat g w (Pt r (rC s k) 108 :: Pt pm (enMd m) 30 :: Sl 49 2 enSg m.vt m.types :: Sl 54 2 enIm m.vm m.imps :: Sl 61 3 enFn m.vf m.funcs :: Sl 66 3 enGl m.vg m.globals :: Sl 70 2 enIm m.vx m.exps :: Sl 75 2 enEl m.ve m.elems :: Sl 80 2 enDt m.vd m.data :: l)) (hk : k ≤ s.length) (hs : s.length ≤ 4096) (hm : okE g m N) (hN : N ≤ 1000) (hq : Rq pq g (Pm pm :: l) (secR 1 m.d) s k) : Fc ⟨Tryz.prog, pq⟩ 56 #[.pointer (some ⟨r, 0, none⟩), .int .u8 1, .pointer (some ⟨pm, 0, none⟩)] w (SecQ g l r pm s k 1 m N) := by
  refine Fc.of Tryz.func56 rfl (by kernel_rfl) ?_
  have hR := Rn.start hq
  rw [sec1] at hR
  have l1 := hm.lt
  refine bk ?_
  refine cT (vEq_T (by omega)) ?_
  refine CallP.mk (Fc.imp (Go.Proofs.YtbbdfhgcmkljeaaGreatDoor.Brd.count H ?_ ?_ _ (16) ?_ ?_) ?_)
  · assumption
  · assumption
  · omega
  · exact hR.list.fst
  clear H
  rintro _ w1 ⟨n1, ⟨k'1, ⟨rfl, ⟨h1, ⟨h2, ⟨h3, H⟩⟩⟩⟩⟩⟩
  replace hR := hR.list.snd (by assumption)
  refine LoopP.rule (α := Glob × Nat × Nat × Value × List SigV) (g, 0, k'1, m.vt, m.types) (fun x_ => [(17, .int .i64 x_.2.1)]) (fun x_ w_ => (Ext g x_.1) ∧ (x_.2.1 ≤ n1) ∧ (x_.2.2.1 ≤ s.length) ∧ (∀ x ∈ x_.2.2.2.2, okSg x_.1 x) ∧ (x_.2.2.2.2.take m.types.length = m.types) ∧ (x_.2.2.2.2.length = m.types.length + x_.2.1) ∧ (Rp pq x_.1 (Pm pm :: l) (secR 1 m.d s ⟨k, 0⟩) sigR n1 x_.2.1 ((x_.2.2.2.2.drop m.types.length).map SigV.d) (fun q => retR ({ m.d with types := m.d.types ++ q }, 0)) s x_.2.2.1) ∧ Sat x_.1 w_ ((Pt r (rC s x_.2.2.1) 108 :: Pt pm [x_.2.2.2.1, m.vm, m.vf, .int .i64 m.table, .int .i64 m.pages, .int .i64 m.most, m.vg, m.vx, .int .i64 m.start, m.ve, m.vd] 30 :: Sl 49 2 enSg x_.2.2.2.1 x_.2.2.2.2 :: Sl 54 2 enIm m.vm m.imps :: Sl 61 3 enFn m.vf m.funcs :: Sl 66 3 enGl m.vg m.globals :: Sl 70 2 enIm m.vx m.exps :: Sl 75 2 enEl m.ve m.elems :: Sl 80 2 enDt m.vd m.data :: l))) (fun x_ => n1 - x_.2.1) ?_ ?_ ?_
  · repeat first | exact mt_nil | refine mt_cons rfl ?_ | refine mt_i rfl (by first | omega | (simp only; omega) | (simp; omega) | (simp; done)) ?_
  · try simp only
    refine ⟨?_, ?_⟩
    · exact Ext.refl _
    refine ⟨?_, ?_⟩
    · omega
    refine ⟨?_, ?_⟩
    · assumption
    refine ⟨?_, ?_⟩
    · exact hm.types
    refine ⟨?_, ?_⟩
    · exact List.take_length
    refine ⟨?_, ?_⟩
    · omega
    refine ⟨?_, ?_⟩
    · exact Rp.dm0 _ _ hR
    exact H
  clear H
  rintro ⟨gg, i, kk, vt, ts⟩ f_ w_ ⟨hE, hi, hkk, hts, htk, hl, hR, H⟩
  try simp only at hE hi hkk hts htk hl hR H ⊢
  rcases Nat.lt_or_ge i n1 with hlt | hge
  · have hEE : Ext g gg ∧ True := ⟨hE, trivial⟩
    clear hE
    have E99 := Ext.refl gg
    refine cT (vLt_T (by (simp; omega))) ?_
    refine bk ?_
    refine drawzS H [0] [(0, .pure), (1, .pure), (2, .pure), (3, .pure), (4, .held), (5, .pure), (6, .forced), (7, .forced), (8, .free), (9, .pure), (10, .pure), (11, .free)] mixed (by kernel_rfl) (by kernel_rfl) ?_
    clear H
    intro w2 H
    clear w_
    refine tk (fun wx HS => rFieldAt rfl ⟨rfl, rfl⟩) ?_
    refine tk (fun wx HS => rLd (HS.at 0 rfl) 0 rfl rfl rfl ⟨rfl, rfl⟩) ?_
    refine CallP.mk (Fc.imp (Go.Proofs.YtbbdfhgcmkljeaaGreatDoor.Brd.sig H ?_ ?_ ?_) ?_)
    · assumption
    · assumption
    · exact hR.fst hlt
    clear H
    rintro _ w3 ⟨g'1, ⟨x1, ⟨k'2, ⟨rfl, ⟨h4, ⟨h5, ⟨HE, ⟨h6, H⟩⟩⟩⟩⟩⟩⟩⟩
    replace E99 := E99.trans HE
    replace hR := hR.ext HE
    clear HE
    have ho1 := (‹okSg _ _›).inn
    have ho2 := (‹okSg _ _›).out
    refine KeepP.mk (Sat.forget (H.drop 0 (fun H => H)) E99) ?_
    refine rBuildSliceS H rfl rfl rfl rfl ?_
    clear H
    intro p1 w4 H
    clear w3
    refine KeepP.mk (Sat.forget (H.drop 1 (fun H => H.drop 0 (fun H => H))) E99) ?_
    refine rApS (ys := [⟨_, _, _, _⟩]) 48 H 3 rfl (H.at 0 rfl) rfl (fun y hy => by rw [List.mem_singleton.1 hy]; simp only [Go.Proofs.YtbbdfhgcmkljeaaGreatDoor.Bin.enSg, List.all_cons, List.all_nil, H.one 3 rfl, H.one 4 rfl, H.one 5 rfl, H.one 6 rfl, H.one 7 rfl, H.one 8 rfl, H.one 9 rfl, FSl.one ho2, FSl.one ho1]; rfl) rfl rfl rfl (by omega) (by omega) ?_
    intro v1
    clear H
    intro w3 H
    clear w4
    refine tk (fun wx HS => rFieldAt rfl ⟨rfl, rfl⟩) ?_
    refine rStS H 2 rfl rfl rfl (H.one 3 rfl) ?_
    clear H
    intro w4 H
    clear w3
    refine eqI64 (by omega) ?_
    refine Nxt.mk ((g'1, i + 1, k'2, v1, ts ++ [{ vi := x1.vi, inn := x1.inn, vo := x1.vo, out := x1.out }])) (mt_i rfl (by first | omega | (simp only; omega) | (simp; omega)) (mt_nil)) ?_ ?_
    · refine ⟨?_, ?_⟩
      · exact hEE.1.trans E99
      refine ⟨?_, ?_⟩
      · (simp; omega)
      refine ⟨?_, ?_⟩
      · (simp; omega)
      refine ⟨?_, ?_⟩
      · exact snoc_all (fun x hx => okSg_x (hts x hx) E99) (by assumption)
      refine ⟨?_, ?_⟩
      · exact take_app htk (by omega)
      refine ⟨?_, ?_⟩
      · (simp; omega)
      refine ⟨?_, ?_⟩
      · exact hR.dm (by omega) hlt (by assumption)
      refine H.fronts [9, 9, 9, 9, 9, 9, 9, 9, 9] ?_
      clear H
      intro H
      refine H.drop 9 ?_
      clear H
      intro H
      exact H
    (simp; omega)
  replace hR := hR.fin hge
  refine cF (vLt_F (by omega)) ?_
  exact Done.mk ⟨gg, { m with vt := vt, types := ts }, 0, kk, rfl, hR.e.trans (by show ((({ m.d with types := m.types.map SigV.d ++ (ts.drop m.types.length).map SigV.d } : ModD), 0), _) = _; rw [both_map htk]; rfl), hE, { (hm.ext hE).more (Nat.le_add_right N 16) with types := hts, lt := by simp only; omega }, hkk, H⟩
end
end Go.Proofs.YtbbdfhgcmkljeaaGreatDoor.Brd
/- Package bin: the reader that throws: globals, names. -/
set_option maxRecDepth 100000
set_option maxHeartbeats 4000000
set_option linter.unusedVariables false
set_option linter.unusedSimpArgs false
namespace Go.Proofs.YtbbdfhgcmkljeaaGreatDoor.Brd
open Go Go.Proofs.YtbbdfhgcmkljeaaGreatDoor.Eng Go.RowKit
open Ins Nest Leb Txt
open Bin (kindE)
section
variable {q t : List UInt8} {n m : Nat} {e : Nat}
theorem nm_e (h : rdU 32 q 0 0 = (n, m, e)) (he : (e : Int) ≠ 0) : rdName q = ([], 0, (e : Int)) := by
  unfold rdName; rw [h]; simp only; rw [if_pos (by omega)]
theorem nm_l (h : rdU 32 q 0 0 = (n, m, e)) (he : (e : Int) = 0) (hn : 16 < n) : rdName q = ([], 0, 2) := by
  unfold rdName; rw [h]; simp only; rw [if_neg (by omega), if_pos hn]
theorem nm_s (h : rdU 32 q 0 0 = (n, m, e)) (he : (e : Int) = 0) (hn : n ≤ 16) (hs : q.length - m < n) : rdName q = ([], 0, 3) := by
  unfold rdName; rw [h]; simp only; rw [if_neg (by omega), if_neg (by omega), if_pos hs]
theorem nm_f {b : Bool} (h : rdU 32 q 0 0 = (n, m, e)) (he : (e : Int) = 0) (hn : n ≤ 16) (hs : ¬ q.length - m < n) (hv : b = Lib.validD ((q.drop m).take n)) (hb : b = false) : rdName q = ([], 0, 4) := by
  subst hb
  unfold rdName; rw [h]; simp only; rw [if_neg (by omega), if_neg (by omega), if_neg hs, if_neg (by rw [← hv]; decide)]
theorem nm_y {b : Bool} (h : rdU 32 q 0 0 = (n, m, e)) (he : (e : Int) = 0) (hn : n ≤ 16) (hs : ¬ q.length - m < n) (hv : b = Lib.validD ((q.drop m).take n)) (hb : b = true) : rdName q = ((q.drop m).take n, m + n, 0) := by
  subst hb
  unfold rdName; rw [h]; simp only; rw [if_neg (by omega), if_neg (by omega), if_neg hs, if_pos hv.symm]
end
section
variable {g : Glob} {w : World} {l : List As} {r k : Nat} {s : List UInt8} {pq : List PanicEntry → World → Prop}
theorem readNm (H : Sat g w l) (hT : U8F g) (q : List UInt8) (hm : q.length ≤ 9223372036854775807) : Fc Tryz.prog 100 #[.string (bs q)] w (fun v w' => ∃ (t : List UInt8) (n : Nat) (e : Int), v = .tuple #[.string (bs t), .int .i64 n, .int .i64 e] ∧ rdName q = (t, n, e) ∧ n ≤ q.length ∧ t.length ≤ 16 ∧ Sat g w' l) := by
  refine Fc.of Tryz.func100 rfl (by kernel_rfl) ?_
  refine CallP.mk (Fc.imp (Go.Proofs.YtbbdfhgcmkljeaaGreatDoor.Leb.readU _ _ (32) ?_ _ ?_ ?_) ?_)
  · omega
  · omega
  · assumption
  rintro _ w1 ⟨n1, ⟨k1, ⟨e1, ⟨rfl, ⟨h1, H'⟩⟩⟩⟩⟩
  refine H.mergeK H' ?_
  clear H H'
  intro H
  obtain ⟨hf1, hf2, hf3⟩ := rdU_facts (.inl rfl) (by assumption)
  refine cI (fun c1 => ?_) (fun c1 => ?_)
  · replace c1 := vNe_t (c1)
    refine Done.mk ?_
    refine ⟨[], 0, (↑e1 : Int), ?_⟩
    refine ⟨?_, ?_⟩
    · rfl
    refine ⟨?_, ?_⟩
    · exact nm_e (by assumption) (by assumption)
    refine ⟨?_, ?_⟩
    · omega
    refine ⟨?_, ?_⟩
    · (simp only [List.length_append, List.length_set, List.length_cons, List.length_nil]; omega)
    exact H
  replace c1 := vNe_f (c1)
  refine rSubL rfl (k1) (by omega) (by omega) ?_
  refine bk ?_
  refine cI (fun c2 => ?_) (fun c2 => ?_)
  · replace c2 := vLt_t (c2)
    refine Done.mk ?_
    refine ⟨[], 0, 2, ?_⟩
    refine ⟨?_, ?_⟩
    · rfl
    refine ⟨?_, ?_⟩
    · exact nm_l (by assumption) (by assumption) (by omega)
    refine ⟨?_, ?_⟩
    · omega
    refine ⟨?_, ?_⟩
    · (simp only [List.length_append, List.length_set, List.length_cons, List.length_nil]; omega)
    exact H
  replace c2 := vLt_f (c2)
  refine rLenStr rfl ?_
  refine rConvU64M rfl rfl ?_
  refine cI (fun c3 => ?_) (fun c3 => ?_)
  · replace c3 := vLt_t (c3)
    refine Done.mk ?_
    refine ⟨[], 0, 3, ?_⟩
    refine ⟨?_, ?_⟩
    · rfl
    refine ⟨?_, ?_⟩
    · exact nm_s (by assumption) (by assumption) (by omega) (by rw [List.length_drop] at *; omega)
    refine ⟨?_, ?_⟩
    · omega
    refine ⟨?_, ?_⟩
    · (simp only [List.length_append, List.length_set, List.length_cons, List.length_nil]; omega)
    exact H
  replace c3 := vLt_f (c3)
  refine rSubH rfl (n1) (by omega) (by omega) ?_
  refine CallP.mk (Fc.imp (Go.Proofs.YtbbdfhgcmkljeaaGreatDoor.Leb.validString H ?_ _ ?_) ?_)
  · assumption
  · (simp; omega)
  clear H
  rintro _ w2 ⟨b1, ⟨rfl, ⟨h2, H⟩⟩⟩
  refine cI (fun c4 => ?_) (fun c4 => ?_)
  · replace c4 := not_t (c4)
    refine Done.mk ?_
    refine ⟨[], 0, 4, ?_⟩
    refine ⟨?_, ?_⟩
    · rfl
    refine ⟨?_, ?_⟩
    · exact nm_f (by assumption) (by assumption) (by omega) (by rw [List.length_drop] at *; omega) (by assumption) (by assumption)
    refine ⟨?_, ?_⟩
    · omega
    refine ⟨?_, ?_⟩
    · (simp only [List.length_append, List.length_set, List.length_cons, List.length_nil]; omega)
    exact H
  replace c4 := not_f (c4)
  refine rSubH rfl (n1) (by omega) (by omega) ?_
  refine rConvI64 (by omega) rfl rfl ?_
  refine EqP.keep ?_
  refine Done.mk ?_
  (have hw : vWrap IntKind.i64 ((k1 : Int) + (n1 : Int)) = (k1 : Int) + n1 := wi64 (by rw [List.length_drop] at *; omega); rw [hw]; exact ⟨_, k1 + n1, 0, rfl, nm_y h1 c1 (by omega) (by rw [List.length_drop] at *; omega) h2 c4, by rw [List.length_drop] at *; omega, by rw [List.length_take]; omega, H⟩)
theorem name_no {t : List UInt8} {n : Nat} {e : Int} (h : rdName (s.drop k) = (t, n, e)) (hq : Rq pq g l nameR s k) (hb : vNe e 0 = true) : Esc pq g e l := by
  have e1 : nameR s ⟨k, 0⟩ = (t, ⟨k + n, e⟩) := by unfold nameR; rw [if_neg (by simp)]; simp only [h]
  unfold Rq at hq
  rw [e1] at hq
  exact hq (vNe_t hb)
theorem name_ok {t : List UInt8} {n : Nat} {e : Int} (h : rdName (s.drop k) = (t, n, e)) (hb : vNe e 0 = false) : nameR s ⟨k, 0⟩ = (t, ⟨k + n, 0⟩) := by
  unfold nameR; rw [if_neg (by simp)]; simp only [h, vNe_f hb]
theorem name (H : Sat g w (Pt r (rC s k) 108 :: l)) (hT : U8F g) (hk : k ≤ s.length) (hs : s.length ≤ 4096) (hq : Rq pq g l nameR s k) : Fc ⟨Tryz.prog, pq⟩ 87 #[.pointer (some ⟨r, 0, none⟩)] w
    (fun v w' => ∃ (t : List UInt8) (k' : Nat), v = .string (bs t) ∧ nameR s ⟨k, 0⟩ = (t, ⟨k', 0⟩) ∧ t.length ≤ 16 ∧ k' ≤ s.length ∧ Sat g w' (Pt r (rC s k') 108 :: l)) := by
  refine Fc.of Tryz.func87 rfl (by kernel_rfl) ?_
  refine drawzS H [] [(0, .pure), (1, .pure), (2, .pure), (3, .held), (4, .pure), (5, .pure), (6, .pure), (7, .held), (8, .pure), (9, .free), (10, .pure), (11, .pure), (12, .pure), (13, .pure), (14, .pure), (15, .pure), (16, .pure)] mixed (by kernel_rfl) (by kernel_rfl) ?_
  clear H
  intro w1 H
  refine tk (fun wx HS => rFieldAt rfl ⟨rfl, rfl⟩) ?_
  refine tk (fun wx HS => rLd (HS.at 0 rfl) 0 rfl rfl rfl ⟨rfl, rfl⟩) ?_
  refine tk (fun wx HS => rFieldAt rfl ⟨rfl, rfl⟩) ?_
  refine tk (fun wx HS => rLd (HS.at 0 rfl) 1 rfl rfl rfl ⟨rfl, rfl⟩) ?_
  refine tk (fun wx HS => rSubL rfl (k) (by omega) (by omega) ⟨rfl, rfl⟩) ?_
  refine CallP.mk (Fc.imp (Fc.lift (Go.Proofs.YtbbdfhgcmkljeaaGreatDoor.Brd.readNm H ?_ _ ?_)) ?_)
  · assumption
  · (simp; omega)
  clear H
  rintro _ w2 ⟨t1, ⟨n1, ⟨e1, ⟨rfl, ⟨h1, ⟨h2, ⟨h3, H⟩⟩⟩⟩⟩⟩⟩
  rw [List.length_drop] at *
  refine CallP.mk (Fc.imp (Go.Proofs.YtbbdfhgcmkljeaaGreatDoor.Brd.throw H _ _ ?_) ?_)
  · exact fun h => (name_no (by assumption) hq h).up
  clear H
  rintro v' w3 ⟨h4, H⟩
  refine rFieldAt rfl ?_
  refine rLd (H.at 0 rfl) 1 rfl rfl rfl ?_
  refine eqI64 (by omega) ?_
  refine rFieldAt rfl ?_
  refine rStS H 0 rfl rfl rfl rfl ?_
  clear H
  intro w4 H
  clear w3
  refine Done.mk ?_
  refine ⟨t1, k + n1, ?_⟩
  refine ⟨?_, ?_⟩
  · rfl
  refine ⟨?_, ?_⟩
  · exact name_ok (by assumption) (by assumption)
  refine ⟨?_, ?_⟩
  · assumption
  refine ⟨?_, ?_⟩
  · omega
  exact H
theorem ga1 {u : Int} (h : vLt 1 u = false) : ¬ 1 < u := by have := vLt_f h; omega
theorem ga2 {o : Int} (h : vNe o 66 = false) : ¬ (o ≠ 65 ∧ o ≠ 66) := fun k => k.2 (vNe_f h)
theorem ga3 {o : Int} (h : o = 65) : ¬ (o ≠ 65 ∧ o ≠ 66) := fun k => k.1 h
theorem ga4 {o k : Int} (h : (vEq o 65 != vEq k 127) = false) : ¬ ((o = 65) ≠ (k = 127)) := by
  have h1 : vEq o 65 = vEq k 127 := by simpa using h
  rw [vEq_iff, vEq_iff] at h1
  exact not_not_intro (propext (decide_eq_decide.1 h1))
theorem ga5 {o k : Int} (h : (vEq o 65 != vEq k 127) = true) : (o = 65) ≠ (k = 127) := fun e => by
  have h2 : vEq o 65 = vEq k 127 := by rw [vEq_iff, vEq_iff]; exact decide_eq_decide.2 (by rw [e])
  rw [h2] at h; simp at h
theorem bits1 {k : Int} (h : k = 127) : bitsOf k = 32 := if_pos h
theorem bits2 {k : Int} (h : k ≠ 127) : bitsOf k = 64 := if_neg h
theorem global (H : Sat g w (Pt r (rC s k) 108 :: l)) (hk : k ≤ s.length) (hs : s.length ≤ 4096) (hq : Rq pq g l gloR s k) : Fc ⟨Tryz.prog, pq⟩ 88 #[.pointer (some ⟨r, 0, none⟩)] w
    (fun v w' => ∃ (c : Int) (b : Bool) (z : Int) (k' : Nat), v = .agg #[.int .u8 c, .bool b, .int .i64 z] ∧ gloR s ⟨k, 0⟩ = ((c, b, z), ⟨k', 0⟩) ∧ U8 c ∧ I64 z ∧ k' ≤ s.length ∧ Sat g w' (Pt r (rC s k') 108 :: l)) := by
  refine Fc.of Tryz.func88 rfl (by kernel_rfl) ?_
  have hR := Rn.start hq
  refine rAllocS H rfl ?_
  clear H
  intro p1 w1 H
  refine H.fronts [1] ?_
  clear H
  intro H
  refine CallP.mk (Fc.imp (Go.Proofs.YtbbdfhgcmkljeaaGreatDoor.Brd.kind H ?_ ?_ ?_) ?_)
  · assumption
  · assumption
  · exact hR.fst
  clear H
  rintro _ w2 ⟨c1, ⟨k'1, ⟨rfl, ⟨h1, ⟨h2, ⟨h3, H⟩⟩⟩⟩⟩⟩
  replace hR := hR.snd (by assumption)
  refine rBuild rfl rfl rfl ?_
  refine rAllocS H rfl ?_
  clear H
  intro p2 w3 H
  clear w2
  refine rStAS H 0 rfl rfl rfl rfl ?_
  clear H
  intro w2 H
  clear w3
  refine H.fronts [1] ?_
  clear H
  intro H
  refine CallP.mk (Fc.imp (Go.Proofs.YtbbdfhgcmkljeaaGreatDoor.Brd.octet H ?_ ?_ ?_) ?_)
  · assumption
  · assumption
  · exact hR.fst
  clear H
  rintro _ w3 ⟨c2, ⟨k'2, ⟨rfl, ⟨h4, ⟨h5, H⟩⟩⟩⟩⟩
  replace hR := hR.snd (by assumption)
  refine CallP.mk (Fc.imp (Go.Proofs.YtbbdfhgcmkljeaaGreatDoor.Brd.throw H _ _ ?_) ?_)
  · exact fun h => hR.thr (by decide) (vLt_t h)
  clear H
  rintro v' w4 ⟨h6, H⟩
  replace hR := hR.nxt (by first | exact ga1 (by assumption) | exact ga2 (by assumption) | exact ga3 (by assumption) | exact ga4 (by assumption))
  refine rFieldAt rfl ?_
  refine rStS H 1 rfl rfl rfl rfl ?_
  clear H
  intro w5 H
  clear w4
  refine CallP.mk (Fc.imp (Go.Proofs.YtbbdfhgcmkljeaaGreatDoor.Brd.octet H ?_ ?_ ?_) ?_)
  · assumption
  · assumption
  · exact hR.fst
  clear H
  rintro _ w4 ⟨c3, ⟨k'3, ⟨rfl, ⟨h7, ⟨h8, H⟩⟩⟩⟩⟩
  replace hR := hR.snd (by assumption)
  refine br (fun c4 => ?_) (fun c4 => ?_)
  · replace c4 := vNe_t (c4)
    refine CallP.mk (Fc.imp (Go.Proofs.YtbbdfhgcmkljeaaGreatDoor.Brd.throw H _ _ ?_) ?_)
    · exact fun h => hR.thr (by decide) ⟨by assumption, vNe_t h⟩
    clear H
    rintro va' w6 ⟨h9, H⟩
    replace hR := hR.nxt (by first | exact ga1 (by assumption) | exact ga2 (by assumption) | exact ga3 (by assumption) | exact ga4 (by assumption))
    refine rFieldAt rfl ?_
    refine rLd (H.at 1 rfl) 0 rfl rfl rfl ?_
    refine rBoolNe rfl ?_
    refine CallP.mk (Fc.imp (Go.Proofs.YtbbdfhgcmkljeaaGreatDoor.Brd.throw H _ _ ?_) ?_)
    · exact fun h => hR.thr (by decide) (ga5 h)
    clear H
    rintro vb' w7 ⟨h10, H⟩
    replace hR := hR.nxt (by first | exact ga1 (by assumption) | exact ga2 (by assumption) | exact ga3 (by assumption) | exact ga4 (by assumption))
    refine rFieldAt rfl ?_
    refine rLd (H.at 1 rfl) 0 rfl rfl rfl ?_
    refine cI (fun c5 => ?_) (fun c5 => ?_)
    · replace c5 := vEq_t (c5)
      refine CallP.mk (Fc.imp (Go.Proofs.YtbbdfhgcmkljeaaGreatDoor.Brd.signed H ?_ ?_ _ (32) ?_ ?_ ?_) ?_)
      · assumption
      · assumption
      · omega
      · omega
      · (rw [bits1 (by assumption)] at hR; exact hR.fst)
      clear H
      rintro _ w8 ⟨n1, ⟨k'4, ⟨rfl, ⟨h11, ⟨h12, ⟨h13, H⟩⟩⟩⟩⟩⟩
      replace hR := hR.snd (by first | (rw [bits1 (by assumption)]; assumption) | (rw [bits2 (by assumption)]; assumption))
      refine rFieldAt rfl ?_
      refine rStS H 1 rfl rfl rfl rfl ?_
      clear H
      intro w9 H
      clear w8
      refine CallP.mk (Fc.imp (Go.Proofs.YtbbdfhgcmkljeaaGreatDoor.Brd.fixed H ?_ ?_ _ _ ?_ ?_) ?_)
      · assumption
      · assumption
      · exact fun h => (by cases h)
      · exact hR.fst
      clear H
      rintro vc' w8 ⟨k'5, ⟨h14, ⟨h15, H⟩⟩⟩
      replace hR := hR.snd (by assumption)
      refine rLdA (H.at 1 rfl) 0 rfl rfl rfl ?_
      refine rStAS H 2 rfl rfl rfl rfl ?_
      clear H
      intro w10 H
      clear w8
      refine rdAN (H.at 2 rfl) 0 rfl rfl rfl ?_
      refine Done.mk ?_
      exact ⟨_, _, _, _, rfl, by rw [vEq_iff]; exact hR.e, by assumption, by assumption, by assumption, sat_sub H Lt.h⟩
    replace c5 := vEq_f (c5)
    refine CallP.mk (Fc.imp (Go.Proofs.YtbbdfhgcmkljeaaGreatDoor.Brd.signed H ?_ ?_ _ (64) ?_ ?_ ?_) ?_)
    · assumption
    · assumption
    · omega
    · omega
    · (rw [bits2 (by assumption)] at hR; exact hR.fst)
    clear H
    rintro _ w8 ⟨n1, ⟨k'4, ⟨rfl, ⟨h11, ⟨h12, ⟨h13, H⟩⟩⟩⟩⟩⟩
    replace hR := hR.snd (by first | (rw [bits1 (by assumption)]; assumption) | (rw [bits2 (by assumption)]; assumption))
    refine rFieldAt rfl ?_
    refine rStS H 1 rfl rfl rfl rfl ?_
    clear H
    intro w9 H
    clear w8
    refine CallP.mk (Fc.imp (Go.Proofs.YtbbdfhgcmkljeaaGreatDoor.Brd.fixed H ?_ ?_ _ _ ?_ ?_) ?_)
    · assumption
    · assumption
    · exact fun h => (by cases h)
    · exact hR.fst
    clear H
    rintro vc' w8 ⟨k'5, ⟨h14, ⟨h15, H⟩⟩⟩
    replace hR := hR.snd (by assumption)
    refine rLdA (H.at 1 rfl) 0 rfl rfl rfl ?_
    refine rStAS H 2 rfl rfl rfl rfl ?_
    clear H
    intro w10 H
    clear w8
    refine rdAN (H.at 2 rfl) 0 rfl rfl rfl ?_
    refine Done.mk ?_
    exact ⟨_, _, _, _, rfl, by rw [vEq_iff]; exact hR.e, by assumption, by assumption, by assumption, sat_sub H Lt.h⟩
  replace c4 := vNe_f (c4)
  refine CallP.mk (Fc.imp (Go.Proofs.YtbbdfhgcmkljeaaGreatDoor.Brd.throw H _ _ ?_) ?_)
  · exact fun h => (by cases h)
  clear H
  rintro va' w6 ⟨h9, H⟩
  replace hR := hR.nxt (by first | exact ga1 (by assumption) | exact ga2 (by assumption) | exact ga3 (by assumption) | exact ga4 (by assumption))
  refine rFieldAt rfl ?_
  refine rLd (H.at 1 rfl) 0 rfl rfl rfl ?_
  refine rBoolNe rfl ?_
  refine CallP.mk (Fc.imp (Go.Proofs.YtbbdfhgcmkljeaaGreatDoor.Brd.throw H _ _ ?_) ?_)
  · exact fun h => hR.thr (by decide) (ga5 h)
  clear H
  rintro vb' w7 ⟨h10, H⟩
  replace hR := hR.nxt (by first | exact ga1 (by assumption) | exact ga2 (by assumption) | exact ga3 (by assumption) | exact ga4 (by assumption))
  refine rFieldAt rfl ?_
  refine rLd (H.at 1 rfl) 0 rfl rfl rfl ?_
  refine cI (fun c5 => ?_) (fun c5 => ?_)
  · replace c5 := vEq_t (c5)
    refine CallP.mk (Fc.imp (Go.Proofs.YtbbdfhgcmkljeaaGreatDoor.Brd.signed H ?_ ?_ _ (32) ?_ ?_ ?_) ?_)
    · assumption
    · assumption
    · omega
    · omega
    · (rw [bits1 (by assumption)] at hR; exact hR.fst)
    clear H
    rintro _ w8 ⟨n1, ⟨k'4, ⟨rfl, ⟨h11, ⟨h12, ⟨h13, H⟩⟩⟩⟩⟩⟩
    replace hR := hR.snd (by first | (rw [bits1 (by assumption)]; assumption) | (rw [bits2 (by assumption)]; assumption))
    refine rFieldAt rfl ?_
    refine rStS H 1 rfl rfl rfl rfl ?_
    clear H
    intro w9 H
    clear w8
    refine CallP.mk (Fc.imp (Go.Proofs.YtbbdfhgcmkljeaaGreatDoor.Brd.fixed H ?_ ?_ _ _ ?_ ?_) ?_)
    · assumption
    · assumption
    · exact fun h => (by cases h)
    · exact hR.fst
    clear H
    rintro vc' w8 ⟨k'5, ⟨h14, ⟨h15, H⟩⟩⟩
    replace hR := hR.snd (by assumption)
    refine rLdA (H.at 1 rfl) 0 rfl rfl rfl ?_
    refine rStAS H 2 rfl rfl rfl rfl ?_
    clear H
    intro w10 H
    clear w8
    refine rdAN (H.at 2 rfl) 0 rfl rfl rfl ?_
    refine Done.mk ?_
    exact ⟨_, _, _, _, rfl, by rw [vEq_iff]; exact hR.e, by assumption, by assumption, by assumption, sat_sub H Lt.h⟩
  replace c5 := vEq_f (c5)
  refine CallP.mk (Fc.imp (Go.Proofs.YtbbdfhgcmkljeaaGreatDoor.Brd.signed H ?_ ?_ _ (64) ?_ ?_ ?_) ?_)
  · assumption
  · assumption
  · omega
  · omega
  · (rw [bits2 (by assumption)] at hR; exact hR.fst)
  clear H
  rintro _ w8 ⟨n1, ⟨k'4, ⟨rfl, ⟨h11, ⟨h12, ⟨h13, H⟩⟩⟩⟩⟩⟩
  replace hR := hR.snd (by first | (rw [bits1 (by assumption)]; assumption) | (rw [bits2 (by assumption)]; assumption))
  refine rFieldAt rfl ?_
  refine rStS H 1 rfl rfl rfl rfl ?_
  clear H
  intro w9 H
  clear w8
  refine CallP.mk (Fc.imp (Go.Proofs.YtbbdfhgcmkljeaaGreatDoor.Brd.fixed H ?_ ?_ _ _ ?_ ?_) ?_)
  · assumption
  · assumption
  · exact fun h => (by cases h)
  · exact hR.fst
  clear H
  rintro vc' w8 ⟨k'5, ⟨h14, ⟨h15, H⟩⟩⟩
  replace hR := hR.snd (by assumption)
  refine rLdA (H.at 1 rfl) 0 rfl rfl rfl ?_
  refine rStAS H 2 rfl rfl rfl rfl ?_
  clear H
  intro w10 H
  clear w8
  refine rdAN (H.at 2 rfl) 0 rfl rfl rfl ?_
  refine Done.mk ?_
  exact ⟨_, _, _, _, rfl, by rw [vEq_iff]; exact hR.e, by assumption, by assumption, by assumption, sat_sub H Lt.h⟩
end
end Go.Proofs.YtbbdfhgcmkljeaaGreatDoor.Brd
/- Package bin: the sections of imports and of globals. -/
set_option maxRecDepth 100000
set_option maxHeartbeats 4000000
set_option linter.unusedVariables false
set_option linter.unusedSimpArgs false
namespace Go.Proofs.YtbbdfhgcmkljeaaGreatDoor.Brd
open Go Go.Proofs.YtbbdfhgcmkljeaaGreatDoor.Eng Go.RowKit
open Ins Nest Leb Txt
open Bin (kindE SigV SigD FunV FunD ElV ModV ModD okSg okIm okFn okGl okEl okDt enSg enIm enFn enGl enEl enDt enMd)
section
variable {g : Glob} {w : World} {l : List As} {r pm k N : Nat} {s : List UInt8} {pq : List PanicEntry → World → Prop} {m : ModV}
theorem host_t {a : List UInt8} (h : (!decide (a = hostB)) = true) : a ≠ hostB := by simpa using h
theorem host_f {a : List UInt8} (h : (!decide (a = hostB)) = false) : ¬ a ≠ hostB := by simpa using h
theorem sec2_ (H : Sat g w (Pt r (rC s k) 108 :: Pt pm (enMd m) 30 :: Sl 49 2 enSg m.vt m.types :: Sl 54 2 enIm m.vm m.imps :: Sl 61 3 enFn m.vf m.funcs :: Sl 66 3 enGl m.vg m.globals :: Sl 70 2 enIm m.vx m.exps :: Sl 75 2 enEl m.ve m.elems :: Sl 80 2 enDt m.vd m.data :: l)) (hT : U8F g) (hk : k ≤ s.length) (hs : s.length ≤ 4096) (hm : okE g m N) (hN : N ≤ 1000) (hq : Rq pq g (Pm pm :: l) (secR 2 m.d) s k) : Fc ⟨Tryz.prog, pq⟩ 56 #[.pointer (some ⟨r, 0, none⟩), .int .u8 2, .pointer (some ⟨pm, 0, none⟩)] w (SecQ g l r pm s k 2 m N) := by
  refine Fc.of Tryz.func56 rfl (by kernel_rfl) ?_
  have hR := Rn.start hq
  rw [sec2] at hR
  have l1 := hm.li
  refine bk ?_
  refine cF (vEq_F (by omega)) ?_
  refine cT (vEq_T (by omega)) ?_
  refine CallP.mk (Fc.imp (Go.Proofs.YtbbdfhgcmkljeaaGreatDoor.Brd.count H ?_ ?_ _ (16) ?_ ?_) ?_)
  · assumption
  · assumption
  · omega
  · exact hR.list.fst
  clear H
  rintro _ w1 ⟨n1, ⟨k'1, ⟨rfl, ⟨h1, ⟨h2, ⟨h3, H⟩⟩⟩⟩⟩⟩
  replace hR := hR.list.snd (by assumption)
  refine LoopP.rule (α := Nat × Nat × Value × List (List UInt8 × Int)) (0, k'1, m.vm, m.imps) (fun x_ => [(35, .int .i64 x_.1)]) (fun x_ w_ => (x_.1 ≤ n1) ∧ (x_.2.1 ≤ s.length) ∧ (∀ x ∈ x_.2.2.2, okIm x) ∧ (x_.2.2.2.take m.imps.length = m.imps) ∧ (x_.2.2.2.length = m.imps.length + x_.1) ∧ (Rp pq g (Pm pm :: l) (secR 2 m.d s ⟨k, 0⟩) impR n1 x_.1 (x_.2.2.2.drop m.imps.length) (fun q => retR ({ m.d with imps := m.d.imps ++ q }, 0)) s x_.2.1) ∧ Sat g w_ ((Pt r (rC s x_.2.1) 108 :: Pt pm [m.vt, x_.2.2.1, m.vf, .int .i64 m.table, .int .i64 m.pages, .int .i64 m.most, m.vg, m.vx, .int .i64 m.start, m.ve, m.vd] 30 :: Sl 49 2 enSg m.vt m.types :: Sl 54 2 enIm x_.2.2.1 x_.2.2.2 :: Sl 61 3 enFn m.vf m.funcs :: Sl 66 3 enGl m.vg m.globals :: Sl 70 2 enIm m.vx m.exps :: Sl 75 2 enEl m.ve m.elems :: Sl 80 2 enDt m.vd m.data :: l))) (fun x_ => n1 - x_.1) ?_ ?_ ?_
  · repeat first | exact mt_nil | refine mt_cons rfl ?_ | refine mt_i rfl (by first | omega | (simp only; omega) | (simp; omega) | (simp; done)) ?_
  · try simp only
    refine ⟨?_, ?_⟩
    · omega
    refine ⟨?_, ?_⟩
    · assumption
    refine ⟨?_, ?_⟩
    · exact hm.imps
    refine ⟨?_, ?_⟩
    · exact List.take_length
    refine ⟨?_, ?_⟩
    · omega
    refine ⟨?_, ?_⟩
    · exact Rp.dn0 _ hR
    exact H
  clear H
  rintro ⟨i, kk, vt, ts⟩ f_ w_ ⟨hi, hkk, hts, htk, hl, hR, H⟩
  try simp only at hi hkk hts htk hl hR H ⊢
  rcases Nat.lt_or_ge i n1 with hlt | hge
  · have hI := Rn.start (hR.fst hlt (l' := Pm pm :: l))
    refine cT (vLt_T (by (simp; omega))) ?_
    refine bk ?_
    refine CallP.mk (Fc.imp (Go.Proofs.YtbbdfhgcmkljeaaGreatDoor.Brd.name H ?_ ?_ ?_ ?_) ?_)
    · assumption
    · assumption
    · assumption
    · exact hI.fst
    clear H
    rintro _ w2 ⟨t1, ⟨k'2, ⟨rfl, ⟨h4, ⟨h5, ⟨h6, H⟩⟩⟩⟩⟩⟩
    replace hI := hI.snd (by assumption)
    refine rStrNe ?_
    refine CallP.mk (Fc.imp (Go.Proofs.YtbbdfhgcmkljeaaGreatDoor.Brd.throw H _ _ ?_) ?_)
    · exact fun h => hI.thr (by decide) (host_t h)
    clear H
    rintro v' w3 ⟨h7, H⟩
    replace hI := hI.nxt (host_f (by assumption))
    refine CallP.mk (Fc.imp (Go.Proofs.YtbbdfhgcmkljeaaGreatDoor.Brd.name H ?_ ?_ ?_ ?_) ?_)
    · assumption
    · assumption
    · assumption
    · exact hI.fst
    clear H
    rintro _ w4 ⟨t2, ⟨k'3, ⟨rfl, ⟨h8, ⟨h9, ⟨h10, H⟩⟩⟩⟩⟩⟩
    replace hI := hI.snd (by assumption)
    refine rBuild rfl rfl rfl ?_
    refine rAllocS H rfl ?_
    clear H
    intro p1 w5 H
    clear w4
    refine rStAS H 0 rfl rfl rfl rfl ?_
    clear H
    intro w4 H
    clear w5
    refine H.fronts [1] ?_
    clear H
    intro H
    refine CallP.mk (Fc.imp (Go.Proofs.YtbbdfhgcmkljeaaGreatDoor.Brd.fixed H ?_ ?_ _ _ ?_ ?_) ?_)
    · assumption
    · assumption
    · omega
    · exact hI.fst
    clear H
    rintro va' w5 ⟨k'4, ⟨h11, ⟨h12, H⟩⟩⟩
    replace hI := hI.snd (by assumption)
    refine CallP.mk (Fc.imp (Go.Proofs.YtbbdfhgcmkljeaaGreatDoor.Brd.numI H ?_ ?_ ?_) ?_)
    · assumption
    · assumption
    · exact hI.fst
    clear H
    rintro _ w6 ⟨n2, ⟨k'5, ⟨rfl, ⟨h13, ⟨⟨h14, h15⟩, ⟨h16, H⟩⟩⟩⟩⟩⟩
    replace hI := hI.snd (by assumption)
    refine rFieldAt rfl ?_
    refine rStS H 1 rfl rfl rfl rfl ?_
    clear H
    intro w7 H
    clear w6
    refine drawzS H [] [(0, .pure), (1, .pure), (2, .pure), (3, .pure), (4, .held), (5, .held), (6, .forced), (7, .free), (8, .pure), (9, .pure), (10, .free)] mixed (by kernel_rfl) (by kernel_rfl) ?_
    clear H
    intro w6 H
    clear w7
    refine tk (fun wx HS => rFieldAt rfl ⟨rfl, rfl⟩) ?_
    refine tk (fun wx HS => rLd (HS.at 2 rfl) 1 rfl rfl rfl ⟨rfl, rfl⟩) ?_
    refine tk (fun wx HS => rLdA (HS.at 1 rfl) 0 rfl rfl rfl ⟨rfl, rfl⟩) ?_
    refine rBuildSliceS H rfl rfl rfl rfl ?_
    clear H
    intro p2 w7 H
    clear w6
    refine KeepP.mk (H.drop 0 (fun H => H)) ?_
    refine rApS (ys := [⟨_, _⟩]) 24 H 5 rfl (H.at 0 rfl) rfl (fun y _ => rfl) rfl rfl rfl (by omega) (by omega) ?_
    intro v1
    clear H
    intro w6 H
    clear w7
    refine tk (fun wx HS => rFieldAt rfl ⟨rfl, rfl⟩) ?_
    refine rStS H 3 rfl rfl rfl (H.one 5 rfl) ?_
    clear H
    intro w7 H
    clear w6
    refine eqI64 (by omega) ?_
    refine Nxt.mk ((i + 1, k'5, v1, ts ++ [(t2, n2)])) (mt_i rfl (by first | omega | (simp only; omega) | (simp; omega)) (mt_nil)) ?_ ?_
    · refine ⟨?_, ?_⟩
      · (simp; omega)
      refine ⟨?_, ?_⟩
      · (simp; omega)
      refine ⟨?_, ?_⟩
      · exact snoc_all hts ⟨by simp only; omega, by constructor <;> (simp only; omega)⟩
      refine ⟨?_, ?_⟩
      · exact take_app htk (by omega)
      refine ⟨?_, ?_⟩
      · (simp; omega)
      refine ⟨?_, ?_⟩
      · exact hR.dn (by omega) hlt hI.e
      refine H.fronts [10, 10, 10, 10, 10, 10, 10, 10, 9] ?_
      clear H
      intro H
      refine H.drop 10 ?_
      clear H
      intro H
      refine H.drop 9 ?_
      clear H
      intro H
      exact H
    (simp; omega)
  replace hR := hR.fin hge
  refine cF (vLt_F (by omega)) ?_
  exact Done.mk ⟨g, { m with vm := vt, imps := ts }, 0, kk, rfl, hR.e.trans (by show ((({ m.d with imps := m.imps ++ ts.drop m.imps.length } : ModD), 0), _) = _; rw [both_is htk]; rfl), Ext.refl g, { hm.more (Nat.le_add_right N 16) with imps := hts, li := by simp only; omega }, hkk, H⟩
theorem sec6_ (H : Sat g w (Pt r (rC s k) 108 :: Pt pm (enMd m) 30 :: Sl 49 2 enSg m.vt m.types :: Sl 54 2 enIm m.vm m.imps :: Sl 61 3 enFn m.vf m.funcs :: Sl 66 3 enGl m.vg m.globals :: Sl 70 2 enIm m.vx m.exps :: Sl 75 2 enEl m.ve m.elems :: Sl 80 2 enDt m.vd m.data :: l)) (hk : k ≤ s.length) (hs : s.length ≤ 4096) (hm : okE g m N) (hN : N ≤ 1000) (hq : Rq pq g (Pm pm :: l) (secR 6 m.d) s k) : Fc ⟨Tryz.prog, pq⟩ 56 #[.pointer (some ⟨r, 0, none⟩), .int .u8 6, .pointer (some ⟨pm, 0, none⟩)] w (SecQ g l r pm s k 6 m N) := by
  refine Fc.of Tryz.func56 rfl (by kernel_rfl) ?_
  have hR := Rn.start hq
  rw [sec6] at hR
  have l1 := hm.lg
  refine bk ?_
  refine cF (vEq_F (by omega)) ?_
  refine cF (vEq_F (by omega)) ?_
  refine cF (vEq_F (by omega)) ?_
  refine cF (vEq_F (by omega)) ?_
  refine cF (vEq_F (by omega)) ?_
  refine cT (vEq_T (by omega)) ?_
  refine CallP.mk (Fc.imp (Go.Proofs.YtbbdfhgcmkljeaaGreatDoor.Brd.count H ?_ ?_ _ (8) ?_ ?_) ?_)
  · assumption
  · assumption
  · omega
  · exact hR.list.fst
  clear H
  rintro _ w1 ⟨n1, ⟨k'1, ⟨rfl, ⟨h1, ⟨h2, ⟨h3, H⟩⟩⟩⟩⟩⟩
  replace hR := hR.list.snd (by assumption)
  refine LoopP.rule (α := Nat × Nat × Value × List (Int × Bool × Int)) (0, k'1, m.vg, m.globals) (fun x_ => [(137, .int .i64 x_.1)]) (fun x_ w_ => (x_.1 ≤ n1) ∧ (x_.2.1 ≤ s.length) ∧ (∀ x ∈ x_.2.2.2, okGl x) ∧ (x_.2.2.2.take m.globals.length = m.globals) ∧ (x_.2.2.2.length = m.globals.length + x_.1) ∧ (Rp pq g (Pm pm :: l) (secR 6 m.d s ⟨k, 0⟩) gloR n1 x_.1 (x_.2.2.2.drop m.globals.length) (fun q => retR ({ m.d with globals := m.d.globals ++ q }, 0)) s x_.2.1) ∧ Sat g w_ ((Pt r (rC s x_.2.1) 108 :: Pt pm [m.vt, m.vm, m.vf, .int .i64 m.table, .int .i64 m.pages, .int .i64 m.most, x_.2.2.1, m.vx, .int .i64 m.start, m.ve, m.vd] 30 :: Sl 49 2 enSg m.vt m.types :: Sl 54 2 enIm m.vm m.imps :: Sl 61 3 enFn m.vf m.funcs :: Sl 66 3 enGl x_.2.2.1 x_.2.2.2 :: Sl 70 2 enIm m.vx m.exps :: Sl 75 2 enEl m.ve m.elems :: Sl 80 2 enDt m.vd m.data :: l))) (fun x_ => n1 - x_.1) ?_ ?_ ?_
  · repeat first | exact mt_nil | refine mt_cons rfl ?_ | refine mt_i rfl (by first | omega | (simp only; omega) | (simp; omega) | (simp; done)) ?_
  · try simp only
    refine ⟨?_, ?_⟩
    · omega
    refine ⟨?_, ?_⟩
    · assumption
    refine ⟨?_, ?_⟩
    · exact hm.globals
    refine ⟨?_, ?_⟩
    · exact List.take_length
    refine ⟨?_, ?_⟩
    · omega
    refine ⟨?_, ?_⟩
    · exact Rp.dn0 _ hR
    exact H
  clear H
  rintro ⟨i, kk, vt, ts⟩ f_ w_ ⟨hi, hkk, hts, htk, hl, hR, H⟩
  try simp only at hi hkk hts htk hl hR H ⊢
  rcases Nat.lt_or_ge i n1 with hlt | hge
  · refine cT (vLt_T (by (simp; omega))) ?_
    refine bk ?_
    refine drawzS H [0] [(0, .pure), (1, .pure), (2, .pure), (3, .pure), (4, .held), (5, .pure), (6, .forced), (7, .forced), (8, .free), (9, .pure), (10, .pure), (11, .free)] mixed (by kernel_rfl) (by kernel_rfl) ?_
    clear H
    intro w2 H
    clear w_
    refine tk (fun wx HS => rFieldAt rfl ⟨rfl, rfl⟩) ?_
    refine tk (fun wx HS => rLd (HS.at 0 rfl) 6 rfl rfl rfl ⟨rfl, rfl⟩) ?_
    refine CallP.mk (Fc.imp (Go.Proofs.YtbbdfhgcmkljeaaGreatDoor.Brd.global H ?_ ?_ ?_) ?_)
    · assumption
    · assumption
    · exact hR.fst hlt
    clear H
    rintro _ w3 ⟨c1, ⟨b1, ⟨z1, ⟨k'2, ⟨rfl, ⟨h4, ⟨h5, ⟨h6, ⟨h7, H⟩⟩⟩⟩⟩⟩⟩⟩⟩
    refine KeepP.mk (H.drop 0 (fun H => H)) ?_
    refine rBuildSliceS H rfl rfl rfl rfl ?_
    clear H
    intro p1 w4 H
    clear w3
    refine KeepP.mk (H.drop 1 (fun H => H.drop 0 (fun H => H))) ?_
    refine rApS (ys := [(c1, b1, z1)]) 16 H 6 rfl (H.at 0 rfl) rfl (fun y hy => by rw [List.mem_singleton.1 hy]; simp only [Go.Proofs.YtbbdfhgcmkljeaaGreatDoor.Bin.enGl, List.all_cons, List.all_nil, H.one 3 rfl, H.one 4 rfl, H.one 5 rfl, H.one 6 rfl, H.one 7 rfl, H.one 8 rfl, H.one 9 rfl]; rfl) rfl rfl rfl (by omega) (by omega) ?_
    intro v1
    clear H
    intro w3 H
    clear w4
    refine tk (fun wx HS => rFieldAt rfl ⟨rfl, rfl⟩) ?_
    refine rStS H 2 rfl rfl rfl (H.one 6 rfl) ?_
    clear H
    intro w4 H
    clear w3
    refine eqI64 (by omega) ?_
    refine Nxt.mk ((i + 1, k'2, v1, ts ++ [(c1, b1, z1)])) (mt_i rfl (by first | omega | (simp only; omega) | (simp; omega)) (mt_nil)) ?_ ?_
    · refine ⟨?_, ?_⟩
      · (simp; omega)
      refine ⟨?_, ?_⟩
      · (simp; omega)
      refine ⟨?_, ?_⟩
      · exact snoc_all hts ⟨⟨by simp only; omega, by simp only; omega⟩, by constructor <;> (simp only; omega)⟩
      refine ⟨?_, ?_⟩
      · exact take_app htk (by omega)
      refine ⟨?_, ?_⟩
      · (simp; omega)
      refine ⟨?_, ?_⟩
      · exact hR.dn (by omega) hlt (by assumption)
      refine H.fronts [9, 9, 9, 9, 9, 9, 9, 9, 9] ?_
      clear H
      intro H
      refine H.drop 9 ?_
      clear H
      intro H
      exact H
    (simp; omega)
  replace hR := hR.fin hge
  refine cF (vLt_F (by omega)) ?_
  exact Done.mk ⟨g, { m with vg := vt, globals := ts }, 0, kk, rfl, hR.e.trans (by show ((({ m.d with globals := m.globals ++ ts.drop m.globals.length } : ModD), 0), _) = _; rw [both_is htk]; rfl), Ext.refl g, { hm.more (Nat.le_add_right N 16) with globals := hts, lg := by simp only; omega }, hkk, H⟩
end
end Go.Proofs.YtbbdfhgcmkljeaaGreatDoor.Brd
/- Package bin: the sections of functions, of the table, of the memory. -/
set_option maxRecDepth 100000
set_option maxHeartbeats 4000000
set_option linter.unusedVariables false
set_option linter.unusedSimpArgs false
namespace Go.Proofs.YtbbdfhgcmkljeaaGreatDoor.Brd
open Go Go.Proofs.YtbbdfhgcmkljeaaGreatDoor.Eng Go.RowKit
open Ins Nest Leb Txt
open Bin (kindE SigV SigD FunV FunD ElV ModV ModD okSg okIm okFn okGl okEl okDt enSg enIm enFn enGl enEl enDt enMd)
section
variable {g : Glob} {w : World} {l : List As} {r pm k N : Nat} {s : List UInt8} {pq : List PanicEntry → World → Prop} {m : ModV}
theorem new_map {us ts : List FunV} (h : ts.take us.length = us) (h0 : ∀ x ∈ ts.drop us.length, x.loc = [] ∧ x.body = []) : us.map FunV.d ++ ((ts.drop us.length).map fun x => x.ty).map (fun t => (⟨t, [], []⟩ : FunD)) = ts.map FunV.d := by
  rw [← both_map h]
  congr 1
  rw [List.map_map]
  refine List.map_congr_left fun x hx => ?_
  obtain ⟨h1, h2⟩ := h0 x hx
  simp only [Function.comp, FunV.d, h1, h2, List.map_nil]
theorem new_snoc {ts : List FunV} {n0 : Nat} {x : FunV} (h : ∀ y ∈ ts.drop n0, y.loc = [] ∧ y.body = []) (hle : n0 ≤ ts.length) (hx : x.loc = [] ∧ x.body = []) : ∀ y ∈ (ts ++ [x]).drop n0, y.loc = [] ∧ y.body = [] := by
  rw [List.drop_append_of_le_length hle]
  exact snoc_all h hx
theorem fn_new {t : Int} (h : 0 ≤ t ∧ t < 4294967296) : okFn g ⟨t, .slice none 0 0, [], .slice none 0 0, []⟩ := ⟨⟨by simp only; omega, by simp only; omega⟩, FSl.nil0 _ _ _ _, FSl.nil0 _ _ _ _⟩
theorem sec3_ (H : Sat g w (Pt r (rC s k) 108 :: Pt pm (enMd m) 30 :: Sl 49 2 enSg m.vt m.types :: Sl 54 2 enIm m.vm m.imps :: Sl 61 3 enFn m.vf m.funcs :: Sl 66 3 enGl m.vg m.globals :: Sl 70 2 enIm m.vx m.exps :: Sl 75 2 enEl m.ve m.elems :: Sl 80 2 enDt m.vd m.data :: l)) (hk : k ≤ s.length) (hs : s.length ≤ 4096) (hm : okE g m N) (hN : N ≤ 1000) (hq : Rq pq g (Pm pm :: l) (secR 3 m.d) s k) : Fc ⟨Tryz.prog, pq⟩ 56 #[.pointer (some ⟨r, 0, none⟩), .int .u8 3, .pointer (some ⟨pm, 0, none⟩)] w (SecQ g l r pm s k 3 m N) := by
  refine Fc.of Tryz.func56 rfl (by kernel_rfl) ?_
  have hR := Rn.start hq
  rw [sec3] at hR
  have l1 := hm.lf
  refine bk ?_
  refine cF (vEq_F (by omega)) ?_
  refine cF (vEq_F (by omega)) ?_
  refine cT (vEq_T (by omega)) ?_
  refine CallP.mk (Fc.imp (Go.Proofs.YtbbdfhgcmkljeaaGreatDoor.Brd.count H ?_ ?_ _ (16) ?_ ?_) ?_)
  · assumption
  · assumption
  · omega
  · exact hR.list.fst
  clear H
  rintro _ w1 ⟨n1, ⟨k'1, ⟨rfl, ⟨h1, ⟨h2, ⟨h3, H⟩⟩⟩⟩⟩⟩
  replace hR := hR.list.snd (by assumption)
  refine LoopP.rule (α := Nat × Nat × Value × List FunV) (0, k'1, m.vf, m.funcs) (fun x_ => [(65, .int .i64 x_.1)]) (fun x_ w_ => (x_.1 ≤ n1) ∧ (x_.2.1 ≤ s.length) ∧ (∀ x ∈ x_.2.2.2, okFn g x) ∧ (x_.2.2.2.take m.funcs.length = m.funcs) ∧ (x_.2.2.2.length = m.funcs.length + x_.1) ∧ (Rp pq g (Pm pm :: l) (secR 3 m.d s ⟨k, 0⟩) plainR n1 x_.1 ((x_.2.2.2.drop m.funcs.length).map fun x => x.ty) (fun q => retR ({ m.d with funcs := m.d.funcs ++ q.map fun t => ⟨t, [], []⟩ }, 0)) s x_.2.1) ∧ (∀ x ∈ x_.2.2.2.drop m.funcs.length, x.loc = [] ∧ x.body = []) ∧ Sat g w_ ((Pt r (rC s x_.2.1) 108 :: Pt pm [m.vt, m.vm, x_.2.2.1, .int .i64 m.table, .int .i64 m.pages, .int .i64 m.most, m.vg, m.vx, .int .i64 m.start, m.ve, m.vd] 30 :: Sl 49 2 enSg m.vt m.types :: Sl 54 2 enIm m.vm m.imps :: Sl 61 3 enFn x_.2.2.1 x_.2.2.2 :: Sl 66 3 enGl m.vg m.globals :: Sl 70 2 enIm m.vx m.exps :: Sl 75 2 enEl m.ve m.elems :: Sl 80 2 enDt m.vd m.data :: l))) (fun x_ => n1 - x_.1) ?_ ?_ ?_
  · repeat first | exact mt_nil | refine mt_cons rfl ?_ | refine mt_i rfl (by first | omega | (simp only; omega) | (simp; omega) | (simp; done)) ?_
  · try simp only
    refine ⟨?_, ?_⟩
    · omega
    refine ⟨?_, ?_⟩
    · assumption
    refine ⟨?_, ?_⟩
    · exact hm.funcs
    refine ⟨?_, ?_⟩
    · exact List.take_length
    refine ⟨?_, ?_⟩
    · omega
    refine ⟨?_, ?_⟩
    · exact Rp.dm0 _ _ hR
    refine ⟨?_, ?_⟩
    · (rw [List.drop_length]; nofun)
    exact H
  clear H
  rintro ⟨i, kk, vt, ts⟩ f_ w_ ⟨hi, hkk, hts, htk, hl, hR, hnw, H⟩
  try simp only at hi hkk hts htk hl hR hnw H ⊢
  rcases Nat.lt_or_ge i n1 with hlt | hge
  · refine cT (vLt_T (by (simp; omega))) ?_
    refine bk ?_
    refine drawzS H [0] [(0, .pure), (1, .pure), (2, .pure), (3, .pure), (4, .held), (5, .pure), (6, .forced), (7, .pure), (8, .forced), (9, .free), (10, .pure), (11, .pure), (12, .free)] mixed (by kernel_rfl) (by kernel_rfl) ?_
    clear H
    intro w2 H
    clear w_
    refine tk (fun wx HS => rFieldAt rfl ⟨rfl, rfl⟩) ?_
    refine tk (fun wx HS => rLd (HS.at 0 rfl) 2 rfl rfl rfl ⟨rfl, rfl⟩) ?_
    refine CallP.mk (Fc.imp (Go.Proofs.YtbbdfhgcmkljeaaGreatDoor.Brd.numI H ?_ ?_ ?_) ?_)
    · assumption
    · assumption
    · exact hR.fst hlt
    clear H
    rintro _ w3 ⟨n2, ⟨k'2, ⟨rfl, ⟨h4, ⟨⟨h5, h6⟩, ⟨h7, H⟩⟩⟩⟩⟩⟩
    refine KeepP.mk (H.drop 0 (fun H => H)) ?_
    refine tk (fun wx HS => rBuild rfl rfl rfl ⟨rfl, rfl⟩) ?_
    refine rBuildSliceS H rfl rfl rfl rfl ?_
    clear H
    intro p1 w4 H
    clear w3
    refine KeepP.mk (H.drop 1 (fun H => H.drop 0 (fun H => H))) ?_
    refine rApS (ys := [⟨n2, .slice none 0 0, [], .slice none 0 0, []⟩]) 56 H 5 rfl (H.at 0 rfl) rfl (fun y hy => by rw [List.mem_singleton.1 hy]; simp only [Go.Proofs.YtbbdfhgcmkljeaaGreatDoor.Bin.enFn, List.all_cons, List.all_nil, H.one 3 rfl, H.one 4 rfl, H.one 5 rfl, H.one 6 rfl, H.one 7 rfl, H.one 8 rfl, H.one 9 rfl]; rfl) rfl rfl rfl (by omega) (by omega) ?_
    intro v1
    clear H
    intro w3 H
    clear w4
    refine tk (fun wx HS => rFieldAt rfl ⟨rfl, rfl⟩) ?_
    refine rStS H 2 rfl rfl rfl (H.one 5 rfl) ?_
    clear H
    intro w4 H
    clear w3
    refine eqI64 (by omega) ?_
    refine Nxt.mk ((i + 1, k'2, v1, ts ++ [{ ty := n2, vl := Value.slice none 0 0, loc := [], vb := Value.slice none 0 0, body := [] }])) (mt_i rfl (by first | omega | (simp only; omega) | (simp; omega)) (mt_nil)) ?_ ?_
    · refine ⟨?_, ?_⟩
      · (simp; omega)
      refine ⟨?_, ?_⟩
      · (simp; omega)
      refine ⟨?_, ?_⟩
      · exact snoc_all hts (fn_new ⟨by assumption, by assumption⟩)
      refine ⟨?_, ?_⟩
      · exact take_app htk (by omega)
      refine ⟨?_, ?_⟩
      · (simp; omega)
      refine ⟨?_, ?_⟩
      · exact Rp.dm hR (by omega) hlt (by assumption)
      refine ⟨?_, ?_⟩
      · exact new_snoc hnw (by omega) ⟨rfl, rfl⟩
      refine H.fronts [9, 9, 9, 9, 9, 9, 9, 9, 9] ?_
      clear H
      intro H
      refine H.drop 9 ?_
      clear H
      intro H
      exact H
    (simp; omega)
  replace hR := hR.fin hge
  refine cF (vLt_F (by omega)) ?_
  exact Done.mk ⟨g, { m with vf := vt, funcs := ts }, 0, kk, rfl, hR.e.trans (by show ((({ m.d with funcs := m.funcs.map FunV.d ++ ((ts.drop m.funcs.length).map fun x => x.ty).map (fun t => ⟨t, [], []⟩) } : ModD), 0), _) = _; rw [new_map htk hnw]; rfl), Ext.refl g, { hm.more (Nat.le_add_right N 16) with funcs := hts, lf := by simp only; omega }, hkk, H⟩
def tabL (i : Nat) (t : Int) : List Nat := if i = 0 then [] else [t.toNat]
theorem tabL_is {i : Nat} {t u : Int} (h0 : i = 0 → t = u) (ht : i ≠ 0 → 0 ≤ t) : tab1 (tabL i t) u = t := by
  unfold tabL
  by_cases h : i = 0
  · rw [if_pos h]; exact (h0 h).symm
  · rw [if_neg h]; show ((t.toNat : Nat) : Int) = t; have := ht h; omega
theorem tabL_nx {p : Rdr Nat} {γ : Type} {W : γ × RS} {n i : Nat} {t : Int} {f : List Nat → Rdr γ} {v k' : Nat} (h : Rp pq g l W p n i (tabL i t) f s k) (hn : n ≤ 1) (hi : i < n) (e : p s ⟨k, 0⟩ = (v, ⟨k', 0⟩)) : Rp pq g l W p n (i + 1) (tabL (i + 1) (v : Int)) f s k' := by
  obtain rfl : i = 0 := by omega
  exact h.snd hi e
theorem sec4_ (H : Sat g w (Pt r (rC s k) 108 :: Pt pm (enMd m) 30 :: Sl 49 2 enSg m.vt m.types :: Sl 54 2 enIm m.vm m.imps :: Sl 61 3 enFn m.vf m.funcs :: Sl 66 3 enGl m.vg m.globals :: Sl 70 2 enIm m.vx m.exps :: Sl 75 2 enEl m.ve m.elems :: Sl 80 2 enDt m.vd m.data :: l)) (hk : k ≤ s.length) (hs : s.length ≤ 4096) (hm : okE g m N) (hN : N ≤ 1000) (hq : Rq pq g (Pm pm :: l) (secR 4 m.d) s k) : Fc ⟨Tryz.prog, pq⟩ 56 #[.pointer (some ⟨r, 0, none⟩), .int .u8 4, .pointer (some ⟨pm, 0, none⟩)] w (SecQ g l r pm s k 4 m N) := by
  refine Fc.of Tryz.func56 rfl (by kernel_rfl) ?_
  have hR := Rn.start hq
  rw [sec4] at hR
  refine bk ?_
  refine cF (vEq_F (by omega)) ?_
  refine cF (vEq_F (by omega)) ?_
  refine cF (vEq_F (by omega)) ?_
  refine cT (vEq_T (by omega)) ?_
  refine CallP.mk (Fc.imp (Go.Proofs.YtbbdfhgcmkljeaaGreatDoor.Brd.count H ?_ ?_ _ (1) ?_ ?_) ?_)
  · assumption
  · assumption
  · omega
  · exact hR.list.fst
  clear H
  rintro _ w1 ⟨n1, ⟨k'1, ⟨rfl, ⟨h1, ⟨h2, ⟨h3, H⟩⟩⟩⟩⟩⟩
  replace hR := hR.list.snd (by assumption)
  refine LoopP.rule (α := Nat × Nat × Int) (0, k'1, m.table) (fun x_ => [(84, .int .i64 x_.1)]) (fun x_ w_ => (x_.1 ≤ n1) ∧ (x_.2.1 ≤ s.length) ∧ (x_.1 = 0 → x_.2.2 = m.table) ∧ (x_.1 ≠ 0 → 0 ≤ x_.2.2) ∧ (I64 x_.2.2) ∧ (Rp pq g (Pm pm :: l) (secR 4 m.d s ⟨k, 0⟩) oneTab n1 x_.1 (tabL x_.1 x_.2.2) (fun q => retR ({ m.d with table := tab1 q m.d.table }, 0)) s x_.2.1) ∧ Sat g w_ ((Pt r (rC s x_.2.1) 108 :: Pt pm [m.vt, m.vm, m.vf, .int .i64 x_.2.2, .int .i64 m.pages, .int .i64 m.most, m.vg, m.vx, .int .i64 m.start, m.ve, m.vd] 30 :: Sl 49 2 enSg m.vt m.types :: Sl 54 2 enIm m.vm m.imps :: Sl 61 3 enFn m.vf m.funcs :: Sl 66 3 enGl m.vg m.globals :: Sl 70 2 enIm m.vx m.exps :: Sl 75 2 enEl m.ve m.elems :: Sl 80 2 enDt m.vd m.data :: l))) (fun x_ => n1 - x_.1) ?_ ?_ ?_
  · repeat first | exact mt_nil | refine mt_cons rfl ?_ | refine mt_i rfl (by first | omega | (simp only; omega) | (simp; omega) | (simp; done)) ?_
  · try simp only
    refine ⟨?_, ?_⟩
    · omega
    refine ⟨?_, ?_⟩
    · assumption
    refine ⟨?_, ?_⟩
    · intro x1
      assumption
    refine ⟨?_, ?_⟩
    · intro x1
      omega
    refine ⟨?_, ?_⟩
    · exact hm.table
    refine ⟨?_, ?_⟩
    · exact Rn.rep0 hR
    exact H
  clear H
  rintro ⟨i, kk, tb⟩ f_ w_ ⟨hi, hkk, htb, htn, hti, hR, H⟩
  try simp only at hi hkk htb htn hti hR H ⊢
  rcases Nat.lt_or_ge i n1 with hlt | hge
  · have hI := Rn.start (hR.fst hlt (l' := Pm pm :: l))
    refine cT (vLt_T (by omega)) ?_
    refine bk ?_
    refine CallP.mk (Fc.imp (Go.Proofs.YtbbdfhgcmkljeaaGreatDoor.Brd.fixed H ?_ ?_ _ _ ?_ ?_) ?_)
    · assumption
    · assumption
    · exact fun h => by omega
    · exact hI.fst
    clear H
    rintro v' w2 ⟨k'2, ⟨h4, ⟨h5, H⟩⟩⟩
    replace hI := hI.snd (by assumption)
    refine CallP.mk (Fc.imp (Go.Proofs.YtbbdfhgcmkljeaaGreatDoor.Brd.fixed H ?_ ?_ _ _ ?_ ?_) ?_)
    · assumption
    · assumption
    · exact fun h => by omega
    · exact hI.fst
    clear H
    rintro va' w3 ⟨k'3, ⟨h6, ⟨h7, H⟩⟩⟩
    replace hI := hI.snd (by assumption)
    refine CallP.mk (Fc.imp (Go.Proofs.YtbbdfhgcmkljeaaGreatDoor.Brd.count H ?_ ?_ _ (16) ?_ ?_) ?_)
    · assumption
    · assumption
    · constructor <;> omega
    · exact hI.last
    clear H
    rintro _ w4 ⟨n2, ⟨k'4, ⟨rfl, ⟨h8, ⟨h9, ⟨h10, H⟩⟩⟩⟩⟩⟩
    refine rFieldAt rfl ?_
    refine rStS H 1 rfl rfl rfl rfl ?_
    clear H
    intro w5 H
    clear w4
    refine eqI64 (by omega) ?_
    refine Nxt.mk ((i + 1, k'4, ↑n2)) (mt_i rfl (by first | omega | (simp only; omega) | (simp; omega)) (mt_nil)) ?_ ?_
    · refine ⟨?_, ?_⟩
      · assumption
      refine ⟨?_, ?_⟩
      · assumption
      refine ⟨?_, ?_⟩
      · exact fun h => by omega
      refine ⟨?_, ?_⟩
      · intro x1
        constructor <;> omega
      refine ⟨?_, ?_⟩
      · refine ⟨?_, ?_⟩
        · constructor <;> omega
        (simp only [List.length_append, List.length_set, List.length_cons, List.length_nil]; omega)
      refine ⟨?_, ?_⟩
      · exact tabL_nx hR (by omega) hlt (hI.e.trans (by assumption))
      exact H
    omega
  replace hR := hR.fin hge
  refine cF (vLt_F (by omega)) ?_
  exact Done.mk ⟨g, { m with table := tb }, 0, kk, rfl, hR.e.trans (by show ((({ m.d with table := tab1 (tabL i tb) m.table } : ModD), 0), _) = _; rw [tabL_is htb htn]; rfl), Ext.refl g, { hm.more (Nat.le_add_right N 16) with table := hti }, hkk, H⟩
def memL (i : Nat) (p q : Int) : List (Int × Int) := if i = 0 then [] else [(p, q)]
theorem memL_p {i : Nat} {p q u : Int} (h0 : i = 0 → p = u) : pag1 (memL i p q) u = p := by
  unfold memL
  by_cases h : i = 0
  · rw [if_pos h]; exact (h0 h).symm
  · rw [if_neg h]; rfl
theorem memL_m {i : Nat} {p q u : Int} (h0 : i = 0 → q = u) : mos1 (memL i p q) u = q := by
  unfold memL
  by_cases h : i = 0
  · rw [if_pos h]; exact (h0 h).symm
  · rw [if_neg h]; rfl
theorem memL_nx {p : Rdr (Int × Int)} {γ : Type} {W : γ × RS} {n i : Nat} {a b c d : Int} {f : List (Int × Int) → Rdr γ} {k' : Nat} (h : Rp pq g l W p n i (memL i a b) f s k) (hn : n ≤ 1) (hi : i < n) (e : p s ⟨k, 0⟩ = ((c, d), ⟨k', 0⟩)) : Rp pq g l W p n (i + 1) (memL (i + 1) c d) f s k' := by
  obtain rfl : i = 0 := by omega
  exact h.snd hi e
theorem sec5_ (H : Sat g w (Pt r (rC s k) 108 :: Pt pm (enMd m) 30 :: Sl 49 2 enSg m.vt m.types :: Sl 54 2 enIm m.vm m.imps :: Sl 61 3 enFn m.vf m.funcs :: Sl 66 3 enGl m.vg m.globals :: Sl 70 2 enIm m.vx m.exps :: Sl 75 2 enEl m.ve m.elems :: Sl 80 2 enDt m.vd m.data :: l)) (hk : k ≤ s.length) (hs : s.length ≤ 4096) (hm : okE g m N) (hN : N ≤ 1000) (hq : Rq pq g (Pm pm :: l) (secR 5 m.d) s k) : Fc ⟨Tryz.prog, pq⟩ 56 #[.pointer (some ⟨r, 0, none⟩), .int .u8 5, .pointer (some ⟨pm, 0, none⟩)] w (SecQ g l r pm s k 5 m N) := by
  refine Fc.of Tryz.func56 rfl (by kernel_rfl) ?_
  have hR := Rn.start hq
  rw [sec5] at hR
  refine bk ?_
  refine cF (vEq_F (by omega)) ?_
  refine cF (vEq_F (by omega)) ?_
  refine cF (vEq_F (by omega)) ?_
  refine cF (vEq_F (by omega)) ?_
  refine cT (vEq_T (by omega)) ?_
  refine CallP.mk (Fc.imp (Go.Proofs.YtbbdfhgcmkljeaaGreatDoor.Brd.count H ?_ ?_ _ (1) ?_ ?_) ?_)
  · assumption
  · assumption
  · omega
  · exact hR.list.fst
  clear H
  rintro _ w1 ⟨n1, ⟨k'1, ⟨rfl, ⟨h1, ⟨h2, ⟨h3, H⟩⟩⟩⟩⟩⟩
  replace hR := hR.list.snd (by assumption)
  refine LoopP.rule (α := Nat × Nat × Int × Int) (0, k'1, m.pages, m.most) (fun x_ => [(100, .int .i64 x_.1)]) (fun x_ w_ => (x_.1 ≤ n1) ∧ (x_.2.1 ≤ s.length) ∧ (x_.1 = 0 → x_.2.2.1 = m.pages) ∧ (x_.1 = 0 → x_.2.2.2 = m.most) ∧ (I64 x_.2.2.1) ∧ (I64 x_.2.2.2) ∧ (Rp pq g (Pm pm :: l) (secR 5 m.d s ⟨k, 0⟩) oneMem n1 x_.1 (memL x_.1 x_.2.2.1 x_.2.2.2) (fun q => retR ({ m.d with pages := pag1 q m.d.pages, most := mos1 q m.d.most }, 0)) s x_.2.1) ∧ Sat g w_ ((Pt r (rC s x_.2.1) 108 :: Pt pm [m.vt, m.vm, m.vf, .int .i64 m.table, .int .i64 x_.2.2.1, .int .i64 x_.2.2.2, m.vg, m.vx, .int .i64 m.start, m.ve, m.vd] 30 :: Sl 49 2 enSg m.vt m.types :: Sl 54 2 enIm m.vm m.imps :: Sl 61 3 enFn m.vf m.funcs :: Sl 66 3 enGl m.vg m.globals :: Sl 70 2 enIm m.vx m.exps :: Sl 75 2 enEl m.ve m.elems :: Sl 80 2 enDt m.vd m.data :: l))) (fun x_ => n1 - x_.1) ?_ ?_ ?_
  · repeat first | exact mt_nil | refine mt_cons rfl ?_ | refine mt_i rfl (by first | omega | (simp only; omega) | (simp; omega) | (simp; done)) ?_
  · try simp only
    refine ⟨?_, ?_⟩
    · omega
    refine ⟨?_, ?_⟩
    · assumption
    refine ⟨?_, ?_⟩
    · intro x1
      assumption
    refine ⟨?_, ?_⟩
    · intro x1
      assumption
    refine ⟨?_, ?_⟩
    · exact hm.pages
    refine ⟨?_, ?_⟩
    · exact hm.most
    refine ⟨?_, ?_⟩
    · exact Rn.rep0 hR
    exact H
  clear H
  rintro ⟨i, kk, pg, mo⟩ f_ w_ ⟨hi, hkk, hpg, hmo, hpi, hmi, hR, H⟩
  try simp only at hi hkk hpg hmo hpi hmi hR H ⊢
  rcases Nat.lt_or_ge i n1 with hlt | hge
  · have hI := Rn.start (hR.fst hlt (l' := Pm pm :: l))
    refine cT (vLt_T (by omega)) ?_
    refine bk ?_
    refine CallP.mk (Fc.imp (Go.Proofs.YtbbdfhgcmkljeaaGreatDoor.Brd.fixed H ?_ ?_ _ _ ?_ ?_) ?_)
    · assumption
    · assumption
    · exact fun h => (by omega)
    · exact hI.fst
    clear H
    rintro v' w2 ⟨k'2, ⟨h4, ⟨h5, H⟩⟩⟩
    replace hI := hI.snd (by assumption)
    refine CallP.mk (Fc.imp (Go.Proofs.YtbbdfhgcmkljeaaGreatDoor.Brd.numI H ?_ ?_ ?_) ?_)
    · assumption
    · assumption
    · exact hI.fst
    clear H
    rintro _ w3 ⟨n2, ⟨k'3, ⟨rfl, ⟨h6, ⟨⟨h7, h8⟩, ⟨h9, H⟩⟩⟩⟩⟩⟩
    replace hI := hI.snd (by assumption)
    refine CallP.mk (Fc.imp (Go.Proofs.YtbbdfhgcmkljeaaGreatDoor.Brd.numI H ?_ ?_ ?_) ?_)
    · assumption
    · assumption
    · exact hI.fst
    clear H
    rintro _ w4 ⟨n3, ⟨k'4, ⟨rfl, ⟨h10, ⟨⟨h11, h12⟩, ⟨h13, H⟩⟩⟩⟩⟩⟩
    replace hI := hI.snd (by assumption)
    refine rFieldAt rfl ?_
    refine rStS H 1 rfl rfl rfl rfl ?_
    clear H
    intro w5 H
    clear w4
    refine rFieldAt rfl ?_
    refine rStS H 1 rfl rfl rfl rfl ?_
    clear H
    intro w4 H
    clear w5
    refine rFieldAt rfl ?_
    refine rLd (H.at 1 rfl) 5 rfl rfl rfl ?_
    refine CallP.mk (Fc.imp (Go.Proofs.YtbbdfhgcmkljeaaGreatDoor.Brd.throw H _ _ ?_) ?_)
    · exact fun h => hI.thr (by decide) (vLt_t h)
    clear H
    rintro va' w5 ⟨h14, H⟩
    replace hI := hI.nxt (by have := vLt_f (by assumption); omega)
    refine drawzS H [] [(0, .pure), (1, .pure), (2, .pure), (3, .pure), (4, .held), (5, .pure), (6, .pure), (7, .pure), (8, .held), (9, .pure), (10, .free)] mixed (by kernel_rfl) (by kernel_rfl) ?_
    clear H
    intro w6 H
    clear w5
    refine tk (fun wx HS => rFieldAt rfl ⟨rfl, rfl⟩) ?_
    refine tk (fun wx HS => rLd (HS.at 1 rfl) 4 rfl rfl rfl ⟨rfl, rfl⟩) ?_
    refine tk (fun wx HS => rFieldAt rfl ⟨rfl, rfl⟩) ?_
    refine tk (fun wx HS => rLd (HS.at 1 rfl) 5 rfl rfl rfl ⟨rfl, rfl⟩) ?_
    refine CallP.mk (Fc.imp (Go.Proofs.YtbbdfhgcmkljeaaGreatDoor.Brd.throw H _ _ ?_) ?_)
    · exact fun h => hI.thr (by decide) (vLt_t h)
    clear H
    rintro vb' w5 ⟨h15, H⟩
    replace hI := hI.nxt (by have := vLt_f (by assumption); omega)
    refine eqI64 (by omega) ?_
    refine Nxt.mk ((i + 1, k'4, n2, n3)) (mt_i rfl (by first | omega | (simp only; omega) | (simp; omega)) (mt_nil)) ?_ ?_
    · refine ⟨?_, ?_⟩
      · assumption
      refine ⟨?_, ?_⟩
      · assumption
      refine ⟨?_, ?_⟩
      · exact fun h => (by omega)
      refine ⟨?_, ?_⟩
      · exact fun h => (by omega)
      refine ⟨?_, ?_⟩
      · refine ⟨?_, ?_⟩
        · (simp only [List.length_append, List.length_set, List.length_cons, List.length_nil]; omega)
        (simp only [List.length_append, List.length_set, List.length_cons, List.length_nil]; omega)
      refine ⟨?_, ?_⟩
      · refine ⟨?_, ?_⟩
        · (simp only [List.length_append, List.length_set, List.length_cons, List.length_nil]; omega)
        (simp only [List.length_append, List.length_set, List.length_cons, List.length_nil]; omega)
      refine ⟨?_, ?_⟩
      · exact memL_nx hR (by omega) hlt hI.e
      exact H
    omega
  replace hR := hR.fin hge
  refine cF (vLt_F (by omega)) ?_
  exact Done.mk ⟨g, { m with pages := pg, most := mo }, 0, kk, rfl, hR.e.trans (by show ((({ m.d with pages := pag1 (memL i pg mo) m.pages, most := mos1 (memL i pg mo) m.most } : ModD), 0), _) = _; rw [memL_p hpg, memL_m hmo]; rfl), Ext.refl g, { hm.more (Nat.le_add_right N 16) with pages := hpi, most := hmi }, hkk, H⟩
end
end Go.Proofs.YtbbdfhgcmkljeaaGreatDoor.Brd
/- Package bin: the sections of exports, of the start, of data. -/
set_option maxRecDepth 100000
set_option maxHeartbeats 4000000
set_option linter.unusedVariables false
set_option linter.unusedSimpArgs false
namespace Go.Proofs.YtbbdfhgcmkljeaaGreatDoor.Brd
open Go Go.Proofs.YtbbdfhgcmkljeaaGreatDoor.Eng Go.RowKit
open Ins Nest Leb Txt
open Bin (kindE SigV SigD FunV FunD ElV ModV ModD okSg okIm okFn okGl okEl okDt enSg enIm enFn enGl enEl enDt enMd)
section
variable {g : Glob} {w : World} {l : List As} {r pm k N : Nat} {s : List UInt8} {pq : List PanicEntry → World → Prop} {m : ModV}
theorem lat7_ (H : Sat g w (Pt r (rC s k) 108 :: Pt pm (enMd m) 30 :: Sl 49 2 enSg m.vt m.types :: Sl 54 2 enIm m.vm m.imps :: Sl 61 3 enFn m.vf m.funcs :: Sl 66 3 enGl m.vg m.globals :: Sl 70 2 enIm m.vx m.exps :: Sl 75 2 enEl m.ve m.elems :: Sl 80 2 enDt m.vd m.data :: l)) (hT : U8F g) (hk : k ≤ s.length) (hs : s.length ≤ 4096) (hm : okE g m N) (hN : N ≤ 1000) (hq : Rq pq g (Pm pm :: l) (secR 7 m.d) s k) : Fc ⟨Tryz.prog, pq⟩ 90 #[.pointer (some ⟨r, 0, none⟩), .int .u8 7, .pointer (some ⟨pm, 0, none⟩)] w (fun _ w' => SecQ g l r pm s k 7 m N (.int .i64 0) w') := by
  refine Fc.of Tryz.func90 rfl (by kernel_rfl) ?_
  have hR := Rn.start hq
  rw [sec7] at hR
  have l1 := hm.lx
  refine bk ?_
  refine cT (vEq_T (by omega)) ?_
  refine CallP.mk (Fc.imp (Go.Proofs.YtbbdfhgcmkljeaaGreatDoor.Brd.count H ?_ ?_ _ (8) ?_ ?_) ?_)
  · assumption
  · assumption
  · omega
  · exact hR.list.fst
  clear H
  rintro _ w1 ⟨n1, ⟨k'1, ⟨rfl, ⟨h1, ⟨h2, ⟨h3, H⟩⟩⟩⟩⟩⟩
  replace hR := hR.list.snd (by assumption)
  refine LoopP.rule (α := Nat × Nat × Value × List (List UInt8 × Int)) (0, k'1, m.vx, m.exps) (fun x_ => [(15, .int .i64 x_.1)]) (fun x_ w_ => (x_.1 ≤ n1) ∧ (x_.2.1 ≤ s.length) ∧ (∀ x ∈ x_.2.2.2, okIm x) ∧ (x_.2.2.2.take m.exps.length = m.exps) ∧ (x_.2.2.2.length = m.exps.length + x_.1) ∧ (Rp pq g (Pm pm :: l) (secR 7 m.d s ⟨k, 0⟩) expR n1 x_.1 (x_.2.2.2.drop m.exps.length) (fun q => retR ({ m.d with exps := m.d.exps ++ q }, 0)) s x_.2.1) ∧ Sat g w_ ((Pt r (rC s x_.2.1) 108 :: Pt pm [m.vt, m.vm, m.vf, .int .i64 m.table, .int .i64 m.pages, .int .i64 m.most, m.vg, x_.2.2.1, .int .i64 m.start, m.ve, m.vd] 30 :: Sl 49 2 enSg m.vt m.types :: Sl 54 2 enIm m.vm m.imps :: Sl 61 3 enFn m.vf m.funcs :: Sl 66 3 enGl m.vg m.globals :: Sl 70 2 enIm x_.2.2.1 x_.2.2.2 :: Sl 75 2 enEl m.ve m.elems :: Sl 80 2 enDt m.vd m.data :: l))) (fun x_ => n1 - x_.1) ?_ ?_ ?_
  · repeat first | exact mt_nil | refine mt_cons rfl ?_ | refine mt_i rfl (by first | omega | (simp only; omega) | (simp; omega) | (simp; done)) ?_
  · try simp only
    refine ⟨?_, ?_⟩
    · omega
    refine ⟨?_, ?_⟩
    · assumption
    refine ⟨?_, ?_⟩
    · exact hm.exps
    refine ⟨?_, ?_⟩
    · exact List.take_length
    refine ⟨?_, ?_⟩
    · omega
    refine ⟨?_, ?_⟩
    · exact Rp.dn0 _ hR
    exact H
  clear H
  rintro ⟨i, kk, vt, ts⟩ f_ w_ ⟨hi, hkk, hts, htk, hl, hR, H⟩
  try simp only at hi hkk hts htk hl hR H ⊢
  rcases Nat.lt_or_ge i n1 with hlt | hge
  · have hI := Rn.start (hR.fst hlt (l' := Pm pm :: l))
    refine cT (vLt_T (by (simp; omega))) ?_
    refine bk ?_
    refine CallP.mk (Fc.imp (Go.Proofs.YtbbdfhgcmkljeaaGreatDoor.Brd.name H ?_ ?_ ?_ ?_) ?_)
    · assumption
    · assumption
    · assumption
    · exact hI.fst
    clear H
    rintro _ w2 ⟨t1, ⟨k'2, ⟨rfl, ⟨h4, ⟨h5, ⟨h6, H⟩⟩⟩⟩⟩⟩
    replace hI := hI.snd (by assumption)
    refine rBuild rfl rfl rfl ?_
    refine rAllocS H rfl ?_
    clear H
    intro p1 w3 H
    clear w2
    refine rStAS H 0 rfl rfl rfl rfl ?_
    clear H
    intro w2 H
    clear w3
    refine H.fronts [1] ?_
    clear H
    intro H
    refine CallP.mk (Fc.imp (Go.Proofs.YtbbdfhgcmkljeaaGreatDoor.Brd.fixed H ?_ ?_ _ _ ?_ ?_) ?_)
    · assumption
    · assumption
    · omega
    · exact hI.fst
    clear H
    rintro v' w3 ⟨k'3, ⟨h7, ⟨h8, H⟩⟩⟩
    replace hI := hI.snd (by assumption)
    refine CallP.mk (Fc.imp (Go.Proofs.YtbbdfhgcmkljeaaGreatDoor.Brd.numI H ?_ ?_ ?_) ?_)
    · assumption
    · assumption
    · exact hI.fst
    clear H
    rintro _ w4 ⟨n2, ⟨k'4, ⟨rfl, ⟨h9, ⟨⟨h10, h11⟩, ⟨h12, H⟩⟩⟩⟩⟩⟩
    replace hI := hI.snd (by assumption)
    refine rFieldAt rfl ?_
    refine rStS H 1 rfl rfl rfl rfl ?_
    clear H
    intro w5 H
    clear w4
    refine drawzS H [] [(0, .pure), (1, .pure), (2, .pure), (3, .pure), (4, .held), (5, .held), (6, .forced), (7, .free), (8, .pure), (9, .pure), (10, .free)] mixed (by kernel_rfl) (by kernel_rfl) ?_
    clear H
    intro w4 H
    clear w5
    refine tk (fun wx HS => rFieldAt rfl ⟨rfl, rfl⟩) ?_
    refine tk (fun wx HS => rLd (HS.at 2 rfl) 7 rfl rfl rfl ⟨rfl, rfl⟩) ?_
    refine tk (fun wx HS => rLdA (HS.at 1 rfl) 0 rfl rfl rfl ⟨rfl, rfl⟩) ?_
    refine rBuildSliceS H rfl rfl rfl rfl ?_
    clear H
    intro p2 w5 H
    clear w4
    refine KeepP.mk (H.drop 0 (fun H => H)) ?_
    refine rApS (ys := [⟨_, _⟩]) 24 H 8 rfl (H.at 0 rfl) rfl (fun y _ => rfl) rfl rfl rfl (by omega) (by omega) ?_
    intro v1
    clear H
    intro w4 H
    clear w5
    refine tk (fun wx HS => rFieldAt rfl ⟨rfl, rfl⟩) ?_
    refine rStS H 3 rfl rfl rfl (H.one 8 rfl) ?_
    clear H
    intro w5 H
    clear w4
    refine eqI64 (by omega) ?_
    refine Nxt.mk ((i + 1, k'4, v1, ts ++ [(t1, n2)])) (mt_i rfl (by first | omega | (simp only; omega) | (simp; omega)) (mt_nil)) ?_ ?_
    · refine ⟨?_, ?_⟩
      · (simp; omega)
      refine ⟨?_, ?_⟩
      · (simp; omega)
      refine ⟨?_, ?_⟩
      · exact snoc_all hts ⟨by simp only; omega, by constructor <;> (simp only; omega)⟩
      refine ⟨?_, ?_⟩
      · exact take_app htk (by omega)
      refine ⟨?_, ?_⟩
      · (simp; omega)
      refine ⟨?_, ?_⟩
      · exact hR.dn (by omega) hlt hI.e
      refine H.fronts [10, 10, 10, 10, 10, 10, 10, 10, 9] ?_
      clear H
      intro H
      refine H.drop 10 ?_
      clear H
      intro H
      refine H.drop 9 ?_
      clear H
      intro H
      exact H
    (simp; omega)
  replace hR := hR.fin hge
  refine cF (vLt_F (by omega)) ?_
  exact Done.mk ⟨g, { m with vx := vt, exps := ts }, 0, kk, rfl, hR.e.trans (by show ((({ m.d with exps := m.exps ++ ts.drop m.exps.length } : ModD), 0), _) = _; rw [both_is htk]; rfl), Ext.refl g, { hm.more (Nat.le_add_right N 16) with exps := hts, lx := by simp only; omega }, hkk, H⟩
theorem lat8_ (H : Sat g w (Pt r (rC s k) 108 :: Pt pm (enMd m) 30 :: Sl 49 2 enSg m.vt m.types :: Sl 54 2 enIm m.vm m.imps :: Sl 61 3 enFn m.vf m.funcs :: Sl 66 3 enGl m.vg m.globals :: Sl 70 2 enIm m.vx m.exps :: Sl 75 2 enEl m.ve m.elems :: Sl 80 2 enDt m.vd m.data :: l)) (hk : k ≤ s.length) (hs : s.length ≤ 4096) (hm : okE g m N) (hN : N ≤ 1000) (hq : Rq pq g (Pm pm :: l) (secR 8 m.d) s k) : Fc ⟨Tryz.prog, pq⟩ 90 #[.pointer (some ⟨r, 0, none⟩), .int .u8 8, .pointer (some ⟨pm, 0, none⟩)] w (fun _ w' => SecQ g l r pm s k 8 m N (.int .i64 0) w') := by
  refine Fc.of Tryz.func90 rfl (by kernel_rfl) ?_
  have hR := Rn.start hq
  rw [sec8] at hR
  refine bk ?_
  refine cF (vEq_F (by omega)) ?_
  refine cT (vEq_T (by omega)) ?_
  refine CallP.mk (Fc.imp (Go.Proofs.YtbbdfhgcmkljeaaGreatDoor.Brd.numI H ?_ ?_ ?_) ?_)
  · assumption
  · assumption
  · exact hR.fst
  clear H
  rintro _ w1 ⟨n1, ⟨k'1, ⟨rfl, ⟨h1, ⟨⟨h2, h3⟩, ⟨h4, H⟩⟩⟩⟩⟩⟩
  replace hR := hR.snd (by assumption)
  refine eqI64 (by omega) ?_
  refine rFieldAt rfl ?_
  refine rStS H 1 rfl rfl rfl rfl ?_
  clear H
  intro w2 H
  clear w1
  refine rFieldAt rfl ?_
  refine rLd (H.at 1 rfl) 8 rfl rfl rfl ?_
  refine CallP.mk (Fc.imp (Go.Proofs.YtbbdfhgcmkljeaaGreatDoor.Brd.throw H _ _ ?_) ?_)
  · exact fun h => hR.thr (by decide) (vLt_t h)
  clear H
  rintro v' w1 ⟨h5, H⟩
  replace hR := hR.nxt (by have := vLt_f (by assumption); omega)
  exact Done.mk ⟨g, { m with start := n1 + 1 }, 0, k'1, rfl, hR.e, Ext.refl g, { hm.more (Nat.le_add_right N 16) with start := ⟨by simp only; omega, by simp only; omega⟩ }, by assumption, H⟩
theorem take_no {n : Nat} (hq : Rq pq g l (takeR n) s k) (h : s.length - k < n) : Esc pq g 3 l := by
  have e : takeR n s ⟨k, 0⟩ = ([], ⟨k, 3⟩) := by unfold takeR; rw [if_neg (by simp), if_pos h]
  unfold Rq at hq
  rw [e] at hq
  exact hq (show (3 : Int) ≠ 0 by decide)
theorem take_ok {n : Nat} (h : k + n ≤ s.length) : takeR n s ⟨k, 0⟩ = (List.drop k (List.take (k + n) s), ⟨k + n, 0⟩) := by
  unfold takeR
  rw [if_neg (by simp), if_neg (by simp only; omega), List.drop_take, Nat.add_sub_cancel_left]
theorem lat11_ (H : Sat g w (Pt r (rC s k) 108 :: Pt pm (enMd m) 30 :: Sl 49 2 enSg m.vt m.types :: Sl 54 2 enIm m.vm m.imps :: Sl 61 3 enFn m.vf m.funcs :: Sl 66 3 enGl m.vg m.globals :: Sl 70 2 enIm m.vx m.exps :: Sl 75 2 enEl m.ve m.elems :: Sl 80 2 enDt m.vd m.data :: l)) (hk : k ≤ s.length) (hs : s.length ≤ 4096) (hm : okE g m N) (hN : N ≤ 1000) (hq : Rq pq g (Pm pm :: l) (secR 11 m.d) s k) : Fc ⟨Tryz.prog, pq⟩ 90 #[.pointer (some ⟨r, 0, none⟩), .int .u8 11, .pointer (some ⟨pm, 0, none⟩)] w (fun _ w' => SecQ g l r pm s k 11 m N (.int .i64 0) w') := by
  refine Fc.of Tryz.func90 rfl (by kernel_rfl) ?_
  have hR := Rn.start hq
  rw [sec11] at hR
  have l1 := hm.ld
  refine bk ?_
  refine cF (vEq_F (by omega)) ?_
  refine cF (vEq_F (by omega)) ?_
  refine cF (vEq_F (by omega)) ?_
  refine cT (vEq_T (by omega)) ?_
  refine CallP.mk (Fc.imp (Go.Proofs.YtbbdfhgcmkljeaaGreatDoor.Brd.count H ?_ ?_ _ (4) ?_ ?_) ?_)
  · assumption
  · assumption
  · omega
  · exact hR.list.fst
  clear H
  rintro _ w1 ⟨n1, ⟨k'1, ⟨rfl, ⟨h1, ⟨h2, ⟨h3, H⟩⟩⟩⟩⟩⟩
  replace hR := hR.list.snd (by assumption)
  refine LoopP.rule (α := Nat × Nat × Value × List (Int × List UInt8)) (0, k'1, m.vd, m.data) (fun x_ => [(87, .int .i64 x_.1)]) (fun x_ w_ => (x_.1 ≤ n1) ∧ (x_.2.1 ≤ s.length) ∧ (∀ x ∈ x_.2.2.2, okDt x) ∧ (x_.2.2.2.take m.data.length = m.data) ∧ (x_.2.2.2.length = m.data.length + x_.1) ∧ (Rp pq g (Pm pm :: l) (secR 11 m.d s ⟨k, 0⟩) datR n1 x_.1 (x_.2.2.2.drop m.data.length) (fun q => retR ({ m.d with data := m.d.data ++ q }, 0)) s x_.2.1) ∧ Sat g w_ ((Pt r (rC s x_.2.1) 108 :: Pt pm [m.vt, m.vm, m.vf, .int .i64 m.table, .int .i64 m.pages, .int .i64 m.most, m.vg, m.vx, .int .i64 m.start, m.ve, x_.2.2.1] 30 :: Sl 49 2 enSg m.vt m.types :: Sl 54 2 enIm m.vm m.imps :: Sl 61 3 enFn m.vf m.funcs :: Sl 66 3 enGl m.vg m.globals :: Sl 70 2 enIm m.vx m.exps :: Sl 75 2 enEl m.ve m.elems :: Sl 80 2 enDt x_.2.2.1 x_.2.2.2 :: l))) (fun x_ => n1 - x_.1) ?_ ?_ ?_
  · repeat first | exact mt_nil | refine mt_cons rfl ?_ | refine mt_i rfl (by first | omega | (simp only; omega) | (simp; omega) | (simp; done)) ?_
  · try simp only
    refine ⟨?_, ?_⟩
    · omega
    refine ⟨?_, ?_⟩
    · assumption
    refine ⟨?_, ?_⟩
    · exact hm.data
    refine ⟨?_, ?_⟩
    · exact List.take_length
    refine ⟨?_, ?_⟩
    · omega
    refine ⟨?_, ?_⟩
    · exact Rp.dn0 _ hR
    exact H
  clear H
  rintro ⟨i, kk, vt, ts⟩ f_ w_ ⟨hi, hkk, hts, htk, hl, hR, H⟩
  try simp only at hi hkk hts htk hl hR H ⊢
  rcases Nat.lt_or_ge i n1 with hlt | hge
  · have hI := Rn.start (hR.fst hlt (l' := Pm pm :: l))
    refine cT (vLt_T (by (simp; omega))) ?_
    refine bk ?_
    refine CallP.mk (Fc.imp (Go.Proofs.YtbbdfhgcmkljeaaGreatDoor.Brd.place H ?_ ?_ ?_) ?_)
    · assumption
    · assumption
    · exact hI.fst
    clear H
    rintro _ w2 ⟨n2, ⟨k'2, ⟨rfl, ⟨h4, ⟨h5, ⟨h6, H⟩⟩⟩⟩⟩⟩
    replace hI := hI.snd (by assumption)
    refine rBuild rfl rfl rfl ?_
    refine rAllocS H rfl ?_
    clear H
    intro p1 w3 H
    clear w2
    refine rStAS H 0 rfl rfl rfl rfl ?_
    clear H
    intro w2 H
    clear w3
    refine H.fronts [1] ?_
    clear H
    intro H
    refine CallP.mk (Fc.imp (Go.Proofs.YtbbdfhgcmkljeaaGreatDoor.Brd.count H ?_ ?_ _ (64) ?_ ?_) ?_)
    · assumption
    · assumption
    · omega
    · exact hI.fst
    clear H
    rintro _ w3 ⟨n3, ⟨k'3, ⟨rfl, ⟨h7, ⟨h8, ⟨h9, H⟩⟩⟩⟩⟩⟩
    replace hI := hI.snd (by assumption)
    refine drawzS H [] [(0, .pure), (1, .pure), (2, .pure), (3, .pure), (4, .pure), (5, .held), (6, .pure), (7, .pure), (8, .pure), (9, .pure), (10, .held), (11, .pure), (12, .pure), (13, .free)] mixed (by kernel_rfl) (by kernel_rfl) ?_
    clear H
    intro w4 H
    clear w3
    refine tk (fun wx HS => rFieldAt rfl ⟨rfl, rfl⟩) ?_
    refine tk (fun wx HS => rLd (HS.at 0 rfl) 0 rfl rfl rfl ⟨rfl, rfl⟩) ?_
    refine tk (fun wx HS => rLenStr rfl ⟨rfl, rfl⟩) ?_
    refine tk (fun wx HS => rFieldAt rfl ⟨rfl, rfl⟩) ?_
    refine tk (fun wx HS => rLd (HS.at 0 rfl) 1 rfl rfl rfl ⟨rfl, rfl⟩) ?_
    refine eqI64 (by omega) ?_
    refine CallP.mk (Fc.imp (Go.Proofs.YtbbdfhgcmkljeaaGreatDoor.Brd.throw H _ _ ?_) ?_)
    · exact fun h => take_no (l := _) hI.fst (by have := vLt_t h; omega)
    clear H
    rintro v' w3 ⟨h10, H⟩
    have hm3 := vLt_f (by assumption)
    replace hI := hI.snd (take_ok (by omega))
    refine drawzS H [] [(0, .pure), (1, .pure), (2, .pure), (3, .held), (4, .pure), (5, .pure), (6, .pure), (7, .held), (8, .pure), (9, .pure), (10, .pure), (11, .held), (12, .pure), (13, .pure), (14, .pure), (15, .pure), (16, .free)] mixed (by kernel_rfl) (by kernel_rfl) ?_
    clear H
    intro w5 H
    clear w3
    refine tk (fun wx HS => rFieldAt rfl ⟨rfl, rfl⟩) ?_
    refine tk (fun wx HS => rLd (HS.at 0 rfl) 0 rfl rfl rfl ⟨rfl, rfl⟩) ?_
    refine tk (fun wx HS => rFieldAt rfl ⟨rfl, rfl⟩) ?_
    refine tk (fun wx HS => rLd (HS.at 0 rfl) 1 rfl rfl rfl ⟨rfl, rfl⟩) ?_
    refine tk (fun wx HS => rFieldAt rfl ⟨rfl, rfl⟩) ?_
    refine tk (fun wx HS => rLd (HS.at 0 rfl) 1 rfl rfl rfl ⟨rfl, rfl⟩) ?_
    refine eqI64 (by omega) ?_
    refine tk (fun wx HS => rSub rfl (k'3) ((k'3) + (n3)) (by omega) (by omega) (by omega) (by omega) ⟨rfl, rfl⟩) ?_
    refine tk (fun wx HS => rFieldAt rfl ⟨rfl, rfl⟩) ?_
    refine rStS H 1 rfl rfl rfl rfl ?_
    clear H
    intro w3 H
    clear w5
    refine rFieldAt rfl ?_
    refine rLd (H.at 0 rfl) 1 rfl rfl rfl ?_
    refine eqI64 (by omega) ?_
    refine rFieldAt rfl ?_
    refine rStS H 0 rfl rfl rfl rfl ?_
    clear H
    intro w5 H
    clear w3
    refine drawzS H [] [(0, .pure), (1, .pure), (2, .pure), (3, .pure), (4, .held), (5, .held), (6, .forced), (7, .free), (8, .pure), (9, .pure), (10, .free)] mixed (by kernel_rfl) (by kernel_rfl) ?_
    clear H
    intro w3 H
    clear w5
    refine tk (fun wx HS => rFieldAt rfl ⟨rfl, rfl⟩) ?_
    refine tk (fun wx HS => rLd (HS.at 2 rfl) 10 rfl rfl rfl ⟨rfl, rfl⟩) ?_
    refine tk (fun wx HS => rLdA (HS.at 1 rfl) 0 rfl rfl rfl ⟨rfl, rfl⟩) ?_
    refine rBuildSliceS H rfl rfl rfl rfl ?_
    clear H
    intro p2 w5 H
    clear w3
    refine KeepP.mk (H.drop 0 (fun H => H)) ?_
    refine rApS (ys := [⟨_, _⟩]) 24 H 10 rfl (H.at 0 rfl) rfl (fun y _ => rfl) rfl rfl rfl (by omega) (by omega) ?_
    intro v1
    clear H
    intro w3 H
    clear w5
    refine tk (fun wx HS => rFieldAt rfl ⟨rfl, rfl⟩) ?_
    refine rStS H 3 rfl rfl rfl (H.one 10 rfl) ?_
    clear H
    intro w5 H
    clear w3
    refine eqI64 (by omega) ?_
    refine Nxt.mk ((i + 1, k'3 + n3, v1, ts ++ [(n2, List.drop k'3 (List.take (k'3 + n3) s))])) (mt_i rfl (by first | omega | (simp only; omega) | (simp; omega)) (mt_nil)) ?_ ?_
    · refine ⟨?_, ?_⟩
      · (simp; omega)
      refine ⟨?_, ?_⟩
      · (simp; omega)
      refine ⟨?_, ?_⟩
      · exact snoc_all hts ⟨by assumption, by simp only [List.length_drop, List.length_take]; omega⟩
      refine ⟨?_, ?_⟩
      · exact take_app htk (by omega)
      refine ⟨?_, ?_⟩
      · (simp; omega)
      refine ⟨?_, ?_⟩
      · exact hR.dn (by omega) hlt hI.e
      refine H.fronts [10, 10, 10, 10, 10, 10, 10, 10, 9] ?_
      clear H
      intro H
      refine H.drop 10 ?_
      clear H
      intro H
      refine H.drop 9 ?_
      clear H
      intro H
      exact H
    (simp; omega)
  replace hR := hR.fin hge
  refine cF (vLt_F (by omega)) ?_
  exact Done.mk ⟨g, { m with vd := vt, data := ts }, 0, kk, rfl, hR.e.trans (by show ((({ m.d with data := m.data ++ ts.drop m.data.length } : ModD), 0), _) = _; rw [both_is htk]; rfl), Ext.refl g, { hm.more (Nat.le_add_right N 16) with data := hts, ld := by simp only; omega }, hkk, H⟩
end
end Go.Proofs.YtbbdfhgcmkljeaaGreatDoor.Brd
/- Package bin: the section of parts of the table. -/
set_option maxRecDepth 100000
set_option maxHeartbeats 4000000
set_option linter.unusedVariables false
set_option linter.unusedSimpArgs false
namespace Go.Proofs.YtbbdfhgcmkljeaaGreatDoor.Brd
open Go Go.Proofs.YtbbdfhgcmkljeaaGreatDoor.Eng Go.RowKit
open Ins Nest Leb Txt
open Bin (kindE SigV SigD FunV FunD ElV ModV ModD okSg okIm okFn okGl okEl okDt enSg enIm enFn enGl enEl enDt enMd)
section
variable {g : Glob} {w : World} {l : List As} {r pm k N : Nat} {s : List UInt8} {pq : List PanicEntry → World → Prop} {m : ModV}
theorem lat9_ (H : Sat g w (Pt r (rC s k) 108 :: Pt pm (enMd m) 30 :: Sl 49 2 enSg m.vt m.types :: Sl 54 2 enIm m.vm m.imps :: Sl 61 3 enFn m.vf m.funcs :: Sl 66 3 enGl m.vg m.globals :: Sl 70 2 enIm m.vx m.exps :: Sl 75 2 enEl m.ve m.elems :: Sl 80 2 enDt m.vd m.data :: l)) (hk : k ≤ s.length) (hs : s.length ≤ 4096) (hm : okE g m N) (hN : N ≤ 1000) (hq : Rq pq g (Pm pm :: l) (secR 9 m.d) s k) : Fc ⟨Tryz.prog, pq⟩ 90 #[.pointer (some ⟨r, 0, none⟩), .int .u8 9, .pointer (some ⟨pm, 0, none⟩)] w (fun _ w' => SecQ g l r pm s k 9 m N (.int .i64 0) w') := by
  refine Fc.of Tryz.func90 rfl (by kernel_rfl) ?_
  have hR := Rn.start hq
  rw [sec9] at hR
  have l1 := hm.le
  refine bk ?_
  refine cF (vEq_F (by omega)) ?_
  refine cF (vEq_F (by omega)) ?_
  refine cT (vEq_T (by omega)) ?_
  refine CallP.mk (Fc.imp (Go.Proofs.YtbbdfhgcmkljeaaGreatDoor.Brd.count H ?_ ?_ _ (4) ?_ ?_) ?_)
  · assumption
  · assumption
  · omega
  · exact hR.list.fst
  clear H
  rintro _ w1 ⟨n1, ⟨k'1, ⟨rfl, ⟨h1, ⟨h2, ⟨h3, H⟩⟩⟩⟩⟩⟩
  replace hR := hR.list.snd (by assumption)
  refine LoopP.rule (α := Glob × Nat × Nat × Value × List ElV) (g, 0, k'1, m.ve, m.elems) (fun x_ => [(55, .int .i64 x_.2.1)]) (fun x_ w_ => (Ext g x_.1) ∧ (x_.2.1 ≤ n1) ∧ (x_.2.2.1 ≤ s.length) ∧ (∀ x ∈ x_.2.2.2.2, okEl x_.1 x) ∧ (x_.2.2.2.2.take m.elems.length = m.elems) ∧ (x_.2.2.2.2.length = m.elems.length + x_.2.1) ∧ (Rp pq x_.1 (Pm pm :: l) (secR 9 m.d s ⟨k, 0⟩) elR n1 x_.2.1 ((x_.2.2.2.2.drop m.elems.length).map ElV.d) (fun q => retR ({ m.d with elems := m.d.elems ++ q }, 0)) s x_.2.2.1) ∧ Sat x_.1 w_ ((Pt r (rC s x_.2.2.1) 108 :: Pt pm [m.vt, m.vm, m.vf, .int .i64 m.table, .int .i64 m.pages, .int .i64 m.most, m.vg, m.vx, .int .i64 m.start, x_.2.2.2.1, m.vd] 30 :: Sl 49 2 enSg m.vt m.types :: Sl 54 2 enIm m.vm m.imps :: Sl 61 3 enFn m.vf m.funcs :: Sl 66 3 enGl m.vg m.globals :: Sl 70 2 enIm m.vx m.exps :: Sl 75 2 enEl x_.2.2.2.1 x_.2.2.2.2 :: Sl 80 2 enDt m.vd m.data :: l))) (fun x_ => n1 - x_.2.1) ?_ ?_ ?_
  · repeat first | exact mt_nil | refine mt_cons rfl ?_ | refine mt_i rfl (by first | omega | (simp only; omega) | (simp; omega) | (simp; done)) ?_
  · try simp only
    refine ⟨?_, ?_⟩
    · exact Ext.refl _
    refine ⟨?_, ?_⟩
    · omega
    refine ⟨?_, ?_⟩
    · assumption
    refine ⟨?_, ?_⟩
    · exact hm.elems
    refine ⟨?_, ?_⟩
    · exact List.take_length
    refine ⟨?_, ?_⟩
    · omega
    refine ⟨?_, ?_⟩
    · exact Rp.dm0 _ _ hR
    exact H
  clear H
  rintro ⟨gg, i, kk, vt, ts⟩ f_ w_ ⟨hE, hi, hkk, hts, htk, hl, hR, H⟩
  try simp only at hE hi hkk hts htk hl hR H ⊢
  rcases Nat.lt_or_ge i n1 with hlt | hge
  · have hI := Rn.start (hR.fst hlt (l' := Pm pm :: l))
    replace H := H.sl0 (en := enI) (s := 1) 3 (fun _ => rfl)
    refine cT (vLt_T (by omega)) ?_
    refine bk ?_
    refine H.fronts [1] ?_
    clear H
    intro H
    refine CallP.mk (Fc.imp (Go.Proofs.YtbbdfhgcmkljeaaGreatDoor.Brd.place H ?_ ?_ ?_) ?_)
    · assumption
    · assumption
    · exact hI.fst
    clear H
    rintro _ w2 ⟨n2, ⟨k'2, ⟨rfl, ⟨h4, ⟨h5, ⟨h6, H⟩⟩⟩⟩⟩⟩
    replace hI := hI.snd (by assumption)
    refine rBuild rfl rfl rfl ?_
    refine rAllocS H rfl ?_
    clear H
    intro p1 w3 H
    clear w2
    refine rStAS H 0 rfl rfl rfl rfl ?_
    clear H
    intro w2 H
    clear w3
    refine H.fronts [1] ?_
    clear H
    intro H
    refine CallP.mk (Fc.imp (Go.Proofs.YtbbdfhgcmkljeaaGreatDoor.Brd.count H ?_ ?_ _ (16) ?_ ?_) ?_)
    · assumption
    · assumption
    · omega
    · exact hI.list.fst
    clear H
    rintro _ w3 ⟨n3, ⟨k'3, ⟨rfl, ⟨h7, ⟨h8, ⟨h9, H⟩⟩⟩⟩⟩⟩
    replace hI := hI.list.snd (by assumption)
    refine LoopP.rule (α := Nat × Nat × Value × List Int) (0, k'3, .slice none 0 0, []) (fun x_ => [(62, .int .i64 x_.1)]) (fun x_ w_ => (x_.1 ≤ n3) ∧ (x_.2.1 ≤ s.length) ∧ (∀ x ∈ x_.2.2.2, I64 x) ∧ (x_.2.2.2.length = x_.1) ∧ (Rp pq gg (Pm pm :: l) (elR s ⟨kk, 0⟩) plainR n3 x_.1 x_.2.2.2 (fun q => retR (n2, q)) s x_.2.1) ∧ Sat gg w_ ((Pt p1 [.int .i64 n2, x_.2.2.1] 75 :: Sl 3 1 enI x_.2.2.1 x_.2.2.2 :: Pt r (rC s x_.2.1) 108 :: Pt pm [m.vt, m.vm, m.vf, .int .i64 m.table, .int .i64 m.pages, .int .i64 m.most, m.vg, m.vx, .int .i64 m.start, vt, m.vd] 30 :: Sl 49 2 enSg m.vt m.types :: Sl 54 2 enIm m.vm m.imps :: Sl 61 3 enFn m.vf m.funcs :: Sl 66 3 enGl m.vg m.globals :: Sl 70 2 enIm m.vx m.exps :: Sl 75 2 enEl vt ts :: Sl 80 2 enDt m.vd m.data :: l))) (fun x_ => n3 - x_.1) ?_ ?_ ?_
    · repeat first | exact mt_nil | refine mt_cons rfl ?_ | refine mt_i rfl (by first | omega | (simp only; omega) | (simp; omega) | (simp; done)) ?_
    · try simp only
      refine ⟨?_, ?_⟩
      · omega
      refine ⟨?_, ?_⟩
      · assumption
      refine ⟨?_, ?_⟩
      · nofun
      refine ⟨?_, ?_⟩
      · rfl
      refine ⟨?_, ?_⟩
      · exact hI.rep0
      refine H.fronts [10, 10, 10, 10, 10, 10, 10, 10, 8, 10, 10] ?_
      clear H
      intro H
      exact H
    clear H
    rintro ⟨j, k3, vi, ys⟩ f_ w_ ⟨hj, hk3, hys, hyl, hI, H⟩
    try simp only at hj hk3 hys hyl hI H ⊢
    rcases Nat.lt_or_ge j n3 with hlj | hgj
    · refine cT (vLt_T (by (simp; omega))) ?_
      refine bk ?_
      refine drawzS H [2] [(0, .pure), (1, .held), (2, .pure), (3, .forced), (4, .forced), (5, .free), (6, .pure), (7, .free)] mixed (by kernel_rfl) (by kernel_rfl) ?_
      clear H
      intro w4 H
      clear w_
      refine tk (fun wx HS => rFieldAt rfl ⟨rfl, rfl⟩) ?_
      refine tk (fun wx HS => rLd (HS.at 0 rfl) 1 rfl rfl rfl ⟨rfl, rfl⟩) ?_
      refine H.fronts [2] ?_
      clear H
      intro H
      refine CallP.mk (Fc.imp (Go.Proofs.YtbbdfhgcmkljeaaGreatDoor.Brd.numI H ?_ ?_ ?_) ?_)
      · assumption
      · assumption
      · exact hI.fst hlj
      clear H
      rintro _ w5 ⟨n4, ⟨k'4, ⟨rfl, ⟨h10, ⟨⟨h11, h12⟩, ⟨h13, H⟩⟩⟩⟩⟩⟩
      refine KeepP.mk (H.drop 0 (fun H => H)) ?_
      refine rBuildSliceS H rfl rfl rfl rfl ?_
      clear H
      intro p2 w6 H
      clear w5
      refine KeepP.mk (H.drop 1 (fun H => H.drop 0 (fun H => H))) ?_
      refine rApS (ys := [_]) 8 H 3 rfl (H.at 0 rfl) rfl (fun y _ => rfl) rfl rfl rfl (by omega) (by omega) ?_
      intro v1
      clear H
      intro w5 H
      clear w6
      refine tk (fun wx HS => rFieldAt rfl ⟨rfl, rfl⟩) ?_
      refine rStS H 2 rfl rfl rfl (H.one 3 rfl) ?_
      clear H
      intro w6 H
      clear w5
      refine eqI64 (by omega) ?_
      refine Nxt.mk ((j + 1, k'4, v1, ys ++ [n4])) (mt_i rfl (by first | omega | (simp only; omega) | (simp; omega)) (mt_nil)) ?_ ?_
      · refine ⟨?_, ?_⟩
        · (simp; omega)
        refine ⟨?_, ?_⟩
        · (simp; omega)
        refine ⟨?_, ?_⟩
        · exact snoc_all hys (by constructor <;> omega)
        refine ⟨?_, ?_⟩
        · (simp; omega)
        refine ⟨?_, ?_⟩
        · exact hI.snd hlj (by assumption)
        refine H.fronts [11, 11, 11, 11, 11, 11, 11, 11, 9, 11, 11] ?_
        clear H
        intro H
        refine H.drop 11 ?_
        clear H
        intro H
        exact H
      (simp; omega)
    replace hI := hI.fin hgj
    refine cF (vLt_F (by omega)) ?_
    refine drawzS H [] [(0, .pure), (1, .pure), (2, .pure), (3, .pure), (4, .held), (5, .held), (6, .forced), (7, .free), (8, .pure), (9, .pure), (10, .free)] mixed (by kernel_rfl) (by kernel_rfl) ?_
    clear H
    intro w4 H
    clear w_
    refine tk (fun wx HS => rFieldAt rfl ⟨rfl, rfl⟩) ?_
    refine tk (fun wx HS => rLd (HS.at 3 rfl) 9 rfl rfl rfl ⟨rfl, rfl⟩) ?_
    refine tk (fun wx HS => rLdA (HS.at 0 rfl) 0 rfl rfl rfl ⟨rfl, rfl⟩) ?_
    refine rBuildSliceS H rfl rfl rfl rfl ?_
    clear H
    intro p2 w5 H
    clear w4
    refine KeepP.mk (H.drop 0 (fun H => H)) ?_
    refine rApS (ys := [⟨n2, vi, ys⟩]) 32 H 10 rfl (H.at 0 rfl) rfl (fun y hy => by rw [List.mem_singleton.1 hy]; simp only [Go.Proofs.YtbbdfhgcmkljeaaGreatDoor.Bin.enEl, List.all_cons, List.all_nil, H.one 2 rfl, H.one 5 rfl, H.one 6 rfl, H.one 7 rfl, H.one 8 rfl, H.one 9 rfl, H.one 10 rfl, H.one 11 rfl]; rfl) rfl rfl rfl (by omega) (by omega) ?_
    intro v1
    clear H
    intro w4 H
    clear w5
    refine tk (fun wx HS => rFieldAt rfl ⟨rfl, rfl⟩) ?_
    refine rStS H 4 rfl rfl rfl (H.one 10 rfl) ?_
    clear H
    intro w5 H
    clear w4
    refine eqI64 (by omega) ?_
    refine H.frz1 2 okI rfl hys ?_
    intro g1 E1 h1 H
    refine Nxt.mk ((g1, i + 1, k3, v1, ts ++ [{ pl := n2, vf := vi, fs := ys }])) (mt_i rfl (by first | omega | (simp only; omega) | (simp; omega)) (mt_nil)) ?_ ?_
    · refine ⟨?_, ?_⟩
      · exact hE.trans E1
      refine ⟨?_, ?_⟩
      · (simp; omega)
      refine ⟨?_, ?_⟩
      · (simp; omega)
      refine ⟨?_, ?_⟩
      · exact snoc_all (fun x hx => okEl_x (hts x hx) E1) ⟨by assumption, h1⟩
      refine ⟨?_, ?_⟩
      · exact take_app htk (by omega)
      refine ⟨?_, ?_⟩
      · (simp; omega)
      refine ⟨?_, ?_⟩
      · exact (hR.ext E1).dm (by omega) hlt hI.e
      refine H.fronts [10, 10, 10, 10, 10, 10, 10, 10, 10] ?_
      clear H
      intro H
      refine H.drop 10 ?_
      clear H
      intro H
      refine H.drop 9 ?_
      clear H
      intro H
      exact H
    (simp; omega)
  replace hR := hR.fin hge
  refine cF (vLt_F (by omega)) ?_
  exact Done.mk ⟨gg, { m with ve := vt, elems := ts }, 0, kk, rfl, hR.e.trans (by show ((({ m.d with elems := m.elems.map ElV.d ++ (ts.drop m.elems.length).map ElV.d } : ModD), 0), _) = _; rw [both_map htk]; rfl), hE, { (hm.ext hE).more (Nat.le_add_right N 16) with elems := hts, le := by simp only; omega }, hkk, H⟩
end
end Go.Proofs.YtbbdfhgcmkljeaaGreatDoor.Brd
/- Package bin: the section of codes. -/
set_option maxRecDepth 100000
set_option maxHeartbeats 4000000
set_option linter.unusedVariables false
set_option linter.unusedSimpArgs false
namespace Go.Proofs.YtbbdfhgcmkljeaaGreatDoor.Brd
open Go Go.Proofs.YtbbdfhgcmkljeaaGreatDoor.Eng Go.RowKit
open Ins Nest Leb Txt
open Bin (kindE SigV SigD FunV FunD ElV ModV ModD okSg okIm okFn okGl okEl okDt enSg enIm enFn enGl enEl enDt enMd)
section
variable {g : Glob} {w : World} {l : List As} {r pm k N : Nat} {s : List UInt8} {pq : List PanicEntry → World → Prop} {m : ModV}
theorem setC_lt : ∀ (l : List FunD) (cs : List (List Int × List InsD)) (c : List Int × List InsD) (x : FunD), (setC l cs)[cs.length]? = some x → setC l (cs ++ [c]) = (setC l cs).set cs.length ⟨x.ty, c.1, c.2⟩
  | [], [], _, _, h => by cases h
  | [], _ :: _, _, _, h => by cases h
  | f :: r, [], c, x, h => by
    have e : f = x := by simpa [setC] using h
    subst e
    cases r <;> rfl
  | f :: r, d :: q, c, x, h => by
    have h' : (setC r q)[q.length]? = some x := by simpa [setC] using h
    show _ :: setC r (q ++ [c]) = _
    rw [setC_lt r q c x h']
    rfl
theorem setC_ge : ∀ (l : List FunD) (cs : List (List Int × List InsD)) (c : List Int × List InsD), l.length ≤ cs.length → setC l (cs ++ [c]) = setC l cs
  | [], [], _, _ => rfl
  | [], _ :: _, _, _ => rfl
  | f :: r, [], c, h => by simp at h
  | f :: r, d :: q, c, h => by
    show _ :: setC r (q ++ [c]) = _ :: setC r q
    rw [setC_ge r q c (by simpa using h)]
section
variable {γ : Type} {W : γ × RS} {l' : List As}
theorem loc_at {n i : Nat} (hi : i < n) (acc : List Int) : locR (n - i) acc = bindR plainR fun c => bindR kindR fun k => bindR (throwR ((16 : Int) - acc.length < c) 2) fun _ => locR (n - (i + 1)) (acc ++ List.replicate c.toNat k) := by
  obtain ⟨q, hq⟩ : ∃ q, n - i = q + 1 := ⟨n - i - 1, by omega⟩
  rw [hq, show n - (i + 1) = q by omega]; rfl
/-- So many groups are read. -/
def Rl (pq : List PanicEntry → World → Prop) (g : Glob) (l : List As) (W : γ × RS) (n i : Nat) (acc : List Int) (F : List Int → Rdr γ) (s : List UInt8) (k : Nat) : Prop := Rn pq g l W (bindR (locR (n - i) acc) F) s k
theorem Rn.loc0 {n : Nat} {f : List Int → Rdr γ} (h : Rn pq g l W (bindR (locR n []) f) s k) : Rl pq g l W n 0 [] f s k := h
theorem Rl.ext {n i : Nat} {acc : List Int} {f : List Int → Rdr γ} {g' : Glob} (h : Rl pq g l W n i acc f s k) (E : Ext g g') : Rl pq g' l W n i acc f s k := Rn.ext h E
theorem Rl.nx {n i : Nat} {acc : List Int} {f : List Int → Rdr γ} (h : Rl pq g l W n i acc f s k) (hi : i < n) : Rn pq g l W (bindR plainR fun c => bindR kindR fun k => bindR (throwR ((16 : Int) - acc.length < c) 2) fun _ => bindR (locR (n - (i + 1)) (acc ++ List.replicate c.toNat k)) f) s k := by
  unfold Rl at h
  rw [loc_at hi] at h
  exact h
theorem Rl.fin {n i : Nat} {acc : List Int} {f : List Int → Rdr γ} (h : Rl pq g l W n i acc f s k) (hi : n ≤ i) : Rn pq g l W (f acc) s k := by
  unfold Rl at h
  rw [show n - i = 0 by omega] at h
  exact h
end
def codeI : Rdr (List Int × List InsD) := bindR (countR 16) fun n => bindR (locR n []) fun l => bindR bodyR fun b => retR (l, b)
instance : Sc codeI := ⟨Strict.bind (Strict.count _) fun _ => Strict.bind (Strict.loc _ _) fun _ => Strict.bind Strict.body fun _ => .ret _⟩
theorem rep_U8 {lo : List Int} {n : Nat} {c : Int} (h : ∀ x ∈ lo, U8 x) (hc : U8 c) : ∀ x ∈ lo ++ List.replicate n c, U8 x := fun x hx => by
  rcases List.mem_append.1 hx with h1 | h1
  · exact h x h1
  · rw [(List.mem_replicate.1 h1).2]; exact hc
theorem body_no {b : List InsD} {n : Nat} {e : Int} (h : rdB (s.drop k) = (b, n, e)) (hq : Rq pq g l bodyR s k) (hb : vNe e 0 = true) : Esc pq g e l := by
  have e1 : bodyR s ⟨k, 0⟩ = (b, ⟨k + n, e⟩) := by unfold bodyR; rw [if_neg (by simp)]; simp only [h]
  unfold Rq at hq
  rw [e1] at hq
  exact hq (vNe_t hb)
theorem body_ok {b : List InsD} {n : Nat} {e : Int} (h : rdB (s.drop k) = (b, n, e)) (hb : vNe e 0 = false) : bodyR s ⟨k, 0⟩ = (b, ⟨k + n, 0⟩) := by
  unfold bodyR; rw [if_neg (by simp)]; simp only [h, vNe_f hb]
theorem codes_ (H : Sat g w (Pt r (rC s k) 108 :: Pt pm (enMd m) 30 :: Sl 49 2 enSg m.vt m.types :: Sl 54 2 enIm m.vm m.imps :: Sl 61 3 enFn m.vf m.funcs :: Sl 66 3 enGl m.vg m.globals :: Sl 70 2 enIm m.vx m.exps :: Sl 75 2 enEl m.ve m.elems :: Sl 80 2 enDt m.vd m.data :: l)) (hk : k ≤ s.length) (hs : s.length ≤ 4096) (hm : okE g m N) (hN : N ≤ 1000) (hq : Rq pq g (Pm pm :: l) (secR 10 m.d) s k) : Fc ⟨Tryz.prog, pq⟩ 89 #[.pointer (some ⟨r, 0, none⟩), .pointer (some ⟨pm, 0, none⟩)] w (SecQ g l r pm s k 10 m N) := by
  refine Fc.of Tryz.func89 rfl (by kernel_rfl) ?_
  have hR := Rn.start hq
  rw [sec10] at hR
  have l1 := hm.lf
  refine CallP.mk (Fc.imp (Go.Proofs.YtbbdfhgcmkljeaaGreatDoor.Brd.count H ?_ ?_ _ (16) ?_ ?_) ?_)
  · assumption
  · assumption
  · omega
  · exact hR.list.fst
  clear H
  rintro _ w1 ⟨n1, ⟨k'1, ⟨rfl, ⟨h1, ⟨h2, ⟨h3, H⟩⟩⟩⟩⟩⟩
  replace hR := hR.list.snd (by assumption)
  refine LoopP.rule (α := Glob × Nat × Nat × List FunV) (g, 0, k'1, m.funcs) (fun x_ => [(17, .int .i64 x_.2.1)]) (fun x_ w_ => (Ext g x_.1) ∧ (x_.2.1 ≤ n1) ∧ (x_.2.2.1 ≤ s.length) ∧ (∀ x ∈ x_.2.2.2, okFn x_.1 x) ∧ (x_.2.2.2.length = m.funcs.length) ∧ (∃ cs : List (List Int × List InsD), cs.length = x_.2.1 ∧ x_.2.2.2.map FunV.d = setC m.d.funcs cs ∧ Rp pq x_.1 (Pm pm :: l) (secR 10 m.d s ⟨k, 0⟩) codeR n1 x_.2.1 cs (fun q => retR ({ m.d with funcs := setC m.d.funcs q }, q.length)) s x_.2.2.1) ∧ Sat x_.1 w_ ((Pt r (rC s x_.2.2.1) 108 :: Pt pm [m.vt, m.vm, m.vf, .int .i64 m.table, .int .i64 m.pages, .int .i64 m.most, m.vg, m.vx, .int .i64 m.start, m.ve, m.vd] 30 :: Sl 49 2 enSg m.vt m.types :: Sl 54 2 enIm m.vm m.imps :: Sl 61 3 enFn m.vf x_.2.2.2 :: Sl 66 3 enGl m.vg m.globals :: Sl 70 2 enIm m.vx m.exps :: Sl 75 2 enEl m.ve m.elems :: Sl 80 2 enDt m.vd m.data :: l))) (fun x_ => n1 - x_.2.1) ?_ ?_ ?_
  · repeat first | exact mt_nil | refine mt_cons rfl ?_ | refine mt_i rfl (by first | omega | (simp only; omega) | (simp; omega) | (simp; done)) ?_
  · try simp only
    refine ⟨?_, ?_⟩
    · exact Ext.refl _
    refine ⟨?_, ?_⟩
    · omega
    refine ⟨?_, ?_⟩
    · assumption
    refine ⟨?_, ?_⟩
    · exact hm.funcs
    refine ⟨?_, ?_⟩
    · (constructor <;> omega)
    refine ⟨?_, ?_⟩
    · exact ⟨[], rfl, by cases hc : m.funcs <;> simp [setC, ModV.d, hc], hR.rep0⟩
    exact H
  clear H
  rintro ⟨gg, i, kk, fs⟩ f_ w_ ⟨hE, hi, hkk, hfs, hl, hC, H⟩
  try simp only at hE hi hkk hfs hl hC H ⊢
  rcases Nat.lt_or_ge i n1 with hlt | hge
  · obtain ⟨cs, hcl, hcs, hR⟩ := hC
    have hN := hR.nx hlt
    refine cT (vLt_T (by omega)) ?_
    refine bk ?_
    refine CallP.mk (Fc.imp (Go.Proofs.YtbbdfhgcmkljeaaGreatDoor.Brd.piece H ?_ ?_ ?_ ?_) ?_)
    · assumption
    · assumption
    · exact hN.pieceN
    · exact fun n k' h1 h2 => hN.pieceS n k' h1 h2
    clear H
    rintro _ w2 ⟨q1, ⟨n2, ⟨k'2, ⟨rfl, ⟨h4, ⟨h5, H⟩⟩⟩⟩⟩⟩
    refine rAllocS H rfl ?_
    clear H
    intro p1 w3 H
    clear w2
    obtain ⟨t, ht⟩ : ∃ t, t = List.take n2 (List.drop k'2 s) := ⟨_, rfl⟩
    have he : plainR s ⟨kk, 0⟩ = ((n2 : Int), ⟨k'2, 0⟩) := by assumption
    have hn2 : k'2 + n2 ≤ s.length := by assumption
    have htl : t.length = n2 := by rw [ht, List.length_take, List.length_drop]; omega
    have E99 := Ext.refl gg
    have hI : Rn pq gg (Pm pm :: l) (codeI t ⟨0, 0⟩) codeI t 0 := by rw [ht]; exact Rn.start (Rn.pieceI (p := codeI) hN he hn2)
    rw [← ht] at H
    replace H := H.sl0 (en := enK) (s := 1) 64 (fun _ => rfl)
    refine H.fronts [2] ?_
    clear H
    intro H
    refine CallP.mk (Fc.imp (Go.Proofs.YtbbdfhgcmkljeaaGreatDoor.Brd.count H ?_ ?_ _ (16) ?_ ?_) ?_)
    · omega
    · omega
    · omega
    · exact hI.fst
    clear H
    rintro _ w2 ⟨n3, ⟨k'3, ⟨rfl, ⟨h6, ⟨h7, ⟨h8, H⟩⟩⟩⟩⟩⟩
    replace hI := hI.snd (by assumption)
    refine LoopP.rule (α := Nat × Nat × Value × List Int) (0, k'3, .slice none 0 0, []) (fun x_ => [(24, .int .i64 x_.1)]) (fun x_ w_ => (x_.1 ≤ n3) ∧ (x_.2.1 ≤ t.length) ∧ (∀ x ∈ x_.2.2.2, U8 x) ∧ (x_.2.2.2.length ≤ 16) ∧ (Rl pq gg (Pm pm :: l) (codeI t ⟨0, 0⟩) n3 x_.1 x_.2.2.2 (fun q => bindR bodyR fun b => retR (q, b)) t x_.2.1) ∧ Sat gg w_ ((Pt p1 [.int .i64 0, x_.2.2.1, .slice none 0 0] 61 :: Sl 64 1 enK x_.2.2.1 x_.2.2.2 :: Pt q1 (rC t x_.2.1) 108 :: Pt r (rC s (k'2 + n2)) 108 :: Pt pm [m.vt, m.vm, m.vf, .int .i64 m.table, .int .i64 m.pages, .int .i64 m.most, m.vg, m.vx, .int .i64 m.start, m.ve, m.vd] 30 :: Sl 49 2 enSg m.vt m.types :: Sl 54 2 enIm m.vm m.imps :: Sl 61 3 enFn m.vf fs :: Sl 66 3 enGl m.vg m.globals :: Sl 70 2 enIm m.vx m.exps :: Sl 75 2 enEl m.ve m.elems :: Sl 80 2 enDt m.vd m.data :: l))) (fun x_ => n3 - x_.1) ?_ ?_ ?_
    · repeat first | exact mt_nil | refine mt_cons rfl ?_ | refine mt_i rfl (by first | omega | (simp only; omega) | (simp; omega) | (simp; done)) ?_
    · try simp only
      refine ⟨?_, ?_⟩
      · omega
      refine ⟨?_, ?_⟩
      · assumption
      refine ⟨?_, ?_⟩
      · nofun
      refine ⟨?_, ?_⟩
      · (simp only [List.length_append, List.length_set, List.length_cons, List.length_nil]; omega)
      refine ⟨?_, ?_⟩
      · exact hI.loc0
      refine H.fronts [11, 11, 11, 11, 11, 11, 11, 11, 11, 9, 10, 11] ?_
      clear H
      intro H
      exact H
    clear H
    rintro ⟨j, kq, vl, lo⟩ f_ w_ ⟨hj, hkq, hlo, hll, hI, H⟩
    try simp only at hj hkq hlo hll hI H ⊢
    rcases Nat.lt_or_ge j n3 with hlj | hgj
    · have hX := hI.nx hlj
      refine cT (vLt_T (by omega)) ?_
      refine bk ?_
      refine H.fronts [2] ?_
      clear H
      intro H
      refine CallP.mk (Fc.imp (Go.Proofs.YtbbdfhgcmkljeaaGreatDoor.Brd.number H ?_ ?_ ?_) ?_)
      · assumption
      · omega
      · exact hX.fst
      clear H
      rintro _ w4 ⟨n4, ⟨k'4, ⟨rfl, ⟨h9, ⟨h10, ⟨h11, H⟩⟩⟩⟩⟩⟩
      replace hX := hX.snd (by assumption)
      refine CallP.mk (Fc.imp (Go.Proofs.YtbbdfhgcmkljeaaGreatDoor.Brd.kind H ?_ ?_ ?_) ?_)
      · assumption
      · omega
      · exact hX.fst
      clear H
      rintro _ w5 ⟨c1, ⟨k'5, ⟨rfl, ⟨h12, ⟨h13, ⟨h14, H⟩⟩⟩⟩⟩⟩
      replace hX := hX.snd (by assumption)
      refine rFieldAt rfl ?_
      refine rLd (H.at 1 rfl) 1 rfl rfl rfl ?_
      refine rLenS H 2 rfl rfl ?_
      refine eqI64 (by omega) ?_
      refine CallP.mk (Fc.imp (Go.Proofs.YtbbdfhgcmkljeaaGreatDoor.Brd.throw H _ _ ?_) ?_)
      · exact fun h => hX.thr (by decide) (by have := vLt_t h; omega)
      clear H
      rintro v' w6 ⟨h15, H⟩
      have hm4 := vLt_f (by assumption)
      replace hX := hX.nxt (by omega)
      refine LoopP.rule (α := Nat × Value × List Int) (0, vl, lo) (fun x_ => [(39, .int .i64 x_.1)]) (fun x_ w_ => (x_.1 ≤ n4) ∧ (x_.2.2 = lo ++ List.replicate x_.1 c1) ∧ Sat gg w_ ((Pt p1 [.int .i64 0, x_.2.1, .slice none 0 0] 61 :: Sl 64 1 enK x_.2.1 x_.2.2 :: Pt q1 (rC t k'5) 108 :: Pt r (rC s (k'2 + n2)) 108 :: Pt pm [m.vt, m.vm, m.vf, .int .i64 m.table, .int .i64 m.pages, .int .i64 m.most, m.vg, m.vx, .int .i64 m.start, m.ve, m.vd] 30 :: Sl 49 2 enSg m.vt m.types :: Sl 54 2 enIm m.vm m.imps :: Sl 61 3 enFn m.vf fs :: Sl 66 3 enGl m.vg m.globals :: Sl 70 2 enIm m.vx m.exps :: Sl 75 2 enEl m.ve m.elems :: Sl 80 2 enDt m.vd m.data :: l))) (fun x_ => n4 - x_.1) ?_ ?_ ?_
      · repeat first | exact mt_nil | refine mt_cons rfl ?_ | refine mt_i rfl (by first | omega | (simp only; omega) | (simp; omega) | (simp; done)) ?_
      · try simp only
        refine ⟨?_, ?_⟩
        · (simp)
        refine ⟨?_, ?_⟩
        · (simp)
        refine H.fronts [11, 11, 11, 11, 11, 11, 11, 11, 11, 9, 11, 11] ?_
        clear H
        intro H
        exact H
      clear H
      rintro ⟨i2, v2, l2⟩ f_ w_ ⟨hi2, hl2, H⟩
      try simp only at hi2 hl2 H ⊢
      have hln : l2.length = lo.length + i2 := by rw [hl2]; simp
      rcases Nat.lt_or_ge i2 n4 with hlk | hgk
      · refine cT (vLt_T (by omega)) ?_
        refine bk ?_
        refine rFieldAt rfl ?_
        refine rLd (H.at 0 rfl) 1 rfl rfl rfl ?_
        refine rBuildSliceS H rfl rfl rfl rfl ?_
        clear H
        intro p2 w7 H
        clear w_
        refine rApS (ys := [_]) 1 H 2 rfl (H.at 0 rfl) rfl (fun y _ => rfl) rfl rfl rfl (by omega) (by omega) ?_
        intro v1
        clear H
        intro w8 H
        clear w7
        refine rFieldAt rfl ?_
        refine rStS H 1 rfl rfl rfl (H.one 2 rfl) ?_
        clear H
        intro w7 H
        clear w8
        refine eqI64 (by omega) ?_
        refine Nxt.mk ((i2 + 1, v1, l2 ++ [c1])) (mt_i rfl (by first | omega | (simp only; omega) | (simp; omega)) (mt_nil)) ?_ ?_
        · refine ⟨?_, ?_⟩
          · (rw [hl2, List.append_assoc, ← List.replicate_succ'])
            assumption
          refine ⟨?_, ?_⟩
          · (rw [hl2, List.append_assoc, ← List.replicate_succ'])
          refine H.fronts [12, 12, 12, 12, 12, 12, 12, 12, 12, 12, 12, 12] ?_
          clear H
          intro H
          refine H.drop 12 ?_
          clear H
          intro H
          exact H
        (rw [hl2, List.append_assoc, ← List.replicate_succ'])
        omega
      obtain rfl : i2 = n4 := by omega
      have hU2 : ∀ x ∈ l2, U8 x := by rw [hl2]; exact rep_U8 hlo (by assumption)
      refine cF (vLt_F (by omega)) ?_
      refine eqI64 (by omega) ?_
      refine Nxt.mk ((j + 1, k'5, v2, l2)) (mt_i rfl (by first | omega | (simp only; omega) | (simp; omega)) (mt_nil)) ?_ ?_
      · refine ⟨?_, ?_⟩
        · assumption
        refine ⟨?_, ?_⟩
        · assumption
        refine ⟨?_, ?_⟩
        · assumption
        refine ⟨?_, ?_⟩
        · (simp only [List.length_append, List.length_set, List.length_cons, List.length_nil]; omega)
        refine ⟨?_, ?_⟩
        · (rw [hl2]; exact hX)
        exact H
      omega
    replace hI := hI.fin hgj
    refine cF (vLt_F (by omega)) ?_
    refine drawzS H [] [(0, .pure), (1, .pure), (2, .pure), (3, .held), (4, .pure), (5, .pure), (6, .pure), (7, .held), (8, .pure), (9, .free), (10, .pure), (11, .pure), (12, .pure), (13, .pure), (14, .pure), (15, .pure), (16, .pure)] mixed (by kernel_rfl) (by kernel_rfl) ?_
    clear H
    intro w4 H
    clear w_
    refine tk (fun wx HS => rFieldAt rfl ⟨rfl, rfl⟩) ?_
    refine tk (fun wx HS => rLd (HS.at 2 rfl) 0 rfl rfl rfl ⟨rfl, rfl⟩) ?_
    refine tk (fun wx HS => rFieldAt rfl ⟨rfl, rfl⟩) ?_
    refine tk (fun wx HS => rLd (HS.at 2 rfl) 1 rfl rfl rfl ⟨rfl, rfl⟩) ?_
    refine tk (fun wx HS => rSubL rfl (kq) (by omega) (by omega) ⟨rfl, rfl⟩) ?_
    refine CallP.mk (Fc.imp (Fc.lift (Go.Proofs.YtbbdfhgcmkljeaaGreatDoor.Nest.read H _ ?_)) ?_)
    · (simp; omega)
    clear H
    rintro _ w5 ⟨g'1, ⟨u1, ⟨ys1, ⟨n4, ⟨e1, ⟨rfl, ⟨h9, ⟨HE, ⟨h10, ⟨h11, H⟩⟩⟩⟩⟩⟩⟩⟩⟩⟩
    replace hI := hI.ext HE
    replace E99 := E99.trans HE
    replace hN := hN.ext HE
    replace hR := hR.ext HE
    clear HE
    rw [List.length_drop] at *
    refine CallP.mk (Fc.imp (Go.Proofs.YtbbdfhgcmkljeaaGreatDoor.Brd.throw H _ _ ?_) ?_)
    · exact fun h => body_no (by assumption) hI.fst h
    clear H
    rintro v' w6 ⟨h12, H⟩
    replace hI := hI.snd (body_ok (by assumption) (by assumption))
    refine rFieldAt rfl ?_
    refine rLd (H.at 2 rfl) 1 rfl rfl rfl ?_
    refine eqI64 (by omega) ?_
    refine rFieldAt rfl ?_
    refine rStS H 2 rfl rfl rfl rfl ?_
    clear H
    intro w7 H
    clear w6
    refine H.fronts [2] ?_
    clear H
    intro H
    refine CallP.mk (Fc.imp (Go.Proofs.YtbbdfhgcmkljeaaGreatDoor.Brd.doneI H (kq + n4) ?_ ?_ ?_ ?_) ?_)
    · omega
    · omega
    · omega
    · exact fun h => hN.pieceD he hn2 (by rw [← ht]; exact hI.e) (by omega)
    clear H
    rintro va' w6 ⟨h13, H⟩
    refine rFieldAt rfl ?_
    refine rLd (H.at 4 rfl) 2 rfl rfl rfl ?_
    refine rLenS H 7 rfl rfl ?_
    have hR2 : Rp pq g'1 (Pm pm :: l) (secR 10 m.d s ⟨k, 0⟩) codeR n1 (i + 1) (cs ++ [(lo, ys1.map InsV.d)]) (fun q => retR ({ m.d with funcs := setC m.d.funcs q }, q.length)) s (k'2 + n2) := hN.pieceE he hn2 (by rw [← ht]; exact hI.e) (by omega)
    rcases Nat.lt_or_ge i m.funcs.length with hif | hif
    · obtain ⟨x, hx⟩ : ∃ x, fs[i]? = some x := ⟨_, List.getElem?_eq_getElem (by omega)⟩
      have hset : (fs.set i ⟨x.ty, vl, lo, u1, ys1⟩).map FunV.d = setC m.d.funcs (cs ++ [(lo, ys1.map InsV.d)]) := by
        have h1 : (setC m.d.funcs cs)[cs.length]? = some x.d := by rw [← hcs, hcl, List.getElem?_map, hx]; rfl
        rw [setC_lt _ _ _ _ h1, ← hcs, hcl, List.map_set]; rfl
      refine cT (vLt_T (by omega)) ?_
      refine drawzS H [] [(0, .pure), (1, .pure), (2, .pure), (3, .held), (4, .pure), (5, .pure), (6, .pure), (7, .pure), (8, .held), (9, .pure), (10, .pure), (11, .held), (12, .pure), (13, .pure), (14, .pure), (15, .free), (16, .pure), (17, .pure), (18, .free)] mixed (by kernel_rfl) (by kernel_rfl) ?_
      clear H
      intro w8 H
      clear w6
      refine tk (fun wx HS => rFieldAt rfl ⟨rfl, rfl⟩) ?_
      refine tk (fun wx HS => rLd (HS.at 4 rfl) 2 rfl rfl rfl ⟨rfl, rfl⟩) ?_
      refine tk (fun wx HS => rFieldAt rfl ⟨rfl, rfl⟩) ?_
      refine tk (fun wx HS => rLd (HS.at 4 rfl) 2 rfl rfl rfl ⟨rfl, rfl⟩) ?_
      refine tk (fun wx HS => rFieldAt rfl ⟨rfl, rfl⟩) ?_
      refine tk (fun wx HS => rLd (HS.at 1 rfl) 1 rfl rfl rfl ⟨rfl, rfl⟩) ?_
      obtain ⟨b1, o1, E1⟩ := H.elt 7 rfl (i) (by omega)
      refine tk (fun wx HS => rIxE E1 rfl rfl rfl ⟨rfl, rfl⟩) ?_
      refine tk (fun wx HS => rFieldAt rfl ⟨rfl, rfl⟩) ?_
      refine rStE H 7 rfl E1 hx 1 (⟨x.ty, (vl), lo, x.vb, x.body⟩) rfl (by simp only [Bool.and_true, H.one 2 rfl, H.one 5 rfl, H.one 6 rfl, H.one 7 rfl, H.one 8 rfl, H.one 9 rfl, H.one 10 rfl, H.one 11 rfl, FSl.one h10]) rfl rfl ?_
      clear H
      intro w6 H
      clear w8
      refine tk (fun wx HS => rIxE E1 rfl rfl rfl ⟨rfl, rfl⟩) ?_
      refine tk (fun wx HS => rFieldAt rfl ⟨rfl, rfl⟩) ?_
      have hx1 : (fs.set i { ty := x.ty, vl := vl, loc := lo, vb := x.vb, body := x.body })[i]? = some _ := setSelf hx
      refine rStE H 7 rfl E1 hx1 2 (⟨x.ty, vl, lo, (u1), ys1⟩) rfl (by simp only [Bool.and_true, H.one 2 rfl, H.one 5 rfl, H.one 6 rfl, H.one 7 rfl, H.one 8 rfl, H.one 9 rfl, H.one 10 rfl, H.one 11 rfl, FSl.one h10]) rfl rfl ?_
      clear H
      intro w8 H
      clear w6
      refine eqI64 (by omega) ?_
      rw [List.set_set] at H
      refine H.frz1 2 U8 rfl hlo ?_
      intro g2 E2 hL H
      have hb1 : FSl g'1 enV (okV g'1) 4 u1 ys1 := by assumption
      have hfs2 : ∀ y ∈ fs.set i ⟨x.ty, vl, lo, u1, ys1⟩, okFn g2 y := fun y hy => by
        rcases List.mem_or_eq_of_mem_set hy with h | rfl
        · exact okFn_x (okFn_x (hfs y h) E99) E2
        · exact ⟨(hfs x (List.mem_of_getElem? hx)).ty, hL, FSl.extN (ok := okV) (fun _ _ _ h E => okV.ext h E) hb1 E2⟩
      refine Nxt.mk ((g2, i + 1, k'2 + n2, fs.set i { ty := x.ty, vl := vl, loc := lo, vb := u1, body := ys1 })) (mt_i rfl (by first | omega | (simp only; omega) | (simp; omega)) (mt_nil)) ?_ ?_
      · refine ⟨?_, ?_⟩
        · exact hE.trans (E99.trans E2)
        refine ⟨?_, ?_⟩
        · assumption
        refine ⟨?_, ?_⟩
        · assumption
        refine ⟨?_, ?_⟩
        · exact hfs2
        refine ⟨?_, ?_⟩
        · (rw [List.length_set]; omega)
        refine ⟨?_, ?_⟩
        · exact ⟨_, by simp [hcl], hset, hR2.ext E2⟩
        refine H.fronts [10, 10, 10, 10, 10, 10, 10, 10, 10] ?_
        clear H
        intro H
        refine H.drop 10 ?_
        clear H
        intro H
        refine H.drop 9 ?_
        clear H
        intro H
        exact H
      (simp only [List.length_append, List.length_set, List.length_cons, List.length_nil]; omega)
    have hset : fs.map FunV.d = setC m.d.funcs (cs ++ [(lo, ys1.map InsV.d)]) := by
      rw [setC_ge _ _ _ (by rw [hcl]; show (m.funcs.map FunV.d).length ≤ i; rw [List.length_map]; exact hif), hcs]
    refine cF (vLt_F (by omega)) ?_
    refine eqI64 (by omega) ?_
    refine Nxt.mk ((g'1, i + 1, k'2 + n2, fs)) (mt_i rfl (by first | omega | (simp only; omega) | (simp; omega)) (mt_nil)) ?_ ?_
    · refine ⟨?_, ?_⟩
      · exact hE.trans E99
      refine ⟨?_, ?_⟩
      · assumption
      refine ⟨?_, ?_⟩
      · assumption
      refine ⟨?_, ?_⟩
      · exact fun x hx => okFn_x (hfs x hx) E99
      refine ⟨?_, ?_⟩
      · assumption
      refine ⟨?_, ?_⟩
      · exact ⟨_, by simp [hcl], hset, hR2⟩
      refine H.fronts [11, 11, 11, 11, 11, 11, 11, 11, 11] ?_
      clear H
      intro H
      refine H.drop 11 ?_
      clear H
      intro H
      refine H.drop 10 ?_
      clear H
      intro H
      refine H.drop 9 ?_
      clear H
      intro H
      exact H
    (simp only [List.length_append, List.length_set, List.length_cons, List.length_nil]; omega)
  obtain ⟨cs, hcl, hcs, hR⟩ := hC
  replace hR := hR.fin hge
  refine cF (vLt_F (by omega)) ?_
  exact Done.mk ⟨gg, { m with funcs := fs }, n1, kk, rfl, hR.e.trans (by rw [show cs.length = n1 by omega, ← hcs]; rfl), hE, { (hm.ext hE).more (Nat.le_add_right N 16) with funcs := hfs, lf := by simp only; omega }, hkk, H⟩
end
end Go.Proofs.YtbbdfhgcmkljeaaGreatDoor.Brd
/- Package bin: a section. -/
set_option maxRecDepth 100000
set_option maxHeartbeats 4000000
set_option linter.unusedVariables false
set_option linter.unusedSimpArgs false
namespace Go.Proofs.YtbbdfhgcmkljeaaGreatDoor.Brd
open Go Go.Proofs.YtbbdfhgcmkljeaaGreatDoor.Eng Go.RowKit
open Ins Nest Leb Txt
open Bin (kindE SigV SigD FunV FunD ElV ModV ModD okSg okIm okFn okGl okEl okDt enSg enIm enFn enGl enEl enDt enMd)
section
variable {g : Glob} {w : World} {l : List As} {r pm k N : Nat} {s : List UInt8} {pq : List PanicEntry → World → Prop} {m : ModV}
theorem sec7_ (H : Sat g w (Pt r (rC s k) 108 :: Pt pm (enMd m) 30 :: Sl 49 2 enSg m.vt m.types :: Sl 54 2 enIm m.vm m.imps :: Sl 61 3 enFn m.vf m.funcs :: Sl 66 3 enGl m.vg m.globals :: Sl 70 2 enIm m.vx m.exps :: Sl 75 2 enEl m.ve m.elems :: Sl 80 2 enDt m.vd m.data :: l)) (hT : U8F g) (hk : k ≤ s.length) (hs : s.length ≤ 4096) (hm : okE g m N) (hN : N ≤ 1000) (hq : Rq pq g (Pm pm :: l) (secR 7 m.d) s k) : Fc ⟨Tryz.prog, pq⟩ 56 #[.pointer (some ⟨r, 0, none⟩), .int .u8 7, .pointer (some ⟨pm, 0, none⟩)] w (SecQ g l r pm s k 7 m N) := by
  refine Fc.of Tryz.func56 rfl (by kernel_rfl) ?_
  refine bk ?_
  refine cF (vEq_F (by omega)) ?_
  refine cF (vEq_F (by omega)) ?_
  refine cF (vEq_F (by omega)) ?_
  refine cF (vEq_F (by omega)) ?_
  refine cF (vEq_F (by omega)) ?_
  refine cF (vEq_F (by omega)) ?_
  refine cF (vEq_F (by omega)) ?_
  refine CallP.mk (Fc.imp (Go.Proofs.YtbbdfhgcmkljeaaGreatDoor.Brd.lat7_ H ?_ ?_ ?_ hm ?_ hq) ?_)
  · assumption
  · assumption
  · assumption
  · assumption
  rintro v' _ h1
  refine Done.mk ?_
  assumption
theorem sec8_ (H : Sat g w (Pt r (rC s k) 108 :: Pt pm (enMd m) 30 :: Sl 49 2 enSg m.vt m.types :: Sl 54 2 enIm m.vm m.imps :: Sl 61 3 enFn m.vf m.funcs :: Sl 66 3 enGl m.vg m.globals :: Sl 70 2 enIm m.vx m.exps :: Sl 75 2 enEl m.ve m.elems :: Sl 80 2 enDt m.vd m.data :: l)) (hk : k ≤ s.length) (hs : s.length ≤ 4096) (hm : okE g m N) (hN : N ≤ 1000) (hq : Rq pq g (Pm pm :: l) (secR 8 m.d) s k) : Fc ⟨Tryz.prog, pq⟩ 56 #[.pointer (some ⟨r, 0, none⟩), .int .u8 8, .pointer (some ⟨pm, 0, none⟩)] w (SecQ g l r pm s k 8 m N) := by
  refine Fc.of Tryz.func56 rfl (by kernel_rfl) ?_
  refine bk ?_
  refine cF (vEq_F (by omega)) ?_
  refine cF (vEq_F (by omega)) ?_
  refine cF (vEq_F (by omega)) ?_
  refine cF (vEq_F (by omega)) ?_
  refine cF (vEq_F (by omega)) ?_
  refine cF (vEq_F (by omega)) ?_
  refine cF (vEq_F (by omega)) ?_
  refine CallP.mk (Fc.imp (Go.Proofs.YtbbdfhgcmkljeaaGreatDoor.Brd.lat8_ H ?_ ?_ hm ?_ hq) ?_)
  · assumption
  · assumption
  · assumption
  rintro v' _ h1
  refine Done.mk ?_
  assumption
theorem sec9_ (H : Sat g w (Pt r (rC s k) 108 :: Pt pm (enMd m) 30 :: Sl 49 2 enSg m.vt m.types :: Sl 54 2 enIm m.vm m.imps :: Sl 61 3 enFn m.vf m.funcs :: Sl 66 3 enGl m.vg m.globals :: Sl 70 2 enIm m.vx m.exps :: Sl 75 2 enEl m.ve m.elems :: Sl 80 2 enDt m.vd m.data :: l)) (hk : k ≤ s.length) (hs : s.length ≤ 4096) (hm : okE g m N) (hN : N ≤ 1000) (hq : Rq pq g (Pm pm :: l) (secR 9 m.d) s k) : Fc ⟨Tryz.prog, pq⟩ 56 #[.pointer (some ⟨r, 0, none⟩), .int .u8 9, .pointer (some ⟨pm, 0, none⟩)] w (SecQ g l r pm s k 9 m N) := by
  refine Fc.of Tryz.func56 rfl (by kernel_rfl) ?_
  refine bk ?_
  refine cF (vEq_F (by omega)) ?_
  refine cF (vEq_F (by omega)) ?_
  refine cF (vEq_F (by omega)) ?_
  refine cF (vEq_F (by omega)) ?_
  refine cF (vEq_F (by omega)) ?_
  refine cF (vEq_F (by omega)) ?_
  refine cF (vEq_F (by omega)) ?_
  refine CallP.mk (Fc.imp (Go.Proofs.YtbbdfhgcmkljeaaGreatDoor.Brd.lat9_ H ?_ ?_ hm ?_ hq) ?_)
  · assumption
  · assumption
  · assumption
  rintro v' _ h1
  refine Done.mk ?_
  assumption
theorem sec10_ (H : Sat g w (Pt r (rC s k) 108 :: Pt pm (enMd m) 30 :: Sl 49 2 enSg m.vt m.types :: Sl 54 2 enIm m.vm m.imps :: Sl 61 3 enFn m.vf m.funcs :: Sl 66 3 enGl m.vg m.globals :: Sl 70 2 enIm m.vx m.exps :: Sl 75 2 enEl m.ve m.elems :: Sl 80 2 enDt m.vd m.data :: l)) (hk : k ≤ s.length) (hs : s.length ≤ 4096) (hm : okE g m N) (hN : N ≤ 1000) (hq : Rq pq g (Pm pm :: l) (secR 10 m.d) s k) : Fc ⟨Tryz.prog, pq⟩ 56 #[.pointer (some ⟨r, 0, none⟩), .int .u8 10, .pointer (some ⟨pm, 0, none⟩)] w (SecQ g l r pm s k 10 m N) := by
  refine Fc.of Tryz.func56 rfl (by kernel_rfl) ?_
  refine bk ?_
  refine cF (vEq_F (by omega)) ?_
  refine cF (vEq_F (by omega)) ?_
  refine cF (vEq_F (by omega)) ?_
  refine cF (vEq_F (by omega)) ?_
  refine cF (vEq_F (by omega)) ?_
  refine cF (vEq_F (by omega)) ?_
  refine cT (vEq_T (by omega)) ?_
  refine CallP.mk (Fc.imp (Go.Proofs.YtbbdfhgcmkljeaaGreatDoor.Brd.codes_ H ?_ ?_ hm ?_ hq) ?_)
  · assumption
  · assumption
  · assumption
  rintro v' _ h1
  refine Done.mk ?_
  assumption
theorem sec11_ (H : Sat g w (Pt r (rC s k) 108 :: Pt pm (enMd m) 30 :: Sl 49 2 enSg m.vt m.types :: Sl 54 2 enIm m.vm m.imps :: Sl 61 3 enFn m.vf m.funcs :: Sl 66 3 enGl m.vg m.globals :: Sl 70 2 enIm m.vx m.exps :: Sl 75 2 enEl m.ve m.elems :: Sl 80 2 enDt m.vd m.data :: l)) (hk : k ≤ s.length) (hs : s.length ≤ 4096) (hm : okE g m N) (hN : N ≤ 1000) (hq : Rq pq g (Pm pm :: l) (secR 11 m.d) s k) : Fc ⟨Tryz.prog, pq⟩ 56 #[.pointer (some ⟨r, 0, none⟩), .int .u8 11, .pointer (some ⟨pm, 0, none⟩)] w (SecQ g l r pm s k 11 m N) := by
  refine Fc.of Tryz.func56 rfl (by kernel_rfl) ?_
  refine bk ?_
  refine cF (vEq_F (by omega)) ?_
  refine cF (vEq_F (by omega)) ?_
  refine cF (vEq_F (by omega)) ?_
  refine cF (vEq_F (by omega)) ?_
  refine cF (vEq_F (by omega)) ?_
  refine cF (vEq_F (by omega)) ?_
  refine cF (vEq_F (by omega)) ?_
  refine CallP.mk (Fc.imp (Go.Proofs.YtbbdfhgcmkljeaaGreatDoor.Brd.lat11_ H ?_ ?_ hm ?_ hq) ?_)
  · assumption
  · assumption
  · assumption
  rintro v' _ h1
  refine Done.mk ?_
  assumption
theorem sect (H : Sat g w (Pt r (rC s k) 108 :: Pt pm (enMd m) 30 :: Sl 49 2 enSg m.vt m.types :: Sl 54 2 enIm m.vm m.imps :: Sl 61 3 enFn m.vf m.funcs :: Sl 66 3 enGl m.vg m.globals :: Sl 70 2 enIm m.vx m.exps :: Sl 75 2 enEl m.ve m.elems :: Sl 80 2 enDt m.vd m.data :: l)) (hT : U8F g) {i : Int} (hi1 : 1 ≤ i) (hi2 : i ≤ 11) (hk : k ≤ s.length) (hs : s.length ≤ 4096) (hm : okE g m N) (hN : N ≤ 1000) (hq : Rq pq g (Pm pm :: l) (secR i m.d) s k) : Fc ⟨Tryz.prog, pq⟩ 56 #[.pointer (some ⟨r, 0, none⟩), .int .u8 i, .pointer (some ⟨pm, 0, none⟩)] w (SecQ g l r pm s k i m N) := by
  obtain rfl | rfl | rfl | rfl | rfl | rfl | rfl | rfl | rfl | rfl | rfl : i = 1 ∨ i = 2 ∨ i = 3 ∨ i = 4 ∨ i = 5 ∨ i = 6 ∨ i = 7 ∨ i = 8 ∨ i = 9 ∨ i = 10 ∨ i = 11 := by omega
  · exact sec1_ H hk hs hm hN hq
  · exact sec2_ H hT hk hs hm hN hq
  · exact sec3_ H hk hs hm hN hq
  · exact sec4_ H hk hs hm hN hq
  · exact sec5_ H hk hs hm hN hq
  · exact sec6_ H hk hs hm hN hq
  · exact sec7_ H hT hk hs hm hN hq
  · exact sec8_ H hk hs hm hN hq
  · exact sec9_ H hk hs hm hN hq
  · exact sec10_ H hk hs hm hN hq
  · exact sec11_ H hk hs hm hN hq
end
end Go.Proofs.YtbbdfhgcmkljeaaGreatDoor.Brd
/- Package bin: what is thrown is taken. -/
set_option maxRecDepth 100000
set_option maxHeartbeats 4000000
set_option linter.unusedVariables false
set_option linter.unusedSimpArgs false
namespace Go.Proofs.YtbbdfhgcmkljeaaGreatDoor.Brd
open Go Go.Proofs.YtbbdfhgcmkljeaaGreatDoor.Eng Go.RowKit
open Ins Nest Leb Txt
open Bin (SigV FunV ElV ModV enSg enIm enFn enGl enEl enDt enMd)
section
variable {g : Glob} {w : World} {l : List As}
theorem idle (p2 p3 : Nat) (w : World) : FcD Tryz.prog 51 #[.pointer (some ⟨p2, 0, none⟩), .pointer (some ⟨p3, 0, none⟩)] .returning w (fun w' => w' = w) := by
  refine FcD.of Tryz.func51 rfl (by kernel_rfl) (callsD_of_wpS Tryz.func51 rfl fun c0 cs hu => ?_)
  cases c0
  simp only at hu
  subst hu
  apply wpS_seq
  apply wpS_region
  simp [wpOpsS, go_sem, recoverD, Exit.thenS]
  refine tailS (u' := .returning) (ρ := [.pointer (some ⟨p2, 0, none⟩), .pointer (some ⟨p3, 0, none⟩), .nilIface, undef, undef, .nilIface, undef, undef, undef, undef, undef, undef, undef, undef, undef, undef, undef, undef, undef]) (R := fun _ w' => w' = w) ?_ ?_
  · have H := Sat.start w
    
    refine ⟨.bool false, w, rfl, ?_⟩
    refine cF rfl ?_
    refine Done.mk ?_
    exact rfl
  · exact fun v w' h => ⟨rfl, ⟨v, rfl⟩, h⟩
theorem len11 : ∀ {cs : List Value}, cs.length = 11 → ∃ a0 a1 a2 a3 a4 a5 a6 a7 a8 a9 b0, cs = [a0, a1, a2, a3, a4, a5, a6, a7, a8, a9, b0]
  | [a0, a1, a2, a3, a4, a5, a6, a7, a8, a9, b0], _ => ⟨a0, a1, a2, a3, a4, a5, a6, a7, a8, a9, b0, rfl⟩
theorem catch_ {p2 p3 : Nat} {e x : Int} (H : Sat g w (Pm p2 :: Pt p3 [.int .i64 x] 31 :: l)) : FcD Tryz.prog 51 #[.pointer (some ⟨p2, 0, none⟩), .pointer (some ⟨p3, 0, none⟩)] (.panicking (wrong e)) w (fun w' => Sat g w' (Pt p2 [.slice none 0 0, .slice none 0 0, .slice none 0 0, .int .i64 0, .int .i64 0, .int .i64 0, .slice none 0 0, .slice none 0 0, .int .i64 0, .slice none 0 0, .slice none 0 0] 30 :: Pt p3 [.int .i64 e] 31 :: l)) := by
  refine FcD.of Tryz.func51 rfl (by kernel_rfl) (callsD_of_wpS Tryz.func51 rfl fun c0 cs hu => ?_)
  cases c0
  simp only at hu
  subst hu
  apply wpS_seq
  apply wpS_region
  simp [wpOpsS, go_sem, recoverD, Exit.thenS]
  refine tailS (u' := .panicking [{ v := .iface 104 (.agg #[.int .i64 e]), recovered := true }]) (ρ := [.pointer (some ⟨p2, 0, none⟩), .pointer (some ⟨p3, 0, none⟩), .iface 104 (.agg #[.int .i64 e]), undef, undef, .iface 104 (.agg #[.int .i64 e]), undef, undef, undef, undef, undef, undef, undef, undef, undef, undef, undef, undef, undef]) (R := fun _ w' => Sat g w' (Pt p2 [.slice none 0 0, .slice none 0 0, .slice none 0 0, .int .i64 0, .int .i64 0, .int .i64 0, .slice none 0 0, .slice none 0 0, .int .i64 0, .slice none 0 0, .slice none 0 0] 30 :: Pt p3 [.int .i64 e] 31 :: l)) ?_ ?_
  · obtain ⟨cs, hcs, H⟩ := Sat.unboxE (Q := fun cs : List Value => cs.length = 11) (f := fun cs => [Pt p2 cs 30]) H
    obtain ⟨a0, a1, a2, a3, a4, a5, a6, a7, a8, a9, b0, rfl⟩ := len11 hcs
    replace H : Sat g w (Pt p2 [a0, a1, a2, a3, a4, a5, a6, a7, a8, a9, b0] 30 :: Pt p3 [.int .i64 x] 31 :: l) := H
    
    refine ⟨.bool true, w, rfl, ?_⟩
    refine cT rfl ?_
    refine rAssertT rfl rfl ?_
    refine rAllocS H rfl ?_
    clear H
    intro p1 w1 H
    refine rStAS H 0 rfl rfl rfl rfl ?_
    clear H
    intro w2 H
    clear w1
    refine cF rfl ?_
    refine drawzS H [1] [(0, .pure), (1, .pure), (2, .held), (3, .forced), (4, .free)] mixed (by kernel_rfl) (by kernel_rfl) ?_
    clear H
    intro w1 H
    clear w2
    refine tk (fun wx HS => rBuild rfl rfl rfl ⟨rfl, rfl⟩) ?_
    refine tk (fun wx HS => rFieldAt rfl ⟨rfl, rfl⟩) ?_
    refine tk (fun wx HS => rLd (HS.at 0 rfl) 0 rfl rfl rfl ⟨rfl, rfl⟩) ?_
    refine rStAS H 1 rfl rfl rfl rfl ?_
    clear H
    intro w2 H
    clear w1
    refine KeepP.mk (H.drop 1 (fun H => H)) ?_
    refine rStS H 2 rfl rfl rfl rfl ?_
    clear H
    intro w1 H
    clear w2
    refine Done.mk ?_
    refine H.fronts [2, 2] ?_
    clear H
    intro H
    refine H.drop 2 ?_
    clear H
    intro H
    exact H
  · exact fun v w' h => ⟨rfl, ⟨v, rfl⟩, h⟩
end
end Go.Proofs.YtbbdfhgcmkljeaaGreatDoor.Brd
